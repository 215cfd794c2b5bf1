/- The document's Read. -/
import Derived.Test.YthocpbkgcpgpdaaDoorAudD
namespace Go.Proofs.YthocpbkgcpgpdaaDoor
open Go.RowKit

def narP (p : List UInt8) : Int × Int := if p.length = 8 then (narZ p, 0) else (0, 1)
theorem rnarrow_all {w : World} (v : Value) (l : List UInt8) (hv : Rd w v l) :
    Calls Tryd.prog 42 #[v] w fun e w' => e = .returned (.tuple #[.int .i64 (narP l).1, .int .i64 (narP l).2]) ∧ w' = w := by
  by_cases h : l.length = 8
  · rw [narP, if_pos h]; exact rnarrow_any v l hv h
  · rw [narP, if_neg h]; exact rnarrow_bad v l hv h
theorem narrow_all {w : World} (v : Value) (l : List UInt8) (hv : Rd w v l) :
    Calls Tryd.prog 40 #[v] w fun e w' => e = .returned (.tuple #[.int .i64 (narP l).1, .int .i64 (narP l).2]) ∧ w' = w := by
  by_cases h : l.length = 8
  · rw [narP, if_pos h]; exact narrow_any v l hv h
  · rw [narP, if_neg h]; exact narrow_bad v l hv h
def readN (b : List UInt8) : Option Ent := match decM [] [] b with
  | some [p0, p1, p2, p3, p4, p5, p6] => if (narP p0).2 = 0 ∧ (narP p1).2 = 0 ∧ (narP p2).2 = 0 then some ⟨(narP p0).1, (narP p1).1, (narP p2).1, str p3, str p4, p5, p6⟩ else none
  | _ => none
theorem readN_len {b : List UInt8} {ps : List (List UInt8)} (h : decM [] [] b = some ps) (hl : ps.length ≠ 7) : readN b = none := by
  rw [readN, h]
  match ps, hl with
  | [], _ | [_], _ | [_, _], _ | [_, _, _], _ | [_, _, _, _], _ | [_, _, _, _, _], _ | [_, _, _, _, _, _], _ => rfl
  | [_, _, _, _, _, _, _], h => exact absurd rfl h
  | _ :: _ :: _ :: _ :: _ :: _ :: _ :: _ :: _, _ => rfl
def ReadP (B : Nat) (w : World) (o : Option Ent) (en : Ending) (w' : World) : Prop := Below B w w' ∧ match o with
  | some E => ∃ vp vh n m, en = .returned (.tuple #[.agg #[.int .i64 E.no, .int .i64 E.time, .int .i64 E.code, .string E.who, .string E.what, vp, vh], .bool true]) ∧ w'.ownsRow B 5 1 vp n (bts E.prev) ∧ w'.ownsRow B 5 1 vh m (bts E.hash)
  | none => en = .returned (.tuple #[.agg #[.int .i64 0, .int .i64 0, .int .i64 0, .string ⟨#[]⟩, .string ⟨#[]⟩, .slice none 0 0, .slice none 0 0], .bool false])
theorem buildE0 (w : World) : (Instr.build 30 #[]).run Tryd.prog w = .ok (.agg #[.int .i64 0, .int .i64 0, .int .i64 0, .string ⟨#[]⟩, .string ⟨#[]⟩, .slice none 0 0, .slice none 0 0]) w := by kernel_rfl
theorem buildE7 (n t c : Int) (who what : ByteArray) (A1 A2 : Option Addr) (l1 c1 l2 c2 : Nat) (w : World) : (Instr.build 30 #[(0, .int .i64 n), (1, .int .i64 t), (2, .int .i64 c), (3, .string who), (4, .string what), (5, .slice A1 l1 c1), (6, .slice A2 l2 c2)]).run Tryd.prog w =
    .ok (.agg #[.int .i64 n, .int .i64 t, .int .i64 c, .string who, .string what, .slice A1 l1 c1, .slice A2 l2 c2]) w := by kernel_rfl
theorem OwL.seven {w : World} {B : Nat} {v : Value} {p0 p1 p2 p3 p4 p5 p6 : List UInt8} (h : OwL w B v [p0, p1, p2, p3, p4, p5, p6]) : ∃ g c x0 x1 x2 x3 x4 x5 x6, v = .slice (some ⟨g, 0, none⟩) 7 c ∧ B ≤ g ∧ w.rangeAt g 0 [x0, x1, x2, x3, x4, x5, x6] ∧
    w.ownsRow B 5 1 x0 p0.length (bts p0) ∧ w.ownsRow B 5 1 x1 p1.length (bts p1) ∧ w.ownsRow B 5 1 x2 p2.length (bts p2) ∧ w.ownsRow B 5 1 x3 p3.length (bts p3) ∧ w.ownsRow B 5 1 x4 p4.length (bts p4) ∧ w.ownsRow B 5 1 x5 p5.length (bts p5) ∧ w.ownsRow B 5 1 x6 p6.length (bts p6) := by
  obtain ⟨vals, h1, h2, h3⟩ := h
  obtain ⟨g, c, rfl⟩ := own_some h1 (by simp)
  have hg := (h1.lt g rfl).1
  match vals, h2 with
  | [x0, x1, x2, x3, x4, x5, x6], _ =>
    exact ⟨g, c, x0, x1, x2, x3, x4, x5, x6, rfl, hg, own_range h1 0 _ (fun j u hu => by rw [Nat.zero_add]; exact hu), h3 0 (by simp), h3 1 (by simp), h3 2 (by simp), h3 3 (by simp), h3 4 (by simp), h3 5 (by simp), h3 6 (by simp)⟩
set_option maxHeartbeats 1000000 in
set_option maxRecDepth 100000 in
theorem rread_any {w : World} (v : Value) (b : List UInt8) (hv : Rd w v b) (hm : b.length < 1000000) :
    Calls Tryd.prog 28 #[v] w (ReadP w.heap.size w (readN b)) := by
  obtain ⟨O, hO⟩ : ∃ O, O = readN b := ⟨_, rfl⟩
  rw [← hO]
  have HO := Lib.hid hO
  clear hO
  have hb2 := Blk.new w #[.int .i64 0, .int .i64 0, .int .i64 0, .string ⟨#[]⟩, .string ⟨#[]⟩, .slice none 0 0, .slice none 0 0] 30
  have hB := (Below.refl w.heap.size w).alloc (Nat.le_refl _) (.cells #[.int .i64 0, .int .i64 0, .int .i64 0, .string ⟨#[]⟩, .string ⟨#[]⟩, .slice none 0 0, .slice none 0 0] 30)
  replace hv := hv.below hB
  have hs := hB.size
  generalize hb0 : w.heap.size = B at *
  have HB := Lib.hid hb0
  obtain ⟨A, ca, rfl⟩ := hv.slice
  go_enter Tryd.func28, Tryd.ntmps28
  go_upto_region 1 with (refine wpList_allocZ rfl rfl (zs := #[.int .i64 0, .int .i64 0, .int .i64 0, .string ⟨#[]⟩, .string ⟨#[]⟩, .slice none 0 0, .slice none 0 0]) (by kernel_rfl) ?_; rw [hb0]; generalize w.alloc (.cells #[.int .i64 0, .int .i64 0, .int .i64 0, .string ⟨#[]⟩, .string ⟨#[]⟩, .slice none 0 0, .slice none 0 0] 30) = w1 at *)
  clear hb0
  have hgB : B < w1.heap.size := hb2.lt
  go_wp2_with fail
  refine (rdecode_any _ b hv hm).mono ?_
  rintro en w2 hdec
  obtain ⟨R, hR⟩ : ∃ R, R = decM [] [] b := ⟨_, rfl⟩
  rw [← hR] at hdec
  have HR := Lib.hid hR
  clear hR hv
  cases R with
  | none =>
    obtain ⟨rfl, hb22⟩ := hdec
    have ho : O = none := by rw [HO.out, readN, ← HR.out]
    subst ho
    skip; replace hb2 := hb2.fr (Fr.of_below hb22 (fun _ => False)) (fun h => h); skip; replace hB := hB.trans (hb22.mono hs); replace hs := Nat.le_trans hs hb22.size
    clear hb22
    go_wp2_with (first | (refine wpList_value rfl (exec_build (buildE0 _) rfl (by simp [Act.eval])) ?_) | (refine wpList_storeN (n := 7) (cs := [.int .i64 0, .int .i64 0, .int .i64 0, .string ⟨#[]⟩, .string ⟨#[]⟩, .slice none 0 0, .slice none 0 0]) rfl rfl rfl rfl rfl (hb2.there 0 7 (by simp)) (by kernel_rfl) (by simp [Value.oneCell']) ?_)); refine bodyPost_ret (results_cellN_tmp rfl _ (by rfl) (hb2.setCells [.int .i64 0, .int .i64 0, .int .i64 0, .string ⟨#[]⟩, .string ⟨#[]⟩, .slice none 0 0, .slice none 0 0] 0 (by simp)) (by kernel_rfl) (by rfl)) rfl ?_
    exact ⟨(hB.trans (((Fr.refl (fun i => i = B) w2).setCells _ 0 (fun _ => rfl)).below (B := B) hs (fun k hk e => by omega))), rfl⟩
  | some ps =>
    obtain ⟨v2, rfl, ol, hb22⟩ := hdec
    skip; replace hb2 := hb2.fr (Fr.of_below hb22 (fun _ => False)) (fun h => h); skip; replace hB := hB.trans (hb22.mono hs); replace hs := Nat.le_trans hs hb22.size
    clear hb22
    by_cases h7 : ps.length = 7
    rotate_left
    · have ho : O = none := by rw [HO.out]; exact readN_len HR.out.symm h7
      subst ho
      obtain ⟨A2, c2, rfl⟩ := ol.rdl.slice
      have h7I : ((ps.length : Int) == 7) = false := by rw [beq_eq_false_iff_ne]; omega
      have h7J : ((ps.length : Int) != 7) = true := by rw [bne_iff_ne]; omega
      clear h7 ol
      go_wp2_with (first | (refine wpList_value rfl (exec_build (buildE0 _) rfl (by simp [Act.eval])) ?_) | (refine wpList_storeN (n := 7) (cs := [.int .i64 0, .int .i64 0, .int .i64 0, .string ⟨#[]⟩, .string ⟨#[]⟩, .slice none 0 0, .slice none 0 0]) rfl rfl rfl rfl rfl (hb2.there 0 7 (by simp)) (by kernel_rfl) (by simp [Value.oneCell']) ?_)); refine bodyPost_ret (results_cellN_tmp rfl _ (by rfl) (hb2.setCells [.int .i64 0, .int .i64 0, .int .i64 0, .string ⟨#[]⟩, .string ⟨#[]⟩, .slice none 0 0, .slice none 0 0] 0 (by simp)) (by kernel_rfl) (by rfl)) rfl ?_
      exact ⟨(hB.trans (((Fr.refl (fun i => i = B) w2).setCells _ 0 (fun _ => rfl)).below (B := B) hs (fun k hk e => by omega))), rfl⟩
    match ps, h7 with
    | [p0, p1, p2, p3, p4, p5, p6], _ =>
      have ho : O = if (narP p0).2 = 0 ∧ (narP p1).2 = 0 ∧ (narP p2).2 = 0 then some ⟨(narP p0).1, (narP p1).1, (narP p2).1, str p3, str p4, p5, p6⟩ else none := by rw [HO.out, readN, ← HR.out]
      replace HO := Lib.hid ho
      clear ho HR
      obtain ⟨g, c, x0, x1, x2, x3, x4, x5, x6, rfl, hg, hra, y0, y1, y2, y3, y4, y5, y6⟩ := ol.seven
      clear ol
      have c0 := hra 0 _ rfl
      have c1 := hra 1 _ rfl
      have c2 := hra 2 _ rfl
      simp only [Nat.zero_add] at c0 c1 c2
      go_wp2_with fail
      refine (rnarrow_all x0 p0 (Rd.of_own y0)).mono ?_
      rintro en w3 ⟨rfl, rfl⟩
      go_wp2_with fail
      refine (rnarrow_all x1 p1 (Rd.of_own y1)).mono ?_
      rintro en w4 ⟨rfl, rfl⟩
      go_wp2_with fail
      refine (rnarrow_all x2 p2 (Rd.of_own y2)).mono ?_
      rintro en w5 ⟨rfl, rfl⟩
      have ho := HO.out
      clear HO c0 c1 c2
      generalize narP p0 = N0 at *
      generalize narP p1 = N1 at *
      generalize narP p2 = N2 at *
      obtain ⟨n0, e0⟩ := N0
      obtain ⟨n1, e1⟩ := N1
      obtain ⟨n2, e2⟩ := N2
      simp only at ho
      replace HO := Lib.hid ho
      clear ho
      go_simp
      by_cases h0 : e0 = 0
      rotate_left
      · have ho : O = none := by rw [HO.out, if_neg (fun h => h0 h.1)]
        have q : (e0 == 0) = false := beq_eq_false_iff_ne.2 h0
        have q2 : (e0 != 0) = true := bne_iff_ne.2 h0
        subst ho
        clear h0
        go_wp2_with (first | (refine wpList_value rfl (exec_build (buildE0 _) rfl (by simp [Act.eval])) ?_) | (refine wpList_storeN (n := 7) (cs := [.int .i64 0, .int .i64 0, .int .i64 0, .string ⟨#[]⟩, .string ⟨#[]⟩, .slice none 0 0, .slice none 0 0]) rfl rfl rfl rfl rfl (hb2.there 0 7 (by simp)) (by kernel_rfl) (by simp [Value.oneCell']) ?_)); refine bodyPost_ret (results_cellN_tmp rfl _ (by rfl) (hb2.setCells [.int .i64 0, .int .i64 0, .int .i64 0, .string ⟨#[]⟩, .string ⟨#[]⟩, .slice none 0 0, .slice none 0 0] 0 (by simp)) (by kernel_rfl) (by rfl)) rfl ?_
        exact ⟨(hB.trans (((Fr.refl (fun i => i = B) w5).setCells _ 0 (fun _ => rfl)).below (B := B) hs (fun k hk e => by omega))), rfl⟩
      subst h0
      by_cases h1 : e1 = 0
      rotate_left
      · have ho : O = none := by rw [HO.out, if_neg (fun h => h1 h.2.1)]
        have q : (e1 == 0) = false := beq_eq_false_iff_ne.2 h1
        have q2 : (e1 != 0) = true := bne_iff_ne.2 h1
        subst ho
        clear h1
        go_wp2_with (first | (refine wpList_value rfl (exec_build (buildE0 _) rfl (by simp [Act.eval])) ?_) | (refine wpList_storeN (n := 7) (cs := [.int .i64 0, .int .i64 0, .int .i64 0, .string ⟨#[]⟩, .string ⟨#[]⟩, .slice none 0 0, .slice none 0 0]) rfl rfl rfl rfl rfl (hb2.there 0 7 (by simp)) (by kernel_rfl) (by simp [Value.oneCell']) ?_)); refine bodyPost_ret (results_cellN_tmp rfl _ (by rfl) (hb2.setCells [.int .i64 0, .int .i64 0, .int .i64 0, .string ⟨#[]⟩, .string ⟨#[]⟩, .slice none 0 0, .slice none 0 0] 0 (by simp)) (by kernel_rfl) (by rfl)) rfl ?_
        exact ⟨(hB.trans (((Fr.refl (fun i => i = B) w5).setCells _ 0 (fun _ => rfl)).below (B := B) hs (fun k hk e => by omega))), rfl⟩
      subst h1
      by_cases h2 : e2 = 0
      rotate_left
      · have ho : O = none := by rw [HO.out, if_neg (fun h => h2 h.2.2)]
        have q : (e2 == 0) = false := beq_eq_false_iff_ne.2 h2
        have q2 : (e2 != 0) = true := bne_iff_ne.2 h2
        subst ho
        clear h2
        go_wp2_with (first | (refine wpList_value rfl (exec_build (buildE0 _) rfl (by simp [Act.eval])) ?_) | (refine wpList_storeN (n := 7) (cs := [.int .i64 0, .int .i64 0, .int .i64 0, .string ⟨#[]⟩, .string ⟨#[]⟩, .slice none 0 0, .slice none 0 0]) rfl rfl rfl rfl rfl (hb2.there 0 7 (by simp)) (by kernel_rfl) (by simp [Value.oneCell']) ?_)); refine bodyPost_ret (results_cellN_tmp rfl _ (by rfl) (hb2.setCells [.int .i64 0, .int .i64 0, .int .i64 0, .string ⟨#[]⟩, .string ⟨#[]⟩, .slice none 0 0, .slice none 0 0] 0 (by simp)) (by kernel_rfl) (by rfl)) rfl ?_
        exact ⟨(hB.trans (((Fr.refl (fun i => i = B) w5).setCells _ 0 (fun _ => rfl)).below (B := B) hs (fun k hk e => by omega))), rfl⟩
      subst h2
      have ho : O = some ⟨n0, n1, n2, str p3, str p4, p5, p6⟩ := by rw [HO.out, if_pos ⟨rfl, rfl, rfl⟩]
      subst ho
      obtain ⟨A3, k3, rfl⟩ := own_form y3
      obtain ⟨A4, k4, rfl⟩ := own_form y4
      obtain ⟨A5, k5, rfl⟩ := own_form y5
      obtain ⟨A6, k6, rfl⟩ := own_form y6
      have r3 := (Rd.of_own y3).drew
      have r4 := (Rd.of_own y4).drew
      replace y5 := own_drew y5
      replace y6 := own_drew y6
      have d3 := hra.drew 3 _ rfl
      have d4 := hra.drew 4 _ rfl
      have d5 := hra.drew 5 _ rfl
      have d6 := hra.drew 6 _ rfl
      simp only [Nat.zero_add] at d3 d4 d5 d6
      go_wp2_with fail
      refine wp_region_float (Fr (fun _ => False)) [(0, 0), (1, 0), (2, 0), (3, 0), (4, 0), (5, 1), (6, 1), (7, 0), (8, 0), (9, 1), (10, 1), (11, 0), (12, 0), (13, 1), (14, 0), (15, 0), (16, 1), (17, 0), (18, 3), (19, 0)] _ (by kernel_rfl) (by kernel_rfl) (by simp only [List.map_cons, List.map_nil, Array.getD_eq_getD_getElem?, List.getElem?_toArray, List.getElem?_cons_succ, List.getElem?_cons_zero, Option.getD_some]; rfl) rfl (by kernel_rfl) (fun _ _ d _ _ h => by cases d <;> exact h) (Fr.refl _) (fun _ _ _ => Fr.trans) ?_
      replace hb2 := hb2.drew
      replace hB := hB.drew
      replace hs : B ≤ w5.drew.heap.size := hs
      generalize w5.drew = w6 at *
      iterate 17 (first | (refine wpF_f0 (fun K hK => ?_); go_simp; refine hK _ ?_; clear hK K) | (refine wpF_load1 rfl rfl rfl (by kernel_rfl) (by assumption) (by simp) (fun K hK => ?_); go_simp; refine hK _ ?_; clear hK K) | (refine wpF_str rfl rfl rfl (by assumption) (by simp) (by kernel_rfl) (by kernel_rfl) (fun K hK => ?_); go_simp; refine hK _ ?_; clear hK K))
      refine wpF_f0v (fun w' => exec_build (buildE7 n0 n1 n2 (str p3) (str p4) A5 A6 p5.length k5 p6.length k6 w') rfl (by simp [Act.eval])) rfl (fun K hK => ?_)
      refine hK _ ?_
      clear hK K
      refine wpF_a3 (fun K hK => ?_); rw [if_pos (by rfl)]
      refine wp_storeN (n := 7) (cs := [.int .i64 n0, .int .i64 n1, .int .i64 n2, .string (str p3), .string (str p4), .slice A5 p5.length k5, .slice A6 p6.length k6]) rfl rfl rfl rfl (hb2.there 0 7 (by simp)) (by kernel_rfl) (by simp [Value.oneCell']) ?_
      refine hK _ _ ?_
      clear hK K
      repeat (first | (refine wpF_f0 (fun K hK => ?_); go_simp; refine hK _ ?_; clear hK K) | (refine wpF_load1 rfl rfl rfl (by kernel_rfl) (by assumption) (by simp) (fun K hK => ?_); go_simp; refine hK _ ?_; clear hK K) | (refine wpF_loadN rfl rfl rfl (by assumption) (by assumption) (by kernel_rfl) (by kernel_rfl) (by simp) (fun K hK => ?_); go_simp; refine hK _ ?_; clear hK K))
      refine wpF_nil ?_
      go_wp2_with fail
      refine bodyPost_ret (results_cellN_tmp rfl _ (by rfl) (hb2.setCells [.int .i64 n0, .int .i64 n1, .int .i64 n2, .string (str p3), .string (str p4), .slice A5 p5.length k5, .slice A6 p6.length k6] 0 (by simp)) (by kernel_rfl) (by rfl)) rfl ?_
      exact ⟨(hB.trans (((Fr.refl (fun i => i = B) w6).setCells _ 0 (fun _ => rfl)).below (B := B) hs (fun k hk e => by omega))), _, _, _, _, rfl, own_set3 (own_base y5 (Nat.le_of_lt hgB)) hb2, own_set3 (own_base y6 (Nat.le_of_lt hgB)) hb2⟩
end Go.Proofs.YthocpbkgcpgpdaaDoor
