/- audit.Read. -/
import Derived.Test.YthocpbkgcpgpdaaDoorAudH
namespace Go.Proofs.YthocpbkgcpgpdaaDoor
open Go.RowKit

set_option maxHeartbeats 1000000 in
set_option maxRecDepth 100000 in
theorem read_any {w : World} (v : Value) (b : List UInt8) (hv : Rd w v b) (hm : b.length < 1000000) :
    Calls Tryd.prog 27 #[v] w (ReadP w.heap.size w (readN b)) := by
  obtain ⟨O, hO⟩ : ∃ O, O = readN b := ⟨_, rfl⟩
  rw [← hO]
  have HO := Lib.hid hO
  clear hO
  have hb2 := Blk.new w #[.int .i64 0, .int .i64 0, .int .i64 0, .string ⟨#[]⟩, .string ⟨#[]⟩, .slice none 0 0, .slice none 0 0] 30
  have hB := (Below.refl w.heap.size w).alloc (Nat.le_refl _) (.cells #[.int .i64 0, .int .i64 0, .int .i64 0, .string ⟨#[]⟩, .string ⟨#[]⟩, .slice none 0 0, .slice none 0 0] 30)
  replace hv := hv.below hB
  have hs := hB.size
  generalize hb0 : w.heap.size = B at *
  have HB := Lib.hid hb0
  obtain ⟨A, ca, rfl⟩ := hv.slice
  go_enter Tryd.func27, Tryd.ntmps27
  go_upto_region 1 with (refine wpList_allocZ rfl rfl (zs := #[.int .i64 0, .int .i64 0, .int .i64 0, .string ⟨#[]⟩, .string ⟨#[]⟩, .slice none 0 0, .slice none 0 0]) (by kernel_rfl) ?_; rw [hb0]; generalize w.alloc (.cells #[.int .i64 0, .int .i64 0, .int .i64 0, .string ⟨#[]⟩, .string ⟨#[]⟩, .slice none 0 0, .slice none 0 0] 30) = w1 at *)
  clear hb0
  have hgB : B < w1.heap.size := hb2.lt
  go_wp2_with fail
  refine (decode_any _ b hv hm).mono ?_
  rintro en w2 hdec
  obtain ⟨R, hR⟩ : ∃ R, R = decM [] [] b := ⟨_, rfl⟩
  rw [← hR] at hdec
  have HR := Lib.hid hR
  clear hR hv
  cases R with
  | none =>
    obtain ⟨rfl, hb22⟩ := hdec
    have ho : O = none := by rw [HO.out, readN, ← HR.out]
    subst ho
    skip; replace hb2 := hb2.fr (Fr.of_below hb22 (fun _ => False)) (fun h => h); skip; replace hB := hB.trans (hb22.mono hs); replace hs := Nat.le_trans hs hb22.size
    clear hb22
    go_wp2_with (first | (refine wpList_value rfl (exec_build (buildE0 _) rfl (by simp [Act.eval])) ?_) | (refine wpList_storeN (n := 7) (cs := [.int .i64 0, .int .i64 0, .int .i64 0, .string ⟨#[]⟩, .string ⟨#[]⟩, .slice none 0 0, .slice none 0 0]) rfl rfl rfl rfl rfl (hb2.there 0 7 (by simp)) (by kernel_rfl) (by simp [Value.oneCell']) ?_)); refine bodyPost_ret (results_cellN_tmp rfl _ (by rfl) (hb2.setCells [.int .i64 0, .int .i64 0, .int .i64 0, .string ⟨#[]⟩, .string ⟨#[]⟩, .slice none 0 0, .slice none 0 0] 0 (by simp)) (by kernel_rfl) (by rfl)) rfl ?_
    exact ⟨(hB.trans (((Fr.refl (fun i => i = B) w2).setCells _ 0 (fun _ => rfl)).below (B := B) hs (fun k hk e => by omega))), rfl⟩
  | some ps =>
    obtain ⟨v2, rfl, ol, hb22⟩ := hdec
    skip; replace hb2 := hb2.fr (Fr.of_below hb22 (fun _ => False)) (fun h => h); skip; replace hB := hB.trans (hb22.mono hs); replace hs := Nat.le_trans hs hb22.size
    clear hb22
    by_cases h7 : ps.length = 7
    rotate_left
    · have ho : O = none := by rw [HO.out]; exact readN_len HR.out.symm h7
      subst ho
      obtain ⟨A2, c2, rfl⟩ := ol.rdl.slice
      have h7I : ((ps.length : Int) == 7) = false := by rw [beq_eq_false_iff_ne]; omega
      have h7J : ((ps.length : Int) != 7) = true := by rw [bne_iff_ne]; omega
      clear h7 ol
      go_wp2_with (first | (refine wpList_value rfl (exec_build (buildE0 _) rfl (by simp [Act.eval])) ?_) | (refine wpList_storeN (n := 7) (cs := [.int .i64 0, .int .i64 0, .int .i64 0, .string ⟨#[]⟩, .string ⟨#[]⟩, .slice none 0 0, .slice none 0 0]) rfl rfl rfl rfl rfl (hb2.there 0 7 (by simp)) (by kernel_rfl) (by simp [Value.oneCell']) ?_)); refine bodyPost_ret (results_cellN_tmp rfl _ (by rfl) (hb2.setCells [.int .i64 0, .int .i64 0, .int .i64 0, .string ⟨#[]⟩, .string ⟨#[]⟩, .slice none 0 0, .slice none 0 0] 0 (by simp)) (by kernel_rfl) (by rfl)) rfl ?_
      exact ⟨(hB.trans (((Fr.refl (fun i => i = B) w2).setCells _ 0 (fun _ => rfl)).below (B := B) hs (fun k hk e => by omega))), rfl⟩
    match ps, h7 with
    | [p0, p1, p2, p3, p4, p5, p6], _ =>
      have ho : O = if (narP p0).2 = 0 ∧ (narP p1).2 = 0 ∧ (narP p2).2 = 0 then some ⟨(narP p0).1, (narP p1).1, (narP p2).1, str p3, str p4, p5, p6⟩ else none := by rw [HO.out, readN, ← HR.out]
      replace HO := Lib.hid ho
      clear ho HR
      obtain ⟨g, c, x0, x1, x2, x3, x4, x5, x6, rfl, hg, hra, y0, y1, y2, y3, y4, y5, y6⟩ := ol.seven
      clear ol
      have hgB2 : B < w2.heap.size := hb2.lt
      go_upto_region 5 with (refine wpList_allocZ rfl rfl (zs := #[.int .i64 0, .int .i64 0, .int .i64 0]) (by kernel_rfl) ?_)
      have hB6 := (Below.refl w2.heap.size w2).alloc (Nat.le_refl _) (.cells #[.int .i64 0, .int .i64 0, .int .i64 0] 61)
      have b6 := Blk.new w2 #[.int .i64 0, .int .i64 0, .int .i64 0] 61
      have hs6 := hB6.size
      generalize w2.alloc (.cells #[.int .i64 0, .int .i64 0, .int .i64 0] 61) = w3 at *
      obtain ⟨g6, hg6⟩ : ∃ g6, g6 = w2.heap.size := ⟨_, rfl⟩
      rw [← hg6] at b6 ⊢
      have HG := Lib.hid hg6
      clear hg6
      have hmem : ∀ t : Nat, t < 3 → ∃ x p, [x0, x1, x2][t]? = some x ∧ [p0, p1, p2][t]? = some p := fun t ht => by
        match t, ht with
        | 0, _ => exact ⟨_, _, rfl, rfl⟩
        | 1, _ => exact ⟨_, _, rfl, rfl⟩
        | 2, _ => exact ⟨_, _, rfl, rfl⟩
      clear hmem
      go_wp2_with fail
      go_loopw [5, 7, 21] (fun _ _ i wr => ∃ (t : Nat) (z0 z1 z2 : Int), i = .int .i64 t ∧ t ≤ 3 ∧ Blk wr g6 #[.int .i64 z0, .int .i64 z1, .int .i64 z2] 61 ∧ (0 < t → (narP p0).2 = 0 ∧ z0 = (narP p0).1) ∧ (1 < t → (narP p1).2 = 0 ∧ z1 = (narP p1).1) ∧ (2 < t → (narP p2).2 = 0 ∧ z2 = (narP p2).1) ∧ Below w2.heap.size w2 wr) (fun _ _ i _ => 3 - (intOf i).toNat)
      case atStart => exact ⟨0, 0, 0, 0, rfl, by omega, b6, fun h => absurd h (by omega), fun h => absurd h (by omega), fun h => absurd h (by omega), hB6⟩
      case round =>
        clear b6 hB6 hs6
        obtain ⟨t, z0, z1, z2, rfl, ht, b6, E0, E1, E2, hB6⟩ := hrel
        have HE := Lib.hid (show _ ∧ _ ∧ _ from ⟨E0, E1, E2⟩)
        clear E0 E1 E2
        have hs6 := hB6.size
        have hb2' := hb2.fr (Fr.of_below hB6 (fun _ => False)) (fun h => h)
        have hBt := hB.trans (hB6.mono hs)
        have hst := Nat.le_trans hs hs6
        have hrt := hra.below hB6
        by_cases hlt : t < 3
        · have hltI : (t : Int) < 3 := by omega
          have hc6 : ∀ j : Nat, j < 3 → ∃ u, wr.cell? ⟨g6, j, none⟩ = some u := fun j hj => ⟨_, (b6.cell j).trans (Array.getElem?_eq_getElem hj)⟩
          obtain ⟨u, hu⟩ := hc6 t hlt
          have hfz := b6.frozen t
          have hdone : ∀ (p : List UInt8) (x : Value), Rd wr x p → [x0, x1, x2][t]? = some x → [p0, p1, p2][t]? = some p → True := fun _ _ _ _ _ => trivial
          clear hdone hc6
          obtain ⟨x, p, hx, hp, hr⟩ : ∃ x p, [x0, x1, x2][t]? = some x ∧ [p0, p1, p2][t]? = some p ∧ Rd wr x p := by
            match t, hlt with
            | 0, _ => exact ⟨_, _, rfl, rfl, (Rd.of_own y0).below hB6⟩
            | 1, _ => exact ⟨_, _, rfl, rfl, (Rd.of_own y1).below hB6⟩
            | 2, _ => exact ⟨_, _, rfl, rfl, (Rd.of_own y2).below hB6⟩
          have hcx : wr.cell? ⟨g, t, none⟩ = some x := by
            have := hrt t x (by match t, hlt with
              | 0, _ => exact hx
              | 1, _ => exact hx
              | 2, _ => exact hx)
            rwa [Nat.zero_add] at this
          have HX := Lib.hid hp
          clear hx hp hrt
          go_wp2_with fail
          refine (narrow_all x p hr).mono ?_
          rintro en w4 ⟨rfl, rfl⟩
          have hne : ¬ g6 = B := by have := HG.out; omega
          have hnB : ¬ B = g6 := fun e => hne e.symm
          have b7 := b6.set t (.int .i64 (narP p).1)
          have hb27 := hb2'.far (p := ⟨g6, t, none⟩) hnB (.int .i64 (narP p).1)
          have f7 : Fr (fun k => k = g6) w4 (w4.setCell ⟨g6, t, none⟩ (.int .i64 (narP p).1)) := (Fr.refl (fun k => k = g6) w4).setCell (p := ⟨g6, t, none⟩) (fun _ => rfl) _
          have hB7 := hB6.trans (f7.below (B := w2.heap.size) hs6 (fun k hk (e : k = g6) => by have := HG.out; omega))
          have hBt7 := hBt.trans (f7.below (B := B) hst (fun k hk (e : k = g6) => by have := HG.out; omega))
          have hst7 := Nat.le_trans hst f7.size
          clear f7 hr
          obtain ⟨N, hN⟩ : ∃ N, N = narP p := ⟨_, rfl⟩
          rw [← hN] at b7 hb27 hB7 hBt7 hst7 ⊢
          obtain ⟨z, e⟩ := N
          have HN := Lib.hid hN
          clear hN
          simp only at b7 hb27 hB7 hBt7 hst7 ⊢
          by_cases he : e = 0
          rotate_left
          · have ho : O = none := by
              rw [HO.out, if_neg]
              intro h
              apply he
              have h2 : (narP p).2 = e := by rw [← HN.out]
              rw [← h2]
              have h3 := HX.out
              match t, hlt with
              | 0, _ => cases h3; exact h.1
              | 1, _ => cases h3; exact h.2.1
              | 2, _ => cases h3; exact h.2.2
            have q : (e == 0) = false := beq_eq_false_iff_ne.2 he
            have q2 : (e != 0) = true := bne_iff_ne.2 he
            subst ho
            clear he hb2 hB hs hb2' hBt hst b6 hB6 hs6
            have hb2 := hb27
            have hB := hBt7
            have hs := hst7
            clear hb27 hBt7 hst7 b7 hB7
            go_wp2_with (first | (refine wpList_value rfl (exec_build (buildE0 _) rfl (by simp [Act.eval])) ?_) | (refine wpList_storeN (n := 7) (cs := [.int .i64 0, .int .i64 0, .int .i64 0, .string ⟨#[]⟩, .string ⟨#[]⟩, .slice none 0 0, .slice none 0 0]) rfl rfl rfl rfl rfl (hb2.there 0 7 (by simp)) (by kernel_rfl) (by simp [Value.oneCell']) ?_)); refine bodyPost_ret (results_cellN_tmp rfl _ (by rfl) (hb2.setCells [.int .i64 0, .int .i64 0, .int .i64 0, .string ⟨#[]⟩, .string ⟨#[]⟩, .slice none 0 0, .slice none 0 0] 0 (by simp)) (by kernel_rfl) (by rfl)) rfl ?_
            exact ⟨(hB.trans (((Fr.refl (fun i => i = B) _).setCells _ 0 (fun _ => rfl)).below (B := B) hs (fun k hk e => by omega))), rfl⟩
          · subst he
            clear hb2' hBt hst b6 hB6 hs6
            go_wp2_with fail
            go_roundw
            case rel =>
              have hE := HE.out
              have h3 := HX.out
              have h2 := HN.out
              match t, hlt with
              | 0, _ =>
                cases h3
                exact ⟨1, z, z1, z2, by go_num, by omega, b7, fun _ => ⟨by rw [← h2], by rw [← h2]⟩, fun h => absurd h (by omega), fun h => absurd h (by omega), hB7⟩
              | 1, _ =>
                cases h3
                exact ⟨2, z0, z, z2, by go_num, by omega, b7, fun _ => hE.1 (by omega), fun _ => ⟨by rw [← h2], by rw [← h2]⟩, fun h => absurd h (by omega), hB7⟩
              | 2, _ =>
                cases h3
                exact ⟨3, z0, z1, z, by go_num, by omega, b7, fun _ => hE.1 (by omega), fun _ => hE.2.1 (by omega), fun _ => ⟨by rw [← h2], by rw [← h2]⟩, hB7⟩
            case measure => simp [intOf]; omega
        · obtain rfl : t = 3 := by omega
          have hE := HE.out
          obtain ⟨⟨a0, rfl⟩, ⟨a1, rfl⟩, a2, rfl⟩ : ((narP p0).2 = 0 ∧ z0 = (narP p0).1) ∧ ((narP p1).2 = 0 ∧ z1 = (narP p1).1) ∧ (narP p2).2 = 0 ∧ z2 = (narP p2).1 := ⟨hE.1 (by omega), hE.2.1 (by omega), hE.2.2 (by omega)⟩
          have ho : O = some ⟨(narP p0).1, (narP p1).1, (narP p2).1, str p3, str p4, p5, p6⟩ := by rw [HO.out, if_pos ⟨a0, a1, a2⟩]
          subst ho
          clear a0 a1 a2 hE HE HO
          generalize (narP p0).1 = n0 at *
          generalize (narP p1).1 = n1 at *
          generalize (narP p2).1 = n2 at *
          obtain ⟨A3, k3, rfl⟩ := own_form y3
          obtain ⟨A4, k4, rfl⟩ := own_form y4
          obtain ⟨A5, k5, rfl⟩ := own_form y5
          obtain ⟨A6, k6, rfl⟩ := own_form y6
          have r3 := ((Rd.of_own y3).below hB6).drew
          have r4 := ((Rd.of_own y4).below hB6).drew
          have u5 := own_drew (own_fr y5 (Fr.of_below hB6 (fun _ => False)) (fun _ _ h => h))
          have u6 := own_drew (own_fr y6 (Fr.of_below hB6 (fun _ => False)) (fun _ _ h => h))
          have hrt2 := hrt.drew
          have d3 := hrt2 3 _ rfl
          have d4 := hrt2 4 _ rfl
          have d5 := hrt2 5 _ rfl
          have d6 := hrt2 6 _ rfl
          simp only [Nat.zero_add] at d3 d4 d5 d6
          clear hrt2 hrt hra hb2 hB hs y0 y1 y2 y3 y4 y5 y6
          rw [show ((3 : Nat) : Int) = 3 from rfl]
          go_wp2_with fail
          refine wp_region_float (Fr (fun _ => False)) [(0, 0), (1, 1), (2, 0), (3, 1), (4, 0), (5, 1), (6, 0), (7, 0), (8, 1), (9, 1), (10, 0), (11, 0), (12, 1), (13, 1), (14, 0), (15, 0), (16, 1), (17, 0), (18, 0), (19, 1), (20, 0), (21, 3), (22, 0)] _ (by kernel_rfl) (by kernel_rfl) (by simp only [List.map_cons, List.map_nil, Array.getD_eq_getD_getElem?, List.getElem?_toArray, List.getElem?_cons_succ, List.getElem?_cons_zero, Option.getD_some]; rfl) rfl (by kernel_rfl) (fun _ _ d _ _ h => by cases d <;> exact h) (Fr.refl _) (fun _ _ _ => Fr.trans) ?_
          have hb2 := hb2'.drew
          replace b6 : Blk wr.drew g6 #[.int .i64 n0, .int .i64 n1, .int .i64 n2] 61 := b6
          have hB := hBt.drew
          have hs : B ≤ wr.drew.heap.size := hst
          clear hb2' hBt hst
          generalize wr.drew = w6 at *
          have m0 := b6.cell 0
          have m1 := b6.cell 1
          have m2 := b6.cell 2
          simp only [List.getElem?_toArray, List.getElem?_cons_zero, List.getElem?_cons_succ] at m0 m1 m2
          iterate 20 (first | (refine wpF_f0 (fun K hK => ?_); go_simp; refine hK _ ?_; clear hK K) | (refine wpF_load1 rfl rfl rfl (by kernel_rfl) (by assumption) (by simp) (fun K hK => ?_); go_simp; refine hK _ ?_; clear hK K) | (refine wpF_str rfl rfl rfl (by assumption) (by simp) (by kernel_rfl) (by kernel_rfl) (fun K hK => ?_); go_simp; refine hK _ ?_; clear hK K))
          refine wpF_f0v (fun w' => exec_build (buildE7 n0 n1 n2 (str p3) (str p4) A5 A6 p5.length k5 p6.length k6 w') rfl (by simp [Act.eval])) rfl (fun K hK => ?_)
          refine hK _ ?_
          clear hK K
          refine wpF_a3 (fun K hK => ?_); rw [if_pos (by rfl)]
          refine wp_storeN (n := 7) (cs := [.int .i64 n0, .int .i64 n1, .int .i64 n2, .string (str p3), .string (str p4), .slice A5 p5.length k5, .slice A6 p6.length k6]) rfl rfl rfl rfl (hb2.there 0 7 (by simp)) (by kernel_rfl) (by simp [Value.oneCell']) ?_
          refine hK _ _ ?_
          clear hK K
          repeat (first | (refine wpF_f0 (fun K hK => ?_); go_simp; refine hK _ ?_; clear hK K) | (refine wpF_load1 rfl rfl rfl (by kernel_rfl) (by assumption) (by simp) (fun K hK => ?_); go_simp; refine hK _ ?_; clear hK K) | (refine wpF_loadN rfl rfl rfl (by assumption) (by assumption) (by kernel_rfl) (by kernel_rfl) (by simp) (fun K hK => ?_); go_simp; refine hK _ ?_; clear hK K))
          refine wpF_nil ?_
          go_wp2_with fail
          refine bodyPost_ret (results_cellN_tmp rfl _ (by rfl) (hb2.setCells [.int .i64 n0, .int .i64 n1, .int .i64 n2, .string (str p3), .string (str p4), .slice A5 p5.length k5, .slice A6 p6.length k6] 0 (by simp)) (by kernel_rfl) (by rfl)) rfl ?_
          exact ⟨(hB.trans (((Fr.refl (fun i => i = B) w6).setCells _ 0 (fun _ => rfl)).below (B := B) hs (fun k hk e => by omega))), _, _, _, _, rfl, own_set3 (own_base u5 (Nat.le_of_lt hgB)) hb2, own_set3 (own_base u6 (Nat.le_of_lt hgB)) hb2⟩
end Go.Proofs.YthocpbkgcpgpdaaDoor
