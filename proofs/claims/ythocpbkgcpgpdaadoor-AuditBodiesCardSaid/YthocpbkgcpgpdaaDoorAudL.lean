/- AuditBodies: the walk. -/
import Derived.Test.YthocpbkgcpgpdaaDoorAudK
namespace Go.Proofs.YthocpbkgcpgpdaaDoor
open Go.RowKit

theorem ReadP.flat {B : Nat} {w w' : World} {o : Option Ent} {en : Ending} (h : ReadP B w o en w') : Below B w w' ∧ ∃ E A1 n1 c1 A2 n2 c2, en = .returned (.tuple #[.agg #[.int .i64 E.no, .int .i64 E.time, .int .i64 E.code, .string E.who, .string E.what, .slice A1 n1 c1, .slice A2 n2 c2], .bool o.isSome]) ∧
    E = o.getD ⟨0, 0, 0, ⟨#[]⟩, ⟨#[]⟩, [], []⟩ ∧ Rd w' (.slice A1 n1 c1) E.prev ∧ Rd w' (.slice A2 n2 c2) E.hash := by
  obtain ⟨hb, h⟩ := h
  cases o with
  | none => exact ⟨hb, _, _, _, _, _, _, _, h, rfl, Rd.nil _, Rd.nil _⟩
  | some E =>
    obtain ⟨vp, vh, n, m, h1, h2, h3⟩ := h
    obtain ⟨A1, c1, rfl⟩ := own_form h2
    obtain ⟨A2, c2, rfl⟩ := own_form h3
    exact ⟨hb, E, _, _, _, _, _, _, h1, rfl, Rd.of_own h2, Rd.of_own h3⟩
set_option maxHeartbeats 1000000 in
set_option maxRecDepth 100000 in
theorem bodies_walk (e : Ent) (vp vh vb : Value) (b : List UInt8) (w : World) (hp : Rd w vp e.prev) (hh : Rd w vh e.hash) (hv : Rd w vb b) :
    Calls Tryd.prog 9 #[.agg #[.int .i64 e.no, .int .i64 e.time, .int .i64 e.code, .string e.who, .string e.what, vp, vh], vb] w fun en w' => en = .returned (.bool true) ∧ Below w.heap.size w w' := by
  obtain ⟨Ap, cp, rfl⟩ := hp.slice
  obtain ⟨Ah, ch, rfl⟩ := hh.slice
  obtain ⟨Ab, cb, rfl⟩ := hv.slice
  have hmx := hv.max
  have hb := Blk.new w #[.int .i64 e.no, .int .i64 e.time, .int .i64 e.code, .string e.who, .string e.what, .slice Ap e.prev.length cp, .slice Ah e.hash.length ch] 30
  have hB := (Below.refl w.heap.size w).alloc (Nat.le_refl _) (.cells #[.int .i64 e.no, .int .i64 e.time, .int .i64 e.code, .string e.who, .string e.what, .slice Ap e.prev.length cp, .slice Ah e.hash.length ch] 30)
  replace hp := hp.below hB
  replace hh := hh.below hB
  replace hv := hv.below hB
  have hs := hB.size
  generalize hb0 : w.heap.size = B at *
  have HB := Lib.hid hb0
  clear hb0
  go_enter Tryd.func9, Tryd.ntmps9
  go_upto_region 1 with fail
  rw [HB.out]
  generalize w.alloc (.cells #[.int .i64 e.no, .int .i64 e.time, .int .i64 e.code, .string e.who, .string e.what, .slice Ap e.prev.length cp, .slice Ah e.hash.length ch] 30) = w0 at *
  go_wp2_with fail
  refine (awake_any w0).mono ?_
  rintro en w1 ⟨rfl, hb1⟩
  replace hp := hp.below hb1; replace hh := hh.below hb1; replace hv := hv.below hb1; replace hb := hb.fr (Fr.of_below hb1 (fun _ => False)) (fun h => h); skip; replace hB := hB.trans (hb1.mono hs); replace hs := Nat.le_trans hs hb1.size
  clear hb1
  have hra : w1.rangeAt B 0 [.int .i64 e.no, .int .i64 e.time, .int .i64 e.code, .string e.who, .string e.what, .slice Ap e.prev.length cp, .slice Ah e.hash.length ch] := hb.range' 0 _ (fun j v hv => by rw [Nat.zero_add]; simpa using hv)
  have hl7 : ([.int .i64 e.no, .int .i64 e.time, .int .i64 e.code, .string e.who, .string e.what, .slice Ap e.prev.length cp, .slice Ah e.hash.length ch] : List Value).length = 7 := rfl
  go_wp2_with ((refine wpList_loadN rfl rfl rfl (by assumption) (by assumption) (by kernel_rfl) (by kernel_rfl) ?_))
  refine (short_any e _ _ hp hh).mono ?_
  rintro en w2 ⟨rfl, hb2⟩
  replace hp := hp.below hb2; replace hh := hh.below hb2; replace hv := hv.below hb2; replace hb := hb.fr (Fr.of_below hb2 (fun _ => False)) (fun h => h); skip; replace hB := hB.trans (hb2.mono hs); replace hs := Nat.le_trans hs hb2.size
  clear hb2 hra
  obtain ⟨Q, hQ⟩ : ∃ Q, Q = shortB e := ⟨_, rfl⟩
  rw [← hQ]
  cases Q
  · clear hQ
    go_wp2_with fail
    go_ret
    exact ⟨rfl, by first | exact hB | (rw [HB.out]; exact hB)⟩
  have hS := shortB_spec.1 hQ.symm
  clear hQ
  by_cases h3 : 3000 < b.length
  · have h3I : (3000 : Int) < (b.length : Int) := by omega
    go_wp2_with fail
    go_ret
    exact ⟨rfl, by first | exact hB | (rw [HB.out]; exact hB)⟩
  have h3I : decide ((3000 : Int) < (b.length : Int)) = false := decide_eq_false (by omega)
  go_upto_region 5 with fail
  clear h3I hmx
  obtain ⟨O, hO⟩ : ∃ O, O = readN b := ⟨_, rfl⟩
  have hrd := read_any (w := w2) _ b hv (by omega)
  rw [← hO] at hrd
  have HO := Lib.hid hO
  clear hO
  go_wp2_with fail
  refine hrd.mono ?_
  rintro en w3 hq
  obtain ⟨hb3, E, A1, n1, c1, A2, n2, c2, rfl, hE, r1, r2⟩ := hq.flat
  have HE := Lib.hid hE
  clear hq hrd hE
  obtain ⟨z, hz⟩ : ∃ z, O.isSome = z := ⟨_, rfl⟩
  rw [hz]
  have HZ := Lib.hid hz
  clear hz
  replace hp := hp.below hb3; replace hh := hh.below hb3; replace hv := hv.below hb3; replace hb := hb.fr (Fr.of_below hb3 (fun _ => False)) (fun h => h); skip; replace hB := hB.trans (hb3.mono hs); replace hs := Nat.le_trans hs hb3.size
  clear hb3
  go_upto_region 6 with (refine wpList_newN (n := 7) (cs := [.int .i64 E.no, .int .i64 E.time, .int .i64 E.code, .string E.who, .string E.what, .slice A1 n1 c1, .slice A2 n2 c2]) rfl rfl rfl rfl rfl rfl rfl (by simp) (by first | (simp; done) | (simp [Act.put]; done)) rfl (by kernel_rfl) (by simp [Value.oneCell']) ?_)
  have b3 := Blk.new w3 #[.int .i64 E.no, .int .i64 E.time, .int .i64 E.code, .string E.who, .string E.what, .slice A1 n1 c1, .slice A2 n2 c2] 30
  have f3 := (Below.refl w3.heap.size w3).alloc (Nat.le_refl _) (.cells #[.int .i64 E.no, .int .i64 E.time, .int .i64 E.code, .string E.who, .string E.what, .slice A1 n1 c1, .slice A2 n2 c2] 30)
  replace hp := hp.below f3; replace hh := hh.below f3; replace hv := hv.below f3; replace r1 := r1.below f3; replace r2 := r2.below f3; replace hb := hb.fr (Fr.of_below f3 (fun _ => False)) (fun h => h); skip; replace hB := hB.trans (f3.mono hs); replace hs := Nat.le_trans hs f3.size
  clear f3
  show Code.wp _ _ _ _ (w3.alloc (.cells #[.int .i64 E.no, .int .i64 E.time, .int .i64 E.code, .string E.who, .string E.what, .slice A1 n1 c1, .slice A2 n2 c2] 30))
  generalize w3.alloc (.cells #[.int .i64 E.no, .int .i64 E.time, .int .i64 E.code, .string E.who, .string E.what, .slice A1 n1 c1, .slice A2 n2 c2] 30) = w4 at *
  generalize w3.heap.size = g3 at *
  have hrd := rread_any (w := w4) _ b hv (by omega)
  rw [← HO.out] at hrd
  go_wp2_with fail
  refine hrd.mono ?_
  rintro en w5 hq
  obtain ⟨hb5, E', A3, n3, c3, A4, n4, c4, rfl, hE', r3, r4⟩ := hq.flat
  rw [← HE.out] at hE'
  subst hE'
  rw [HZ.out]
  clear hq hrd
  replace hp := hp.below hb5; replace hh := hh.below hb5; replace r1 := r1.below hb5; replace r2 := r2.below hb5; replace hb := hb.fr (Fr.of_below hb5 (fun _ => False)) (fun h => h); replace b3 := b3.fr (Fr.of_below hb5 (fun _ => False)) (fun h => h); skip; replace hB := hB.trans (hb5.mono hs); replace hs := Nat.le_trans hs hb5.size
  clear hb5 hv
  go_upto_region 7 with (refine wpList_newN (n := 7) (cs := [.int .i64 E'.no, .int .i64 E'.time, .int .i64 E'.code, .string E'.who, .string E'.what, .slice A3 n3 c3, .slice A4 n4 c4]) rfl rfl rfl rfl rfl rfl rfl (by simp) (by first | (simp; done) | (simp [Act.put]; done)) rfl (by kernel_rfl) (by simp [Value.oneCell']) ?_)
  have b5 := Blk.new w5 #[.int .i64 E'.no, .int .i64 E'.time, .int .i64 E'.code, .string E'.who, .string E'.what, .slice A3 n3 c3, .slice A4 n4 c4] 30
  have f5 := (Below.refl w5.heap.size w5).alloc (Nat.le_refl _) (.cells #[.int .i64 E'.no, .int .i64 E'.time, .int .i64 E'.code, .string E'.who, .string E'.what, .slice A3 n3 c3, .slice A4 n4 c4] 30)
  replace hp := hp.below f5; replace hh := hh.below f5; replace r1 := r1.below f5; replace r2 := r2.below f5; replace r3 := r3.below f5; replace r4 := r4.below f5; replace hb := hb.fr (Fr.of_below f5 (fun _ => False)) (fun h => h); replace b3 := b3.fr (Fr.of_below f5 (fun _ => False)) (fun h => h); skip; replace hB := hB.trans (f5.mono hs); replace hs := Nat.le_trans hs f5.size
  clear f5
  show Code.wp _ _ _ _ (w5.alloc (.cells #[.int .i64 E'.no, .int .i64 E'.time, .int .i64 E'.code, .string E'.who, .string E'.what, .slice A3 n3 c3, .slice A4 n4 c4] 30))
  generalize w5.alloc (.cells #[.int .i64 E'.no, .int .i64 E'.time, .int .i64 E'.code, .string E'.who, .string E'.what, .slice A3 n3 c3, .slice A4 n4 c4] 30) = w6 at *
  generalize w5.heap.size = g5 at *
  have hra3 : w6.rangeAt g3 0 [.int .i64 E'.no, .int .i64 E'.time, .int .i64 E'.code, .string E'.who, .string E'.what, .slice A1 n1 c1, .slice A2 n2 c2] := b3.range' 0 _ (fun j v hv => by rw [Nat.zero_add]; simpa using hv)
  have hra5 : w6.rangeAt g5 0 [.int .i64 E'.no, .int .i64 E'.time, .int .i64 E'.code, .string E'.who, .string E'.what, .slice A3 n3 c3, .slice A4 n4 c4] := b5.range' 0 _ (fun j v hv => by rw [Nat.zero_add]; simpa using hv)
  have hl3 : ([.int .i64 E'.no, .int .i64 E'.time, .int .i64 E'.code, .string E'.who, .string E'.what, .slice A1 n1 c1, .slice A2 n2 c2] : List Value).length = 7 := rfl
  have hl5 : ([.int .i64 E'.no, .int .i64 E'.time, .int .i64 E'.code, .string E'.who, .string E'.what, .slice A3 n3 c3, .slice A4 n4 c4] : List Value).length = 7 := rfl
  go_wp2_with ((refine wpList_loadN rfl rfl rfl (by assumption) (by assumption) (by kernel_rfl) (by kernel_rfl) ?_))
  refine (same_any E' E' _ _ _ _ r1 r2 r3 r4).mono ?_
  rw [sameE_self]
  rintro en w7 ⟨rfl, hb7⟩
  replace hp := hp.below hb7; replace hh := hh.below hb7; replace hb := hb.fr (Fr.of_below hb7 (fun _ => False)) (fun h => h); skip; replace hB := hB.trans (hb7.mono hs); replace hs := Nat.le_trans hs hb7.size
  clear hb7 hra3 hra5 hl3 hl5 b3 b5 r1 r2 r3 r4
  go_wp2_with fail
  refine wp_region_float (Fr (fun _ => False)) [(0, 1), (3, 1), (1, 2), (2, 1), (4, 2), (5, 1), (6, 0), (7, 0), (8, 1), (11, 1), (9, 2), (10, 1), (12, 2), (13, 1), (14, 0), (15, 0), (16, 0), (17, 0), (18, 0), (19, 0), (20, 0), (21, 0), (22, 0), (23, 0), (24, 0)] _ (by kernel_rfl) (by kernel_rfl) (by simp only [List.map_cons, List.map_nil, Array.getD_eq_getD_getElem?, List.getElem?_toArray, List.getElem?_cons_succ, List.getElem?_cons_zero, Option.getD_some]; rfl) rfl (by kernel_rfl) (fun _ _ d _ _ h => by cases d <;> exact h) (Fr.refl _) (fun _ _ _ => Fr.trans) ?_
  replace hp := hp.drew; replace hh := hh.drew; replace hb := hb.drew; skip; replace hB := hB.drew
  replace hs : B ≤ w7.drew.heap.size := hs
  generalize w7.drew = w8 at *
  have hra : w8.rangeAt B 0 [.int .i64 e.no, .int .i64 e.time, .int .i64 e.code, .string e.who, .string e.what, .slice Ap e.prev.length cp, .slice Ah e.hash.length ch] := hb.range' 0 _ (fun j v hv => by rw [Nat.zero_add]; simpa using hv)
  (refine wpF_loadN rfl rfl rfl (by assumption) (by assumption) (by kernel_rfl) (by kernel_rfl) (by simp) (fun K hK => ?_); go_simp; refine hK _ ?_; clear hK K)
  (refine wpF_loadN rfl rfl rfl (by assumption) (by assumption) (by kernel_rfl) (by kernel_rfl) (by simp) (fun K hK => ?_); go_simp; refine hK _ ?_; clear hK K)
  refine wpF_a2 (fun K hK => ?_); rw [if_pos (by rfl)]
  go_simp
  refine (body_any e _ _ hp hS).mono ?_
  rintro en w9 ⟨v9, rfl, o9, hb9⟩
  replace hp := hp.below hb9
  replace hh := hh.below hb9
  replace hra := hra.below hb9
  replace hB := hB.trans (hb9.mono hs)
  replace hs := Nat.le_trans hs hb9.size
  have r9 := Rd.of_own o9
  obtain ⟨Ax9, cx9, rfl⟩ := own_form o9
  refine hK _ _ (Fr.of_below hb9 _) ?_
  clear hK K hb9 o9
  repeat (first | (refine wpF_f0 (fun K hK => ?_); go_simp; refine hK _ ?_; clear hK K) | (refine wpF_load1 rfl rfl rfl (by kernel_rfl) (by assumption) (by simp) (fun K hK => ?_); go_simp; refine hK _ ?_; clear hK K) | (refine wpF_str rfl rfl rfl (by assumption) (by simp) (by kernel_rfl) (by kernel_rfl) (fun K hK => ?_); go_simp; refine hK _ ?_; clear hK K))
  refine wpF_a2 (fun K hK => ?_); rw [if_pos (by rfl)]
  go_simp
  refine (rbody_any e _ _ hp hS).mono ?_
  rintro en w10 ⟨v10, rfl, o10, hb10⟩
  replace hp := hp.below hb10
  replace hh := hh.below hb10
  replace hra := hra.below hb10
  replace hB := hB.trans (hb10.mono hs)
  replace hs := Nat.le_trans hs hb10.size
  have r10 := Rd.of_own o10
  obtain ⟨Ax10, cx10, rfl⟩ := own_form o10
  refine hK _ _ (Fr.of_below hb10 _) ?_
  clear hK K hb10 o10
  repeat (first | (refine wpF_f0 (fun K hK => ?_); go_simp; refine hK _ ?_; clear hK K) | (refine wpF_load1 rfl rfl rfl (by kernel_rfl) (by assumption) (by simp) (fun K hK => ?_); go_simp; refine hK _ ?_; clear hK K) | (refine wpF_str rfl rfl rfl (by assumption) (by simp) (by kernel_rfl) (by kernel_rfl) (fun K hK => ?_); go_simp; refine hK _ ?_; clear hK K))
  (refine wpF_loadN rfl rfl rfl (by assumption) (by assumption) (by kernel_rfl) (by kernel_rfl) (by simp) (fun K hK => ?_); go_simp; refine hK _ ?_; clear hK K)
  (refine wpF_loadN rfl rfl rfl (by assumption) (by assumption) (by kernel_rfl) (by kernel_rfl) (by simp) (fun K hK => ?_); go_simp; refine hK _ ?_; clear hK K)
  refine wpF_a2 (fun K hK => ?_); rw [if_pos (by rfl)]
  go_simp
  refine (bytes_any e _ _ hp hh hS).mono ?_
  rintro en w11 ⟨v11, rfl, o11, hb11⟩
  replace hp := hp.below hb11
  replace hh := hh.below hb11
  replace hra := hra.below hb11
  replace hB := hB.trans (hb11.mono hs)
  replace hs := Nat.le_trans hs hb11.size
  have r11 := Rd.of_own o11
  obtain ⟨Ax11, cx11, rfl⟩ := own_form o11
  refine hK _ _ (Fr.of_below hb11 _) ?_
  clear hK K hb11 o11
  repeat (first | (refine wpF_f0 (fun K hK => ?_); go_simp; refine hK _ ?_; clear hK K) | (refine wpF_load1 rfl rfl rfl (by kernel_rfl) (by assumption) (by simp) (fun K hK => ?_); go_simp; refine hK _ ?_; clear hK K) | (refine wpF_str rfl rfl rfl (by assumption) (by simp) (by kernel_rfl) (by kernel_rfl) (fun K hK => ?_); go_simp; refine hK _ ?_; clear hK K))
  refine wpF_a2 (fun K hK => ?_); rw [if_pos (by rfl)]
  go_simp
  refine (rbytes_any e _ _ hp hh hS).mono ?_
  rintro en w12 ⟨v12, rfl, o12, hb12⟩
  replace hp := hp.below hb12
  replace hh := hh.below hb12
  replace hra := hra.below hb12
  replace hB := hB.trans (hb12.mono hs)
  replace hs := Nat.le_trans hs hb12.size
  have r12 := Rd.of_own o12
  obtain ⟨Ax12, cx12, rfl⟩ := own_form o12
  refine hK _ _ (Fr.of_below hb12 _) ?_
  clear hK K hb12 o12
  repeat (first | (refine wpF_f0 (fun K hK => ?_); go_simp; refine hK _ ?_; clear hK K) | (refine wpF_load1 rfl rfl rfl (by kernel_rfl) (by assumption) (by simp) (fun K hK => ?_); go_simp; refine hK _ ?_; clear hK K) | (refine wpF_str rfl rfl rfl (by assumption) (by simp) (by kernel_rfl) (by kernel_rfl) (fun K hK => ?_); go_simp; refine hK _ ?_; clear hK K))
  refine wpF_nil ?_
  go_wp2_with fail
  go_ret
  exact ⟨rfl, by first | exact hB | (rw [HB.out]; exact hB)⟩
end Go.Proofs.YthocpbkgcpgpdaaDoor
