/- frame: text, Batch. -/
import Derived.Test.YtdhllelldlkdfaaFrame4
namespace Go.Proofs.Ytdhllelldlkdfaa
open Go.RowKit

set_option maxHeartbeats 1000000 in
theorem text_any {w : World} {base n : Nat} (v vs : Value) (l s : List UInt8) (hv : w.ownsRow base 5 1 v n (bts l)) (hn : 0 < n) (hs : Rd w vs s) (hm : n < 100000000) (hsm : s.length < 100000000) :
    Calls Try.prog 43 #[v, vs] w fun e w' => ∃ v', e = .returned v' ∧ w'.ownsRow w.heap.size 5 1 v' (l ++ putN s.length ++ s).length (bts (l ++ putN s.length ++ s)) ∧ Below w.heap.size w w' := by
  have hll : l.length = n := by have := hv.1; rw [bts_length] at this; omega
  have hpl : (putN s.length).length ≤ 10 := putF_length 9 _
  obtain ⟨g, c, rfl⟩ := own_some hv hn
  obtain ⟨A, cs, rfl⟩ := hs.slice
  have hms := hs.max
  go_enter Try.func43, Try.ntmps43
  go_wp2_with fail
  refine (put_any _ l s.length (Rd.of_own hv) (fun n c h => by cases h) (by omega) (by omega)).mono ?_
  rintro e w1 ⟨v1, rfl, o1, hb1⟩
  have hs := hs.below hb1
  have hsz := hb1.size
  rw [← List.length_append] at o1
  have hl1 : (l ++ putN s.length).length < 200000000 := by rw [List.length_append]; omega
  go_wp2_with (refine wpList_appRd (base := w.heap.size) rfl rfl Try.underlying22 infoByte rfl rfl rfl o1 hs (by omega) hsz (fun v2 w2 o2 g2 n2 => ?_))
  go_ret
  refine ⟨_, rfl, ?_, below_own hb1 o1 g2 (Nat.le_refl _) hsz⟩
  rw [List.length_append]
  exact o2

structure PutL where
  key : List UInt8
  val : List UInt8
  gone : Bool
def PutL.enc (p : PutL) (l : List UInt8) : List UInt8 :=
  if p.gone then (l ++ [1]) ++ putN p.key.length ++ p.key else (((l ++ [0]) ++ putN p.key.length ++ p.key) ++ putN p.val.length ++ p.val)
def batchN (ps : List PutL) : Nat → List UInt8
  | 0 => [] ++ putN ps.length
  | t + 1 => (ps.getD t ⟨[], [], false⟩).enc (batchN ps t)
/-- The slice v reads as these puts. -/
def RdP (w : World) (v : Value) (ps : List PutL) : Prop :=
  ∃ A n c, v = .slice A n c ∧ ps.length = n ∧ n ≤ maxLen ∧ ∀ j (hj : j < ps.length), ∃ b o vk vv, A = some ⟨b, o, none⟩ ∧ w.rangeAt b (o + j * 3) [vk, vv, .bool ps[j].gone] ∧ Rd w vk ps[j].key ∧ Rd w vv ps[j].val

set_option maxHeartbeats 3000000 in
set_option maxRecDepth 100000 in
theorem batch_any {w : World} (v : Value) (ps : List PutL) (hP : RdP w v ps) (hps : ps.length ≤ 60) (hpm : ∀ p ∈ ps, p.key.length ≤ 500 ∧ p.val.length ≤ 500) :
    Calls Try.prog 22 #[v] w fun e w' => ∃ v' n, e = .returned v' ∧ w'.ownsRow w.heap.size 5 1 v' n (bts (batchN ps ps.length)) ∧ Below w.heap.size w w' := by
  obtain ⟨A, n, c, rfl, hn, hmx, hall⟩ := hP
  rw [hn]
  have hmI : (n : Int) ≤ 9223372036854775807 := by simp only [maxLen] at hmx; omega
  have hb0 : batchN ps 0 = [] ++ putN n := by rw [← hn]; rfl
  have hpl : (putN n).length ≤ 10 := putF_length 9 _
  go_enter Try.func22, Try.ntmps22
  go_wp2_with fail
  refine (put_any (.slice none 0 0) [] n (rd_none w) none_form (by simp) (by omega)).mono ?_
  rintro e w1 ⟨v1, rfl, o1, hb1⟩
  rw [← List.length_append, ← hb0] at o1
  have hl0 : (batchN ps 0).length ≤ 10 := by rw [hb0, List.length_append]; simpa using hpl
  have hl1 : 0 < (batchN ps 0).length := by
    rw [hb0]
    have : putN n ≠ [] := by rw [putN, putF]; split <;> simp
    simpa using List.length_pos_iff.2 this
  generalize hB0 : w.heap.size = B at *
  have HB := Lib.hid hB0
  have f1 : Fr (fun j => B ≤ j) w w1 := Fr.of_below (by rw [hB0]; exact hb1) _
  clear hB0 hb1
  go_wp2_with fail
  go_loopw [3, 5, 11] (fun o _ i wr => ∃ t : Nat, i = .int .i64 t ∧ t ≤ n ∧ wr.ownsRow B 5 1 o (batchN ps t).length (bts (batchN ps t)) ∧ 0 < (batchN ps t).length ∧ (batchN ps t).length ≤ 10 + 1100 * t ∧ Fr (fun j => B ≤ j) w wr) (fun _ _ i _ => n - (intOf i).toNat)
  case atStart => exact ⟨0, rfl, Nat.zero_le _, o1, hl1, by omega, f1⟩
  case round =>
    clear o1 f1 hl0 hl1
    obtain ⟨t, rfl, ht, ho, hlp, hlb, f⟩ := hrel
    have hs := f.size
    rw [HB.out] at hs
    by_cases hlt : t < n
    · have hltI : (t : Int) < (n : Int) := by omega
      have ht0 : (0 : Int) ≤ (t : Int) := by omega
      obtain ⟨b, o, vk, vv, rfl, hra, hk, hvv⟩ := hall t (by omega)
      have hg : ps[t]'(by omega) = ps.getD t ⟨[], [], false⟩ := by rw [List.getD_eq_getElem?_getD, List.getElem?_eq_getElem (by omega)]; rfl
      have hpt := hpm _ (List.getElem_mem (show t < ps.length by omega))
      rw [hg] at hra hk hvv hpt
      have hst : batchN ps (t + 1) = (ps.getD t ⟨[], [], false⟩).enc (batchN ps t) := rfl
      generalize ps.getD t ⟨[], [], false⟩ = pt at *
      generalize batchN ps t = L at *
      have hbB : b < B := by
        have := block_lt_of_cell (hra 0 vk rfl)
        rw [HB.out] at this; exact this
      have hkB := fun h => hk.lt h
      have hvB := fun h => hvv.lt h
      rw [HB.out] at hkB hvB
      have hT : ∀ k, k < B → ¬ B ≤ k := fun k h1 h2 => by omega
      replace hra := hra.fr f (hT b hbB)
      replace hk := hk.old f hkB hT
      replace hvv := hvv.old f hvB hT
      obtain ⟨gk, gv, gg⟩ := pt
      simp only at hra hk hvv hpt hst
      have hl3 : ([vk, vv, .bool gg] : List Value).length = 3 := rfl
      have h13 : ∀ v ∈ ([vk, vv, .bool gg] : List Value), v.oneCell' = true := by
        obtain ⟨A1, c1, rfl⟩ := hk.slice
        obtain ⟨A2, c2, rfl⟩ := hvv.slice
        intro v hv
        simp only [List.mem_cons, List.mem_nil_iff, or_false] at hv
        rcases hv with rfl | rfl | rfl <;> rfl
      clear hg
      go_upto_region 5 with (first
        | (refine wpList_loadN (n := 3) rfl rfl rfl hra hl3 (by kernel_rfl) (by kernel_rfl) ?_)
        | (refine wpList_alloc1 (e := 45) (n := 3) rfl rfl (by kernel_rfl) (fun zc hzc => ?_))
        | (refine wpList_store1 (cs := [vk, vv, .bool gg]) rfl rfl rfl rfl hl3 hzc (by kernel_rfl) h13 ?_))
      have hbl := Blk.new wr [vk, vv, .bool gg].toArray 45
      have g5 : Fr (fun _ => False) wr (wr.alloc (.cells [vk, vv, .bool gg].toArray 45)) := (Fr.refl _ wr).alloc _
      replace ho := own_fr ho g5 (fun _ _ h => h)
      replace hk := hk.fr g5 (fun _ _ _ h => h)
      replace hvv := hvv.fr g5 (fun _ _ _ h => h)
      have f5 := f.trans (g5.mono (fun _ _ h => h.elim))
      have hs5 := Nat.le_trans hs g5.size
      go_simp
      generalize wr.alloc (.cells [vk, vv, .bool gg].toArray 45) = w5 at *
      generalize wr.heap.size = gl at *
      clear g5 hra h13 hl3 f
      have c2 := hbl.cell 2
      simp only [List.getElem?_toArray, List.getElem?_cons_zero, List.getElem?_cons_succ] at c2
      cases gg with
      | true =>
        go_upto_region 6 with fail
        refine wp_region_float (Fr (fun k => k ≠ gl)) [(0, 0), (3, 0), (4, 1), (1, 2), (2, 2), (5, 3), (6, 0)] _ (by kernel_rfl) (by kernel_rfl) (by simp only [List.map_cons, List.map_nil, Array.getD_eq_getD_getElem?, List.getElem?_toArray, List.getElem?_cons_succ, List.getElem?_cons_zero, Option.getD_some]; rfl) rfl (by kernel_rfl) (fun _ _ d _ _ h => by cases d <;> exact h) (Fr.refl _) (fun _ _ _ => Fr.trans) ?_
        replace hbl : Blk w5.drew gl [vk, vv, .bool true].toArray 45 := hbl
        replace ho := own_fr ho ((Fr.refl (fun _ => False) w5).drew) (fun _ _ h => h)
        replace hk := hk.drew
        replace hvv := hvv.drew
        replace f5 := f5.drew
        replace hs5 : B ≤ w5.drew.heap.size := hs5
        generalize w5.drew = w6 at *
        have c0 := hbl.cell 0
        simp only [List.getElem?_toArray, List.getElem?_cons_zero] at c0
        repeat (first | (refine wpF_f0 (fun K hK => ?_); go_simp; refine hK _ ?_; clear hK K) | (refine wpF_load1 rfl rfl rfl (by kernel_rfl) (by assumption) (by simp) (fun K hK => ?_); go_simp; refine hK _ ?_; clear hK K) | (refine wpF_str rfl rfl rfl (by assumption) (by simp) (by kernel_rfl) (by kernel_rfl) (fun K hK => ?_); go_simp; refine hK _ ?_; clear hK K))
        refine wpF_a2 (fun K hK => ?_); rw [if_pos (by rfl)]
        refine wp_value (exec_buildSlice (build1 1 _) rfl (by simp [Act.eval])) ?_
        have r1 := Rd.blk (n := 1) (c := 1) (l := [1]) (Blk.new w6 (bts [1]).toArray 5) rfl (by omega) (by simp [maxLen])
        have g1 : Fr (fun _ => False) w6 (w6.alloc (.cells (bts [1]).toArray 5)) := (Fr.refl _ w6).alloc _
        replace ho := own_fr ho g1 (fun _ _ h => h)
        replace hk := hk.fr g1 (fun _ _ _ h => h)
        replace hvv := hvv.fr g1 (fun _ _ _ h => h)
        replace hbl := hbl.fr g1 (fun h => h)
        replace f5 := f5.trans (g1.mono (fun _ _ h => h.elim))
        replace hs5 := Nat.le_trans hs5 g1.size
        go_simp
        generalize w6.alloc (.cells (bts [1]).toArray 5) = w7 at *
        refine hK _ _ (g1.mono (fun _ _ h => h.elim)) ?_
        clear hK K g1
        repeat (first | (refine wpF_f0 (fun K hK => ?_); go_simp; refine hK _ ?_; clear hK K) | (refine wpF_load1 rfl rfl rfl (by kernel_rfl) (by assumption) (by simp) (fun K hK => ?_); go_simp; refine hK _ ?_; clear hK K) | (refine wpF_str rfl rfl rfl (by assumption) (by simp) (by kernel_rfl) (by kernel_rfl) (fun K hK => ?_); go_simp; refine hK _ ?_; clear hK K))
        refine wpF_a2 (fun K hK => ?_); rw [if_pos (by rfl)]
        refine wp_appRd rfl Try.underlying22 infoByte rfl rfl rfl ho r1 (by simp; omega) hs5 (fun v8 w8 o8 g8 n8 => ?_)
        replace hk := hk.fr g8 (fun h k hk' e => by have := (ho.lt k e.symm).1; have := hkB h k hk'; omega)
        replace hvv := hvv.fr g8 (fun h k hk' e => by have := (ho.lt k e.symm).1; have := hvB h k hk'; omega)
        replace f5 := f5.step g8 (fun i _ e => (ho.lt i e.symm).1)
        replace hs5 := Nat.le_trans hs5 g8.size
        have g8' : Fr (fun k => k ≠ gl) w7 w8 := g8.mono (fun k _ e h => own_blk_ne ho hbl (by decide) (by rw [← h]; exact e))
        go_simp
        refine hK _ _ g8' ?_
        clear hK K g8 n8 g8' hbl
        repeat (first | (refine wpF_f0 (fun K hK => ?_); go_simp; refine hK _ ?_; clear hK K) | (refine wpF_load1 rfl rfl rfl (by kernel_rfl) (by assumption) (by simp) (fun K hK => ?_); go_simp; refine hK _ ?_; clear hK K) | (refine wpF_str rfl rfl rfl (by assumption) (by simp) (by kernel_rfl) (by kernel_rfl) (fun K hK => ?_); go_simp; refine hK _ ?_; clear hK K))
        refine wpF_a3 (fun K hK => ?_); rw [if_pos (by rfl)]
        go_simp
        refine (text_any v8 vk (L ++ [1]) gk o8 (by omega) hk (by simp; omega) (by omega)).mono ?_
        rintro e w9 ⟨v9, rfl, o9, hb9⟩
        replace f5 := f5.trans (Fr.of_below hb9 _)
        have o9 := own_base o9 hs5
        refine hK _ _ ?_
        clear hK K
        repeat (first | (refine wpF_f0 (fun K hK => ?_); go_simp; refine hK _ ?_; clear hK K) | (refine wpF_load1 rfl rfl rfl (by kernel_rfl) (by assumption) (by simp) (fun K hK => ?_); go_simp; refine hK _ ?_; clear hK K) | (refine wpF_loadN rfl rfl rfl (by assumption) (by assumption) (by kernel_rfl) (by kernel_rfl) (by simp) (fun K hK => ?_); go_simp; refine hK _ ?_; clear hK K))
        refine wpF_nil ?_
        go_wp2_with fail
        go_roundw
        case rel =>
          have he : batchN ps (t + 1) = (L ++ [1]) ++ putN gk.length ++ gk := hst
          refine ⟨t + 1, by go_num, by omega, by rw [he]; exact o9, by rw [he]; simp only [List.length_append]; omega, ?_, f5⟩
          rw [he]
          have q1 : (putN gk.length).length ≤ 10 := putF_length 9 _
          have q2 : (putN gv.length).length ≤ 10 := putF_length 9 _
          simp only [List.length_append, List.length_cons, List.length_nil]
          omega
        case measure => simp [intOf]; omega
      | false =>
        go_upto_region 7 with fail
        refine wp_region_float (Fr (fun k => k ≠ gl)) [(0, 0), (3, 0), (4, 1), (6, 0), (7, 1), (1, 2), (2, 2), (5, 2), (8, 3), (9, 0)] _ (by kernel_rfl) (by kernel_rfl) (by simp only [List.map_cons, List.map_nil, Array.getD_eq_getD_getElem?, List.getElem?_toArray, List.getElem?_cons_succ, List.getElem?_cons_zero, Option.getD_some]; rfl) rfl (by kernel_rfl) (fun _ _ d _ _ h => by cases d <;> exact h) (Fr.refl _) (fun _ _ _ => Fr.trans) ?_
        replace hbl : Blk w5.drew gl [vk, vv, .bool false].toArray 45 := hbl
        replace ho := own_fr ho ((Fr.refl (fun _ => False) w5).drew) (fun _ _ h => h)
        replace hk := hk.drew
        replace hvv := hvv.drew
        replace f5 := f5.drew
        replace hs5 : B ≤ w5.drew.heap.size := hs5
        generalize w5.drew = w6 at *
        have c0 := hbl.cell 0
        simp only [List.getElem?_toArray, List.getElem?_cons_zero] at c0
        have c1 := hbl.cell 1
        simp only [List.getElem?_toArray, List.getElem?_cons_zero, List.getElem?_cons_succ] at c1
        repeat (first | (refine wpF_f0 (fun K hK => ?_); go_simp; refine hK _ ?_; clear hK K) | (refine wpF_load1 rfl rfl rfl (by kernel_rfl) (by assumption) (by simp) (fun K hK => ?_); go_simp; refine hK _ ?_; clear hK K) | (refine wpF_str rfl rfl rfl (by assumption) (by simp) (by kernel_rfl) (by kernel_rfl) (fun K hK => ?_); go_simp; refine hK _ ?_; clear hK K))
        refine wpF_a2 (fun K hK => ?_); rw [if_pos (by rfl)]
        refine wp_value (exec_buildSlice (build1 0 _) rfl (by simp [Act.eval])) ?_
        have r1 := Rd.blk (n := 1) (c := 1) (l := [0]) (Blk.new w6 (bts [0]).toArray 5) rfl (by omega) (by simp [maxLen])
        have g1 : Fr (fun _ => False) w6 (w6.alloc (.cells (bts [0]).toArray 5)) := (Fr.refl _ w6).alloc _
        replace ho := own_fr ho g1 (fun _ _ h => h)
        replace hk := hk.fr g1 (fun _ _ _ h => h)
        replace hvv := hvv.fr g1 (fun _ _ _ h => h)
        replace hbl := hbl.fr g1 (fun h => h)
        replace f5 := f5.trans (g1.mono (fun _ _ h => h.elim))
        replace hs5 := Nat.le_trans hs5 g1.size
        go_simp
        generalize w6.alloc (.cells (bts [0]).toArray 5) = w7 at *
        refine hK _ _ (g1.mono (fun _ _ h => h.elim)) ?_
        clear hK K g1
        repeat (first | (refine wpF_f0 (fun K hK => ?_); go_simp; refine hK _ ?_; clear hK K) | (refine wpF_load1 rfl rfl rfl (by kernel_rfl) (by assumption) (by simp) (fun K hK => ?_); go_simp; refine hK _ ?_; clear hK K) | (refine wpF_str rfl rfl rfl (by assumption) (by simp) (by kernel_rfl) (by kernel_rfl) (fun K hK => ?_); go_simp; refine hK _ ?_; clear hK K))
        refine wpF_a2 (fun K hK => ?_); rw [if_pos (by rfl)]
        refine wp_appRd rfl Try.underlying22 infoByte rfl rfl rfl ho r1 (by simp; omega) hs5 (fun v8 w8 o8 g8 n8 => ?_)
        replace hk := hk.fr g8 (fun h k hk' e => by have := (ho.lt k e.symm).1; have := hkB h k hk'; omega)
        replace hvv := hvv.fr g8 (fun h k hk' e => by have := (ho.lt k e.symm).1; have := hvB h k hk'; omega)
        replace f5 := f5.step g8 (fun i _ e => (ho.lt i e.symm).1)
        replace hs5 := Nat.le_trans hs5 g8.size
        have g8' : Fr (fun k => k ≠ gl) w7 w8 := g8.mono (fun k _ e h => own_blk_ne ho hbl (by decide) (by rw [← h]; exact e))
        go_simp
        refine hK _ _ g8' ?_
        clear hK K g8 n8 g8' hbl
        repeat (first | (refine wpF_f0 (fun K hK => ?_); go_simp; refine hK _ ?_; clear hK K) | (refine wpF_load1 rfl rfl rfl (by kernel_rfl) (by assumption) (by simp) (fun K hK => ?_); go_simp; refine hK _ ?_; clear hK K) | (refine wpF_str rfl rfl rfl (by assumption) (by simp) (by kernel_rfl) (by kernel_rfl) (fun K hK => ?_); go_simp; refine hK _ ?_; clear hK K))
        refine wpF_a2 (fun K hK => ?_); rw [if_pos (by rfl)]
        go_simp
        refine (text_any v8 vk (L ++ [0]) gk o8 (by omega) hk (by simp; omega) (by omega)).mono ?_
        rintro e w9 ⟨v9, rfl, o9, hb9⟩
        replace hvv := hvv.below hb9
        replace f5 := f5.trans (Fr.of_below hb9 _)
        have hs9 := Nat.le_trans hs5 hb9.size
        refine hK _ _ (Fr.of_below hb9 _) ?_
        clear hK K
        repeat (first | (refine wpF_f0 (fun K hK => ?_); go_simp; refine hK _ ?_; clear hK K) | (refine wpF_load1 rfl rfl rfl (by kernel_rfl) (by assumption) (by simp) (fun K hK => ?_); go_simp; refine hK _ ?_; clear hK K) | (refine wpF_loadN rfl rfl rfl (by assumption) (by assumption) (by kernel_rfl) (by kernel_rfl) (by simp) (fun K hK => ?_); go_simp; refine hK _ ?_; clear hK K))
        have q1 : (putN gk.length).length ≤ 10 := putF_length 9 _
        refine wpF_a3 (fun K hK => ?_); rw [if_pos (by rfl)]
        go_simp
        refine (text_any v9 vv _ gv o9 (by simp only [List.length_append]; omega) hvv (by simp only [List.length_append, List.length_cons, List.length_nil]; omega) (by omega)).mono ?_
        rintro e w10 ⟨v10, rfl, o10, hb10⟩
        replace f5 := f5.trans (Fr.of_below hb10 _)
        have o10 := own_base o10 hs9
        refine hK _ _ ?_
        clear hK K
        repeat (first | (refine wpF_f0 (fun K hK => ?_); go_simp; refine hK _ ?_; clear hK K) | (refine wpF_load1 rfl rfl rfl (by kernel_rfl) (by assumption) (by simp) (fun K hK => ?_); go_simp; refine hK _ ?_; clear hK K) | (refine wpF_loadN rfl rfl rfl (by assumption) (by assumption) (by kernel_rfl) (by kernel_rfl) (by simp) (fun K hK => ?_); go_simp; refine hK _ ?_; clear hK K))
        refine wpF_nil ?_
        go_wp2_with fail
        go_roundw
        case rel =>
          have he : batchN ps (t + 1) = ((L ++ [0]) ++ putN gk.length ++ gk) ++ putN gv.length ++ gv := hst
          refine ⟨t + 1, by go_num, by omega, by rw [he]; exact o10, by rw [he]; simp only [List.length_append]; omega, ?_, f5⟩
          rw [he]
          have q2 : (putN gv.length).length ≤ 10 := putF_length 9 _
          simp only [List.length_append, List.length_cons, List.length_nil]
          omega
        case measure => simp [intOf]; omega
    · obtain rfl : t = n := by omega
      go_wp2_with fail
      go_ret
      exact ⟨_, _, rfl, by rw [HB.out]; exact ho, by rw [HB.out]; exact f.below (by rw [HB.out]; exact Nat.le_refl _) (fun i h1 h2 => by omega)⟩
end Go.Proofs.Ytdhllelldlkdfaa
