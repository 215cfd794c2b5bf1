/- awake. -/
import Derived.Test.YtkndmmgmoafffaaDoorKey12
import Derived.Lib.SlBytesConst
namespace Go.Proofs.YtkndmmgmoafffaaDoor
open Go.RowKit

theorem rd_rowF {w : World} {g n c : Nat} {cs : Array Value} {t : TypeId} {fz : Nat × Nat} {l : List UInt8} (h : w.heap[g]? = some (.cells cs t fz)) (hl : cs = (bts l).toArray) (hn : l.length = n) (hc : n ≤ c) (hm : n ≤ maxLen) : Rd w (.slice (some ⟨g, 0, none⟩) n c) l := by
  subst hl hn
  refine ⟨hm, .inr ⟨g, 0, c, rfl, hc, fun j v hv => ?_⟩⟩
  rw [cell_of_row w g _ _ t fz h, Nat.zero_add]
  simpa using hv
theorem rdl_new {w : World} {vals : List Value} {ps : List (List UInt8)} {T : TypeId} (hl : vals.length = ps.length) (hm : ps.length ≤ maxLen) (h : ∀ j, j < ps.length → Rd w (vals.getD j undef) (ps.getD j [])) {n : Nat} (hn : ps.length = n) :
    RdL (w.alloc (.cells vals.toArray T)) (.slice (some ⟨w.heap.size, 0, none⟩) n n) ps := by
  refine ⟨_, n, n, rfl, hn, by omega, fun j hj => ?_⟩
  refine ⟨w.heap.size, 0, vals[j]'(by omega), rfl, ?_, ?_⟩
  · rw [(Blk.new w vals.toArray T).cell]
    simp [hl, hj]
  · have := h j hj
    rw [List.getD_eq_getElem?_getD, List.getElem?_eq_getElem (by omega), List.getD_eq_getElem?_getD, List.getElem?_eq_getElem hj] at this
    exact this.below ((Below.refl _ w).alloc (Nat.le_refl _) _)
theorem build_row2 (A : Option Addr) (n c : Nat) (w : World) : (Instr.buildSlice 28 2 #[(0, .slice A n c), (1, .slice none 0 0)]).run Tryd.prog w = .ok (.slice (some ⟨w.heap.size, 0, none⟩) 2 2) (w.alloc (.cells #[.slice A n c, .slice none 0 0] 23)) := by kernel_rfl
theorem build_str1 (s : ByteArray) (w : World) : (Instr.buildSlice 26 1 #[(0, .string s)]).run Tryd.prog w = .ok (.slice (some ⟨w.heap.size, 0, none⟩) 1 1) (w.alloc (.cells #[.string s] 9)) := by kernel_rfl
theorem k1_facts : ∃ s, Hid (str (encK [[97], []]) = s) ∧ (s.toList == [97, 0, 1, 0, 1]) = true := ⟨_, Lib.hid rfl, by kernel_rfl⟩
theorem k2_facts : ∃ s, Hid (str (encK [[0]]) = s) ∧ (s.toList == [0, 255, 0, 1]) = true := ⟨_, Lib.hid rfl, by kernel_rfl⟩
theorem k3_facts : ∃ s, Hid (str (behN [97, 255]) = s) ∧ (s.toList == [98]) = true := ⟨_, Lib.hid rfl, by kernel_rfl⟩
theorem k4_facts : ∃ s, Hid (str (encK ([⟨#[97]⟩].map sb)) = s) ∧ (s.toList == [97, 0, 1]) = true := ⟨_, Lib.hid rfl, by kernel_rfl⟩

set_option maxHeartbeats 3000000 in
set_option maxRecDepth 100000 in
theorem awake_any (w : World) : Calls Tryd.prog 10 #[] w fun e w' => e = .returned (.bool true) ∧ Below w.heap.size w w' := by
  obtain ⟨s1, H1, q1⟩ := k1_facts
  obtain ⟨s2, H2, q2⟩ := k2_facts
  obtain ⟨s3, H3, q3⟩ := k3_facts
  obtain ⟨s4, H4, q4⟩ := k4_facts
  generalize hB0 : w.heap.size = B at *
  have HB := Lib.hid hB0
  have ra := rd_rowF (n := 1) (c := 1) (l := [97]) (heap_alloc_new w (.cells #[.int .u8 97] 5 (1, 1 + 1))) rfl rfl (by omega) (by simp [maxLen])
  have hB := (Below.refl w.heap.size w).alloc (Nat.le_refl _) (.cells #[.int .u8 97] 5 (1, 1 + 1))
  have hcv := Lib.run_convert_bytes_const (P := Tryd.prog) w 23 5 #[.int .u8 97] 1 1 Tryd.underlying23 Tryd.underlying5
  have hs := hB.size
  rw [hB0] at hs hB ra hcv
  generalize w.alloc (.cells #[.int .u8 97] 5 (1, 1 + 1)) = w1 at *
  have f2 := (Below.refl w1.heap.size w1).alloc (Nat.le_refl _) (.cells #[.slice (some ⟨B, 0, none⟩) 1 1, .slice none 0 0] 23)
  have r2 := rdl_new (w := w1) (vals := [.slice (some ⟨B, 0, none⟩) 1 1, .slice none 0 0]) (ps := [[97], []]) (T := 23) rfl (by simp [maxLen]) (fun j hj => by
    match j, hj with
    | 0, _ => exact ra
    | 1, _ => exact Rd.nil w1) (n := 2) rfl
  replace hB := hB.trans (f2.mono hs)
  replace hs := Nat.le_trans hs f2.size
  go_enter Tryd.func10, Tryd.ntmps10
  go_wp2_with (first
    | (refine wpList_valueg rfl (exec_convert rfl rfl hcv) ?_)
    | (refine wpList_valueg rfl (exec_buildSlice (build_row2 (some ⟨B, 0, none⟩) 1 1 w1) rfl (by simp [Act.eval, Act.put])) ?_))
  clear f2 ra hcv
  refine (encode_any _ [[97], []] r2 (by simp) (by decide)).mono ?_
  rintro e w2 ⟨v2, rfl, o2, hb2⟩
  skip; skip; skip; replace hB := hB.trans (hb2.mono hs); replace hs := Nat.le_trans hs hb2.size
  have ro := Rd.of_own o2
  clear o2 hb2 r2
  have r3 := rd_new1 0 w2
  have f3 := (Below.refl w2.heap.size w2).alloc (Nat.le_refl _) (.cells (bts [0]).toArray 5)
  replace hB := hB.trans (f3.mono hs)
  replace hs := Nat.le_trans hs f3.size
  go_simp
  refine (‹∀ (a : Act) (w : World), wpList _ _ _ _ a w → _›) _ _ ?_
  refine wpList_strg rfl rfl rfl ro (by kernel_rfl) (by kernel_rfl) ?_
  rw [H1.out]
  generalize hg3 : w2.heap.size = g3 at *
  generalize hw3 : w2.alloc (.cells (bts [0]).toArray 5) = w3 at *
  have f4 := (Below.refl w3.heap.size w3).alloc (Nat.le_refl _) (.cells #[.slice (some ⟨g3, 0, none⟩) 1 1] 23)
  have r4 := rdl_new (w := w3) (vals := [.slice (some ⟨g3, 0, none⟩) 1 1]) (ps := [[0]]) (T := 23) rfl (by simp [maxLen]) (fun j hj => by
    match j, hj with
    | 0, _ => exact r3) (n := 1) rfl
  replace hB := hB.trans (f4.mono hs)
  replace hs := Nat.le_trans hs f4.size
  have HG3 := Lib.hid hg3
  have HW3 := Lib.hid hw3
  clear hg3 hw3
  go_wp2_with (first
    | (refine wpList_valueg rfl (exec_buildSlice (build1 0 _) rfl (by first | rfl | simp [Act.eval, Act.put])) ?_; rw [HG3.out, HW3.out])
    | (refine wpList_valueg rfl (exec_buildSlice (build_row (some ⟨g3, 0, none⟩) 1 1 w3) rfl (by simp [Act.eval, Act.put])) ?_))
  clear f4 r3 ro
  refine (encode_any _ [[0]] r4 (by simp) (by decide)).mono ?_
  rintro e w5 ⟨v5, rfl, o5, hb5⟩
  skip; skip; skip; replace hB := hB.trans (hb5.mono hs); replace hs := Nat.le_trans hs hb5.size
  have ro := Rd.of_own o5
  clear o5 hb5 r4
  have r6 := rd_new2 97 255 w5
  have f6 := (Below.refl w5.heap.size w5).alloc (Nat.le_refl _) (.cells (bts [97, 255]).toArray 5)
  replace hB := hB.trans (f6.mono hs)
  replace hs := Nat.le_trans hs f6.size
  go_simp
  refine (‹∀ (a : Act) (w : World), wpList _ _ _ _ a w → _›) _ _ ?_
  refine wpList_strg rfl rfl rfl ro (by kernel_rfl) (by kernel_rfl) ?_
  rw [H2.out]
  generalize hg6 : w5.heap.size = g6 at *
  generalize hw6 : w5.alloc (.cells (bts [97, 255]).toArray 5) = w6 at *
  have HG6 := Lib.hid hg6
  have HW6 := Lib.hid hw6
  clear hg6 hw6 f6
  go_wp2_with (refine wpList_valueg rfl (exec_buildSlice (build2 97 255 _) rfl (by first | rfl | simp [Act.eval, Act.put])) ?_; rw [HG6.out, HW6.out])
  refine (behind_any _ [97, 255] r6 (fun n c e => by cases e) (by decide)).mono ?_
  rintro e w7 ⟨v7, rfl, o7, hb7⟩
  skip; skip; skip; replace hB := hB.trans (hb7.mono hs); replace hs := Nat.le_trans hs hb7.size
  have ro7 := Rd.of_own o7
  clear o7 hb7 r6 ro
  have b8 := Blk.new w7 #[.string ⟨#[97]⟩] 9
  have f8 := (Below.refl w7.heap.size w7).alloc (Nat.le_refl _) (.cells #[.string ⟨#[97]⟩] 9)
  have r8 : RdS (w7.alloc (.cells #[.string ⟨#[97]⟩] 9)) (.slice (some ⟨w7.heap.size, 0, none⟩) 1 1) [⟨#[97]⟩] := ⟨_, 1, 1, rfl, rfl, by simp [maxLen], fun j hj => by
    match j, hj with
    | 0, _ => exact ⟨_, 0, rfl, b8.cell 0⟩⟩
  replace hB := hB.trans (f8.mono hs)
  replace hs := Nat.le_trans hs f8.size
  go_simp
  refine (‹∀ (a : Act) (w : World), wpList _ _ _ _ a w → _›) _ _ ?_
  refine wpList_strg rfl rfl rfl ro7 (by kernel_rfl) (by kernel_rfl) ?_
  rw [H3.out]
  clear f8 b8
  go_wp2_with (refine wpList_valueg rfl (exec_buildSlice (build_str1 ⟨#[97]⟩ _) rfl (by first | rfl | simp [Act.eval, Act.put])) ?_)
  refine (texts_any _ [⟨#[97]⟩] r8 (fun s hs => by rw [List.mem_singleton.1 hs]; decide) (by decide) (by simp)).mono ?_
  rintro e w9 ⟨v9, rfl, o9, hb9⟩
  skip; skip; skip; replace hB := hB.trans (hb9.mono hs); replace hs := Nat.le_trans hs hb9.size
  have ro9 := Rd.of_own o9
  clear o9 hb9 r8
  go_simp
  refine (‹∀ (a : Act) (w : World), wpList _ _ _ _ a w → _›) _ _ ?_
  refine wpList_strg rfl rfl rfl ro9 (by kernel_rfl) (by kernel_rfl) ?_
  rw [H4.out]
  go_wp2_with fail
  go_ret
  exact ⟨rfl, hB⟩
end Go.Proofs.YtkndmmgmoafffaaDoor
