/- frame's reader: must, many, take. -/
import Derived.Test.YtdhllelldlkdfaaFrame13
import Derived.Defers
import Derived.Recover
namespace Go.Proofs.Ytdhllelldlkdfaa
open Go.RowKit

/-- What the reader gives up with. -/
def broke : List PanicEntry := [{ v := .iface 57 (.agg #[]), recovered := false }]
theorem must_ok (w : World) : Calls Try.prog 41 #[.bool true] w fun e w' => e = .returned (.tuple #[]) ∧ w' = w := by
  go_enter Try.func41, Try.ntmps41
  go_wp2_with fail
  go_end0
  exact ⟨rfl, rfl⟩
theorem must_bad (w : World) : Calls Try.prog 41 #[.bool false] w fun e w' => e = .panicked broke ∧ w' = w := by
  go_enter Try.func41, Try.ntmps41
  go_wp2_with fail
  exact ⟨rfl, rfl, rfl⟩

def manyN (b : List UInt8) : Option (Nat × List UInt8) := if 0 < (getN b).2 ∧ (getN b).1 ≤ b.length - (getN b).2 then some ((getN b).1, b.drop (getN b).2) else none
theorem getN_le (b : List UInt8) : (getN b).2 ≤ b.length ∧ (getN b).1 < 128 ^ 9 := by
  by_cases h : 0 < (getN b).2
  · have := getN_spec b h
    exact ⟨this.2.1, this.2.2.1⟩
  · have h0 : (getN b).2 = 0 := by omega
    rw [getN_zero b h0, h0]
    exact ⟨Nat.zero_le _, by decide⟩
/-- The reader's block: what is left. -/
def RdR0 (B0 : Nat) (w : World) (rp : Nat) (b : List UInt8) : Prop := ∃ v, Blk w rp #[v] 61 ∧ Rd w v b ∧ (b ≠ [] → ∀ k, v.ownBlock = some k → k < B0) ∧ B0 ≤ rp
def RdR (B0 : Nat) (w : World) (rp : Nat) (b : List UInt8) : Prop := ∃ v, Blk w rp #[v] 61 ∧ Rd w v b ∧ (b ≠ [] → ∀ k, v.ownBlock = some k → k < B0) ∧ B0 ≤ rp ∧ NotNil v
theorem RdR.to0 {B0 : Nat} {w : World} {rp : Nat} {b : List UInt8} (h : RdR B0 w rp b) : RdR0 B0 w rp b := by
  obtain ⟨v, h1, h2, h3, h4, -⟩ := h
  exact ⟨v, h1, h2, h3, h4⟩
set_option maxHeartbeats 1000000 in
theorem many_ok {B0 : Nat} {w : World} {rp : Nat} {b r : List UInt8} {n : Nat} (h : RdR0 B0 w rp b) (hn : manyN b = some (n, r)) :
    Calls Try.prog 39 #[.pointer (some ⟨rp, 0, none⟩)] w fun e w' => e = .returned (.int .i64 n) ∧ RdR B0 w' rp r ∧ Fr (fun k => k = rp) w w' := by
  obtain ⟨v, hb, hv, ho', hB0⟩ := h
  have ho : b ≠ [] → ∀ k, v.ownBlock = some k → k ≠ rp := fun h k hk e => by have := ho' h k hk; omega
  obtain ⟨A, c, rfl⟩ := hv.slice
  have hm := hv.max
  unfold manyN at hn
  split at hn
  rotate_left
  · cases hn
  rename_i hk
  obtain ⟨hg1, hg2⟩ := getN_le b
  have hnn := Rd.notNil hv (by omega)
  simp only [Option.some.injEq, Prod.mk.injEq] at hn
  obtain ⟨hn1, hn2⟩ := hn
  have hc := get_any _ b hv
  have h1 : (getN b).1 < 9223372036854775808 := by have : (128 : Nat) ^ 9 = 9223372036854775808 := by decide
                                                   omega
  obtain ⟨hk1, hk2⟩ := hk
  have HC := Lib.hid hc
  have HR := Lib.hid hn2
  clear hc hn2
  generalize (getN b).1 = x at *
  generalize (getN b).2 = k at *
  subst hn1
  have c0 := hb.cell 0
  simp only [List.getElem?_toArray, List.getElem?_cons_zero] at c0
  have f0 := hb.frozen 0
  have hd1 : decide (x ≤ b.length - k) = true := decide_eq_true hk2
  have hi1 : (x : Int) ≤ (b.length : Int) - (k : Int) := by omega
  have hi2 : (0 : Int) < (k : Int) := by omega
  have hl2 : (b.drop k).length = b.length - k := List.length_drop
  clear h1 hg2
  go_enter Try.func39, Try.ntmps39
  go_wp2_with (first
    | (go_at_call 32; refine HC.out.mono ?_; rintro e w1 ⟨rfl, rfl⟩)
    | (go_at_call 41; refine (must_ok _).mono ?_; rintro e w1 ⟨rfl, rfl⟩)
    | (refine wpList_rd_l rfl rfl rfl rfl hv rfl hg1 Try.underlying22 infoByte1 (fun v2 r2 o2 n2 => ?_); obtain ⟨A2, c2, rfl⟩ := r2.slice; rw [hl2] at r2 o2 n2))
  go_ret
  have f : Fr (fun j => j = rp) w1 (w1.setCell ⟨rp, 0, none⟩ (.slice A2 (b.length - k) c2)) := (Fr.refl (fun j => j = rp) w1).setCell (p := ⟨rp, 0, none⟩) (fun _ => rfl) _
  refine ⟨rfl, ⟨.slice A2 (b.length - k) c2, hb.set 0 _, ?_, fun _ j hj => ho' (by intro e; subst e; simp at hg1; omega) j (o2 ▸ hj), hB0, n2 hnn⟩, f⟩
  rw [← HR.out]
  exact r2.fr f (fun _ j hj e => ho (by intro e; subst e; simp at hg1; omega) j (o2 ▸ hj) e)
set_option maxHeartbeats 1000000 in
theorem many_bad {B0 : Nat} {w : World} {rp : Nat} {b : List UInt8} (h : RdR0 B0 w rp b) (hn : manyN b = none) :
    Calls Try.prog 39 #[.pointer (some ⟨rp, 0, none⟩)] w fun e w' => e = .panicked broke ∧ w' = w := by
  obtain ⟨v, hb, hv, ho', hB0⟩ := h
  have ho : b ≠ [] → ∀ k, v.ownBlock = some k → k ≠ rp := fun h k hk e => by have := ho' h k hk; omega
  obtain ⟨A, c, rfl⟩ := hv.slice
  have hm := hv.max
  unfold manyN at hn
  split at hn
  · cases hn
  rename_i hk
  obtain ⟨hg1, hg2⟩ := getN_le b
  have hc := get_any _ b hv
  have h1 : (getN b).1 < 9223372036854775808 := by have : (128 : Nat) ^ 9 = 9223372036854775808 := by decide
                                                   omega
  have HC := Lib.hid hc
  have c0 := hb.cell 0
  simp only [List.getElem?_toArray, List.getElem?_cons_zero] at c0
  clear hc hb ho ho' hB0 hg2 hn hv
  generalize (getN b).1 = x at *
  generalize (getN b).2 = k at *
  by_cases h0 : 0 < k
  · have hk2 : ¬ x ≤ b.length - k := fun h => hk ⟨h0, h⟩
    have hi1 : decide ((x : Int) ≤ (b.length : Int) - (k : Int)) = false := decide_eq_false (by omega)
    have hi2 : (0 : Int) < (k : Int) := by omega
    clear h1 hk2 hk
    go_enter Try.func39, Try.ntmps39
    go_wp2_with (first
      | (go_at_call 32; refine HC.out.mono ?_; rintro e w1 ⟨rfl, rfl⟩)
      | (go_at_call 41; refine (must_bad _).mono ?_; rintro e w1 ⟨rfl, rfl⟩))
    exact ⟨rfl, rfl, rfl⟩
  · have hi2 : decide ((0 : Int) < (k : Int)) = false := decide_eq_false (by omega)
    clear h1 hk
    go_enter Try.func39, Try.ntmps39
    go_wp2_with (first
      | (go_at_call 32; refine HC.out.mono ?_; rintro e w1 ⟨rfl, rfl⟩)
      | (go_at_call 41; refine (must_bad _).mono ?_; rintro e w1 ⟨rfl, rfl⟩))
    exact ⟨rfl, rfl, rfl⟩
set_option maxHeartbeats 1000000 in
theorem take_ok {B0 : Nat} {w : World} {rp n : Nat} {b : List UInt8} (h : RdR B0 w rp b) (hn : n ≤ b.length) (hm : b.length < 2 ^ 30) :
    Calls Try.prog 47 #[.pointer (some ⟨rp, 0, none⟩), .int .i64 n] w fun e w' => ∃ v, e = .returned v ∧ w'.ownsRow w.heap.size 5 1 v n (bts (b.take n)) ∧ RdR B0 w' rp (b.drop n) ∧ Fr (fun k => k = rp) w w' := by
  obtain ⟨v, hb, hv, ho', hB0, hz⟩ := h
  have ho : b ≠ [] → ∀ k, v.ownBlock = some k → k ≠ rp := fun h k hk e => by have := ho' h k hk; omega
  obtain ⟨A, c, rfl⟩ := hv.slice
  have hni : (n : Int) ≤ (b.length : Int) := by omega
  have c0 := hb.cell 0
  simp only [List.getElem?_toArray, List.getElem?_cons_zero] at c0
  have f0 := hb.frozen 0
  generalize hBq : w.heap.size = B
  have HB := Lib.hid hBq
  clear hBq
  have hl : (b.take n).length = n := by rw [List.length_take]; omega
  have hl2 : (b.drop n).length = b.length - n := List.length_drop
  go_enter Try.func47, Try.ntmps47
  go_wp2_with (first
    | (go_at_call 41; refine (must_ok _).mono ?_; rintro e w1 ⟨rfl, rfl⟩)
    | (refine wpList_rd_h rfl rfl rfl rfl hv rfl hn Try.underlying22 infoByte1 (fun v2 r2 o2 n2 => ?_); obtain ⟨A2, c2, rfl⟩ := r2.slice; rw [hl] at r2 o2 n2))
  refine (clone_any _ _ r2 (n2 hz).pair (by rw [hl]; omega)).mono ?_
  rintro e w2 ⟨v2, rfl, ow, hb2⟩
  rw [hl, HB.out] at ow
  replace hv := hv.below hb2
  have f2 := Fr.of_below hb2 (fun j => j = rp)
  replace hb := hb.fr (Fr.of_below hb2 (fun _ => False)) (fun h => h)
  replace c0 := (Fr.of_below hb2 (fun _ => False)).cell c0 (fun h => h)
  replace f0 := hb.frozen 0
  obtain ⟨A3, c3, rfl⟩ := own_form ow
  clear r2 o2 n2 hb2
  go_wp2_with (refine wpList_rd_l rfl rfl rfl rfl hv rfl hn Try.underlying22 infoByte1 (fun v4 r4 o4 n4 => ?_); obtain ⟨A4, c4, rfl⟩ := r4.slice; rw [hl2] at r4 o4 n4)
  go_ret
  have f : Fr (fun j => j = rp) w2 (w2.setCell ⟨rp, 0, none⟩ (.slice A4 (b.length - n) c4)) := (Fr.refl (fun j => j = rp) w2).setCell (p := ⟨rp, 0, none⟩) (fun _ => rfl) _
  refine ⟨_, rfl, own_set ow hb (by decide) 0 _, ⟨_, hb.set 0 _, ?_, ?_, hB0, n4 hz⟩, f2.step f (fun _ _ e => e)⟩
  · refine r4.fr f (fun hne j hj e => ho ?_ j (o4 ▸ hj) e)
    intro e'; subst e'; simp at hne
  · intro hne j hj
    refine ho' ?_ j (o4 ▸ hj)
    intro e'; subst e'; simp at hne
theorem take_bad {B0 : Nat} {w : World} {rp n : Nat} {b : List UInt8} (h : RdR B0 w rp b) (hn : b.length < n) (_hm : n < 2 ^ 63) :
    Calls Try.prog 47 #[.pointer (some ⟨rp, 0, none⟩), .int .i64 n] w fun e w' => e = .panicked broke ∧ w' = w := by
  obtain ⟨v, hb, hv, ho', hB0, hz⟩ := h
  have ho : b ≠ [] → ∀ k, v.ownBlock = some k → k ≠ rp := fun h k hk e => by have := ho' h k hk; omega
  obtain ⟨A, c, rfl⟩ := hv.slice
  have hni : decide ((n : Int) ≤ (b.length : Int)) = false := decide_eq_false (by omega)
  have hnn : decide (n ≤ b.length) = false := decide_eq_false (by omega)
  have c0 := hb.cell 0
  simp only [List.getElem?_toArray, List.getElem?_cons_zero] at c0
  clear hb hv ho ho' hB0 hz
  go_enter Try.func47, Try.ntmps47
  go_wp2_with (go_at_call 41; refine (must_bad _).mono ?_; rintro e w1 ⟨rfl, rfl⟩)
  exact ⟨rfl, rfl, rfl⟩
end Go.Proofs.Ytdhllelldlkdfaa
