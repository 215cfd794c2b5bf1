/- Sync, Crash, and what is small. -/
import Derived.Test.YthglnbkfmmchnaaDisk3
import Derived.BigQuiet
import Derived.Lib.Hide
namespace Go.Proofs.Ythglnbkfmmchnaa.Dsk
open Go.RowKit
set_option maxRecDepth 100000

def pickB (picks : List Int) (k : Nat) : Bool := decide (0 < picks.length) && (picks.getD (k % picks.length) 0) % 2 == 1

set_option maxHeartbeats 400000 in
theorem sync1_any (k : Nat) (w : World) : Calls Try.prog 78 #[.int .i64 k] w fun e w' => e = .returned (.bool true) ∧ Below w.heap.size w w' := by
  go_enter Try.func78, Try.ntmps78
  go_wp2
  go_ret
  exact ⟨rfl, Below.refl _ _⟩

set_option maxHeartbeats 400000 in
theorem crash1_any (k pb : Nat) (hk : k < 2 ^ 30) (picks : List Int) (v : Value) (w : World) (hb : Blk w pb #[v] 37) (hp : RdI w v picks) :
    Calls Try.prog 39 #[.int .i64 k, .pointer (some ⟨pb, 0, none⟩)] w fun e w' => e = .returned (.bool (pickB picks k)) ∧ Below w.heap.size w w' := by
  obtain ⟨A, c, rfl⟩ := hp.slice
  have hc : w.cell? ⟨pb, 0, none⟩ = some (.slice A picks.length c) := hb.cell 0
  have hml := hp.max
  have hk2 : (k : Int) < 2 ^ 30 := by omega
  have hk0 : (0 : Int) ≤ (k : Int) := by omega
  by_cases h0 : 0 < picks.length
  · have hd : (0 : Int) < (picks.length : Int) := by omega
    have hj : k % picks.length < picks.length := Nat.mod_lt _ h0
    obtain ⟨b, o, rfl, hz⟩ := hp.at hj
    have hm1 : (k : Int).tmod (picks.length : Int) = ((k % picks.length : Nat) : Int) := by rw [Int.tmod_eq_emod_of_nonneg hk0]; rfl
    have hz1 : w.cell? ⟨b, o + k % picks.length, none⟩ = some (.int .i64 picks[k % picks.length]) := hz
    have hm2 : ((k % picks.length : Nat) : Int) < (picks.length : Int) := by omega
    generalize hkk : k % picks.length = kk at *
    have HK := Lib.hid hkk
    clear hkk
    have hne : ¬ picks = [] := by intro e; rw [e] at h0; simp at h0
    have hq0 : (0 : Int) ≤ (kk : Int) := by omega
    go_enter Try.func39, Try.ntmps39
    go_wp2
    refine wp_region_float (Fr (fun _ => False)) [(0, 1), (1, 0), (2, 0), (3, 0), (4, 1), (5, 0), (6, 1), (7, 0), (8, 0), (9, 0), (10, 1), (11, 0), (12, 0), (13, 0), (14, 0)] _ (by kernel_rfl) (by kernel_rfl) (by simp only [List.map_cons, List.map_nil, Array.getD_eq_getD_getElem?, List.getElem?_toArray, List.getElem?_cons_succ, List.getElem?_cons_zero, Option.getD_some]; rfl) rfl (by kernel_rfl) (fun _ _ d _ _ h => by cases d <;> exact h) (Fr.refl _) (fun _ _ _ => Fr.trans) ?_
    have y0 : w.drew.cell? ⟨pb, 0, none⟩ = some (.slice (some ⟨b, o, none⟩) picks.length c) := hc
    have y1 : w.drew.cell? ⟨b, o + kk, none⟩ = some (.int .i64 picks[kk]) := hz1
    have hbel : Below w.heap.size w w.drew := (Below.refl _ _).drew
    clear hc hz1 hb hp
    generalize w.drew = w1 at *
    repeat (first | (refine wpF_f0 (fun K hK => ?_); go_simp; refine hK _ ?_; clear hK K) | (refine wpF_load1 rfl rfl rfl (by kernel_rfl) (by assumption) (by simp) (fun K hK => ?_); go_simp; refine hK _ ?_; clear hK K) | (refine wpF_loadN rfl rfl rfl (by assumption) (by assumption) (by kernel_rfl) (by kernel_rfl) (by simp) (fun K hK => ?_); go_simp; refine hK _ ?_; clear hK K))
    refine wpF_nil ?_
    go_wp2
    go_ret
    refine ⟨?_, hbel⟩
    rw [i64_and1, pickB, HK.out, List.getD_eq_getElem?_getD, List.getElem?_eq_getElem hj]
    simp [h0]
  · have hd : decide ((0 : Int) < (picks.length : Int)) = false := decide_eq_false (by omega)
    go_enter Try.func39, Try.ntmps39
    go_wp2
    go_quiet (fail)
    go_wp2
    go_ret
    refine ⟨?_, Below.drewN_k (Below.refl _ _) _⟩
    simp [pickB, h0]

/-! ### The disk -/
structure DiskAt (w : World) (p kb : Nat) (mv : Value) (D : DSt) : Prop where
  blk : Blk w p (dcells kb D.kept.length mv D.out D.armed D.left D.calls) 68
  kept : Blk w kb (kcells D.kept).toArray 81
  mem : w.ownsRow 0 95 65 mv D.mem.length (mcells D.mem)
  len : ∀ b ∈ D.kept, b.length = 64
  idx : ∀ x ∈ D.mem, x.1 < D.kept.length ∧ x.2.length = 64
  few : D.kept.length ≤ 4096
/-- The blocks of a disk. -/
def dk (p kb : Nat) (mv : Value) (k : Nat) : Prop := k = p ∨ k = kb ∨ some k = mv.ownBlock
theorem DiskAt.fr {w w' : World} {p kb : Nat} {mv : Value} {D : DSt} {T : Nat → Prop} (h : DiskAt w p kb mv D) (f : Fr T w w') (ht : ∀ k, dk p kb mv k → ¬ T k) : DiskAt w' p kb mv D :=
  ⟨h.blk.fr f (ht _ (.inl rfl)), h.kept.fr f (ht _ (.inr (.inl rfl))), own_fr h.mem f (fun k hk => ht k (.inr (.inr hk.symm))), h.len, h.idx, h.few⟩
theorem DiskAt.below {w w' : World} {p kb : Nat} {mv : Value} {D : DSt} (h : DiskAt w p kb mv D) (f : Below w.heap.size w w') : DiskAt w' p kb mv D := h.fr (T := fun _ => False) (Fr.of_below f _) (fun _ _ h => h)
theorem DiskAt.lt {w : World} {p kb : Nat} {mv : Value} {D : DSt} (h : DiskAt w p kb mv D) : ∀ k, dk p kb mv k → k < w.heap.size := by
  rintro k (rfl | rfl | hk)
  · exact h.blk.lt
  · exact h.kept.lt
  · exact (h.mem.lt k hk.symm).2

def DSt.syncd (D : DSt) : DSt := DSt.did { D with kept := keepN (fun _ => true) D.kept D.mem D.mem.length, mem := [] }
def DSt.crashed (D : DSt) (picks : List Int) : DSt := { D with kept := keepN (pickB picks) D.kept D.mem D.mem.length, mem := [], out := false, armed := false }
theorem DSt.keepN_ok {D : DSt} {w : World} {p kb : Nat} {mv : Value} (h : DiskAt w p kb mv D) (pk : Nat → Bool) : ∀ b ∈ keepN pk D.kept D.mem D.mem.length, b.length = 64 := keepN_len pk _ _ h.len (fun x hx => (h.idx x hx).2) _

set_option maxHeartbeats 1000000 in
theorem sync_any {w : World} {p kb : Nat} {mv : Value} {D : DSt} (h : DiskAt w p kb mv D) (hm : D.mem.length < 2 ^ 30) (ho : D.out = false) :
    Calls Try.prog 66 #[.pointer (some ⟨p, 0, none⟩)] w fun e w' => e = .returned (.int .i64 0) ∧ DiskAt w' p kb (.slice none 0 0) D.syncd ∧ Fr (dk p kb mv) w w' := by
  have hkeep := keep_sync (fun _ => true) h.blk h.kept h.mem h.len h.idx h.few hm (fun k wr _ _ => sync1_any k wr)
  obtain ⟨c0, c1, c2, c3, c4, c5, f0, f1, f2, f3, f4, f5⟩ := dcells_all h.blk
  rw [ho] at c2
  go_enter Try.func66, Try.ntmps66
  go_wp2_with (first
    | (go_at_call 38; refine hkeep.mono ?_; rintro e w1 ⟨rfl, hb1, hk1, hf1⟩; clear c0 c1 c2 c3 c4 c5 f0 f1 f2 f3 f4 f5)
    | (go_at_call 79; refine (did_any (D := ⟨keepN (fun _ => true) D.kept D.mem D.mem.length, [], D.out, D.armed, D.left, D.calls⟩) hb1).mono ?_; rintro e w2 ⟨rfl, hb2, hf2⟩))
  go_ret
  have ek : D.syncd.kept = keepN (fun _ => true) D.kept D.mem D.mem.length := by unfold DSt.syncd; rw [DSt.did_kept]
  have em : D.syncd.mem = [] := by unfold DSt.syncd; rw [DSt.did_mem]
  have el : D.syncd.kept.length = D.kept.length := by rw [ek, keepN_length]
  have hne : kb ≠ p := Ne.symm (h.blk.ne h.kept (by decide))
  refine ⟨rfl, ⟨by rw [el]; exact hb2, by rw [ek]; exact hk1.fr hf2 hne, by rw [em]; exact World.ownsRow_nil _ _ _ _, ?_, by rw [em]; simp, by rw [el]; exact h.few⟩, ?_⟩
  · rw [ek]; exact DSt.keepN_ok h _
  · exact (hf1.step hf2 (fun _ _ e => .inl e)).mono (fun k _ hk => by rcases hk with hk | hk; exact .inl hk; exact .inr (.inl hk))

theorem sync_down {w : World} {p kb : Nat} {mv : Value} {D : DSt} (h : DiskAt w p kb mv D) (ho : D.out = true) :
    Calls Try.prog 66 #[.pointer (some ⟨p, 0, none⟩)] w fun e w' => e = .returned (.int .i64 5) ∧ w' = w := by
  obtain ⟨c0, c1, c2, c3, c4, c5, f0, f1, f2, f3, f4, f5⟩ := dcells_all h.blk
  rw [ho] at c2
  go_enter Try.func66, Try.ntmps66
  go_wp2
  go_ret
  exact ⟨rfl, rfl⟩

set_option maxHeartbeats 1000000 in
theorem crash_any {w : World} {p kb : Nat} {mv : Value} {D : DSt} (h : DiskAt w p kb mv D) (hm : D.mem.length < 2 ^ 30) (v : Value) (picks : List Int) (hp : RdI w v picks) (hv : picks ≠ [] → ∀ k, v.ownBlock = some k → ¬ dk p kb mv k) :
    Calls Try.prog 19 #[.pointer (some ⟨p, 0, none⟩), v] w fun e w' => e = .returned (.tuple #[]) ∧ DiskAt w' p kb (.slice none 0 0) (D.crashed picks) ∧ Fr (dk p kb mv) w w' := by
  have hne : kb ≠ p := Ne.symm (h.blk.ne h.kept (by decide))
  obtain ⟨A, c, rfl⟩ := hp.slice
  have h1 := h.below ((Below.refl _ w).alloc (Nat.le_refl _) (.cells #[.slice A picks.length c] 37))
  have hp1 := hp.below ((Below.refl _ w).alloc (Nat.le_refl _) (.cells #[.slice A picks.length c] 37))
  have hn1 := Blk.new w #[.slice A picks.length c] 37
  have hf0 := (Fr.refl (dk p kb mv) w).alloc (.cells #[.slice A picks.length c] 37)
  have hkbn : kb ≠ w.heap.size := by have := h.kept.lt; omega
  have hkeep := keep_crash w.heap.size (pickB picks) h1.blk h1.kept h1.mem h1.len h1.idx h1.few hm (fun k wr hk hfr => crash1_any k w.heap.size (by omega) picks (.slice A picks.length c) wr (hn1.fr hfr (Ne.symm hkbn)) (hp1.fr hfr (fun hne k hk e => hv hne k hk (.inr (.inl e)))))
  go_enter Try.func19, Try.ntmps19
  go_wp2_with (go_at_call 38; refine hkeep.mono ?_; rintro e w1 ⟨rfl, hb1, hk1, hf1⟩; obtain ⟨c0, c1, c2, c3, c4, c5, f0, f1, f2, f3, f4, f5⟩ := dcells_all hb1; clear c0 c1 c4 c5 f0 f1 f4 f5)
  go_end0
  have ek : (D.crashed picks).kept.length = D.kept.length := keepN_length _ _ _ _
  refine ⟨rfl, ⟨by rw [ek]; exact (hb1.set 2 _).set 3 _, (hk1.far hne _).far hne _, World.ownsRow_nil _ _ _ _, DSt.keepN_ok h _, by simp [DSt.crashed], by rw [ek]; exact h.few⟩, ?_⟩
  refine Fr.setCell (Fr.setCell ?_ (by exact fun _ => .inl rfl) _) (by exact fun _ => .inl rfl) _
  exact hf0.step hf1 (fun k _ hk => by rcases hk with hk | hk; exact .inl hk; exact .inr (.inl hk))

end Go.Proofs.Ythglnbkfmmchnaa.Dsk
