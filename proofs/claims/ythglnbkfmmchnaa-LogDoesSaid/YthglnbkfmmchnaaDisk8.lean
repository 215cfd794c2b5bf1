/- The disk's contracts, in one form: S bounds the blocks that the disk has, or may get. -/
import Derived.Test.YthglnbkfmmchnaaDisk6
import Derived.Test.YthglnbkfmmchnaaDisk7
namespace Go.Proofs.Ythglnbkfmmchnaa.Dsk
open Go.RowKit
set_option maxRecDepth 100000

def DiskS (S : Nat → Prop) (w : World) (p : Nat) (D : DSt) : Prop := ∃ kb mv, DiskAt w p kb mv D ∧ ∀ k, dk p kb mv k → S k
theorem DiskS.fr {S T : Nat → Prop} {w w' : World} {p : Nat} {D : DSt} (h : DiskS S w p D) (f : Fr T w w') (ht : ∀ k, k < w.heap.size → S k → ¬ T k) : DiskS S w' p D := by
  obtain ⟨kb, mv, h, hs⟩ := h
  exact ⟨kb, mv, h.fr f (fun k hk => ht k (h.lt k hk) (hs k hk)), hs⟩
theorem DiskS.below {S : Nat → Prop} {w w' : World} {p : Nat} {D : DSt} (h : DiskS S w p D) (f : Below w.heap.size w w') : DiskS S w' p D := h.fr (T := fun _ => False) (Fr.of_below f _) (fun _ _ _ h => h)
/-- Blocks that came later are none of its. -/
theorem DiskS.but {S S' : Nat → Prop} {w : World} {p : Nat} {D : DSt} (h : DiskS S w p D) (hs : ∀ k, k < w.heap.size → S k → S' k) : DiskS S' w p D := by
  obtain ⟨kb, mv, h, h2⟩ := h
  exact ⟨kb, mv, h, fun k hk => hs k (h.lt k hk) (h2 k hk)⟩
theorem DiskS.few {S : Nat → Prop} {w : World} {p : Nat} {D : DSt} (h : DiskS S w p D) : D.kept.length ≤ 4096 := by
  obtain ⟨kb, mv, h, _⟩ := h
  exact h.few
theorem DiskS.len {S : Nat → Prop} {w : World} {p : Nat} {D : DSt} (h : DiskS S w p D) : ∀ b ∈ D.kept, b.length = 64 := by
  obtain ⟨kb, mv, h, _⟩ := h
  exact h.len
/-- A value that came just now lies in none of its blocks. -/
theorem DiskS.past {S : Nat → Prop} {w w' : World} {p : Nat} {D : DSt} (h : DiskS S w p D) (f : Below w.heap.size w w') (v : Value) (hv : ∀ k, v.ownBlock = some k → w.heap.size ≤ k) : DiskS (fun k => S k ∧ some k ≠ v.ownBlock) w' p D := by
  obtain ⟨kb, mv, h, hs⟩ := h
  exact ⟨kb, mv, h.below f, fun k hk => ⟨hs k hk, fun e => by have := hv k e.symm; have := h.lt k hk; omega⟩⟩
def DSt.sync (D : DSt) : Int × DSt := if D.out then (5, D) else (0, D.syncd)
def DSt.read (D : DSt) (i : Int) : List UInt8 × Int := if 0 ≤ i ∧ i < D.kept.length then if D.out then ([], 5) else (D.at i.toNat, 0) else ([], 1)
theorem DSt.write_len (D : DSt) (i : Int) (bs : List UInt8) : (D.write i bs).2.mem.length ≤ D.mem.length + 1 := by
  unfold DSt.write
  split
  · split
    · simp
    · unfold DSt.wrote; rw [DSt.did_mem]; simp
  · simp
theorem DSt.write_kept (D : DSt) (i : Int) (bs : List UInt8) : (D.write i bs).2.kept = D.kept := by
  unfold DSt.write
  split
  · split
    · rfl
    · unfold DSt.wrote; rw [DSt.did_kept]
  · rfl

theorem write_s {S : Nat → Prop} {w : World} {p : Nat} {D : DSt} (h : DiskS S w p D) (hS : ∀ k, w.heap.size ≤ k → S k) (hm : D.mem.length < 2 ^ 30) (i : Int) (v : Value) (bs : List UInt8) (hv : Rd w v bs) :
    Calls Try.prog 77 #[.pointer (some ⟨p, 0, none⟩), .int .i64 i, v] w fun e w' => e = .returned (.int .i64 (D.write i bs).1) ∧ DiskS S w' p (D.write i bs).2 ∧ Fr S w w' := by
  obtain ⟨kb, mv, h, hs⟩ := h
  refine (write_any h hm i v bs hv).mono ?_
  rintro e w' ⟨rfl, mv', h', hf, hn⟩
  refine ⟨rfl, ⟨kb, mv', h', ?_⟩, hf.mono (fun k _ hk => hs k hk)⟩
  rintro k (hk | hk | hk)
  · exact hs k (.inl hk)
  · exact hs k (.inr (.inl hk))
  · rcases hn with hn | ⟨g, hg, hgs⟩
    · exact hs k (.inr (.inr (hk.trans hn)))
    · rw [hg] at hk; cases hk; exact hS _ hgs
theorem sync_s {S : Nat → Prop} {w : World} {p : Nat} {D : DSt} (h : DiskS S w p D) (hm : D.mem.length < 2 ^ 30) :
    Calls Try.prog 66 #[.pointer (some ⟨p, 0, none⟩)] w fun e w' => e = .returned (.int .i64 D.sync.1) ∧ DiskS S w' p D.sync.2 ∧ Fr S w w' := by
  obtain ⟨kb, mv, h, hs⟩ := h
  unfold DSt.sync
  cases ho : D.out with
  | true =>
    refine (sync_down h ho).mono ?_
    rintro e w' ⟨rfl, rfl⟩
    exact ⟨rfl, ⟨kb, mv, h, hs⟩, Fr.refl _ _⟩
  | false =>
    refine (sync_any h hm ho).mono ?_
    rintro e w' ⟨rfl, h', hf⟩
    refine ⟨rfl, ⟨kb, _, h', ?_⟩, hf.mono (fun k _ hk => hs k hk)⟩
    rintro k (hk | hk | hk)
    · exact hs k (.inl hk)
    · exact hs k (.inr (.inl hk))
    · simp [Value.ownBlock] at hk
theorem crash_s {S : Nat → Prop} {w : World} {p : Nat} {D : DSt} (h : DiskS S w p D) (hm : D.mem.length < 2 ^ 30) (v : Value) (picks : List Int) (hp : RdI w v picks) (hv : picks ≠ [] → ∀ k, v.ownBlock = some k → ¬ S k) :
    Calls Try.prog 19 #[.pointer (some ⟨p, 0, none⟩), v] w fun e w' => e = .returned (.tuple #[]) ∧ DiskS S w' p (D.crashed picks) ∧ Fr S w w' := by
  obtain ⟨kb, mv, h, hs⟩ := h
  refine (crash_any h hm v picks hp (fun hne k hk hd => hv hne k hk (hs k hd))).mono ?_
  rintro e w' ⟨rfl, h', hf⟩
  refine ⟨rfl, ⟨kb, _, h', ?_⟩, hf.mono (fun k _ hk => hs k hk)⟩
  rintro k (hk | hk | hk)
  · exact hs k (.inl hk)
  · exact hs k (.inr (.inl hk))
  · simp [Value.ownBlock] at hk
theorem arm_s {S : Nat → Prop} {w : World} {p : Nat} {D : DSt} (h : DiskS S w p D) (n : Int) :
    Calls Try.prog 18 #[.pointer (some ⟨p, 0, none⟩), .int .i64 n] w fun e w' => e = .returned (.tuple #[]) ∧ DiskS S w' p (D.arm n) ∧ Fr S w w' := by
  obtain ⟨kb, mv, h, hs⟩ := h
  refine (arm_any h n).mono ?_
  rintro e w' ⟨rfl, h', hf⟩
  exact ⟨rfl, ⟨kb, mv, h', hs⟩, hf.mono (fun k _ hk => hs k hk)⟩
theorem calls_s {S : Nat → Prop} {w : World} {p : Nat} {D : DSt} (h : DiskS S w p D) :
    Calls Try.prog 13 #[.pointer (some ⟨p, 0, none⟩)] w fun e w' => e = .returned (.int .i64 D.calls) ∧ w' = w := by
  obtain ⟨kb, mv, h, hs⟩ := h
  exact calls_any h
theorem blocks_s {S : Nat → Prop} {w : World} {p : Nat} {D : DSt} (h : DiskS S w p D) :
    Calls Try.prog 47 #[.pointer (some ⟨p, 0, none⟩)] w fun e w' => e = .returned (.int .i64 D.kept.length) ∧ w' = w := by
  obtain ⟨kb, mv, h, hs⟩ := h
  exact blocks_any h
theorem image_s {S : Nat → Prop} {w : World} {p : Nat} {D : DSt} (h : DiskS S w p D) :
    Calls Try.prog 32 #[.pointer (some ⟨p, 0, none⟩)] w fun e w' => ∃ v, e = .returned v ∧ w'.ownsRow w.heap.size 5 1 v (D.kept.length * 64) (bts D.image) ∧ Below w.heap.size w w' := by
  obtain ⟨kb, mv, h, hs⟩ := h
  exact image_any h
theorem new_s (n : Nat) (w : World) (h1 : 1 ≤ n) (h2 : n ≤ 4096) :
    Calls Try.prog 10 #[.int .i64 n] w fun e w' => ∃ p, e = .returned (.tuple #[.pointer (some ⟨p, 0, none⟩), .int .i64 0]) ∧ DiskS (fun k => w.heap.size ≤ k) w' p (DSt.fresh n) ∧ Below w.heap.size w w' := by
  refine (new_ok n w h1 h2).mono ?_
  rintro e w' ⟨rfl, h, hb⟩
  refine ⟨_, rfl, ⟨_, _, h, ?_⟩, hb⟩
  rintro k (hk | hk | hk)
  · subst hk; exact Nat.le_succ _
  · subst hk; exact Nat.le_refl _
  · simp [Value.ownBlock] at hk
def ReadPost (w : World) (r : List UInt8 × Int) (e : Ending) (w' : World) : Prop := ∃ v, e = .returned (.tuple #[v, .int .i64 r.2]) ∧ Rd w' v r.1 ∧
      ((v = .slice none 0 0 ∧ r.1 = []) ∨ ∃ g, v = .slice (some ⟨g, 0, none⟩) 64 64 ∧ Blk w' g (bts r.1).toArray 81 ∧ w.heap.size ≤ g ∧ r.1.length = 64) ∧ Below w.heap.size w w'
theorem ReadPost.own {w w' : World} {r : List UInt8 × Int} {v : Value} (h : (v = .slice none 0 0 ∧ r.1 = []) ∨ ∃ g, v = .slice (some ⟨g, 0, none⟩) 64 64 ∧ Blk w' g (bts r.1).toArray 81 ∧ w.heap.size ≤ g ∧ r.1.length = 64) : ∀ k, v.ownBlock = some k → w.heap.size ≤ k ∧ k < w'.heap.size := by
  rintro k hk
  rcases h with ⟨rfl, _⟩ | ⟨g, rfl, hb, hg, _⟩
  · simp [Value.ownBlock] at hk
  · cases hk; exact ⟨hg, hb.lt⟩
theorem read_s {S : Nat → Prop} {w : World} {p : Nat} {D : DSt} (h : DiskS S w p D) (hm : D.mem.length < 2 ^ 30) (i : Int) :
    Calls Try.prog 40 #[.pointer (some ⟨p, 0, none⟩), .int .i64 i] w (ReadPost w (D.read i)) := by
  obtain ⟨kb, mv, h, hs⟩ := h
  obtain ⟨c0, c1, c2, c3, c4, c5, f0, f1, f2, f3, f4, f5⟩ := dcells_all h.blk
  by_cases hi : 0 ≤ i ∧ i < D.kept.length
  · cases ho : D.out with
    | false =>
      have e : D.read i = (D.at i.toNat, 0) := by simp [DSt.read, hi, ho]
      rw [e]
      obtain ⟨hi0, hi1⟩ := hi
      obtain ⟨n, rfl⟩ := Int.eq_ofNat_of_zero_le hi0
      rw [Int.toNat_natCast]
      refine (read_ok h hm n (by omega) ho).mono ?_
      rintro e w' ⟨g, rfl, hb, hg, hbel⟩
      have hl : (D.at n).length = 64 := readN_len (by omega) h.len (fun x hx => (h.idx x hx).2) _
      exact ⟨_, rfl, Rd.blk hb hl (Nat.le_refl _) (by simp [maxLen]), .inr ⟨g, rfl, hb, hg, hl⟩, hbel⟩
    | true =>
      have e : D.read i = ([], 5) := by simp [DSt.read, hi, ho]
      rw [e]
      obtain ⟨hi0, hi1⟩ := hi
      rw [ho] at c2
      clear h hs
      go_enter Try.func40, Try.ntmps40
      go_wp2
      go_ret2
      exact ⟨_, rfl, Rd.nil _, .inl ⟨rfl, rfl⟩, Below.refl _ _⟩
  · have e : D.read i = ([], 1) := by simp only [DSt.read]; rw [if_neg hi]
    rw [e]
    clear h hs
    by_cases h1 : 0 ≤ i
    · have h2' : decide (i < (D.kept.length : Int)) = false := decide_eq_false (by omega)
      go_enter Try.func40, Try.ntmps40
      go_wp2
      go_ret2
      exact ⟨_, rfl, Rd.nil _, .inl ⟨rfl, rfl⟩, Below.refl _ _⟩
    · have h1' : i < 0 := by omega
      go_enter Try.func40, Try.ntmps40
      go_wp2
      go_ret2
      exact ⟨_, rfl, Rd.nil _, .inl ⟨rfl, rfl⟩, Below.refl _ _⟩

end Go.Proofs.Ythglnbkfmmchnaa.Dsk
