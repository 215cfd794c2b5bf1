/- Two disks side by side, the program's and the document's. -/
import Derived.Test.YthglnbkfmmchnaaRDisk6
import Derived.Test.YthglnbkfmmchnaaDisk8
namespace Go.Proofs.Ythglnbkfmmchnaa.Dsk
open Go.RowKit
set_option maxRecDepth 100000

/-- The program's disk p holds D, the document's disk q holds E; they have no block in common, and none of N. -/
def Two (N : Nat → Prop) (w : World) (p q : Nat) (D E : DSt) : Prop :=
  ∃ S1 S2 : Nat → Prop, DiskS S1 w p D ∧ RDS S2 w q E ∧ (∀ k, S1 k → S2 k → False) ∧ (∀ k, S1 k → ¬ N k ∧ k < w.heap.size) ∧ (∀ k, S2 k → ¬ N k ∧ k < w.heap.size) ∧ ∀ k, N k → k < w.heap.size
theorem Two.below {N : Nat → Prop} {w w' : World} {p q : Nat} {D E : DSt} (h : Two N w p q D E) (f : Below w.heap.size w w') : Two N w' p q D E := by
  obtain ⟨S1, S2, hd, hr, dis, b1, b2, bn⟩ := h
  have hs := f.size
  exact ⟨S1, S2, hd.below f, hr.below f, dis, fun k hk => ⟨(b1 k hk).1, by have := (b1 k hk).2; omega⟩, fun k hk => ⟨(b2 k hk).1, by have := (b2 k hk).2; omega⟩, fun k hk => by have := bn k hk; omega⟩
theorem Two.mono {N N' : Nat → Prop} {w : World} {p q : Nat} {D E : DSt} (h : Two N w p q D E) (hn : ∀ k, N' k → N k) : Two N' w p q D E := by
  obtain ⟨S1, S2, hd, hr, dis, b1, b2, bn⟩ := h
  exact ⟨S1, S2, hd, hr, dis, fun k hk => ⟨fun h => (b1 k hk).1 (hn k h), (b1 k hk).2⟩, fun k hk => ⟨fun h => (b2 k hk).1 (hn k h), (b2 k hk).2⟩, fun k hk => bn k (hn k hk)⟩
theorem Two.alloc {N : Nat → Prop} {w : World} {p q : Nat} {D E : DSt} (h : Two N w p q D E) (o : Obj) : Two (fun k => N k ∨ k = w.heap.size) (w.alloc o) p q D E := by
  obtain ⟨S1, S2, hd, hr, dis, b1, b2, bn⟩ := h
  have hs : (w.alloc o).heap.size = w.heap.size + 1 := Array.size_push _
  have f := (Below.refl w.heap.size w).alloc (Nat.le_refl _) o
  refine ⟨S1, S2, hd.below f, hr.below f, dis, fun k hk => ⟨fun e => e.elim (b1 k hk).1 (fun e => by have := (b1 k hk).2; omega), by have := (b1 k hk).2; omega⟩, fun k hk => ⟨fun e => e.elim (b2 k hk).1 (fun e => by have := (b2 k hk).2; omega), by have := (b2 k hk).2; omega⟩, fun k hk => hk.elim (fun e => by have := bn k e; omega) (fun e => by omega)⟩
theorem Two.d {N : Nat → Prop} {w : World} {p q : Nat} {D E : DSt} (h : Two N w p q D E) :
    ∃ S : Nat → Prop, DiskS S w p D ∧ (∀ k, w.heap.size ≤ k → S k) ∧ (∀ k, S k → ¬ N k) ∧ ∀ w' D', DiskS S w' p D' → Fr S w w' → Two N w' p q D' E ∧ Fr (fun k => ¬ N k) w w' := by
  obtain ⟨S1, S2, hd, hr, dis, b1, b2, bn⟩ := h
  refine ⟨fun k => S1 k ∨ w.heap.size ≤ k, hd.but (fun k _ h => .inl h), fun k h => .inr h, fun k h hn => h.elim (fun h => (b1 k h).1 hn) (fun h => by have := bn k hn; omega), fun w' D' h' f => ?_⟩
  have hs := f.size
  refine ⟨⟨fun k => (S1 k ∨ w.heap.size ≤ k) ∧ k < w'.heap.size, S2, h'.but (fun k hk h => ⟨h, hk⟩), hr.fr f (fun k hk h2 h => h.elim (fun h1 => dis k h1 h2) (fun h => by omega)), ?_, ?_, ?_, ?_⟩, f.mono (fun k hk h => h.elim (fun h => (b1 k h).1) (fun h => by omega))⟩
  · rintro k ⟨h1 | h1, _⟩ h2
    · exact dis k h1 h2
    · have := (b2 k h2).2; omega
  · rintro k ⟨h1 | h1, hk⟩
    · exact ⟨(b1 k h1).1, hk⟩
    · exact ⟨fun hn => by have := bn k hn; omega, hk⟩
  · intro k hk
    exact ⟨(b2 k hk).1, by have := (b2 k hk).2; omega⟩
  · intro k hk
    have := bn k hk; omega
theorem Two.r {N : Nat → Prop} {w : World} {p q : Nat} {D E : DSt} (h : Two N w p q D E) :
    ∃ S : Nat → Prop, RDS S w q E ∧ (∀ k, w.heap.size ≤ k → S k) ∧ (∀ k, S k → ¬ N k) ∧ ∀ w' E', RDS S w' q E' → Fr S w w' → Two N w' p q D E' ∧ Fr (fun k => ¬ N k) w w' := by
  obtain ⟨S1, S2, hd, hr, dis, b1, b2, bn⟩ := h
  refine ⟨fun k => S2 k ∨ w.heap.size ≤ k, hr.but (fun k _ h => .inl h), fun k h => .inr h, fun k h hn => h.elim (fun h => (b2 k h).1 hn) (fun h => by have := bn k hn; omega), fun w' E' h' f => ?_⟩
  have hs := f.size
  refine ⟨⟨S1, fun k => (S2 k ∨ w.heap.size ≤ k) ∧ k < w'.heap.size, hd.fr f (fun k hk h1 h => h.elim (fun h2 => dis k h1 h2) (fun h => by omega)), h'.but (fun k hk h => ⟨h, hk⟩), ?_, ?_, ?_, ?_⟩, f.mono (fun k hk h => h.elim (fun h => (b2 k h).1) (fun h => by omega))⟩
  · rintro k h1 ⟨h2 | h2, _⟩
    · exact dis k h1 h2
    · have := (b1 k h1).2; omega
  · intro k hk
    exact ⟨(b1 k hk).1, by have := (b1 k hk).2; omega⟩
  · rintro k ⟨h2 | h2, hk⟩
    · exact ⟨(b2 k h2).1, hk⟩
    · exact ⟨fun hn => by have := bn k hn; omega, hk⟩
  · intro k hk
    have := bn k hk; omega

theorem Two.write_d {N : Nat → Prop} {w : World} {p q : Nat} {D E : DSt} (h : Two N w p q D E) (hm : D.mem.length < 2 ^ 30) (i : Int) (v : Value) (bs : List UInt8) (hv : Rd w v bs) :
    Calls Try.prog 77 #[.pointer (some ⟨p, 0, none⟩), .int .i64 i, v] w fun e w' => e = .returned (.int .i64 (D.write i bs).1) ∧ Two N w' p q (D.write i bs).2 E ∧ Fr (fun k => ¬ N k) w w' := by
  obtain ⟨S, hd, hS, hN, hf⟩ := h.d
  refine (write_s hd hS hm i v bs hv).mono ?_
  rintro e w' ⟨he, h1, h2⟩
  exact ⟨he, hf _ _ h1 h2⟩
theorem Two.write_r {N : Nat → Prop} {w : World} {p q : Nat} {D E : DSt} (h : Two N w p q D E) (hm : E.mem.length < 2 ^ 30) (i : Int) (v : Value) (bs : List UInt8) (hv : Rd w v bs) :
    Calls Try.prog 72 #[.pointer (some ⟨q, 0, none⟩), .int .i64 i, v] w fun e w' => e = .returned (.int .i64 (E.write i bs).1) ∧ Two N w' p q D (E.write i bs).2 ∧ Fr (fun k => ¬ N k) w w' := by
  obtain ⟨S, hd, hS, hN, hf⟩ := h.r
  refine (rwrite_s hd hS hm i v bs hv).mono ?_
  rintro e w' ⟨he, h1, h2⟩
  exact ⟨he, hf _ _ h1 h2⟩
theorem Two.sync_d {N : Nat → Prop} {w : World} {p q : Nat} {D E : DSt} (h : Two N w p q D E) (hm : D.mem.length < 2 ^ 30) :
    Calls Try.prog 66 #[.pointer (some ⟨p, 0, none⟩)] w fun e w' => e = .returned (.int .i64 D.sync.1) ∧ Two N w' p q D.sync.2 E ∧ Fr (fun k => ¬ N k) w w' := by
  obtain ⟨S, hd, hS, hN, hf⟩ := h.d
  refine (sync_s hd hm).mono ?_
  rintro e w' ⟨he, h1, h2⟩
  exact ⟨he, hf _ _ h1 h2⟩
theorem Two.sync_r {N : Nat → Prop} {w : World} {p q : Nat} {D E : DSt} (h : Two N w p q D E) (hm : E.mem.length < 2 ^ 30) :
    Calls Try.prog 73 #[.pointer (some ⟨q, 0, none⟩)] w fun e w' => e = .returned (.int .i64 E.sync.1) ∧ Two N w' p q D E.sync.2 ∧ Fr (fun k => ¬ N k) w w' := by
  obtain ⟨S, hd, hS, hN, hf⟩ := h.r
  refine (rsync_s hd hm).mono ?_
  rintro e w' ⟨he, h1, h2⟩
  exact ⟨he, hf _ _ h1 h2⟩
theorem Two.arm_d {N : Nat → Prop} {w : World} {p q : Nat} {D E : DSt} (h : Two N w p q D E) (n : Int) :
    Calls Try.prog 18 #[.pointer (some ⟨p, 0, none⟩), .int .i64 n] w fun e w' => e = .returned (.tuple #[]) ∧ Two N w' p q (D.arm n) E ∧ Fr (fun k => ¬ N k) w w' := by
  obtain ⟨S, hd, hS, hN, hf⟩ := h.d
  refine (arm_s hd n).mono ?_
  rintro e w' ⟨he, h1, h2⟩
  exact ⟨he, hf _ _ h1 h2⟩
theorem Two.arm_r {N : Nat → Prop} {w : World} {p q : Nat} {D E : DSt} (h : Two N w p q D E) (n : Int) (hn : -9223372036854775808 ≤ n ∧ n ≤ 9223372036854775807) :
    Calls Try.prog 29 #[.pointer (some ⟨q, 0, none⟩), .int .i64 n] w fun e w' => e = .returned (.tuple #[]) ∧ Two N w' p q D (E.arm n) ∧ Fr (fun k => ¬ N k) w w' := by
  obtain ⟨S, hd, hS, hN, hf⟩ := h.r
  refine (rarm_s hd n hn).mono ?_
  rintro e w' ⟨he, h1, h2⟩
  exact ⟨he, hf _ _ h1 h2⟩
theorem Two.crash_d {N : Nat → Prop} {w : World} {p q : Nat} {D E : DSt} (h : Two N w p q D E) (hm : D.mem.length < 2 ^ 30) (v : Value) (picks : List Int) (hp : RdI w v picks) (hv : picks ≠ [] → ∀ k, v.ownBlock = some k → N k) :
    Calls Try.prog 19 #[.pointer (some ⟨p, 0, none⟩), v] w fun e w' => e = .returned (.tuple #[]) ∧ Two N w' p q (D.crashed picks) E ∧ Fr (fun k => ¬ N k) w w' := by
  obtain ⟨S, hd, hS, hN, hf⟩ := h.d
  refine (crash_s hd hm v picks hp (fun hne k hk hs => hN k hs (hv hne k hk))).mono ?_
  rintro e w' ⟨he, h1, h2⟩
  exact ⟨he, hf _ _ h1 h2⟩
theorem Two.crash_r {N : Nat → Prop} {w : World} {p q : Nat} {D E : DSt} (h : Two N w p q D E) (hm : E.mem.length < 2 ^ 30) (v : Value) (picks : List Int) (hp : RdI w v picks) (hv : picks ≠ [] → ∀ k, v.ownBlock = some k → N k) :
    Calls Try.prog 30 #[.pointer (some ⟨q, 0, none⟩), v] w fun e w' => e = .returned (.tuple #[]) ∧ Two N w' p q D (E.crashed picks) ∧ Fr (fun k => ¬ N k) w w' := by
  obtain ⟨S, hd, hS, hN, hf⟩ := h.r
  refine (rcrash_s hd hm v picks hp (fun hne k hk hs => hN k hs (hv hne k hk))).mono ?_
  rintro e w' ⟨he, h1, h2⟩
  exact ⟨he, hf _ _ h1 h2⟩
theorem DSt.sync_len (D : DSt) : D.sync.2.mem.length ≤ D.mem.length := by
  unfold DSt.sync
  split
  · exact Nat.le_refl _
  · show D.syncd.mem.length ≤ _
    unfold DSt.syncd
    rw [DSt.did_mem]
    exact Nat.zero_le _
theorem DSt.sync_kept (D : DSt) : D.sync.2.kept.length = D.kept.length := by
  unfold DSt.sync
  split
  · rfl
  · show D.syncd.kept.length = _
    unfold DSt.syncd
    rw [DSt.did_kept]
    exact keepN_length _ _ _ _
end Go.Proofs.Ythglnbkfmmchnaa.Dsk
