/- The laws' first loop: many Writes of plain blocks. -/
import Derived.Test.YtnnhelknpnkphaaLaw05a
import Derived.Test.YtnnhelknpnkphaaK2
namespace Go.Proofs.Ytnnhelknpnkphaa
open Go.RowKit

/-- The disk behind k of the Writes, the k-th of bytes (k + off). -/
def writesN (off : Nat) (D : DSt) (l : List Int) : Nat → DSt
  | 0 => D
  | k + 1 => ((writesN off D l k).write (l.getD k 0) (b64 (UInt8.ofNat (k + off)))).2
theorem writesN_len (off : Nat) (D : DSt) (l : List Int) : ∀ k, (writesN off D l k).mem.length ≤ D.mem.length + k
  | 0 => Nat.le_refl _
  | k + 1 => by
    have := writesN_len off D l k
    have := DSt.write_len (writesN off D l k) (l.getD k 0) (b64 (UInt8.ofNat (k + off)))
    simp only [writesN]
    omega
theorem writesN_small (off n : Nat) (l : List Int) (k : Nat) : (writesN off (DSt.fresh n) l k).mem.length ≤ k := by
  have := writesN_len off (DSt.fresh n) l k
  have h0 : (DSt.fresh n).mem.length = 0 := rfl
  omega
theorem writesN_kept (off : Nat) (D : DSt) (l : List Int) : ∀ k, (writesN off D l k).kept = D.kept
  | 0 => rfl
  | k + 1 => by simp only [writesN]; rw [DSt.write_kept, writesN_kept off D l k]
theorem convert_u8 (k off : Nat) (c : Int) (hc : c = off) (_h : k + off < 2 ^ 30) : IntKind.u8.wrap (IntKind.i64.wrap ((k : Int) + c)) = ((UInt8.ofNat (k + off)).toNat : Int) := by
  subst hc
  rw [IntKind.wrap_u8, IntKind.wrap_i64]
  simp only [UInt8.toNat_ofNat']
  omega

theorem did_plain {D : DSt} (ha : D.armed = false) : D.did.armed = false ∧ D.did.out = D.out := by
  unfold DSt.did; rw [ha]; simp
theorem write_plain {D : DSt} (ho : D.out = false) (ha : D.armed = false) (i : Int) (bs : List UInt8) : (D.write i bs).2.out = false ∧ (D.write i bs).2.armed = false := by
  unfold DSt.write
  split
  · split
    · exact ⟨ho, ha⟩
    · have := did_plain (D := { D with mem := D.mem ++ [(i.toNat, bs)] }) ha
      exact ⟨this.2.trans ho, this.1⟩
  · exact ⟨ho, ha⟩
theorem writesN_plain {off : Nat} {D : DSt} {l : List Int} (ho : D.out = false) (ha : D.armed = false) : ∀ k, (writesN off D l k).out = false ∧ (writesN off D l k).armed = false
  | 0 => ⟨ho, ha⟩
  | k + 1 => by
    have ih := writesN_plain (off := off) (l := l) ho ha k
    exact write_plain ih.1 ih.2 _ _
theorem sync_plain {D : DSt} (ho : D.out = false) (ha : D.armed = false) : D.sync.1 = 0 ∧ D.sync.2 = D.syncd ∧ D.syncd.out = false ∧ D.syncd.armed = false ∧ D.syncd.mem = [] ∧ D.syncd.kept = keepN (fun _ => true) D.kept D.mem D.mem.length := by
  have h := did_plain (D := { D with kept := keepN (fun _ => true) D.kept D.mem D.mem.length, mem := [] }) ha
  refine ⟨by simp [DSt.sync, ho], by simp [DSt.sync, ho], h.2.trans ho, h.1, ?_, ?_⟩
  · unfold DSt.syncd; rw [DSt.did_mem]
  · unfold DSt.syncd; rw [DSt.did_kept]
theorem keepN_nil (pk : Nat → Bool) (kept : List (List UInt8)) : keepN pk kept [] 0 = kept := rfl

end Go.Proofs.Ytnnhelknpnkphaa
