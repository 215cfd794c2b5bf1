/- sha: what a state holds, in plain Lean. -/
import Derived.Test.YthocpbkgcpgpdaaDoorSha5
import Derived.Test.YthocpbkgcpgpdaaDoorK5
namespace Go.Proofs.YthocpbkgcpgpdaaDoor.Sha
open Go.RowKit

def hashN (m : List UInt8) : Nat → List UInt32
  | 0 => hW
  | k + 1 => blockN (hashN m k) ((m.drop (64 * k)).take 64)
theorem hashN_app (m x : List UInt8) : ∀ k, 64 * k ≤ m.length → hashN (m ++ x) k = hashN m k
  | 0, _ => rfl
  | k + 1, h => by
    rw [hashN, hashN, hashN_app m x k (by omega), List.drop_append_of_le_length (by omega), List.take_append_of_le_length (by rw [List.length_drop]; omega)]
structure SSt.Holds (S : SSt) (m : List UInt8) : Prop where
  n : S.n = m.length
  h : S.h = hashN m (m.length / 64)
  over : S.over.take (m.length % 64) = m.drop (64 * (m.length / 64))
def SSt.put (S : SSt) (at' : Nat) (x : List UInt8) : SSt := { S with over := S.over.take at' ++ x ++ S.over.drop (at' + x.length), n := S.n + x.length }
theorem SSt.Holds.put {S : SSt} {m x : List UInt8} {q : Nat} (h : S.Holds m) (ho : S.over.length = 64) (hq : m.length % 64 = q) (hx : q + x.length < 64) : (S.put q x).Holds (m ++ x) := by
  have e1 : (m ++ x).length / 64 = m.length / 64 := by rw [List.length_append]; omega
  have e2 : (m ++ x).length % 64 = q + x.length := by rw [List.length_append]; omega
  refine ⟨by simp [SSt.put, h.n], ?_, ?_⟩
  · rw [e1, hashN_app m x _ (by omega)]; exact h.h
  · rw [e1, e2, List.drop_append_of_le_length (by omega), ← h.over, hq]
    simp only [SSt.put]
    rw [List.take_append_of_le_length (by simp; omega), List.take_of_length_le (by simp; omega)]
theorem SSt.Holds.full {S : SSt} {m x : List UInt8} {q : Nat} (h : S.Holds m) (ho : S.over.length = 64) (hq : m.length % 64 = q) (hx : q + x.length = 64) : { S.put q x with h := blockN S.h (S.put q x).over : SSt }.Holds (m ++ x) := by
  have e1 : (m ++ x).length / 64 = m.length / 64 + 1 := by rw [List.length_append]; omega
  have e2 : (m ++ x).length % 64 = 0 := by rw [List.length_append]; omega
  have e3 : (S.put q x).over = (m ++ x).drop (64 * (m.length / 64)) := by
    rw [List.drop_append_of_le_length (by omega), ← h.over, hq]
    simp only [SSt.put]
    rw [hx, List.drop_eq_nil_of_le (by omega), List.append_nil]
  refine ⟨by simp [SSt.put, h.n], ?_, ?_⟩
  · rw [e1, hashN, hashN_app m x _ (by omega), ← h.h, ← e3, List.take_of_length_le]
    rw [e3, List.length_drop, List.length_append]; omega
  · rw [e2, List.take_zero, List.drop_eq_nil_of_le]
    rw [e1, List.length_append]; omega
theorem SSt.fresh_holds : SSt.fresh.Holds [] := ⟨rfl, rfl, rfl⟩

/-- The state at p holds the bytes m. -/
def HoldsAt (w : World) (p : Nat) (m : List UInt8) : Prop := ∃ S, ShaAt w p S ∧ S.Holds m
theorem HoldsAt.fr {w w' : World} {p : Nat} {m : List UInt8} {T : Nat → Prop} (h : HoldsAt w p m) (f : Fr T w w') (ht : ¬ T p) : HoldsAt w' p m := by
  obtain ⟨S, h1, h2⟩ := h
  exact ⟨S, h1.fr f ht, h2⟩
theorem HoldsAt.below {w w' : World} {p : Nat} {m : List UInt8} (h : HoldsAt w p m) (f : Below w.heap.size w w') : HoldsAt w' p m := h.fr (T := fun _ => False) (Fr.of_below f _) (fun h => h)
theorem HoldsAt.lt {w : World} {p : Nat} {m : List UInt8} (h : HoldsAt w p m) : p < w.heap.size := by
  obtain ⟨S, h1, h2⟩ := h
  exact h1.blk.lt
/-- Bytes laid into 'over'. -/
theorem ShaAt.over {w : World} {p q : Nat} {S : SSt} (h : ShaAt w p S) (x : List UInt8) (hq : q + x.length ≤ 64) :
    ShaAt (w.setCells p (8 + q) (bts x)) p { S with over := S.over.take q ++ x ++ S.over.drop (q + x.length) } := by
  have h8 := h.h8
  have h64 := h.o64
  refine ⟨?_, h8, by simp; omega⟩
  have := Blk.setCells (bts x) (8 + q) h.blk (by simp [SSt.cells_length h8 h64, bts_length]; omega)
  have e : (S.cells.toArray.toList.take (8 + q) ++ bts x ++ S.cells.toArray.toList.drop (8 + q + (bts x).length)).toArray = (SSt.cells { S with over := S.over.take q ++ x ++ S.over.drop (q + x.length) }).toArray := by
    congr 1
    simp only [SSt.cells]
    have l8 : (wds S.h).length = 8 := by rw [wds_length, h8]
    have l64 : (bts S.over).length = 64 := by rw [bts_length, h64]
    rw [show 8 + q = (wds S.h).length + q by omega, show (wds S.h).length + q + (bts x).length = (wds S.h).length + (q + x.length) by rw [bts_length]; omega, List.take_length_add_append, List.drop_length_add_append, List.take_append_of_le_length (by omega), List.drop_append_of_le_length (by omega)]
    simp only [bts, List.map_append, List.map_take, List.map_drop, List.append_assoc]
  rw [← e]
  exact this
theorem ShaAt.setN {w : World} {p n : Nat} {S : SSt} (h : ShaAt w p S) : ShaAt (w.setCell ⟨p, 72, none⟩ (.int .i64 n)) p { S with n := n } := by
  have h8 := h.h8
  have h64 := h.o64
  refine ⟨?_, h8, h64⟩
  have := h.blk.set 72 (.int .i64 n)
  have e : S.cells.toArray.setIfInBounds 72 (.int .i64 n) = (SSt.cells { S with n := n }).toArray := by
    apply Array.toList_inj.1
    rw [Array.toList_setIfInBounds]
    simp only [SSt.cells]
    rw [List.set_append_right _ _ (by rw [wds_length]; omega), List.set_append_right _ _ (by rw [wds_length, bts_length]; omega)]
    rw [wds_length, bts_length, h8, h64]
    rfl
  rw [← e]
  exact this
end Go.Proofs.YthocpbkgcpgpdaaDoor.Sha
