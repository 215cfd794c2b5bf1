/- key.Texts, the document's. -/
import Derived.Test.YthocpbkgcpgpdaaDoorKey8
import Derived.Lib.ConvBytes
namespace Go.Proofs.YthocpbkgcpgpdaaDoor
open Go.RowKit

def sb (s : ByteArray) : List UInt8 := s.data.toList
theorem run_bytes {P : Program} {src dst e : TypeId} {u : TypeDesc} (w : World) (s : ByteArray) (hs : P.underlying src = some u) (hd : P.underlying dst = some (.slice e)) (he : P.underlying e = some (.int .u8)) (hm : s.size ≤ maxLen) :
    ∃ c w1, (convert src dst (.string s)).run P w = .ok (.slice (some ⟨w.heap.size, 0, none⟩) (sb s).length c) w1 ∧ Rd w1 (.slice (some ⟨w.heap.size, 0, none⟩) (sb s).length c) (sb s) ∧ Below w.heap.size w w1 ∧ w.heap.size < w1.heap.size := by
  have hl : (sb s).length = s.size := Array.length_toList
  refine ⟨grownCap w s.size 0 e, Lib.bytesWorld w e s, ?_, ?_, ?_, by rw [Lib.bytesWorld_size]; omega⟩
  · rw [hl]; exact Lib.run_convert_string_bytes w src dst e s hs hd he
  · refine ⟨by rw [hl]; exact hm, .inr ⟨_, 0, _, rfl, ?_, fun j v hv => ?_⟩⟩
    · rw [hl]; exact grownCap_ge w s.size 0 e
    · rw [bts_get] at hv
      rcases Nat.lt_or_ge j (sb s).length with h | h
      · rw [List.getElem?_eq_getElem h] at hv
        rw [Nat.zero_add, Lib.bytesWorld_cell w e s j (by omega), ← hv]
        have h' : j < s.data.toList.length := h
        show some (Value.int .u8 ((s.data.toList.getD j 0).toNat : Int)) = some (Value.int .u8 ((s.data.toList[j]'h').toNat : Int))
        rw [List.getD_eq_getElem?_getD, List.getElem?_eq_getElem h']
        rfl
      · rw [List.getElem?_eq_none h] at hv; cases hv
  · refine ⟨?_, ?_, ?_, by rw [Lib.bytesWorld_size]; omega, fun k hk => Lib.bytesWorld_at_old w e s k hk⟩
    · simp [Lib.bytesWorld, World.freeze, World.alloc, World.drew, -World.alloc_eq, -World.drew_eq]
    · simp [Lib.bytesWorld, World.freeze, World.alloc, World.drew, -World.alloc_eq, -World.drew_eq]
    · simp [Lib.bytesWorld, World.freeze, World.alloc, World.drew, -World.alloc_eq, -World.drew_eq]

def RdS (w : World) (v : Value) (ss : List ByteArray) : Prop :=
  ∃ A n c, v = .slice A n c ∧ ss.length = n ∧ n ≤ maxLen ∧ ∀ j (hj : j < ss.length), ∃ b o, A = some ⟨b, o, none⟩ ∧ w.cell? ⟨b, o + j, none⟩ = some (.string ss[j])
theorem RdS.below {w w' : World} {v : Value} {ls : List ByteArray} (h : RdS w v ls) (hb : Below w.heap.size w w') : RdS w' v ls := by
  obtain ⟨A, n, c, rfl, hn, hm, hall⟩ := h
  refine ⟨A, n, c, rfl, hn, hm, fun j hj => ?_⟩
  obtain ⟨b, o, rfl, hc⟩ := hall j hj
  exact ⟨b, o, rfl, (Fr.of_below hb (fun _ => False)).cell hc (fun h => h)⟩
theorem RdS.at {w : World} {A : Option Addr} {n c : Nat} {ls : List ByteArray} (h : RdS w (.slice A n c) ls) {j : Nat} (hj : j < ls.length) : ∃ b o, A = some ⟨b, o, none⟩ ∧ w.cell? ⟨b, o + j, none⟩ = some (.string ls[j]) := by
  obtain ⟨A', n', c', hv, hn, hm, hall⟩ := h
  simp only [Value.slice.injEq] at hv
  obtain ⟨rfl, rfl, rfl⟩ := hv
  exact hall j hj
theorem RdS.slice {w : World} {v : Value} {ls : List ByteArray} (h : RdS w v ls) : ∃ A c, v = .slice A ls.length c := by
  obtain ⟨A, n, c, rfl, rfl, _⟩ := h
  exact ⟨A, c, rfl⟩
theorem RdS.max {w : World} {v : Value} {ls : List ByteArray} (h : RdS w v ls) : (ls.length : Int) ≤ 9223372036854775807 := by
  obtain ⟨A, n, c, rfl, rfl, hm, _⟩ := h
  simp only [maxLen] at hm; omega

theorem exec_convert {P : Program} {o : Oper} {a : Act} {src dst : TypeId} {x : Operand} {v v' : Value} {w w1 : World} (ho : o.op = .convert src dst x) (hx : a.eval x = v) (h : (convert src dst v).run P w = .ok v' w1) : (execOp a.eval o).run P w = .ok (.value v') w1 := by
  subst hx
  unfold execOp
  simp only [ho]
  exact exec_v h
/-- a row of rows that read as these -/
def OwR (w : World) (B : Nat) (v : Value) (vals : List Value) (ps : List (List UInt8)) : Prop :=
  w.ownsRow B 28 1 v ps.length vals ∧ vals.length = ps.length ∧ ∀ j, j < ps.length → Rd w (vals.getD j undef) (ps.getD j []) ∧ ∀ k, (vals.getD j undef).ownBlock = some k → k < w.heap.size ∧ v.ownBlock ≠ some k
theorem OwR.below {w w' : World} {B : Nat} {v : Value} {vals : List Value} {ps : List (List UInt8)} (h : OwR w B v vals ps) (hb : Below w.heap.size w w') : OwR w' B v vals ps :=
  ⟨own_fr h.1 (Fr.of_below hb (fun _ => False)) (fun _ _ h => h), h.2.1, fun j hj => ⟨(h.2.2 j hj).1.below hb, fun k hk => ⟨Nat.lt_of_lt_of_le ((h.2.2 j hj).2 k hk).1 hb.size, ((h.2.2 j hj).2 k hk).2⟩⟩⟩
theorem OwR.push {w w' : World} {B : Nat} {v v' vp : Value} {vals : List Value} {ps : List (List UInt8)} {p : List UInt8} (h : OwR w B v vals ps) (hp : Rd w vp p) (hk : ∀ k, vp.ownBlock = some k → k < w.heap.size ∧ v.ownBlock ≠ some k)
    (ho : w'.ownsRow B 28 1 v' (ps.length + 1) (vals ++ [vp])) (f : Fr (fun i => some i = v.ownBlock) w w') (hn : NewOr w v v') : OwR w' B v' (vals ++ [vp]) (ps ++ [p]) := by
  have hne : ∀ k, k < w.heap.size → v.ownBlock ≠ some k → v'.ownBlock ≠ some k := fun k h1 h2 e => by
    rcases hn with hn | ⟨g, hg, hge⟩
    · rw [hn] at e; exact h2 e
    · rw [hg] at e; cases e; omega
  refine ⟨by rw [List.length_append]; exact ho, by simp [h.2.1], fun j hj => ?_⟩
  rcases Nat.lt_or_ge j ps.length with h1 | h1
  · rw [List.getD_eq_getElem?_getD, List.getD_eq_getElem?_getD, List.getElem?_append_left (by have := h.2.1; omega), List.getElem?_append_left h1, ← List.getD_eq_getElem?_getD, ← List.getD_eq_getElem?_getD]
    obtain ⟨h2, h3⟩ := h.2.2 j h1
    exact ⟨h2.fr f (fun _ k hk e => (h3 k hk).2 e.symm), fun k hk => ⟨Nat.lt_of_lt_of_le (h3 k hk).1 f.size, hne k (h3 k hk).1 (h3 k hk).2⟩⟩
  · have : j = ps.length := by rw [List.length_append, List.length_singleton] at hj; omega
    subst this
    rw [List.getD_eq_getElem?_getD, List.getD_eq_getElem?_getD, List.getElem?_append_right (by have := h.2.1; omega), List.getElem?_append_right (by omega), h.2.1]
    simp only [Nat.sub_self, List.getElem?_cons_zero, Option.getD_some]
    exact ⟨hp.fr f (fun _ k h1 e => (hk k h1).2 e.symm), fun k h1 => ⟨Nat.lt_of_lt_of_le (hk k h1).1 f.size, hne k (hk k h1).1 (hk k h1).2⟩⟩
theorem OwR.rdl {w : World} {B : Nat} {v : Value} {vals : List Value} {ps : List (List UInt8)} (h : OwR w B v vals ps) : RdL w v ps := by
  obtain ⟨h1, h2, h3⟩ := h
  have hm : ps.length ≤ maxLen := by
    rcases h1.2 with ⟨_, h0⟩ | ⟨g, cap, cur, rfl, hb, hg, hn, hc, hs, ht⟩
    · rw [h0]; simp [maxLen]
    · omega
  obtain ⟨A, c, rfl⟩ := own_form h1
  refine ⟨A, ps.length, c, rfl, rfl, hm, fun j hj => ?_⟩
  obtain ⟨g, c', hv⟩ := own_some h1 (by omega)
  simp only [Value.slice.injEq] at hv
  obtain ⟨rfl, -, rfl⟩ := hv
  have hc := h1.cells (g := g) rfl j _ (List.getElem?_eq_getElem (by omega))
  rw [Addr.add_mid] at hc
  refine ⟨g, 0, vals[j]'(by omega), rfl, hc, ?_⟩
  have := (h3 j hj).1
  rw [List.getD_eq_getElem?_getD, List.getElem?_eq_getElem (by omega), List.getD_eq_getElem?_getD, List.getElem?_eq_getElem hj] at this
  exact this

end Go.Proofs.YthocpbkgcpgpdaaDoor
