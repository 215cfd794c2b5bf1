/- What comes in, as lists. -/
import Derived.Test.YthglnbkfmmchnaaK
import Derived.OpenShut
namespace Go
open Go.RowKit

theorem add_none {w : World} {x : Addr} {v : Value} (h : w.cell? (x.add 0) = some v) : x.spot = none := by
  have h0 : x.add 0 = x := rfl
  rw [h0] at h
  unfold World.cell? at h
  split at h
  · split at h
    · cases h
    · rename_i hs
      cases hx : x.spot with
      | none => rfl
      | some n => simp [hx] at hs
  · cases h
/-- A row of bytes that came in. -/
theorem rd_of_row {w : World} {a : Option Addr} {len cap : Nat} {zs : List Int}
    (h : (a = none ∧ len = 0 ∧ cap = 0 ∧ zs = []) ∨ ∃ x, a = some x ∧ len ≤ cap ∧ cap ≤ maxLen ∧ zs.length = cap ∧ (∀ i, i < zs.length → w.cell? (x.add i) = some (.int .u8 (zs.getD i 0))) ∧ ∀ n ∈ zs, (Lit.int .u8 n).wf = true) :
    ∃ l : List UInt8, l.length = len ∧ Rd w (.slice a len cap) l ∧ (l ≠ [] → ∀ k, (Value.slice a len cap).ownBlock = some k → k < w.heap.size) := by
  rcases h with ⟨rfl, rfl, rfl, rfl⟩ | ⟨x, rfl, hlc, hcm, hz, hc, hw⟩
  · exact ⟨[], rfl, Rd.nil w, fun h => absurd rfl h⟩
  · rcases Nat.eq_zero_or_pos len with h0 | h0
    · subst h0
      exact ⟨[], rfl, ⟨by simp, .inl ⟨_, _, rfl, rfl⟩⟩, fun h => absurd rfl h⟩
    · have hx := add_none (hc 0 (by omega))
      obtain ⟨b, o, sp⟩ := x
      simp only at hx
      subst hx
      refine ⟨(zs.take len).map fun z => UInt8.ofNat z.toNat, by simp; omega, ⟨by simp; omega, .inr ⟨b, o, cap, by simp; omega, by simp; omega, fun j v hv => ?_⟩⟩, fun _ k hk => ?_⟩
      · rw [bts_get, List.getElem?_map, List.getElem?_take] at hv
        by_cases hj : j < len
        · rw [if_pos hj, List.getElem?_eq_getElem (by omega)] at hv
          have := hc j (by omega)
          rw [Addr.add_mid, List.getD_eq_getElem?_getD, List.getElem?_eq_getElem (by omega)] at this
          rw [this]
          have hwf := hw zs[j] (List.getElem_mem _)
          have hb : 0 ≤ zs[j] ∧ zs[j] ≤ 255 := by
            have := bounds_u8 hwf
            omega
          simp only [Option.map_some, Option.some.injEq] at hv
          rw [← hv]
          simp only [Option.getD_some, Option.some.injEq, Value.int.injEq, true_and]
          simp only [UInt8.toNat_ofNat']
          omega
        · rw [if_neg hj] at hv; simp at hv
      · simp only [Value.ownBlock, Option.some.injEq] at hk
        subst hk
        have := hc 0 (by omega)
        rw [Addr.add_mid] at this
        exact block_lt_of_cell this
/-- A row of ints that came in. -/
theorem rdi_of_row {w : World} {a : Option Addr} {len cap : Nat} {zs : List Int}
    (h : (a = none ∧ len = 0 ∧ cap = 0 ∧ zs = []) ∨ ∃ x, a = some x ∧ len ≤ cap ∧ cap ≤ maxLen ∧ zs.length = cap ∧ (∀ i, i < zs.length → w.cell? (x.add i) = some (.int .i64 (zs.getD i 0))) ∧ ∀ n ∈ zs, (Lit.int .i64 n).wf = true) :
    ∃ l : List Int, l.length = len ∧ RdI w (.slice a len cap) l ∧ (l ≠ [] → ∀ k, (Value.slice a len cap).ownBlock = some k → k < w.heap.size) ∧ ∀ z ∈ l, -9223372036854775808 ≤ z ∧ z ≤ 9223372036854775807 := by
  rcases h with ⟨rfl, rfl, rfl, rfl⟩ | ⟨x, rfl, hlc, hcm, hz, hc, hw⟩
  · exact ⟨[], rfl, ⟨by simp, .inl ⟨_, _, rfl, rfl⟩⟩, fun h => absurd rfl h, by simp⟩
  · rcases Nat.eq_zero_or_pos len with h0 | h0
    · subst h0
      exact ⟨[], rfl, ⟨by simp, .inl ⟨_, _, rfl, rfl⟩⟩, fun h => absurd rfl h, by simp⟩
    · have hx := add_none (hc 0 (by omega))
      obtain ⟨b, o, sp⟩ := x
      simp only at hx
      subst hx
      refine ⟨zs.take len, by simp; omega, ⟨by simp; omega, .inr ⟨b, o, cap, by simp; omega, by simp; omega, fun j v hv => ?_⟩⟩, fun _ k hk => ?_, fun z hzm => ?_⟩
      · rw [its, List.getElem?_map, List.getElem?_take] at hv
        by_cases hj : j < len
        · rw [if_pos hj, List.getElem?_eq_getElem (by omega)] at hv
          have := hc j (by omega)
          rw [Addr.add_mid, List.getD_eq_getElem?_getD, List.getElem?_eq_getElem (by omega)] at this
          rw [this]
          simpa using hv
        · rw [if_neg hj] at hv; simp at hv
      · simp only [Value.ownBlock, Option.some.injEq] at hk
        subst hk
        have := hc 0 (by omega)
        rw [Addr.add_mid] at this
        exact block_lt_of_cell this
      · have hwf := hw z (List.mem_of_mem_take hzm)
        have := bounds_i64 hwf
        omega

theorem wpList_valueg {P : Program} {ops : Array Oper} {rest : List Oper} {o : Oper} {a : Act} {w w1 : World} {v : Value} {Q : Exit → Act → World → Prop} (hw : Region.wanted o (yielded ops a.tmps) = true)
    (hr : (execOp a.eval o).run P w = .ok (.value v) w1) (h : wpList P ops Q rest (a.put o.dst v) w1) : wpList P ops Q (o :: rest) a w := by
  unfold wpList
  rw [if_pos hw]
  exact .inl (wp_value hr h)
theorem wpList_strg {P : Program} {ops : Array Oper} {Q : Exit → Act → World → Prop} {a : Act} {w : World} {o : Oper} {rest : List Oper} {src dst : TypeId} {x : Operand} {v : Value} {l : List UInt8} (hg : Region.wanted o (yielded ops a.tmps) = true)
    (ho : o.op = .convert src dst x) (hx : a.eval x = v) (h : Rd w v l)
    (hs : ((P.underlying src).bind fun d => match d with | .slice e => P.underlying e | _ => none) = some (.int .u8)) (hd : P.underlying dst = some .string)
    (hK : wpList P ops Q rest (a.put o.dst (.string (str l))) w) : wpList P ops Q (o :: rest) a w :=
  wpList_valueg hg (exec_str ho hx h hs hd) hK

/-- What an append wants of the bytes that it takes. -/
theorem Rd.app {w : World} {A : Option Addr} {n c : Nat} {l : List UInt8} (h : Rd w (.slice A n c) l) : (n = 0 ∨ ∃ ad, A = some ad ∧ ∀ j u, (bts l)[j]? = some u → w.cell? (ad.add j) = some u) ∧ (bts l).length = n * 1 := by
  rcases h.2 with ⟨A', c', hv, rfl⟩ | ⟨b, o, c', hv, _, hr⟩
  · simp only [Value.slice.injEq] at hv
    exact ⟨.inl hv.2.1, by simp [bts, hv.2.1]⟩
  · simp only [Value.slice.injEq] at hv
    obtain ⟨rfl, rfl, rfl⟩ := hv
    refine ⟨.inr ⟨_, rfl, fun j u hu => ?_⟩, by rw [bts_length, Nat.mul_one]⟩
    rw [Addr.add_mid]
    exact hr j u hu
/-- A store into an owned row of bytes. -/
theorem own_put {w : World} {base : Nat} {e : TypeId} {g n c : Nat} {l : List UInt8} (h : w.ownsRow base e 1 (.slice (some ⟨g, 0, none⟩) n c) n (bts l)) (j : Nat) (x : UInt8) :
    (w.setCell ⟨g, j, none⟩ (.int .u8 (x.toNat : Int))).ownsRow base e 1 (.slice (some ⟨g, 0, none⟩) n c) n (bts (l.set j x)) := by
  have h1 := h.1
  rcases h.2 with ⟨h0, _⟩ | ⟨g', cap, cur, hv, hb, hg, hn, hc, hs, ht⟩
  · cases h0
  · simp only [Value.slice.injEq, Option.some.injEq, Addr.mk.injEq] at hv
    obtain ⟨⟨rfl, _⟩, _, rfl⟩ := hv
    refine ⟨by simpa [bts_length] using h1, .inr ⟨g, c, cur.setIfInBounds j (.int .u8 (x.toNat : Int)), rfl, hb, Blk.set (w := w) hg j _, hn, hc, by simpa using hs, ?_⟩⟩
    rw [Array.toList_setIfInBounds, List.take_set, ht, bts, bts, List.map_set]
theorem own_cell {w : World} {base : Nat} {e : TypeId} {g n c : Nat} {l : List UInt8} (h : w.ownsRow base e 1 (.slice (some ⟨g, 0, none⟩) n c) n (bts l)) {j : Nat} (hj : j < n) :
    (∃ v, w.cell? ⟨g, j, none⟩ = some v) ∧ w.frozen? ⟨g, j, none⟩ = false := by
  have h1 := h.1
  rw [bts_length] at h1
  refine ⟨⟨.int .u8 ((l[j]'(by omega)).toNat : Int), ?_⟩, ?_⟩
  · have := h.cells (g := g) rfl j _ (by rw [bts_get, List.getElem?_eq_getElem (by omega)]; rfl)
    rwa [Addr.add_mid, Nat.zero_add] at this
  · rcases h.2 with ⟨h0, _⟩ | ⟨g', cap, cur, hv, hb, hg, _⟩
    · cases h0
    · simp only [Value.slice.injEq, Option.some.injEq, Addr.mk.injEq] at hv
      obtain ⟨⟨rfl, _⟩, _, rfl⟩ := hv
      exact frozen_of_row w g j cur e hg
theorem own_some {w : World} {base : Nat} {e : TypeId} {size n : Nat} {v : Value} {xs : List Value} (h : w.ownsRow base e size v n xs) (hn : 0 < n) : ∃ g c, v = .slice (some ⟨g, 0, none⟩) n c := by
  rcases h.2 with ⟨_, h0⟩ | ⟨g, cap, cur, hv, _⟩
  · omega
  · exact ⟨g, cap, hv⟩

end Go
