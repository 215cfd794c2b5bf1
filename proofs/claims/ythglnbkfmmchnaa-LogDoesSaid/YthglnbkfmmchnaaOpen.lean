/- What comes in, of any plain type, as plain data: openers that compose. -/
import Derived.Test.YthglnbkfmmchnaaK2
import Derived.Deep.Slices
namespace Go
open Go.RowKit Go.ChangeShapes

/-- Whatever is read as a datum of type t lies in n cells, and R tells what it is. -/
def Opens (P : Program) (t : TypeId) (n : Nat) {α : Type} (R : World → List Value → α → Prop) : Prop :=
  ∀ (H : Type) (enc : TypeId × Value → H) (w : World) (spare : Nat → Bool) (held : Bool) (fuel : Nat) (cs : List Value) (x : DataW H × List MemPlace),
    DataW.trod enc P w 0 spare held fuel t cs = some x → cs.length = n ∧ ∃ a, R w cs a

/-- One cell, of which S tells. -/
def One {α : Type} (S : World → Value → α → Prop) (w : World) (cs : List Value) (a : α) : Prop := ∃ v, cs = [v] ∧ S w v a

/-- The slice v reads as the list l, each element in n cells, of which R tells. -/
def RdA {α : Type} (n : Nat) (R : World → List Value → α → Prop) (w : World) (v : Value) (l : List α) : Prop :=
  ∃ A len c, v = .slice A len c ∧ l.length = len ∧ len ≤ maxLen ∧ (∀ j (hj : j < l.length), ∃ b o cs, A = some ⟨b, o, none⟩ ∧ cs.length = n ∧ w.rangeAt b (o + j * n) cs ∧ R w cs l[j]) ∧ len ≤ c ∧ (A = none → c = 0)
theorem RdA.slice {α : Type} {n : Nat} {R : World → List Value → α → Prop} {w : World} {v : Value} {l : List α} (h : RdA n R w v l) : ∃ A c, v = .slice A l.length c := by
  obtain ⟨A, len, c, rfl, rfl, _⟩ := h
  exact ⟨_, _, rfl⟩
theorem RdA.len {α : Type} {n : Nat} {R : World → List Value → α → Prop} {w : World} {v : Value} {l : List α} (h : RdA n R w v l) : l.length ≤ maxLen := by
  obtain ⟨A, len, c, rfl, rfl, hm, _⟩ := h
  exact hm
theorem RdA.max {α : Type} {n : Nat} {R : World → List Value → α → Prop} {w : World} {v : Value} {l : List α} (h : RdA n R w v l) : (l.length : Int) ≤ 9223372036854775807 := by
  have := h.len
  simp only [maxLen] at this
  omega
theorem RdA.at {α : Type} {n : Nat} {R : World → List Value → α → Prop} {w : World} {A : Option Addr} {m c : Nat} {l : List α} (h : RdA n R w (.slice A m c) l) {j : Nat} (hj : j < l.length) :
    ∃ b o cs, A = some ⟨b, o, none⟩ ∧ cs.length = n ∧ w.rangeAt b (o + j * n) cs ∧ R w cs l[j] := by
  obtain ⟨A', len, c', hv, hl, _, hj', _⟩ := h
  simp only [Value.slice.injEq] at hv
  obtain ⟨rfl, rfl, rfl⟩ := hv
  exact hj' j hj
/-- It reads the same where nothing old has changed. -/
theorem RdA.fr {α : Type} {n : Nat} {R : World → List Value → α → Prop} {w w' : World} {v : Value} {l : List α} (h : RdA n R w v l) {T : Nat → Prop} (f : Fr T w w') (ht : ∀ k, v.ownBlock = some k → ¬ T k) (hR : ∀ cs a, R w cs a → R w' cs a) : RdA n R w' v l := by
  obtain ⟨A, len, c, rfl, hl, hm, hj, hz⟩ := h
  refine ⟨A, len, c, rfl, hl, hm, fun j hj' => ?_, hz⟩
  obtain ⟨b, o, cs, rfl, hc, hr, hR'⟩ := hj j hj'
  exact ⟨b, o, cs, rfl, hc, hr.fr f (ht b rfl), hR _ _ hR'⟩
theorem RdA.below {α : Type} {n : Nat} {R : World → List Value → α → Prop} {w w' : World} {v : Value} {l : List α} (h : RdA n R w v l) (f : Below w.heap.size w w') (hR : ∀ cs a, R w cs a → R w' cs a) : RdA n R w' v l :=
  h.fr (Fr.of_below f (fun _ => False)) (fun _ _ h => h) hR
theorem RdA.none0 {α : Type} {n : Nat} {R : World → List Value → α → Prop} {w : World} {v : Value} {l : List α} (h : RdA n R w v l) : ∀ m c, v = .slice none m c → m = 0 ∧ c = 0 := by
  obtain ⟨A, len, c, rfl, hl, hm, hj, h1, h2⟩ := h
  intro m c' e
  cases e
  have := h2 rfl
  exact ⟨by omega, this⟩
theorem RdA.cap {α : Type} {n : Nat} {R : World → List Value → α → Prop} {w : World} {v : Value} {l : List α} (h : RdA n R w v l) : ∀ A m c, v = .slice A m c → m ≤ c := by
  obtain ⟨A, len, c, rfl, hl, hm, hj, h1, h2⟩ := h
  intro A' m c' e
  cases e
  exact h1
theorem RdA.nil {α : Type} (n : Nat) (R : World → List Value → α → Prop) (w : World) : RdA n R w (.slice none 0 0) [] := ⟨none, 0, 0, rfl, rfl, by simp, fun j hj => by simp at hj, Nat.le_refl _, fun _ => rfl⟩

theorem opens_int {P : Program} {t : TypeId} {k : IntKind} (ht : P.underlying t = some (.int k)) : Opens P t 1 (One fun _ v (z : Int) => v = .int k z ∧ (Lit.int k z).wf = true) :=
  fun H enc w spare held fuel cs x h => by
    obtain ⟨z, rfl, _, hw⟩ := DataW.trod_int ht h
    exact ⟨rfl, z, _, rfl, rfl, hw⟩
theorem opens_u8 {P : Program} {t : TypeId} (ht : P.underlying t = some (.int .u8)) : Opens P t 1 (One fun _ v (z : UInt8) => v = .int .u8 (z.toNat : Int)) :=
  fun H enc w spare held fuel cs x h => by
    obtain ⟨z, rfl, _, hw⟩ := DataW.trod_int ht h
    have hb := bounds_u8 hw
    refine ⟨rfl, UInt8.ofNat z.toNat, _, rfl, ?_⟩
    show Value.int .u8 z = Value.int .u8 ((UInt8.ofNat z.toNat).toNat : Int)
    rw [UInt8.toNat_ofNat']
    simp only [Value.int.injEq, true_and]
    omega
theorem opens_bool {P : Program} {t : TypeId} (ht : P.underlying t = some .bool) : Opens P t 1 (One fun _ v (b : Bool) => v = .bool b) :=
  fun H enc w spare held fuel cs x h => by
    obtain ⟨b, rfl, _⟩ := DataW.trod_bool ht h
    exact ⟨rfl, b, _, rfl, rfl⟩
theorem opens_string {P : Program} {t : TypeId} (ht : P.underlying t = some .string) : Opens P t 1 (One fun _ v (s : ByteArray) => v = .string s ∧ s.size ≤ maxLen) :=
  fun H enc w spare held fuel cs x h => by
    obtain ⟨s, rfl, _, hs⟩ := DataW.trod_string ht h
    exact ⟨rfl, s, _, rfl, rfl, hs⟩
theorem opens_slice {P : Program} {t e : TypeId} {α : Type} [Inhabited α] {n : Nat} {R : World → List Value → α → Prop} (ht : P.underlying t = some (.slice e)) (hn : 0 < n) (hc : P.cellsOf e = n) (he : Opens P e n R) : Opens P t 1 (One (RdA n R)) :=
  fun H enc w spare held fuel cs x h => by
    rcases Deep.open_slice ht h with ⟨rfl, _⟩ | ⟨a, len, cap, m, k, D, Pl, rfl, _, hl, hm, hmm, _, hx⟩
    · exact ⟨rfl, [], _, rfl, RdA.nil _ _ _⟩
    · rw [hc] at hx
      have hlm : len ≤ m := by rw [hmm]; split <;> omega
      have each : ∀ j, ∃ q : α × List Value, j < len → q.2.length = n ∧ (∀ i, i < n → w.cell? (a.add (j * n + i)) = q.2[i]?) ∧ R w q.2 q.1 := by
        intro j
        by_cases hj : j < len
        · obtain ⟨cs', h1, h2⟩ := hx j (by omega)
          obtain ⟨_, hlen, hcell⟩ := World.cells?_some h1
          obtain ⟨_, a', hR⟩ := he H enc w spare held k cs' _ h2
          exact ⟨(a', cs'), fun _ => ⟨hlen, fun i hi => by have := hcell i hi; rwa [Deep.add_add] at this, hR⟩⟩
        · exact ⟨(default, []), fun h => absurd h hj⟩
      obtain ⟨f, hf⟩ := Classical.axiomOfChoice each
      refine ⟨rfl, (List.range len).map fun j => (f j).1, _, rfl, some a, len, cap, rfl, by simp, by omega, fun j hj => ?_, hl, fun h => by cases h⟩
      have hj' : j < len := by simpa using hj
      obtain ⟨hlen, hcell, hR⟩ := hf j hj'
      have hs : a.spot = none := by
        obtain ⟨hlen0, hcell0, _⟩ := hf 0 (by omega)
        have h0 := hcell0 0 hn
        rw [List.getElem?_eq_getElem (by omega), Nat.zero_mul, Nat.zero_add] at h0
        exact add_none h0
      obtain ⟨b, o, sp⟩ := a
      simp only at hs
      subst hs
      refine ⟨b, o, (f j).2, rfl, hlen, fun i v hv => ?_, ?_⟩
      · have hi : i < n := by
          rcases Nat.lt_or_ge i (f j).2.length with h | h
          · omega
          · rw [List.getElem?_eq_none h] at hv; cases hv
        have := hcell i hi
        rw [Addr.add_mid, ← Nat.add_assoc] at this
        rw [this]; exact hv
      · rw [List.getElem_map, List.getElem_range]; exact hR
theorem opens_bytes {P : Program} {t e : TypeId} (ht : P.underlying t = some (.slice e)) (he : P.underlying e = some (.int .u8)) (hc : P.cellsOf e = 1) :
    Opens P t 1 (One fun w v (l : List UInt8) => Rd w v l ∧ (l ≠ [] → ∀ k, v.ownBlock = some k → k < w.heap.size) ∧ ∀ n c, v = .slice none n c → n = 0 ∧ c = 0) :=
  fun H enc w spare held fuel cs x h => by
    rcases open_ints ht he hc h with ⟨rfl, _⟩ | ⟨x, l, c, zs, rfl, _, hl, hm, hz, _, hcell, hwz⟩
    · exact ⟨rfl, [], _, rfl, Rd.nil w, fun h => absurd rfl h, fun n c e => by cases e; exact ⟨rfl, rfl⟩⟩
    · have : ∃ zs' : List Int, zs'.length = c ∧ (∀ i, i < l → zs'[i]? = zs[i]?) ∧ (∀ n ∈ zs', (Lit.int .u8 n).wf = true) := by
        refine ⟨zs.take l ++ List.replicate (c - l) 0, ?_, ?_, ?_⟩
        · have : l ≤ zs.length := by rw [hz]; split <;> omega
          simp; omega
        · intro i hi
          have : l ≤ zs.length := by rw [hz]; split <;> omega
          rw [List.getElem?_append_left (by simp; omega), List.getElem?_take, if_pos hi]
        · intro n hn
          rcases List.mem_append.1 hn with h | h
          · exact hwz n (List.mem_of_mem_take h)
          · rw [(List.mem_replicate.1 h).2]; rfl
      have hl2 : l ≤ zs.length := by rw [hz]; split <;> omega
      rcases Nat.eq_zero_or_pos l with h0 | h0
      · subst h0
        exact ⟨rfl, [], _, rfl, ⟨by simp, .inl ⟨_, _, rfl, rfl⟩⟩, fun h => absurd rfl h, fun n c e => by cases e⟩
      have hx := add_none (hcell 0 (by omega))
      obtain ⟨b, o, sp⟩ := x
      simp only at hx
      subst hx
      refine ⟨rfl, (zs.take l).map fun z => UInt8.ofNat z.toNat, _, rfl, ⟨by simp; omega, .inr ⟨b, o, c, by simp; omega, by simp; omega, fun j v hv => ?_⟩⟩, fun _ k hk => ?_, fun n c e => by cases e⟩
      · rw [bts_get, List.getElem?_map, List.getElem?_take] at hv
        by_cases hj : j < l
        · rw [if_pos hj, List.getElem?_eq_getElem (by omega)] at hv
          have := hcell j (by omega)
          rw [Addr.add_mid, List.getD_eq_getElem?_getD, List.getElem?_eq_getElem (by omega)] at this
          rw [this]
          have hb := bounds_u8 (hwz zs[j] (List.getElem_mem _))
          simp only [Option.map_some, Option.some.injEq] at hv
          rw [← hv]
          simp only [Option.getD_some, Option.some.injEq, Value.int.injEq, true_and, UInt8.toNat_ofNat']
          omega
        · rw [if_neg hj] at hv; simp at hv
      · simp only [Value.ownBlock, Option.some.injEq] at hk
        subst hk
        have := hcell 0 (by omega)
        rw [Addr.add_mid] at this
        exact block_lt_of_cell this
/-- The fields of a struct. -/
theorem open_fields {P : Program} {t : TypeId} {fs : Array Field} (ht : P.underlying t = some (.struct fs)) {H : Type} {enc : TypeId × Value → H} {w : World} {spare : Nat → Bool} {held : Bool} {fuel : Nat} {cs : List Value} {x : DataW H × List MemPlace}
    (h : DataW.trod enc P w 0 spare held fuel t cs = some x) {n : Nat} (hn : P.cellsOf t = n) : cs.length = n ∧ ∀ (i : Nat) (f : Field) (α : Type) (m : Nat) (R : World → List Value → α → Prop), fs[i]? = some f → Opens P f.type m R → P.cellsOf f.type = m → ∃ a, R w ((cs.drop f.offset).take m) a := by
  obtain ⟨xs, k, _, _, hl, hxl, hx⟩ := DataW.trod_struct ht h
  refine ⟨hl.trans hn, fun i f α m R hf ho hm => ?_⟩
  have h1 := hx i f hf
  rw [hm] at h1
  have hi : i < xs.length := by
    have := (Array.getElem?_eq_some_iff.1 hf).1
    omega
  rw [List.getElem?_eq_getElem hi] at h1
  exact (ho H enc w spare held k _ _ h1).2
end Go
