/- Small words for walks: frames, blocks known whole, slices of bytes. -/
import Derived.Test.YthglnbkfmmchnaaFR
import Derived.WalkKit
import Derived.WalkSpells
import Derived.WalkLawsBesides
import Derived.Deep.MidRow
import Derived.Great.BuildSlice
import Derived.Deep.WholeRow
namespace Go
open Go.RowKit

theorem Fr.refl (T : Nat → Prop) (w : World) : Fr T w w := ⟨rfl, rfl, rfl, Nat.le_refl _, fun _ _ _ => rfl⟩
theorem Fr.trans {T : Nat → Prop} {a b c : World} (h : Fr T a b) (k : Fr T b c) : Fr T a c :=
  ⟨k.os.trans h.os, k.tape.trans h.tape, k.output.trans h.output, Nat.le_trans h.size k.size, fun i hi ht => (k.block i (Nat.lt_of_lt_of_le hi h.size) ht).trans (h.block i hi ht)⟩
/-- Two steps: what the second may touch is new, or lies in T. -/
theorem Fr.step {T T' : Nat → Prop} {a b c : World} (h : Fr T a b) (k : Fr T' b c) (ht : ∀ i, i < a.heap.size → T' i → T i) : Fr T a c :=
  ⟨k.os.trans h.os, k.tape.trans h.tape, k.output.trans h.output, Nat.le_trans h.size k.size,
    fun i hi hn => (k.block i (Nat.lt_of_lt_of_le hi h.size) (fun h' => hn (ht i hi h'))).trans (h.block i hi hn)⟩
theorem Fr.mono {T T' : Nat → Prop} {w w' : World} (h : Fr T w w') (ht : ∀ k, k < w.heap.size → T k → T' k) : Fr T' w w' :=
  ⟨h.os, h.tape, h.output, h.size, fun k hk hn => h.block k hk (fun h' => hn (ht k hk h'))⟩
theorem Fr.drew {T : Nat → Prop} {a w : World} (h : Fr T a w) : Fr T a w.drew := ⟨h.os, h.tape, h.output, h.size, h.block⟩
theorem Fr.drewN {T : Nat → Prop} {a w : World} (h : Fr T a w) (n : Nat) : Fr T a (w.drewN n) := ⟨h.os, h.tape, h.output, h.size, h.block⟩
theorem Fr.alloc {T : Nat → Prop} {a w : World} (h : Fr T a w) (o : Obj) : Fr T a (w.alloc o) :=
  h.trans ⟨rfl, rfl, rfl, by simp, fun _ hk _ => Below.heap_alloc _ _ _ hk⟩
theorem Fr.setCell {T : Nat → Prop} {a w : World} (h : Fr T a w) {p : Addr} (hp : p.block < a.heap.size → T p.block) (u : Value) : Fr T a (w.setCell p u) :=
  h.step (T' := fun k => k = p.block) ⟨rfl, rfl, rfl, by simp [World.setCell], fun k _ hn => Below.heap_setCell _ _ _ _ hn⟩ (fun i hi e => e ▸ hp (e ▸ hi))
theorem Fr.of_below {w w' : World} (h : Below w.heap.size w w') (T : Nat → Prop) : Fr T w w' := ⟨h.os, h.tape, h.output, h.size, fun k hk _ => h.block k hk⟩
theorem Fr.of_grown {w w' : World} {row : Option Nat} (h : w.grownBy w' row) : Fr (fun k => some k = row) w w' := ⟨h.os, h.tape, h.output, h.size, fun k hk hn => h.block k hk hn⟩
theorem Fr.below {T : Nat → Prop} {w w' : World} (h : Fr T w w') {B : Nat} (hB : B ≤ w.heap.size) (ht : ∀ k, k < B → ¬ T k) : Below B w w' :=
  ⟨h.os, h.tape, h.output, h.size, fun k hk => h.block k (Nat.lt_of_lt_of_le hk hB) (ht k hk)⟩
theorem Fr.cell {T : Nat → Prop} {w w' : World} (h : Fr T w w') {p : Addr} {v : Value} (hc : w.cell? p = some v) (ht : ¬ T p.block) : w'.cell? p = some v :=
  (World.cell?_of_block (w := w) (h.block p.block (block_lt_of_cell hc) ht)).trans hc

/-- Block b is known whole. -/
def Blk (w : World) (b : Nat) (cs : Array Value) (t : TypeId) : Prop := w.heap[b]? = some (.cells cs t (0, 0))
theorem Blk.lt {w : World} {b : Nat} {cs : Array Value} {t : TypeId} (h : Blk w b cs t) : b < w.heap.size := (Array.getElem?_eq_some_iff.1 h).1
theorem Blk.cell {w : World} {b : Nat} {cs : Array Value} {t : TypeId} (h : Blk w b cs t) (j : Nat) : w.cell? ⟨b, j, none⟩ = cs[j]? := cell_of_row w b j cs t (0, 0) h
theorem Blk.frozen {w : World} {b : Nat} {cs : Array Value} {t : TypeId} (h : Blk w b cs t) (j : Nat) : w.frozen? ⟨b, j, none⟩ = false := frozen_of_row w b j cs t h
theorem Blk.fr {w w' : World} {b : Nat} {cs : Array Value} {t : TypeId} {T : Nat → Prop} (h : Blk w b cs t) (f : Fr T w w') (ht : ¬ T b) : Blk w' b cs t := (f.block b h.lt ht).trans h
theorem Blk.set {w : World} {b : Nat} {cs : Array Value} {t : TypeId} (h : Blk w b cs t) (j : Nat) (v : Value) : Blk (w.setCell ⟨b, j, none⟩ v) b (cs.setIfInBounds j v) t :=
  heap_setCell_same w b j cs t v h
theorem Blk.far {w : World} {b : Nat} {cs : Array Value} {t : TypeId} (h : Blk w b cs t) {p : Addr} (hp : b ≠ p.block) (v : Value) : Blk (w.setCell p v) b cs t :=
  (Below.heap_setCell w p v b hp).trans h
theorem Blk.alloc {w : World} {b : Nat} {cs : Array Value} {t : TypeId} (h : Blk w b cs t) (o : Obj) : Blk (w.alloc o) b cs t := (Below.heap_alloc _ _ _ h.lt).trans h
theorem Blk.new (w : World) (cs : Array Value) (t : TypeId) : Blk (w.alloc (.cells cs t)) w.heap.size cs t := heap_alloc_new w _
theorem Blk.drew {w : World} {b : Nat} {cs : Array Value} {t : TypeId} (h : Blk w b cs t) : Blk w.drew b cs t := h
theorem Blk.ne {w : World} {b b' : Nat} {cs cs' : Array Value} {t t' : TypeId} (h : Blk w b cs t) (h' : Blk w b' cs' t') (ht : t ≠ t') : b ≠ b' := by
  intro e
  subst e
  have := h.symm.trans h'
  simp at this
  exact ht this.2
theorem Blk.range {w : World} {b : Nat} {cs : Array Value} {t : TypeId} (h : Blk w b cs t) (o n : Nat) : w.rangeAt b o (cs.extract o (o + n)).toList := World.rangeAt_of_block h o n
theorem Blk.range' {w : World} {b : Nat} {cs : Array Value} {t : TypeId} (h : Blk w b cs t) (o : Nat) (l : List Value) (hl : ∀ j v, l[j]? = some v → cs[o + j]? = some v) : w.rangeAt b o l :=
  fun j v hv => by rw [h.cell]; exact hl j v hv
theorem Blk.there {w : World} {b : Nat} {cs : Array Value} {t : TypeId} (h : Blk w b cs t) (o n : Nat) (hn : o + n ≤ cs.size) : w.there b o n :=
  fun j hj => ⟨by rw [h.cell]; simp; omega, h.frozen _⟩
theorem Blk.setCells {b : Nat} {t : TypeId} : ∀ (vs : List Value) (o : Nat) {w : World} {cs : Array Value}, Blk w b cs t → o + vs.length ≤ cs.size →
    Blk (w.setCells b o vs) b (cs.toList.take o ++ vs ++ cs.toList.drop (o + vs.length)).toArray t
  | [], o, w, cs, h, hn => by
    have : (cs.toList.take o ++ [] ++ cs.toList.drop (o + 0)).toArray = cs := by simp
    show Blk w b _ t
    rw [List.length_nil, this]; exact h
  | v :: vs, o, w, cs, h, hn => by
    simp only [List.length_cons] at hn
    have h1 := Blk.setCells vs (o + 1) (h.set o v) (by simp; omega)
    have e : ((cs.setIfInBounds o v).toList.take (o + 1) ++ vs ++ (cs.setIfInBounds o v).toList.drop (o + 1 + vs.length)).toArray = (cs.toList.take o ++ (v :: vs) ++ cs.toList.drop (o + (v :: vs).length)).toArray := by
      congr 1
      have ho : o < cs.toList.length := by simp; omega
      rw [Array.toList_setIfInBounds, List.take_set, List.take_succ_eq_append_getElem ho, List.set_append_right _ _ (by simp; omega)]
      simp only [List.length_take, Array.length_toList, Nat.min_eq_left (show o ≤ cs.size by omega), Nat.sub_self, List.set_cons_zero, List.append_assoc, List.cons_append, List.nil_append, List.length_cons]
      congr 3
      rw [List.drop_set_of_lt (by omega)]
      congr 1
      omega
    rw [e] at h1
    exact h1
theorem Fr.setCells {T : Nat → Prop} {b : Nat} : ∀ (vs : List Value) (o : Nat) {a w : World}, Fr T a w → (b < a.heap.size → T b) → Fr T a (w.setCells b o vs)
  | [], _, _, _, h, _ => h
  | v :: vs, o, _, _, h, hb => Fr.setCells vs (o + 1) (h.setCell (p := ⟨b, o, none⟩) hb v) hb

/-- Bytes as cells. -/
def bts (l : List UInt8) : List Value := l.map fun c => .int .u8 (c.toNat : Int)
theorem bts_length (l : List UInt8) : (bts l).length = l.length := by simp [bts]
theorem bts_append (a b : List UInt8) : bts (a ++ b) = bts a ++ bts b := by simp [bts]
theorem bts_get (l : List UInt8) (j : Nat) : (bts l)[j]? = l[j]?.map fun c => .int .u8 (c.toNat : Int) := by simp [bts]
theorem bts_one (l : List UInt8) : ∀ v ∈ bts l, v.oneCell' = true := by
  intro v hv
  simp only [bts, List.mem_map] at hv
  obtain ⟨c, _, rfl⟩ := hv
  rfl
theorem bts_inj {a b : List UInt8} (h : bts a = bts b) : a = b := by
  induction a generalizing b with
  | nil => cases b <;> simp_all [bts]
  | cons x a ih =>
    cases b with
    | nil => simp [bts] at h
    | cons y b =>
      simp only [bts, List.map_cons, List.cons.injEq, Value.int.injEq, true_and] at h
      have h1 : x = y := UInt8.toNat_inj.1 (by omega)
      rw [h1, ih h.2]

/-- The slice v reads as the bytes l. -/
def Rd (w : World) (v : Value) (l : List UInt8) : Prop :=
  l.length ≤ maxLen ∧ ((∃ A c, v = .slice A 0 c ∧ l = []) ∨ ∃ b o c, v = .slice (some ⟨b, o, none⟩) l.length c ∧ l.length ≤ c ∧ w.rangeAt b o (bts l))
theorem Rd.nil (w : World) : Rd w (.slice none 0 0) [] := ⟨by simp, .inl ⟨none, 0, rfl, rfl⟩⟩
theorem World.rangeAt.fr {w w' : World} {b o : Nat} {cs : List Value} {T : Nat → Prop} (h : w.rangeAt b o cs) (f : Fr T w w') (ht : ¬ T b) : w'.rangeAt b o cs :=
  fun j v hv => f.cell (h j v hv) ht
theorem World.rangeAt.below {w w' : World} {b o : Nat} {cs : List Value} (h : w.rangeAt b o cs) (f : Below w.heap.size w w') : w'.rangeAt b o cs :=
  h.fr (T := fun _ => False) (Fr.of_below f _) (fun h => h)
theorem World.rangeAt.drew {w : World} {b o : Nat} {cs : List Value} (h : w.rangeAt b o cs) : w.drew.rangeAt b o cs := (World.rangeAt_drew w b o cs).2 h
/-- The block of a slice, if it has one. -/
theorem Rd.fr {w w' : World} {v : Value} {l : List UInt8} {T : Nat → Prop} (h : Rd w v l) (f : Fr T w w') (ht : l ≠ [] → ∀ k, v.ownBlock = some k → ¬ T k) : Rd w' v l := by
  refine ⟨h.1, ?_⟩
  by_cases hl : l = []
  · rcases h.2 with h | ⟨b, o, c, rfl, hc, hr⟩
    · exact .inl h
    · subst hl; exact .inl ⟨_, c, rfl, rfl⟩
  rcases h.2 with h | ⟨b, o, c, rfl, hc, hr⟩
  · exact .inl h
  · exact .inr ⟨b, o, c, rfl, hc, hr.fr f (ht hl b rfl)⟩
theorem Rd.below {w w' : World} {v : Value} {l : List UInt8} (h : Rd w v l) (f : Below w.heap.size w w') : Rd w' v l := h.fr (T := fun _ => False) (Fr.of_below f _) (fun _ _ _ h => h)
theorem Rd.drew {w : World} {v : Value} {l : List UInt8} (h : Rd w v l) : Rd w.drew v l := h.below (Below.refl _ _).drew
theorem Rd.of_own {w : World} {base n : Nat} {e : TypeId} {v : Value} {l : List UInt8} (h : w.ownsRow base e 1 v n (bts l)) : Rd w v l := by
  have hl : l.length = n := by have := h.1; rw [bts_length] at this; omega
  rcases h.2 with ⟨rfl, rfl⟩ | ⟨g, cap, cur, rfl, hb, hg, hn, hc, hs, ht⟩
  · exact ⟨by omega, .inl ⟨none, 0, rfl, List.eq_nil_of_length_eq_zero hl⟩⟩
  · subst hl
    refine ⟨by omega, .inr ⟨g, 0, cap, rfl, hn, fun j u hu => ?_⟩⟩
    rw [cell_of_row w g _ cur e (0, 0) hg, Nat.zero_add]
    rw [← ht, List.getElem?_take] at hu
    split at hu
    · simpa using hu
    · cases hu
theorem Rd.slice {w : World} {v : Value} {l : List UInt8} (h : Rd w v l) : ∃ A c, v = .slice A l.length c := by
  rcases h.2 with ⟨A, c, rfl, rfl⟩ | ⟨b, o, c, rfl, _⟩
  · exact ⟨_, _, rfl⟩
  · exact ⟨_, _, rfl⟩
/-- A byte of it. -/
theorem Rd.at {w : World} {A : Option Addr} {n c : Nat} {l : List UInt8} (h : Rd w (.slice A n c) l) {j : Nat} (hj : j < l.length) : ∃ b o, A = some ⟨b, o, none⟩ ∧ w.cell? ⟨b, o + j, none⟩ = some (.int .u8 (l[j].toNat : Int)) := by
  rcases h.2 with ⟨A', c, _, rfl⟩ | ⟨b, o, c, hv, _, hr⟩
  · simp at hj
  · simp only [Value.slice.injEq] at hv
    exact ⟨b, o, hv.1, hr j _ (by rw [bts_get, List.getElem?_eq_getElem hj]; rfl)⟩

/-- An operation that runs to a value. -/
theorem wp_value {P : Program} {o : Oper} {a : Act} {w w1 : World} {v : Value} {K : Act → World → Prop} {Q : Exit → Act → World → Prop} (hr : (execOp a.eval o).run P w = .ok (.value v) w1) (h : K (a.put o.dst v) w1) : o.wp P a w K Q := by
  unfold Oper.wp
  rw [hr]
  exact h
theorem wp_unit {P : Program} {o : Oper} {a : Act} {w w1 : World} {K : Act → World → Prop} {Q : Exit → Act → World → Prop} (hr : (execOp a.eval o).run P w = .ok .skip w1) (h : K (a.put o.dst undef) w1) : o.wp P a w K Q := by
  unfold Oper.wp
  rw [hr]
  exact h
theorem wpList_value {P : Program} {ops : Array Oper} {rest : List Oper} {o : Oper} {a : Act} {w w1 : World} {v : Value} {Q : Exit → Act → World → Prop} (hg : o.guard = none)
    (hr : (execOp a.eval o).run P w = .ok (.value v) w1) (h : wpList P ops Q rest (a.put o.dst v) w1) : wpList P ops Q (o :: rest) a w :=
  wpList_plain hg fun _ hK => wp_value hr (hK _ _ h)

theorem fold_put : ∀ (l : List Value) (cs : Array Value) (off k : Nat), off + k + l.length ≤ cs.size →
    ((l.zipIdx k).foldl (fun cs x => cs.setIfInBounds (off + x.2) x.1) cs).toList = cs.toList.take (off + k) ++ l ++ cs.toList.drop (off + k + l.length)
  | [], cs, off, k, _ => by simp
  | v :: l, cs, off, k, h => by
    simp only [List.length_cons] at h
    have ho : off + k < cs.toList.length := by simp; omega
    simp only [List.zipIdx_cons, List.foldl_cons]
    rw [fold_put l _ off (k + 1) (by simp; omega)]
    rw [Array.toList_setIfInBounds, ← Nat.add_assoc, List.take_set, List.take_succ_eq_append_getElem ho, List.set_append_right _ _ (by simp; omega)]
    simp only [List.length_take, Array.length_toList, Nat.min_eq_left (show off + k ≤ cs.size by omega), Nat.sub_self, List.set_cons_zero, List.append_assoc, List.cons_append, List.nil_append, List.length_cons]
    congr 3
    rw [List.drop_set_of_lt (by omega)]
    congr 1
    omega
theorem fold_cells (v : Value) (cs : Array Value) (off : Nat) (h : off + v.cells.size ≤ cs.size) :
    v.cells.zipIdx.foldl (fun cs (x : Value × Nat) => cs.setIfInBounds (off + x.2) x.1) cs = (cs.toList.take off ++ v.cells.toList ++ cs.toList.drop (off + v.cells.size)).toArray := by
  apply Array.toList_inj.1
  rw [← Array.foldl_toList, Array.toList_zipIdx, fold_put _ _ _ _ (by simpa using h)]
  simp
theorem fill_cons (place : Nat → Option (Nat × Nat)) (cs : Array Value) (i : Nat) (v : Value) (rest : List (Nat × Value)) (off size : Nat) (hp : place i = some (off, size)) (hs : v.cells.size = size) (ho : off + size ≤ cs.size) :
    Instr.fill place cs ((i, v) :: rest) = Instr.fill place (cs.toList.take off ++ v.cells.toList ++ cs.toList.drop (off + size)).toArray rest := by
  subst hs
  rw [Instr.fill]
  simp only [hp]
  rw [if_neg (by simp; omega)]
  rw [fold_cells v cs off ho]

theorem run_arrayAt_k {P : Program} {t e : TypeId} {n : Nat} (ht : P.underlying t = some (.array n e)) (ad : Option Addr) (len c : Nat) (h : n ≤ len) (w : World) : (Instr.arrayAt t (.slice ad len c)).run P w = .ok (.pointer ad) w := by
  simp [Instr.arrayAt, run_underlying ht, show ¬ len < n by omega]

/-- []T{v} -/
theorem run_buildSlice_one {P : Program} {t e : TypeId} {i : TypeInfo} {z : Value} (ht : P.underlying t = some (.slice e)) (hi : P.info? e = some i) (hz : i.zero = some z) (v : Value) (hs : v.cells.size = i.size)
    (h0 : 0 < i.size) (h1 : i.size ≤ 16777216) (w : World) :
    (Instr.buildSlice t 1 #[(0, v)]).run P w = .ok (.slice (some ⟨w.heap.size, 0, none⟩) 1 1) (w.alloc (.cells v.cells e)) := by
  refine run_buildSlice w t e 1 _ v.cells i z ht hi hz (by omega) (by omega) ?_
  rw [fill_cons _ _ _ _ _ 0 i.size (by simp) hs (by simp)]
  simp only [Instr.fill, Option.some.injEq]
  rw [List.drop_eq_nil_of_le (by simp)]
  simp

theorem exec_v {P : Program} {s : Sem Value} {v : Value} {w w1 : World} (h : s.run P w = .ok v w1) : (do pure (Next.value (← s)) : Sem Next).run P w = .ok (.value v) w1 := by
  simp [h]
theorem exec_u {P : Program} {s : Sem Unit} {w w1 : World} (h : s.run P w = .ok () w1) : (do s; pure Next.skip : Sem Next).run P w = .ok .skip w1 := by
  simp [h]

theorem exec_build {P : Program} {o : Oper} {a : Act} {t : TypeId} {parts : Array (Nat × Operand)} {ps : Array (Nat × Value)} {v : Value} {w w1 : World} (h : (Instr.build t ps).run P w = .ok v w1) (ho : o.op = .build t parts)
    (hp : (parts.map fun (x : Nat × Operand) => (x.1, a.eval x.2)) = ps) : (execOp a.eval o).run P w = .ok (.value v) w1 := by
  subst hp
  unfold execOp
  simp only [ho]
  exact exec_v h
theorem exec_buildSlice {P : Program} {o : Oper} {a : Act} {t : TypeId} {len : Nat} {parts : Array (Nat × Operand)} {ps : Array (Nat × Value)} {v : Value} {w w1 : World} (h : (Instr.buildSlice t len ps).run P w = .ok v w1) (ho : o.op = .buildSlice t len parts)
    (hp : (parts.map fun (x : Nat × Operand) => (x.1, a.eval x.2)) = ps) : (execOp a.eval o).run P w = .ok (.value v) w1 := by
  subst hp
  unfold execOp
  simp only [ho]
  exact exec_v h

/-- v' lies where v lay, or in a new block. -/
def NewOr (w : World) (v v' : Value) : Prop := v'.ownBlock = v.ownBlock ∨ ∃ g, v'.ownBlock = some g ∧ w.heap.size ≤ g
theorem run_append_k {P : Program} (w : World) (base : Nat) (t ty e : TypeId) (i : TypeInfo) (z : Value) (size bytes : Nat) (ht : P.underlying t = some (.slice e)) (hi : P.info? e = some i) (hz : i.zero = some z)
    (hsize : i.size = size) (hby : i.bytes = bytes) (hzs : z.cells.size = size) (hsz : 0 < size)
    (v : Value) (n : Nat) (xs : List Value) (hown : w.ownsRow base e size v n xs)
    (A : Option Addr) (m c : Nat) (news : List Value) (hl : news.length = m * size) (hA : m = 0 ∨ ∃ ad, A = some ad ∧ ∀ j u, news[j]? = some u → w.cell? (ad.add j) = some u) (h1 : ∀ u ∈ news, u.oneCell' = true)
    (h63 : n + m ≤ maxLen) (hbytes : (n + m) * bytes ≤ 140737488355328) (hbase : base ≤ w.heap.size) :
    ∃ v' w', (Builtin.append_ #[t, t] ty #[v, .slice A m c]).run P w = .ok v' w' ∧ w'.ownsRow base e size v' (n + m) (xs ++ news) ∧ w.grownBy w' v.ownBlock ∧ NewOr w v v' := by
  rcases Nat.eq_zero_or_pos m with hm | hm
  · subst hm
    have hn0 : news = [] := List.eq_nil_of_length_eq_zero (by simpa using hl)
    subst hn0
    refine ⟨v, w, ?_, by simpa using hown, ⟨rfl, rfl, rfl, Nat.le_refl _, fun _ _ _ => rfl⟩, .inl rfl⟩
    rcases hown.2 with ⟨rfl, rfl⟩ | ⟨g, cap, cur, rfl, hbg, hg, hnc, hcm, hcs, htake⟩
    · cases A <;> simp [Builtin.append_, run_underlying ht, sizeOf, typeInfo, hi, Builtin.lenOf, Builtin.firstCells, loadCells, loadCellsFrom]
    · cases A <;> simp [Builtin.append_, run_underlying ht, sizeOf, typeInfo, hi, Builtin.lenOf, Builtin.firstCells, loadCells, loadCellsFrom, hnc, storeCells]
  · rcases hA with hA | ⟨ad, rfl, hnews⟩
    · omega
    have hsmall : n + m ≤ 9223372036854775807 := by simp only [maxLen] at h63; omega
    obtain ⟨v', w', hr, ho, hg, _⟩ := run_append_own (P := P) w base t ty e i z size bytes ht hi hz hsize hby hzs hsz v n xs hown ad m c news hl hnews h1 h63 hbytes hbase
    refine ⟨v', w', hr, ho, hg, ?_⟩
    subst hsize
    subst hby
    rcases hown.2 with ⟨rfl, rfl⟩ | ⟨g, cap, cur, rfl, hbg, hgg, hnc, hcm, hcs, htake⟩
    · have := run_append_nil (P := P) w t ty e i z ht hi hz ad m c news hl hnews hm (by omega) (by have hb := hbytes; simp only [Nat.zero_add] at hb; omega)
      rw [hr] at this
      simp only [Result.ok.injEq] at this
      rw [this.1]
      exact .inr ⟨_, rfl, Nat.le_refl _⟩
    · by_cases hroom : n + m ≤ cap
      · have hfit : n * i.size + news.length ≤ cur.size := by rw [hl, hcs, ← Nat.add_mul]; exact Nat.mul_le_mul_right _ hroom
        have := run_append_room (P := P) w t ty e i ht hi g n cap cur hgg ad m c news hl hnews h1 hroom hfit
        rw [hr] at this
        simp only [Result.ok.injEq] at this
        rw [this.1]
        exact .inl rfl
      · have holds : ∀ j u, xs[j]? = some u → w.cell? ((⟨g, 0, none⟩ : Addr).add j) = some u := hown.cells (g := g) rfl
        have := run_append_grow (P := P) w t ty e i z ht hi hz ⟨g, 0, none⟩ n cap xs hown.1 holds ad m c news hl hnews (by omega) (by omega) (growslice_fits (by omega) hbytes)
        rw [hr] at this
        simp only [Result.ok.injEq] at this
        rw [this.1]
        exact .inr ⟨_, rfl, Nat.le_refl _⟩
theorem wp_append_k {P : Program} {w : World} {o : Oper} {a : Act} {K : Act → World → Prop} {Q : Exit → Act → World → Prop} {s x : Operand} {t : TypeId}
    (ho : o.op = .call { callee := .builtin .append, args := #[s, x], argTypes := #[t, t] })
    (base : Nat) {e : TypeId} {z : Value} {size bytes : Nat} (ht : P.underlying t = some (.slice e)) (hinfo : (P.info? e).map (fun i => (i.zero, i.size, i.bytes)) = some (some z, size, bytes)) (hzs : z.cells.size = size) (hsz : 0 < size)
    {v : Value} {n : Nat} {xs : List Value} (hs : a.eval s = v) (hown : w.ownsRow base e size v n xs)
    {A : Option Addr} {m c : Nat} {news : List Value} (hx : a.eval x = .slice A m c) (hl : news.length = m * size) (hA : m = 0 ∨ ∃ ad, A = some ad ∧ ∀ j u, news[j]? = some u → w.cell? (ad.add j) = some u) (h1 : ∀ u ∈ news, u.oneCell' = true)
    (h63 : n + m ≤ maxLen) (hbytes : (n + m) * bytes ≤ 140737488355328) (hbase : base ≤ w.heap.size)
    (h : ∀ v' w', w'.ownsRow base e size v' (n + m) (xs ++ news) → w.grownBy w' v.ownBlock → NewOr w v v' → K (a.put o.dst v') w') : o.wp P a w K Q := by
  obtain ⟨i, hi, hz, hsize, hby⟩ := info_parts hinfo
  obtain ⟨v', w', hr, h2, h3, h4⟩ := run_append_k (P := P) w base t o.type e i z size bytes ht hi hz hsize hby hzs hsz v n xs hown A m c news hl hA h1 h63 hbytes hbase
  unfold Oper.wp execOp
  simp only [ho, resolve, invoke, builtin, Sem.run_bind, Sem.run_pure, Result.andThen_ok, List.map_toArray, List.map_cons, List.map_nil, hs, hx, hr]
  exact h v' w' h2 h3 h4
/-- An owned row and a block of another type. -/
theorem own_blk_ne {w : World} {base : Nat} {e : TypeId} {size n : Nat} {v : Value} {xs : List Value} {b : Nat} {cs : Array Value} {t : TypeId} (h : w.ownsRow base e size v n xs) (hb : Blk w b cs t) (ht : e ≠ t) : some b ≠ v.ownBlock := by
  intro he
  rcases h.2 with ⟨rfl, _⟩ | ⟨g, cap, cur, rfl, _, hg, _⟩
  · simp [Value.ownBlock] at he
  · simp only [Value.ownBlock, Option.some.injEq] at he
    subst he
    exact Blk.ne (w := w) hg hb ht rfl
theorem own_fr {w w' : World} {base : Nat} {e : TypeId} {size n : Nat} {v : Value} {xs : List Value} {T : Nat → Prop} (h : w.ownsRow base e size v n xs) (f : Fr T w w') (ht : ∀ k, v.ownBlock = some k → ¬ T k) : w'.ownsRow base e size v n xs := by
  refine ⟨h.1, ?_⟩
  rcases h.2 with h | ⟨g, cap, cur, rfl, hb, hg, r⟩
  · exact .inl h
  · exact .inr ⟨g, cap, cur, rfl, hb, Blk.fr (w := w) hg f (ht g rfl), r⟩
theorem Blk.grown {w w' : World} {b : Nat} {cs : Array Value} {t : TypeId} {row : Option Nat} (h : Blk w b cs t) (g : w.grownBy w' row) (hn : some b ≠ row) : Blk w' b cs t := (g.block b h.lt hn).trans h
theorem Fr.grown {T : Nat → Prop} {a w w' : World} {row : Option Nat} (h : Fr T a w) (g : w.grownBy w' row) (hr : ∀ k, k < a.heap.size → some k = row → T k) : Fr T a w' :=
  h.step (Fr.of_grown g) hr

theorem own_form {w : World} {base : Nat} {e : TypeId} {size n : Nat} {v : Value} {xs : List Value} (h : w.ownsRow base e size v n xs) : ∃ A c, v = .slice A n c := by
  rcases h.2 with ⟨rfl, rfl⟩ | ⟨g, cap, cur, rfl, _⟩
  · exact ⟨_, _, rfl⟩
  · exact ⟨_, _, rfl⟩
/-- A store into a block of another type. -/
theorem own_set {w : World} {base : Nat} {e : TypeId} {size n : Nat} {v : Value} {xs : List Value} {b : Nat} {cs : Array Value} {t : TypeId} (h : w.ownsRow base e size v n xs) (hb : Blk w b cs t) (ht : e ≠ t) (j : Nat) (u : Value) :
    (w.setCell ⟨b, j, none⟩ u).ownsRow base e size v n xs :=
  own_fr (T := fun k => k = b) h ((Fr.refl (fun k => k = b) w).setCell (p := ⟨b, j, none⟩) (fun _ => rfl) _) (fun _ hk e => own_blk_ne h hb ht (e ▸ hk.symm))

/-! ### Rows of equal length, one behind the other -/
theorem flatMap_length {α β : Type} (f : α → List β) (s : Nat) : ∀ (l : List α), (∀ x ∈ l, (f x).length = s) → (l.flatMap f).length = l.length * s
  | [], _ => by simp
  | x :: l, h => by
    rw [List.flatMap_cons, List.length_append, h x (by simp), flatMap_length f s l (fun y hy => h y (by simp [hy])), List.length_cons, Nat.add_mul, Nat.one_mul, Nat.add_comm]
theorem flatMap_get {α β : Type} (f : α → List β) (s : Nat) : ∀ (l : List α) (_ : ∀ x ∈ l, (f x).length = s) (k : Nat) (hk : k < l.length) (j : Nat), j < s → (l.flatMap f)[k * s + j]? = (f l[k])[j]?
  | [], _, k, hk, _, _ => by simp at hk
  | x :: l, h, 0, _, j, hj => by
    rw [List.flatMap_cons, Nat.zero_mul, Nat.zero_add, List.getElem?_append_left (by rw [h x (by simp)]; exact hj)]
    rfl
  | x :: l, h, k + 1, hk, j, hj => by
    have hx := h x (by simp)
    rw [List.flatMap_cons, List.getElem?_append_right (by rw [hx, Nat.add_mul]; omega), hx]
    have e : (k + 1) * s + j - s = k * s + j := by rw [Nat.add_mul]; omega
    rw [e, flatMap_get f s l (fun y hy => h y (by simp [hy])) k (by simpa using hk) j hj]
    rfl
theorem flatMap_set {α β : Type} (f : α → List β) (s : Nat) (x : α) : ∀ (l : List α) (_ : ∀ y ∈ l, (f y).length = s) (k : Nat), k < l.length → (f x).length = s →
    (l.flatMap f).take (k * s) ++ f x ++ (l.flatMap f).drop (k * s + s) = (l.set k x).flatMap f
  | [], _, k, hk, _ => by simp at hk
  | y :: l, h, 0, _, hx => by
    have hy := h y (by simp)
    simp only [Nat.zero_mul, List.take_zero, List.nil_append, Nat.zero_add, List.flatMap_cons, List.set_cons_zero]
    rw [← hy, List.drop_left]
  | y :: l, h, k + 1, hk, hx => by
    have hy := h y (by simp)
    have ih := flatMap_set f s x l (fun z hz => h z (by simp [hz])) k (by simpa using hk) hx
    rw [List.flatMap_cons, List.set_cons_succ, List.flatMap_cons, ← ih]
    have e1 : (k + 1) * s = (f y).length + k * s := by rw [hy, Nat.add_mul]; omega
    rw [e1, List.take_length_add_append, Nat.add_assoc, List.drop_length_add_append]
    simp only [List.append_assoc]
theorem own_range {w : World} {base : Nat} {e : TypeId} {size n g c : Nat} {xs : List Value} (h : w.ownsRow base e size (.slice (some ⟨g, 0, none⟩) n c) n xs) (o : Nat) (l : List Value) (hl : ∀ j u, l[j]? = some u → xs[o + j]? = some u) : w.rangeAt g o l :=
  fun j u hu => by
    have := h.cells (g := g) rfl (o + j) u (hl j u hu)
    rwa [Addr.add_mid, Nat.zero_add] at this

/-! ### Arrays and structs in a plain region -/
theorem wpList_loadN {P : Program} {ops : Array Oper} {rest : List Oper} {op : Oper} {a : Act} {w : World} {Q : Exit → Act → World → Prop} {t : TypeId} {x : Operand} {b o n : Nat} {cs : List Value} (hgd : op.guard = none) (ho : op.op = .load t x)
    (hx : a.eval x = .pointer (some ⟨b, o, none⟩)) (hc : w.rangeAt b o cs) (hn : cs.length = n) (hu : (P.underlying t).map TypeDesc.isRow = some true) (hi : (P.info? t).map (·.size) = some n)
    (h : wpList P ops Q rest (a.put op.dst (.agg cs.toArray)) w) : wpList P ops Q (op :: rest) a w := by
  subst hn
  obtain ⟨d, hd, hd2⟩ := Option.map_eq_some_iff.1 hu
  exact wpList_load_mid hgd t x ho b o hx cs d hc hd hd2 hi h
theorem wpList_storeN {P : Program} {ops : Array Oper} {rest : List Oper} {op : Oper} {a : Act} {w : World} {Q : Exit → Act → World → Prop} {t : TypeId} {x y : Operand} {b o n : Nat} {cs : List Value} (hgd : op.guard = none) (ho : op.op = .store t x y)
    (hx : a.eval x = .pointer (some ⟨b, o, none⟩)) (hy : a.eval y = .agg cs.toArray) (hn : cs.length = n) (ht : w.there b o n) (hi : (P.info? t).map (·.size) = some n) (h1 : ∀ v ∈ cs, v.oneCell' = true)
    (h : wpList P ops Q rest (a.put op.dst undef) (w.setCells b o cs)) : wpList P ops Q (op :: rest) a w := by
  subst hn
  exact wpList_store_mid hgd t x y ho b o cs.toArray hx hy (by simpa using ht) (by simpa using hi) (all_oneCell_toArray h1) h
/-- 'x := v' of a variable in memory: alloc, then a store of the whole. -/
theorem wpList_newN {P : Program} {ops : Array Oper} {rest : List Oper} {o1 o2 : Oper} {a : Act} {w : World} {Q : Exit → Act → World → Prop} {e : TypeId} {t : Tmp} {y : Operand} {n : Nat} {cs : List Value}
    (hg1 : o1.guard = none) (ho1 : o1.op = .alloc e) (hd1 : o1.dst = some t) (hg2 : o2.guard = none) (ho2 : o2.op = .store e (.tmp t) y) (hd2 : o2.dst = none) (hy : a.eval y = .agg cs.toArray) (hyt : y ≠ .tmp t) (htn : t < a.tmps.size) (hn : cs.length = n)
    (hi : (P.info? e).map (fun i => (i.zero.map fun z => z.cells.size, i.size)) = some (some n, n)) (h1 : ∀ v ∈ cs, v.oneCell' = true)
    (h : wpList P ops Q rest (a.put (some t) (.pointer (some ⟨w.heap.size, 0, none⟩))) (w.alloc (.cells cs.toArray e))) : wpList P ops Q (o1 :: o2 :: rest) a w := by
  subst hn
  obtain ⟨i, hi0, hi1⟩ := Option.map_eq_some_iff.1 hi
  simp only [Prod.mk.injEq, Option.map_eq_some_iff] at hi1
  obtain ⟨⟨z, hz, hzs⟩, his⟩ := hi1
  have hr1 : (execOp a.eval o1).run P w = .ok (.value (.pointer (some ⟨w.heap.size, 0, none⟩))) (w.alloc (.cells z.cells e)) := by
    unfold execOp
    simp [ho1, Instr.alloc, zeroValue, typeInfo, hi0, hz, newVar, newRow]
  refine wpList_value hg1 hr1 ?_
  rw [hd1]
  refine wpList_plain hg2 fun K hK => ?_
  have hx : (a.put (some t) (.pointer (some ⟨w.heap.size, 0, none⟩))).eval (.tmp t) = .pointer (some ⟨w.heap.size, 0, none⟩) := by
    simp [Act.eval, Act.put, htn]
  have hy' : (a.put (some t) (.pointer (some ⟨w.heap.size, 0, none⟩))).eval y = .agg cs.toArray := by
    rw [Act.eval_put (fun d hd => by cases hd; exact hyt)]; exact hy
  refine wp_store_mid e (.tmp t) y ho2 w.heap.size 0 cs.toArray hx hy' ?_ (by simp [hi0, his]) (all_oneCell_toArray h1) ?_
  · exact (Blk.new w z.cells e).there 0 _ (by simp [hzs])
  · rw [hd2]
    refine hK _ _ ?_
    have e1 : (w.alloc (.cells z.cells e)).setCells w.heap.size 0 cs.toArray.toList = w.alloc (.cells cs.toArray e) := by
      have := run_storeVar_new (P := P) w e z.cells cs.toArray (by simp [hi0, his]) (by simp [hzs]) (all_oneCell_toArray h1)
      have h2 := run_storeVar_mid (P := P) (w.alloc (.cells z.cells e)) w.heap.size 0 e cs.toArray ((Blk.new w z.cells e).there 0 _ (by simp [hzs])) (by simp [hi0, his]) (all_oneCell_toArray h1)
      rw [this] at h2
      simp only [Result.ok.injEq, true_and] at h2
      exact h2.symm
    rw [e1]
    exact h

/-- A new variable whose zero cells do not matter (it is stored whole behind). -/
theorem wpList_alloc1 {P : Program} {ops : Array Oper} {rest : List Oper} {o : Oper} {a : Act} {w : World} {Q : Exit → Act → World → Prop} {e : TypeId} {n : Nat} (hgd : o.guard = none) (ho : o.op = .alloc e)
    (hi : (P.info? e).map (fun i => i.zero.map fun z => z.cells.size) = some (some n))
    (h : ∀ zc : Array Value, zc.size = n → wpList P ops Q rest (a.put o.dst (.pointer (some ⟨w.heap.size, 0, none⟩))) (w.alloc (.cells zc e))) : wpList P ops Q (o :: rest) a w := by
  obtain ⟨i, hi0, hi1⟩ := Option.map_eq_some_iff.1 hi
  obtain ⟨z, hz, hzs⟩ := Option.map_eq_some_iff.1 hi1
  refine wpList_value hgd ?_ (h z.cells hzs)
  unfold execOp
  simp [ho, Instr.alloc, zeroValue, typeInfo, hi0, hz, newVar, newRow]
theorem wpList_store1 {P : Program} {ops : Array Oper} {rest : List Oper} {o : Oper} {a : Act} {w : World} {Q : Exit → Act → World → Prop} {e : TypeId} {x y : Operand} {n : Nat} {zc : Array Value} {cs : List Value} (hgd : o.guard = none) (ho : o.op = .store e x y)
    (hx : a.eval x = .pointer (some ⟨w.heap.size, 0, none⟩)) (hy : a.eval y = .agg cs.toArray) (hn : cs.length = n) (hz : zc.size = n) (hi : (P.info? e).map (·.size) = some n) (h1 : ∀ v ∈ cs, v.oneCell' = true)
    (h : wpList P ops Q rest (a.put o.dst undef) (w.alloc (.cells cs.toArray e))) : wpList P ops Q (o :: rest) a (w.alloc (.cells zc e)) := by
  subst hn
  refine wpList_plain hgd fun K hK => wp_store_mid e x y ho w.heap.size 0 cs.toArray hx hy ((Blk.new w zc e).there 0 _ (by simp [hz])) (by simpa using hi) (all_oneCell_toArray h1) ?_
  have e1 : (w.alloc (.cells zc e)).setCells w.heap.size 0 cs.toArray.toList = w.alloc (.cells cs.toArray e) := by
    have := run_storeVar_new (P := P) w e zc cs.toArray (by simpa using hi) (by simp [hz]) (all_oneCell_toArray h1)
    have h2 := run_storeVar_mid (P := P) (w.alloc (.cells zc e)) w.heap.size 0 e cs.toArray ((Blk.new w zc e).there 0 _ (by simp [hz])) (by simpa using hi) (all_oneCell_toArray h1)
    rw [this] at h2
    simp only [Result.ok.injEq, true_and] at h2
    exact h2.symm
  rw [e1]
  exact hK _ _ h
theorem wp_storeN {P : Program} {op : Oper} {a : Act} {w : World} {K : Act → World → Prop} {Q : Exit → Act → World → Prop} {t : TypeId} {x y : Operand} {b o n : Nat} {cs : List Value} (ho : op.op = .store t x y)
    (hx : a.eval x = .pointer (some ⟨b, o, none⟩)) (hy : a.eval y = .agg cs.toArray) (hn : cs.length = n) (ht : w.there b o n) (hi : (P.info? t).map (·.size) = some n) (h1 : ∀ v ∈ cs, v.oneCell' = true)
    (h : K (a.put op.dst undef) (w.setCells b o cs)) : op.wp P a w K Q := by
  subst hn
  exact wp_store_mid t x y ho b o cs.toArray hx hy (by simpa using ht) (by simpa using hi) (all_oneCell_toArray h1) h

/-- Ints as cells; a slice that reads as ints. -/
def its (l : List Int) : List Value := l.map fun z => .int .i64 z
def RdI (w : World) (v : Value) (l : List Int) : Prop :=
  l.length ≤ maxLen ∧ ((∃ A c, v = .slice A 0 c ∧ l = []) ∨ ∃ b o c, v = .slice (some ⟨b, o, none⟩) l.length c ∧ l.length ≤ c ∧ w.rangeAt b o (its l))
theorem RdI.fr {w w' : World} {v : Value} {l : List Int} {T : Nat → Prop} (h : RdI w v l) (f : Fr T w w') (ht : l ≠ [] → ∀ k, v.ownBlock = some k → ¬ T k) : RdI w' v l := by
  refine ⟨h.1, ?_⟩
  by_cases hl : l = []
  · rcases h.2 with h | ⟨b, o, c, rfl, hc, hr⟩
    · exact .inl h
    · subst hl; exact .inl ⟨_, c, rfl, rfl⟩
  rcases h.2 with h | ⟨b, o, c, rfl, hc, hr⟩
  · exact .inl h
  · exact .inr ⟨b, o, c, rfl, hc, hr.fr f (ht hl b rfl)⟩
theorem RdI.below {w w' : World} {v : Value} {l : List Int} (h : RdI w v l) (f : Below w.heap.size w w') : RdI w' v l := h.fr (T := fun _ => False) (Fr.of_below f _) (fun _ _ _ h => h)
theorem RdI.slice {w : World} {v : Value} {l : List Int} (h : RdI w v l) : ∃ A c, v = .slice A l.length c := by
  rcases h.2 with ⟨A, c, rfl, rfl⟩ | ⟨b, o, c, rfl, _⟩
  · exact ⟨_, _, rfl⟩
  · exact ⟨_, _, rfl⟩
theorem RdI.at {w : World} {A : Option Addr} {n c : Nat} {l : List Int} (h : RdI w (.slice A n c) l) {j : Nat} (hj : j < l.length) : ∃ b o, A = some ⟨b, o, none⟩ ∧ w.cell? ⟨b, o + j, none⟩ = some (.int .i64 l[j]) := by
  rcases h.2 with ⟨A', c, _, rfl⟩ | ⟨b, o, c, hv, _, hr⟩
  · simp at hj
  · simp only [Value.slice.injEq] at hv
    exact ⟨b, o, hv.1, hr j _ (by simp [its, List.getElem?_eq_getElem hj])⟩

theorem Below.drewN_k {B : Nat} {a w : World} (h : Below B a w) (n : Nat) : Below B a (w.drewN n) := ⟨h.os, h.tape, h.output, h.size, h.block⟩
theorem RdI.max {w : World} {v : Value} {l : List Int} (h : RdI w v l) : (l.length : Int) ≤ 9223372036854775807 := by
  have := h.1
  simp only [maxLen] at this
  omega
theorem Rd.max {w : World} {v : Value} {l : List UInt8} (h : Rd w v l) : (l.length : Int) ≤ 9223372036854775807 := by
  have := h.1
  simp only [maxLen] at this
  omega

theorem i64_and1 (n : Int) : bits .and .i64 n 1 = n % 2 := by
  have key : (BitVec.ofInt 64 n &&& BitVec.ofInt 64 1).toNat = (n % ((2 ^ 64 : Nat) : Int)).toNat % 2 := by
    rw [BitVec.toNat_and, BitVec.toNat_ofInt, show (BitVec.ofInt 64 1).toNat = 2 ^ 1 - 1 from by decide, Nat.and_two_pow_sub_one_eq_mod]
  simp only [bits]
  show IntKind.i64.wrap ((BitVec.ofInt 64 n &&& BitVec.ofInt 64 1).toNat : Nat) = n % 2
  rw [key, IntKind.wrap_i64]
  omega

theorem wpList_append_k {P : Program} {ops : Array Oper} {rest : List Oper} {w : World} {o : Oper} {a : Act} {Q : Exit → Act → World → Prop} {s x : Operand} {t : TypeId} (hgd : o.guard = none)
    (ho : o.op = .call { callee := .builtin .append, args := #[s, x], argTypes := #[t, t] })
    (base : Nat) {e : TypeId} {z : Value} {size bytes : Nat} (ht : P.underlying t = some (.slice e)) (hinfo : (P.info? e).map (fun i => (i.zero, i.size, i.bytes)) = some (some z, size, bytes)) (hzs : z.cells.size = size) (hsz : 0 < size)
    {v : Value} {n : Nat} {xs : List Value} (hs : a.eval s = v) (hown : w.ownsRow base e size v n xs)
    {A : Option Addr} {m c : Nat} {news : List Value} (hx : a.eval x = .slice A m c) (hl : news.length = m * size) (hA : m = 0 ∨ ∃ ad, A = some ad ∧ ∀ j u, news[j]? = some u → w.cell? (ad.add j) = some u) (h1 : ∀ u ∈ news, u.oneCell' = true)
    (h63 : n + m ≤ maxLen) (hbytes : (n + m) * bytes ≤ 140737488355328) (hbase : base ≤ w.heap.size)
    (h : ∀ v' w', w'.ownsRow base e size v' (n + m) (xs ++ news) → w.grownBy w' v.ownBlock → NewOr w v v' → wpList P ops Q rest (a.put o.dst v') w') : wpList P ops Q (o :: rest) a w :=
  wpList_plain hgd fun _ hK => wp_append_k ho base ht hinfo hzs hsz hs hown hx hl hA h1 h63 hbytes hbase fun v' w' h1 h2 h3 => hK _ _ (h v' w' h1 h2 h3)
/-- What an append leaves of old memory: the row is one of the call's own. -/
theorem below_append {B : Nat} {w w1 w2 : World} {base : Nat} {e : TypeId} {size n : Nat} {v : Value} {xs : List Value} (h : Below B w w1) (ho : w1.ownsRow base e size v n xs) (hg : w1.grownBy w2 v.ownBlock) (hb : B ≤ base) (hB : B ≤ w1.heap.size) : Below B w w2 :=
  h.grown hg hB (fun k hk => Nat.le_trans hb (ho.lt k hk.symm.symm).1)
theorem Fr.newOr {w w1 : World} {v v' : Value} (h : NewOr w1 v v') (f : w.heap.size ≤ w1.heap.size) : NewOr w v v' := h.imp id (fun ⟨g, h1, h2⟩ => ⟨g, h1, Nat.le_trans f h2⟩)

theorem below_then {w w1 w2 : World} (h : Below w.heap.size w w1) (k : Below w1.heap.size w1 w2) : Below w.heap.size w w2 := h.trans (k.mono h.size)

/-! ### string(b) -/
/-- Bytes as a string. -/
def str (l : List UInt8) : ByteArray := ⟨l.toArray⟩
theorem str_inj {a b : List UInt8} (h : str a = str b) : a = b := by
  have := congrArg (fun s : ByteArray => s.data.toList) h
  simpa [str] using this
theorem run_str {P : Program} {src dst e : TypeId} {w : World} {v : Value} {l : List UInt8} (hs : P.underlying src = some (.slice e)) (he : P.underlying e = some (.int .u8)) (hd : P.underlying dst = some .string) (h : Rd w v l) :
    (convert src dst v).run P w = .ok (.string (str l)) w := by
  rcases h.2 with ⟨A, c, rfl, rfl⟩ | ⟨b, o, c, rfl, hc, hr⟩
  · cases A with
    | none => exact run_convert_bytes_nil w src e hs he 0 c dst hd
    | some ad => exact run_convert_bytes_back w src dst e ad c [] hs he hd (fun j hj => by simp at hj)
  · exact run_convert_bytes_back w src dst e ⟨b, o, none⟩ c l hs he hd (fun j hj => by
      rw [Addr.add_mid]
      exact hr j _ (by rw [bts_get, List.getElem?_eq_getElem hj]; rfl))
theorem exec_str {P : Program} {o : Oper} {a : Act} {src dst : TypeId} {x : Operand} {w : World} {v : Value} {l : List UInt8} (ho : o.op = .convert src dst x) (hx : a.eval x = v) (h : Rd w v l)
    (hs : ((P.underlying src).bind fun d => match d with | .slice e => P.underlying e | _ => none) = some (.int .u8)) (hd : P.underlying dst = some .string) :
    (execOp a.eval o).run P w = .ok (.value (.string (str l))) w := by
  obtain ⟨d, hd1, hd2⟩ := Option.bind_eq_some_iff.1 hs
  cases d <;> simp at hd2
  rename_i e
  unfold execOp
  simp only [ho, hx]
  exact exec_v (run_str hd1 hd2 hd h)
theorem wpF_str {P : Program} {ops : Array Oper} {Q : Exit → Act → World → Prop} {a : Act} {w : World} {o : Oper} {rest : List (Oper × Nat)} {T : Nat → Prop} {src dst : TypeId} {x : Operand} {v : Value} {l : List UInt8} (hw : Region.wanted o (yielded ops a.tmps) = true)
    (ho : o.op = .convert src dst x) (hx : a.eval x = v) (h : Rd w v l) (hT : ∀ k, v.ownBlock = some k → ¬ T k)
    (hs : ((P.underlying src).bind fun d => match d with | .slice e => P.underlying e | _ => none) = some (.int .u8)) (hd : P.underlying dst = some .string)
    (hK : ∀ K : Act → Prop, (∀ a', wpF P ops Q (Fr T) rest a' w → K a') → K (a.put o.dst (.string (str l)))) : wpF P ops Q (Fr T) ((o, 1) :: rest) a w :=
  wpF_f1 hw (fun _ hw' => exec_str ho hx (h.fr hw' (fun _ => hT)) hs hd) hK
theorem wpList_str {P : Program} {ops : Array Oper} {Q : Exit → Act → World → Prop} {a : Act} {w : World} {o : Oper} {rest : List Oper} {src dst : TypeId} {x : Operand} {v : Value} {l : List UInt8} (hg : o.guard = none)
    (ho : o.op = .convert src dst x) (hx : a.eval x = v) (h : Rd w v l)
    (hs : ((P.underlying src).bind fun d => match d with | .slice e => P.underlying e | _ => none) = some (.int .u8)) (hd : P.underlying dst = some .string)
    (hK : wpList P ops Q rest (a.put o.dst (.string (str l))) w) : wpList P ops Q (o :: rest) a w :=
  wpList_value hg (exec_str ho hx h hs hd) hK
theorem Rd.blk {w : World} {g : Nat} {l : List UInt8} {t : TypeId} {n c : Nat} (h : Blk w g (bts l).toArray t) (hn : l.length = n) (hc : n ≤ c) (hm : n ≤ maxLen) : Rd w (.slice (some ⟨g, 0, none⟩) n c) l := by
  subst hn
  exact ⟨hm, .inr ⟨g, 0, c, rfl, hc, h.range' 0 _ (fun j v hv => by simpa using hv)⟩⟩

end Go
