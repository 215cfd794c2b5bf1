/- A region that draws its order, walked once: its operations in one order of our choice; what floats (reads the same in every later world) may be taken first; what acts is taken where nothing else can come up. -/
import Derived.Deep.Quiet
import Derived.Below
import Derived.Deep.MidRow
namespace Go

/-- w' is w but for new blocks and for the blocks in T. -/
structure Fr (T : Nat → Prop) (w w' : World) : Prop where
  os : w'.os = w.os
  tape : w'.tape = w.tape
  output : w'.output = w.output
  size : w.heap.size ≤ w'.heap.size
  block : ∀ k, k < w.heap.size → ¬ T k → w'.heap[k]? = w.heap[k]?

section
variable {P : Program} {ops : Array Oper} {Q : Exit → Act → World → Prop} {R : World → World → Prop} {rq : Nat → Bool}

def RClosed (ops : Array Oper) (listed : Array Bool) : Prop :=
  ∀ k o, ops[k]? = some o → listed.getD k false = true → ∀ e ∈ o.after, Region.binds .any e = true → listed.getD e.on false = true

def ranc (ops : Array Oper) (i : Nat) : Nat → Nat → Bool
  | 0, _ => false
  | f + 1, j => match ops[j]? with
    | some o => o.after.any fun e => Region.binds .any e && (e.on == i || ranc ops i f e.on)
    | none => false

theorem ranc_listed {i : Nat} {listed : Array Bool} (hc : RClosed ops listed) : ∀ (f j : Nat) (o : Oper), ops[j]? = some o → ranc ops i f j = true →
    (∀ e ∈ o.after, Region.binds .any e = true → listed.getD e.on false = true) → listed.getD i false = true
  | 0, _, _, _, h, _ => by simp [ranc] at h
  | f + 1, j, o, ho, h, hl => by
    simp only [ranc, ho] at h
    obtain ⟨e, he, hb⟩ := Array.any_eq_true'.1 h
    simp only [Bool.and_eq_true, Bool.or_eq_true, beq_iff_eq] at hb
    obtain ⟨hb1, hb2⟩ := hb
    have hle := hl e he hb1
    rcases hb2 with hb2 | hb2
    · rw [← hb2]; exact hle
    · cases f with
      | zero => simp [ranc] at hb2
      | succ f =>
        cases ho' : ops[e.on]? with
        | none => simp [ranc, ho'] at hb2
        | some o' => exact ranc_listed hc (f + 1) e.on o' ho' hb2 (hc e.on o' ho' hle)

theorem RClosed.set {listed : Array Bool} {j : Nat} (hc : RClosed ops listed) (hj : j ∈ Region.ready .any ops listed) : RClosed ops (listed.setIfInBounds j true) := by
  intro k o ho hl e he hb
  by_cases hkj : j = k
  · subst hkj
    obtain ⟨_, o', ho', hall⟩ := mem_ready.1 hj
    rw [ho] at ho'
    cases ho'
    exact getD_set_true (hall e he hb)
  · rw [getD_set_ne false hkj] at hl
    exact getD_set_true (hc k o ho hl e he hb)

def wpAnyR (P : Program) (ops : Array Oper) (Q : Exit → Act → World → Prop) (R : World → World → Prop) (rq : Nat → Bool) : Nat → Array Bool → Act → World → Prop
  | 0, listed, a, w => Region.ready .any ops listed = [] ∧ Q .normal a w
  | fuel + 1, listed, a, w =>
    (Region.ready .any ops listed = [] → Q .normal a w) ∧
    ∀ i ∈ Region.ready .any ops listed, wpOp P ops Q i (fun a' w' => (rq i = true → R w w') ∧ wpAnyR P ops Q R rq fuel (listed.setIfInBounds i true) a' w') a w

theorem wpAny_of_R : ∀ (fuel : Nat) (listed : Array Bool) (a : Act) (w : World), wpAnyR P ops Q R rq fuel listed a w → wpAny P .any ops Q fuel listed a w
  | 0, _, _, _, h => h
  | fuel + 1, _, _, _, h => ⟨h.1, fun i hi => wpOp_mono (fun a' w' hh => wpAny_of_R fuel _ a' w' hh.2) (h.2 i hi)⟩

/-- In every world of S the operation yields v and leaves the world. -/
def Floats (P : Program) (ops : Array Oper) (S : World → Prop) (o : Oper) (v : Value) (a : Act) : Prop :=
  (Region.wanted o (yielded ops a.tmps) = true ∧ ∀ w, S w → (execOp a.eval o).run P w = .ok (.value v) w) ∨
  (Region.wanted o (yielded ops a.tmps) = false ∧ v = undef)

theorem Floats.wpOp {S : World → Prop} {i : Nat} {o : Oper} {v : Value} {a : Act} (hi : ops[i]? = some o) (hy : Floats P ops S o v a)
    {K : Act → World → Prop} {w : World} (hS : S w) (h : K (a.put o.dst v) w) : wpOp P ops Q i K a w := by
  unfold Go.wpOp
  simp only [hi]
  rcases hy with ⟨hw, hv⟩ | ⟨hw, rfl⟩
  · simp only [hw, if_true, Oper.wp, hv w hS, Oper.upon]; exact .inl h
  · simp only [hw, Bool.false_eq_true, if_false]; exact h

theorem Floats.of_same {S : World → Prop} {o : Oper} {v : Value} {a a' : Act} (hy : Floats P ops S o v a) (he : execOp a'.eval o = execOp a.eval o)
    (hw : Region.wanted o (yielded ops a'.tmps) = Region.wanted o (yielded ops a.tmps)) : Floats P ops S o v a' := by
  unfold Floats at *
  rw [he, hw]
  exact hy

theorem floats_put {S : World → Prop} {j : Nat} {oi oj : Oper} {v : Value} (hj : ops[j]? = some oj) (hap : oi.apart ops oj = true)
    (hsi : ∀ cs b, oi.op ≠ .select cs b) (hsj : ∀ cs b, oj.op ≠ .select cs b)
    (hQ : ∀ c a w, Q (.panic c) (a.put oi.dst v) w → Q (.panic c) a w) {K : Act → World → Prop} {a : Act} {w : World}
    (hy : Floats P ops S oi v a) (h : wpOp P ops Q j K (a.put oi.dst v) w) :
    wpOp P ops Q j (fun a' w' => Floats P ops S oi v a' ∧ K (a'.put oi.dst v) w') a w := by
  obtain ⟨h1, h2, h3⟩ := Oper.apart_spec hap
  have keep : ∀ (a : Act), Floats P ops S oi v a → ∀ u, Floats P ops S oi v (a.put oj.dst u) := fun a hy u =>
    hy.of_same (execOp_put oi hsi a oj.dst u h3) (wanted_put oi a oj.dst u h3)
  have keepD : ∀ d, Floats P ops S oi v { a with defers := d :: a.defers } := fun d => hy.of_same rfl rfl
  unfold wpOp at *
  simp only [hj] at *
  rw [wanted_put oj a oi.dst v h1] at h
  split
  · rename_i hw
    simp only [hw, if_true] at h
    rcases h with h | ⟨hasks, hlets⟩
    case inr => exact .inr ⟨by unfold Oper.asks at *; rw [execOp_put oj hsj a oi.dst v h1] at hasks; exact hasks, hlets⟩
    refine .inl ?_
    unfold Oper.wp at *
    rw [execOp_put oj hsj a oi.dst v h1] at h
    generalize (execOp a.eval oj).run P w = r at *
    cases r with
    | ok n w' =>
      cases n <;> simp only [Oper.upon] at h ⊢
      case value u => exact ⟨keep a hy u, by rw [← Act.put_comm a v u h2]; exact h⟩
      case skip => exact ⟨keep a hy _, by rw [← Act.put_comm a v undef h2]; exact h⟩
      case defer d =>
        refine ⟨keep _ (keepD d) _, ?_⟩
        rw [← Act.put_comm _ v undef h2, ← Act.put_defers]
        exact h
      case enter f args =>
        refine Calls.mono h fun e w'' he => ?_
        cases e with
        | returned u => exact ⟨keep a hy u, by rw [← Act.put_comm a v u h2]; exact he⟩
        | panicked c => exact hQ _ _ _ he
        | outgrown => exact he
      case row row args => exact Rows.mono h fun u w'' he => ⟨keep a hy u, by rw [← Act.put_comm a v u h2]; exact he⟩
    | halt x w' =>
      cases x <;> simp only [Oper.upon] at h ⊢
      case panic u => exact hQ _ _ _ h
  · rename_i hw
    simp only [hw] at h
    exact ⟨keep a hy _, by rw [← Act.put_comm a v undef h2]; exact h⟩

/-- What floats may be taken first. -/
theorem wpAnyR_first {S : World → Prop} {i : Nat} {oi : Oper} {v : Value} (hi : ops[i]? = some oi) (hsel : ∀ (j : Nat) (o : Oper) cs b, ops[j]? = some o → o.op ≠ .select cs b)
    (hQ : ∀ c a w, Q (.panic c) (a.put oi.dst v) w → Q (.panic c) a w) (hrefl : ∀ w, R w w)
    (hst : ∀ (j : Nat) (listed : Array Bool) (w w' : World), RClosed ops listed → i ∈ Region.ready .any ops listed → j ∈ Region.ready .any ops listed → j ≠ i → (rq j = true → R w w') → S w → S w') :
    ∀ (fuel : Nat) (listed : Array Bool) (a : Act) (w : World), RClosed ops listed →
      (∀ j oj, ops[j]? = some oj → j ≠ i → listed.getD j true = false → (∀ e ∈ oj.after, Region.binds .any e = true → e.on ≠ i) → oi.apart ops oj = true) →
      i ∈ Region.ready .any ops listed → S w → Floats P ops S oi v a →
      wpAnyR P ops Q R rq fuel (listed.setIfInBounds i true) (a.put oi.dst v) w → wpAnyR P ops Q R rq (fuel + 1) listed a w := by
  intro fuel
  induction fuel with
  | zero =>
    intro listed a w _ _ hr hS hy H
    refine ⟨fun h => (by rw [h] at hr; cases hr), fun j hj => ?_⟩
    by_cases hji : j = i
    · subst hji; exact hy.wpOp hi hS ⟨fun _ => hrefl _, H⟩
    · have := ready_mono hj hji
      rw [H.1] at this
      cases this
  | succ fuel ih =>
    intro listed a w hcl hfree hr hS hy H
    refine ⟨fun h => (by rw [h] at hr; cases hr), fun j hj => ?_⟩
    by_cases hji : j = i
    · subst hji; exact hy.wpOp hi hS ⟨fun _ => hrefl _, H⟩
    · have h1 := H.2 j (ready_mono hj hji)
      obtain ⟨hjun, oj, hoj, hall⟩ := mem_ready.1 hj
      have hnot : ∀ e ∈ oj.after, Region.binds .any e = true → e.on ≠ i := fun e he hb heq => by
        have h1 := hall e he hb
        have h0 := (mem_ready.1 hr).1
        rw [heq] at h1
        rcases Nat.lt_or_ge i listed.size with h' | h'
        · simp [h'] at h0 h1; rw [h0] at h1; cases h1
        · simp [Array.getElem?_eq_none h'] at h1
      have h2 := floats_put hoj (hfree j oj hoj hji hjun hnot) (fun cs b => hsel i oi cs b hi) (fun cs b => hsel j oj cs b hoj) hQ hy h1
      have hfree' : ∀ k ok, ops[k]? = some ok → k ≠ i → (listed.setIfInBounds j true).getD k true = false →
          (∀ e ∈ ok.after, Region.binds .any e = true → e.on ≠ i) → oi.apart ops ok = true := fun k ok hk hki hun hno => by
        refine hfree k ok hk hki ?_ hno
        by_cases hjk : j = k
        · subst hjk; exact hjun
        · rw [getD_set_ne true hjk] at hun; exact hun
      refine wpOp_mono (fun a' w' h3 => ⟨h3.2.1, ih (listed.setIfInBounds j true) a' w' (hcl.set hj) hfree' (ready_mono hr (Ne.symm hji)) (hst j listed w w' hcl hr hj hji h3.2.1 hS) h3.1 ?_⟩) h2
      rw [Array.setIfInBounds_comm _ _ hji]
      exact h3.2.2

/-- The kinds of a step: 0 floats in whatever world · 1 floats in every later world of R · 2 acts, and keeps R · 3 acts. -/
def canonB (ops : Array Oper) (all : List (Nat × Nat)) : List (Nat × Nat) → Array Bool → Bool
  | [], listed => (Region.ready .any ops listed).isEmpty
  | (k, t) :: r, listed =>
    (if t = 0 then (Region.ready .any ops listed).contains k && Region.free .any ops listed k
     else if t = 1 then (Region.ready .any ops listed).contains k && Region.free .any ops listed k && all.all (fun s => s.2 != 3 || ranc ops k 6 s.1)
     else (t == 2 || t == 3) && Region.ready .any ops listed == [k]) && canonB ops all r (listed.setIfInBounds k true)

def rqOf (all : List (Nat × Nat)) (j : Nat) : Bool := !all.any fun s => s.1 == j && s.2 == 3

/-- The walk in the order that was chosen. -/
def wpF (P : Program) (ops : Array Oper) (Q : Exit → Act → World → Prop) (R : World → World → Prop) : List (Oper × Nat) → Act → World → Prop
  | [], a, w => Q .normal a w
  | (o, 0) :: rest, a, w => ∃ v, Floats P ops (fun _ => True) o v a ∧ wpF P ops Q R rest (a.put o.dst v) w
  | (o, 1) :: rest, a, w => ∃ v, Floats P ops (R w) o v a ∧ wpF P ops Q R rest (a.put o.dst v) w
  | (o, 2) :: rest, a, w => if Region.wanted o (yielded ops a.tmps) then o.wp P a w (fun a' w' => R w w' ∧ wpF P ops Q R rest a' w') Q else wpF P ops Q R rest (a.put o.dst undef) w
  | (o, _) :: rest, a, w => if Region.wanted o (yielded ops a.tmps) then o.wp P a w (wpF P ops Q R rest) Q else wpF P ops Q R rest (a.put o.dst undef) w

theorem wpAnyR_canon (hs : Region.noSelect ops = true) (hQ : ∀ c (a : Act) d v w, Q (.panic c) (a.put d v) w → Q (.panic c) a w)
    (hrefl : ∀ w, R w w) (htr : ∀ a b c, R a b → R b c → R a c) (all : List (Nat × Nat)) :
    ∀ (l : List (Nat × Nat)) (lo : List (Oper × Nat)) (listed : Array Bool) (a : Act) (w : World), (∀ s ∈ l, s ∈ all) → (l.map fun s => (ops.getD s.1 default, s.2)) = lo → RClosed ops listed →
      canonB ops all l listed = true → wpF P ops Q R lo a w → wpAnyR P ops Q R (rqOf all) l.length listed a w := by
  intro l
  induction l with
  | nil =>
    intro lo listed a w _ hlo _ hB h
    subst hlo
    exact ⟨by simpa [canonB] using hB, h⟩
  | cons s l ih =>
    obtain ⟨k, t⟩ := s
    intro lo listed a w hall hlo hcl hB h
    subst hlo
    have hin : (k, t) ∈ all := hall _ (by simp)
    replace hall : ∀ s ∈ l, s ∈ all := fun s hs => hall s (by simp [hs])
    simp only [canonB, Bool.and_eq_true] at hB
    obtain ⟨hB1, hB2⟩ := hB
    have act : ∀ (rdy : Region.ready .any ops listed = [k]) (h : wpOp P ops Q k (fun a' w' => (rqOf all k = true → R w w') ∧ wpF P ops Q R (l.map fun s => (ops.getD s.1 default, s.2)) a' w') a w),
        wpAnyR P ops Q R (rqOf all) (l.length + 1) listed a w := fun rdy h => by
      refine ⟨fun h0 => (by rw [rdy] at h0; cases h0), fun i hi => ?_⟩
      rw [rdy] at hi
      obtain rfl : i = k := by simpa using hi
      exact wpOp_mono (fun a' w' hh => ⟨hh.1, ih _ _ a' w' hall rfl (hcl.set (by rw [rdy]; simp)) hB2 hh.2⟩) h
    have hop : ∀ {o : Oper}, ops[k]? = some o → ops.getD k default = o := fun ho => by simp [Array.getD_eq_getD_getElem?, ho]
    match t, hin, hB1, h with
    | 0, _, hB1, h =>
      simp only [if_true, Bool.and_eq_true] at hB1
      have hr : k ∈ Region.ready .any ops listed := by simpa using hB1.1
      obtain ⟨_, o, ho, _⟩ := mem_ready.1 hr
      simp only [List.map_cons, wpF, hop ho] at h
      obtain ⟨v, hf, hrest⟩ := h
      exact wpAnyR_first (S := fun _ => True) ho (Region.noSelect_spec hs) (fun c a w => hQ c a _ _ w) hrefl (fun _ _ _ _ _ _ _ _ _ _ => trivial) l.length listed a w hcl (Region.free_spec ho hB1.2) hr trivial hf
        (ih _ _ _ _ hall rfl (hcl.set hr) hB2 hrest)
    | 1, _, hB1, h =>
      simp only [if_true, Bool.and_eq_true, show ¬ (1 = 0) from by decide, if_false] at hB1
      have hr : k ∈ Region.ready .any ops listed := by simpa using hB1.1.1
      obtain ⟨_, o, ho, _⟩ := mem_ready.1 hr
      simp only [List.map_cons, wpF, hop ho] at h
      obtain ⟨v, hf, hrest⟩ := h
      refine wpAnyR_first (S := R w) ho (Region.noSelect_spec hs) (fun c a w => hQ c a _ _ w) hrefl (fun j ls w1 w2 hc2 hi2 hj2 hne hR hS => ?_) l.length listed a w hcl (Region.free_spec ho hB1.1.2) hr (hrefl w) hf
        (ih _ _ _ _ hall rfl (hcl.set hr) hB2 hrest)
      cases hq : rqOf all j with
      | true => exact htr _ _ _ hS (hR hq)
      | false =>
        exfalso
        simp only [rqOf, Bool.not_eq_false', List.any_eq_true, Bool.and_eq_true, beq_iff_eq] at hq
        obtain ⟨s, hsm, hs1, hs2⟩ := hq
        have ha := List.all_eq_true.1 hB1.2 s hsm
        simp only [hs2, bne_self_eq_false, Bool.false_or, hs1] at ha
        obtain ⟨_, oj, hoj, hallj⟩ := mem_ready.1 hj2
        have := ranc_listed hc2 6 j oj hoj ha hallj
        have h0 := (mem_ready.1 hi2).1
        rcases Nat.lt_or_ge k ls.size with h' | h'
        · simp [h'] at h0 this; rw [h0] at this; cases this
        · simp [Array.getElem?_eq_none h'] at this
    | 2, _, hB1, h =>
      simp only [show ¬ (2 = 0) from by decide, show ¬ (2 = 1) from by decide, if_false, Bool.and_eq_true, beq_iff_eq] at hB1
      have hB1 := hB1.2
      have hr : k ∈ Region.ready .any ops listed := by rw [hB1]; simp
      obtain ⟨_, o, ho, _⟩ := mem_ready.1 hr
      simp only [List.map_cons, wpF, hop ho] at h
      refine act hB1 ?_
      unfold wpOp
      simp only [ho]
      split
      · rename_i hw
        simp only [hw, if_true] at h
        exact .inl (Oper.wp_mono (fun _ _ hh => ⟨fun _ => hh.1, hh.2⟩) h)
      · rename_i hw
        simp only [hw] at h
        exact ⟨fun _ => hrefl _, h⟩
    | 3, hin, hB1, h =>
      simp only [show ¬ (3 = 0) from by decide, show ¬ (3 = 1) from by decide, if_false, Bool.and_eq_true, beq_iff_eq] at hB1
      have hB1 := hB1.2
      have hr : k ∈ Region.ready .any ops listed := by rw [hB1]; simp
      obtain ⟨_, o, ho, _⟩ := mem_ready.1 hr
      simp only [List.map_cons, wpF, hop ho] at h
      have hrq : rqOf all k = false := by
        simp only [rqOf, Bool.not_eq_false', List.any_eq_true, Bool.and_eq_true, beq_iff_eq]
        exact ⟨_, hin, rfl, rfl⟩
      refine act hB1 ?_
      unfold wpOp
      simp only [ho]
      split
      · rename_i hw
        simp only [hw, if_true] at h
        exact .inl (Oper.wp_mono (fun _ _ hh => ⟨fun h => (by rw [hrq] at h; cases h), hh⟩) h)
      · rename_i hw
        simp only [hw] at h
        exact ⟨fun _ => hrefl _, h⟩
    | t + 4, _, hB1, _ =>
      simp at hB1

/-- THE LAW. 'all': the order, each with its kind; 'lo': the same, the operations written out. -/
theorem wp_region_float {id : Nat} {a : Act} {w : World} (R : World → World → Prop) (all : List (Nat × Nat)) (lo : List (Oper × Nat)) (hm : P.follows .mixedOrders = true)
    (hs : Region.noSelect ops = true) (hlo : (all.map fun s => (ops.getD s.1 default, s.2)) = lo) (hlen : all.length = ops.size)
    (hB : canonB ops all all (Array.replicate ops.size false) = true) (hQ : ∀ c (a : Act) d v w, Q (.panic c) (a.put d v) w → Q (.panic c) a w)
    (hrefl : ∀ w, R w w) (htr : ∀ a b c, R a b → R b c → R a c) (h : wpF P ops Q R lo a w.drew) : (Code.region id ops true).wp P Q a w := by
  refine wp_region_any hm (wpAny_of_R (R := R) (rq := rqOf all) _ _ _ _ ?_)
  have := wpAnyR_canon hs hQ hrefl htr all all lo (Array.replicate ops.size false) a _ (fun _ h => h) hlo ?_ hB h
  · rw [hlen] at this; exact this
  intro k o ho hl
  simp [Array.getElem?_replicate] at hl
  split at hl <;> simp at hl

variable {a : Act} {w : World} {o : Oper} {rest : List (Oper × Nat)}
theorem wpF_nil (h : Q .normal a w) : wpF P ops Q R [] a w := h
/-- floats in whatever world -/
theorem wpF_f0 (h : ∀ K : Act → Prop, (∀ a', wpF P ops Q R rest a' w → K a') → if Region.wanted o (yielded ops a.tmps) then ∃ v, (∀ w', (execOp a.eval o).run P w' = .ok (.value v) w') ∧ K (a.put o.dst v) else K (a.put o.dst undef)) :
    wpF P ops Q R ((o, 0) :: rest) a w := by
  have := h _ fun _ h => h
  split at this
  · rename_i hw
    obtain ⟨v, hr, h⟩ := this
    exact ⟨v, .inl ⟨hw, fun w' _ => hr w'⟩, h⟩
  · rename_i hw
    exact ⟨undef, .inr ⟨by simpa using hw, rfl⟩, this⟩
theorem wpF_f0v {v : Value} (hr : ∀ w', (execOp a.eval o).run P w' = .ok (.value v) w') (hw : Region.wanted o (yielded ops a.tmps) = true) (h : ∀ K : Act → Prop, (∀ a', wpF P ops Q R rest a' w → K a') → K (a.put o.dst v)) : wpF P ops Q R ((o, 0) :: rest) a w :=
  ⟨v, .inl ⟨hw, fun w' _ => hr w'⟩, h _ fun _ h => h⟩
/-- floats in every later world -/
theorem wpF_f1 {v : Value} (hw : Region.wanted o (yielded ops a.tmps) = true) (hr : ∀ w', R w w' → (execOp a.eval o).run P w' = .ok (.value v) w') (h : ∀ K : Act → Prop, (∀ a', wpF P ops Q R rest a' w → K a') → K (a.put o.dst v)) : wpF P ops Q R ((o, 1) :: rest) a w :=
  ⟨v, .inl ⟨hw, hr⟩, h _ fun _ h => h⟩
/-- a load of one cell -/
theorem wpF_load1 {T : Nat → Prop} {t : TypeId} {x : Operand} {ad : Addr} {v : Value} (hw : Region.wanted o (yielded ops a.tmps) = true) (ho : o.op = .load t x) (hx : a.eval x = .pointer (some ad))
    (hu : (P.underlying t).map (fun d => match d with | .struct _ | .array _ _ => true | _ => false) = some false) (hc : w.cell? ad = some v) (hT : ¬ T ad.block)
    (h : ∀ K : Act → Prop, (∀ a', wpF P ops Q (Fr T) rest a' w → K a') → K (a.put o.dst v)) : wpF P ops Q (Fr T) ((o, 1) :: rest) a w := by
  refine wpF_f1 hw (fun w' hw' => ?_) h
  have hc' : w'.cell? ad = some v := (World.cell?_of_block (w := w) (hw'.block ad.block (block_lt_of_cell hc) hT)).trans hc
  obtain ⟨d, hd, hd2⟩ := Option.map_eq_some_iff.1 hu
  have hagg : (isAgg t).run P w' = .ok false w' := by
    unfold isAgg
    rw [Sem.run_bind, run_underlying hd w']
    cases d <;> simp_all
  unfold execOp
  simp [ho, hx, Instr.loadAt, Instr.sureAddr, loadVar, hagg, load, Sem.run, hc']
/-- a load of an array, a struct -/
theorem wpF_loadN {T : Nat → Prop} {t : TypeId} {x : Operand} {b off n : Nat} {cs : List Value} (hw : Region.wanted o (yielded ops a.tmps) = true) (ho : o.op = .load t x) (hx : a.eval x = .pointer (some ⟨b, off, none⟩))
    (hc : w.rangeAt b off cs) (hn : cs.length = n) (hu : (P.underlying t).map TypeDesc.isRow = some true) (hi : (P.info? t).map (·.size) = some n) (hT : ¬ T b)
    (h : ∀ K : Act → Prop, (∀ a', wpF P ops Q (Fr T) rest a' w → K a') → K (a.put o.dst (.agg cs.toArray))) : wpF P ops Q (Fr T) ((o, 1) :: rest) a w := by
  subst hn
  refine wpF_f1 hw (fun w' hw' => ?_) h
  have hc' : w'.rangeAt b off cs := fun j v hv => (World.cell?_of_block (w := w) (hw'.block b (block_lt_of_cell (hc j v hv)) hT)).trans (hc j v hv)
  obtain ⟨d, hd, hd2⟩ := Option.map_eq_some_iff.1 hu
  unfold execOp
  simp only [ho, hx, Instr.loadAt, Instr.sureAddr, Sem.run_bind, Sem.run_pure, Result.andThen_ok, run_loadVar_mid w' b off t cs d hc' hd hd2 hi]
theorem wpF_a2 (h : ∀ K : Act → World → Prop, (∀ a' w', R w w' → wpF P ops Q R rest a' w' → K a' w') → if Region.wanted o (yielded ops a.tmps) then o.wp P a w K Q else K (a.put o.dst undef) w) : wpF P ops Q R ((o, 2) :: rest) a w := by
  have := h (fun a' w' => R w w' ∧ wpF P ops Q R rest a' w') (fun _ _ h1 h2 => ⟨h1, h2⟩)
  simp only [wpF]
  split at this
  · rename_i hw; rw [if_pos hw]; exact this
  · rename_i hw; rw [if_neg hw]; exact this.2
theorem wpF_a3 (h : ∀ K : Act → World → Prop, (∀ a' w', wpF P ops Q R rest a' w' → K a' w') → if Region.wanted o (yielded ops a.tmps) then o.wp P a w K Q else K (a.put o.dst undef) w) : wpF P ops Q R ((o, 3) :: rest) a w := by
  have := h _ fun _ _ h2 => h2
  simp only [wpF]
  exact this
theorem wpF_skip {t : Nat} (hw : Region.wanted o (yielded ops a.tmps) = false) (h : wpF P ops Q R rest (a.put o.dst undef) w) : wpF P ops Q R ((o, t) :: rest) a w := by
  match t with
  | 0 => exact ⟨undef, .inr ⟨hw, rfl⟩, h⟩
  | 1 => exact ⟨undef, .inr ⟨hw, rfl⟩, h⟩
  | 2 => simp only [wpF, hw, Bool.false_eq_true, if_false]; exact h
  | t + 3 => simp only [wpF, hw, Bool.false_eq_true, if_false]; exact h

end
end Go
