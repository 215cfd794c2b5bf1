/- A region that draws its order, walked in part: what floats first, in an order of our choice; then every order of what acts. -/
import Derived.Test.YthglnbkfmmchnaaK4
import Derived.RegionTactic
namespace Go

section
variable {P : Program} {ops : Array Oper} {Q : Exit → Act → World → Prop} {R : World → World → Prop} {rq : Nat → Bool}

def AllR (P : Program) (ops : Array Oper) (Q : Exit → Act → World → Prop) (R : World → World → Prop) (rq : Nat → Bool) (fuel : Nat) (listed : Array Bool) (a : Act) (w : World) (rs : List Nat) : Prop :=
  ∀ i ∈ rs, wpOp P ops Q i (fun a' w' => (rq i = true → R w w') ∧ wpAnyR P ops Q R rq fuel (listed.setIfInBounds i true) a' w') a w
theorem AllR.nil {fuel : Nat} {listed : Array Bool} {a : Act} {w : World} : AllR P ops Q R rq fuel listed a w [] := fun _ h => by cases h
theorem AllR.cons {fuel : Nat} {listed : Array Bool} {a : Act} {w : World} {i : Nat} {o : Oper} {rs : List Nat} (ho : ops[i]? = some o)
    (h : ∀ K' : Act → World → Prop, (∀ a' w', (rq i = true → R w w') → wpAnyR P ops Q R rq fuel (listed.setIfInBounds i true) a' w' → K' a' w') → if Region.wanted o (yielded ops a.tmps) = true then Oper.wp P o a w K' Q else K' (a.put o.dst undef) w)
    (hs : AllR P ops Q R rq fuel listed a w rs) : AllR P ops Q R rq fuel listed a w (i :: rs) := fun j hj => by
  rcases List.mem_cons.1 hj with rfl | hj
  · exact wpOp_step ho (fun K hK => h K (fun a' w' h1 h2 => hK a' w' ⟨h1, h2⟩))
  · exact hs j hj
theorem wpAnyR_ready {rs : List Nat} {fuel : Nat} {listed : Array Bool} {a : Act} {w : World} (hr : Region.ready .any ops listed = rs) (hne : rs ≠ [])
    (h : AllR P ops Q R rq fuel listed a w rs) : wpAnyR P ops Q R rq (fuel + 1) listed a w :=
  ⟨fun h0 => absurd (hr.symm.trans h0) hne, fun i hi => h i (hr ▸ hi)⟩
theorem wpAnyR_end {listed : Array Bool} {a : Act} {w : World} (hr : Region.ready .any ops listed = []) (h : Q .normal a w) : wpAnyR P ops Q R rq 0 listed a w := ⟨hr, h⟩

def canonP (ops : Array Oper) (all : List (Nat × Nat)) : List (Nat × Nat) → Array Bool → Option (Array Bool)
  | [], listed => some listed
  | (k, t) :: r, listed =>
    if (Region.ready .any ops listed).contains k && Region.free .any ops listed k && (t == 0 || (t == 1 && all.all (fun s => s.2 != 3 || ranc ops k 6 s.1)))
    then canonP ops all r (listed.setIfInBounds k true) else none

theorem wpAnyR_pre (hs : Region.noSelect ops = true) (hQ : ∀ c (a : Act) d v w, Q (.panic c) (a.put d v) w → Q (.panic c) a w)
    (hrefl : ∀ w, R w w) (htr : ∀ a b c, R a b → R b c → R a c) (all : List (Nat × Nat)) (n : Nat) (lE : Array Bool) :
    ∀ (l : List (Nat × Nat)) (lo : List (Oper × Nat)) (listed : Array Bool) (a : Act) (w : World), (l.map fun s => (ops.getD s.1 default, s.2)) = lo → RClosed ops listed →
      canonP ops all l listed = some lE → wpF P ops (fun _ a w => wpAnyR P ops Q R (rqOf all) n lE a w) R lo a w → wpAnyR P ops Q R (rqOf all) (n + l.length) listed a w := by
  intro l
  induction l with
  | nil =>
    intro lo listed a w hlo _ hB h
    subst hlo
    simp only [canonP, Option.some.injEq] at hB
    subst hB
    exact h
  | cons s l ih =>
    obtain ⟨k, t⟩ := s
    intro lo listed a w hlo hcl hB h
    subst hlo
    simp only [canonP] at hB
    split at hB
    case isFalse => cases hB
    rename_i hB1
    simp only [Bool.and_eq_true, Bool.or_eq_true, beq_iff_eq] at hB1
    obtain ⟨⟨hr0, hfr⟩, ht⟩ := hB1
    have hop : ∀ {o : Oper}, ops[k]? = some o → ops.getD k default = o := fun ho => by simp [Array.getD_eq_getD_getElem?, ho]
    have hr : k ∈ Region.ready .any ops listed := by simpa using hr0
    obtain ⟨_, o, ho, _⟩ := mem_ready.1 hr
    rcases ht with rfl | ⟨rfl, hanc⟩
    · simp only [List.map_cons, wpF, hop ho] at h
      obtain ⟨v, hf, hrest⟩ := h
      exact wpAnyR_first (S := fun _ => True) ho (Region.noSelect_spec hs) (fun c a w => hQ c a _ _ w) hrefl (fun _ _ _ _ _ _ _ _ _ _ => trivial) (n + l.length) listed a w hcl (Region.free_spec ho hfr) hr trivial hf
        (ih _ _ _ _ rfl (hcl.set hr) hB hrest)
    · simp only [List.map_cons, wpF, hop ho] at h
      obtain ⟨v, hf, hrest⟩ := h
      refine wpAnyR_first (S := R w) ho (Region.noSelect_spec hs) (fun c a w => hQ c a _ _ w) hrefl (fun j ls w1 w2 hc2 hi2 hj2 hne hR hS => ?_) (n + l.length) listed a w hcl (Region.free_spec ho hfr) hr (hrefl w) hf
        (ih _ _ _ _ rfl (hcl.set hr) hB hrest)
      cases hq : rqOf all j with
      | true => exact htr _ _ _ hS (hR hq)
      | false =>
        exfalso
        simp only [rqOf, Bool.not_eq_false', List.any_eq_true, Bool.and_eq_true, beq_iff_eq] at hq
        obtain ⟨s, hsm, hs1, hs2⟩ := hq
        have ha := List.all_eq_true.1 hanc s hsm
        simp only [hs2, bne_self_eq_false, Bool.false_or, hs1] at ha
        obtain ⟨_, oj, hoj, hallj⟩ := mem_ready.1 hj2
        have := ranc_listed hc2 6 j oj hoj ha hallj
        have h0 := (mem_ready.1 hi2).1
        rcases Nat.lt_or_ge k ls.size with h' | h'
        · simp [h'] at h0 this; rw [h0] at this; cases this
        · simp [Array.getElem?_eq_none h'] at this

/-- THE LAW. 'all': the kinds of all; 'pre': what floats, in our order; behind these every order of the n others. -/
theorem wp_region_pre {id : Nat} {a : Act} {w : World} (R : World → World → Prop) (all pre : List (Nat × Nat)) (lo : List (Oper × Nat)) (n : Nat) (lE : Array Bool) (hm : P.follows .mixedOrders = true)
    (hs : Region.noSelect ops = true) (hlo : (pre.map fun s => (ops.getD s.1 default, s.2)) = lo) (hlen : n + pre.length = ops.size)
    (hB : canonP ops all pre (Array.replicate ops.size false) = some lE) (hQ : ∀ c (a : Act) d v w, Q (.panic c) (a.put d v) w → Q (.panic c) a w)
    (hrefl : ∀ w, R w w) (htr : ∀ a b c, R a b → R b c → R a c) (h : wpF P ops (fun _ a w => wpAnyR P ops Q R (rqOf all) n lE a w) R lo a w.drew) : (Code.region id ops true).wp P Q a w := by
  refine wp_region_any hm (wpAny_of_R (R := R) (rq := rqOf all) _ _ _ _ ?_)
  have := wpAnyR_pre hs hQ hrefl htr all n lE pre lo (Array.replicate ops.size false) a _ hlo ?_ hB h
  · rw [hlen] at this; exact this
  intro k o ho hl
  simp [Array.getElem?_replicate] at hl
  split at hl <;> simp at hl

end

theorem wp_allocF {P : Program} {o : Oper} {a : Act} {w : World} {K : Act → World → Prop} {Q : Exit → Act → World → Prop} {e : TypeId} {n : Nat} (ho : o.op = .alloc e)
    (hi : (P.info? e).map (fun i => i.zero.map fun z => z.cells.size) = some (some n))
    (h : ∀ (zc : Array Value) (g : Nat) (w' : World), zc.size = n → Blk w' g zc e → Fr (fun _ => False) w w' → w.heap.size ≤ g → K (a.put o.dst (.pointer (some ⟨g, 0, none⟩))) w') : o.wp P a w K Q := by
  obtain ⟨i, hi0, hi1⟩ := Option.map_eq_some_iff.1 hi
  obtain ⟨z, hz, hzs⟩ := Option.map_eq_some_iff.1 hi1
  refine wp_value (v := .pointer (some ⟨w.heap.size, 0, none⟩)) (w1 := w.alloc (.cells z.cells e)) ?_ (h z.cells _ _ hzs (Blk.new w _ _) ((Fr.refl _ w).alloc _) (Nat.le_refl _))
  unfold execOp
  simp [ho, Instr.alloc, zeroValue, typeInfo, hi0, hz, newVar, newRow]
theorem wp_storeF {P : Program} {o : Oper} {a : Act} {w : World} {K : Act → World → Prop} {Q : Exit → Act → World → Prop} {e : TypeId} {x y : Operand} {g n : Nat} {zc : Array Value} {cs : List Value} (ho : o.op = .store e x y)
    (hx : a.eval x = .pointer (some ⟨g, 0, none⟩)) (hy : a.eval y = .agg cs.toArray) (hb : Blk w g zc e) (hz : zc.size = n) (hn : cs.length = n) (hi : (P.info? e).map (·.size) = some n) (h1 : ∀ v ∈ cs, v.oneCell' = true)
    (h : ∀ w', Blk w' g cs.toArray e → Fr (fun k => k = g) w w' → K (a.put o.dst undef) w') : o.wp P a w K Q := by
  subst hn
  refine wp_storeN ho hx hy rfl (hb.there 0 _ (by omega)) hi h1 (h _ ?_ ((Fr.refl _ w).setCells cs 0 (fun _ => rfl)))
  have := Blk.setCells cs 0 hb (by omega)
  have e1 : (zc.toList.take 0 ++ cs ++ zc.toList.drop (0 + cs.length)).toArray = cs.toArray := by
    rw [List.drop_eq_nil_of_le (by simp; omega)]; simp
  rw [e1] at this
  exact this
end Go
