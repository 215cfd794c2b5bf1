/- wp_region_float where what a panic leaves may speak of slots: only the destinations of the region's own operations are put. -/
import Derived.Test.YtdhllelldlkdfaaFR
import Derived.Defers
namespace Go
section
variable {P : Program} {ops : Array Oper} {Q : Exit → Act → World → Prop} {R : World → World → Prop} {rq : Nat → Bool}

theorem wpAnyR_canonD (hs : Region.noSelect ops = true) (hQ : ∀ (i : Nat) (o : Oper), ops[i]? = some o → ∀ c (a : Act) v w, Q (.panic c) (a.put o.dst v) w → Q (.panic c) a w)
    (hrefl : ∀ w, R w w) (htr : ∀ a b c, R a b → R b c → R a c) (all : List (Nat × Nat)) :
    ∀ (l : List (Nat × Nat)) (lo : List (Oper × Nat)) (listed : Array Bool) (a : Act) (w : World), (∀ s ∈ l, s ∈ all) → (l.map fun s => (ops.getD s.1 default, s.2)) = lo → RClosed ops listed →
      canonB ops all l listed = true → wpF P ops Q R lo a w → wpAnyR P ops Q R (rqOf all) l.length listed a w := by
  intro l
  induction l with
  | nil =>
    intro lo listed a w _ hlo _ hB h
    subst hlo
    exact ⟨by simpa [canonB] using hB, h⟩
  | cons s l ih =>
    obtain ⟨k, t⟩ := s
    intro lo listed a w hall hlo hcl hB h
    subst hlo
    have hin : (k, t) ∈ all := hall _ (by simp)
    replace hall : ∀ s ∈ l, s ∈ all := fun s hs => hall s (by simp [hs])
    simp only [canonB, Bool.and_eq_true] at hB
    obtain ⟨hB1, hB2⟩ := hB
    have act : ∀ (rdy : Region.ready .any ops listed = [k]) (h : wpOp P ops Q k (fun a' w' => (rqOf all k = true → R w w') ∧ wpF P ops Q R (l.map fun s => (ops.getD s.1 default, s.2)) a' w') a w),
        wpAnyR P ops Q R (rqOf all) (l.length + 1) listed a w := fun rdy h => by
      refine ⟨fun h0 => (by rw [rdy] at h0; cases h0), fun i hi => ?_⟩
      rw [rdy] at hi
      obtain rfl : i = k := by simpa using hi
      exact wpOp_mono (fun a' w' hh => ⟨hh.1, ih _ _ a' w' hall rfl (hcl.set (by rw [rdy]; simp)) hB2 hh.2⟩) h
    have hop : ∀ {o : Oper}, ops[k]? = some o → ops.getD k default = o := fun ho => by simp [Array.getD_eq_getD_getElem?, ho]
    match t, hin, hB1, h with
    | 0, _, hB1, h =>
      simp only [if_true, Bool.and_eq_true] at hB1
      have hr : k ∈ Region.ready .any ops listed := by simpa using hB1.1
      obtain ⟨_, o, ho, _⟩ := mem_ready.1 hr
      simp only [List.map_cons, wpF, hop ho] at h
      obtain ⟨v, hf, hrest⟩ := h
      exact wpAnyR_first (S := fun _ => True) ho (Region.noSelect_spec hs) (fun c a w => hQ _ _ ho c a _ w) hrefl (fun _ _ _ _ _ _ _ _ _ _ => trivial) l.length listed a w hcl (Region.free_spec ho hB1.2) hr trivial hf
        (ih _ _ _ _ hall rfl (hcl.set hr) hB2 hrest)
    | 1, _, hB1, h =>
      simp only [if_true, Bool.and_eq_true, show ¬ (1 = 0) from by decide, if_false] at hB1
      have hr : k ∈ Region.ready .any ops listed := by simpa using hB1.1.1
      obtain ⟨_, o, ho, _⟩ := mem_ready.1 hr
      simp only [List.map_cons, wpF, hop ho] at h
      obtain ⟨v, hf, hrest⟩ := h
      refine wpAnyR_first (S := R w) ho (Region.noSelect_spec hs) (fun c a w => hQ _ _ ho c a _ w) hrefl (fun j ls w1 w2 hc2 hi2 hj2 hne hR hS => ?_) l.length listed a w hcl (Region.free_spec ho hB1.1.2) hr (hrefl w) hf
        (ih _ _ _ _ hall rfl (hcl.set hr) hB2 hrest)
      cases hq : rqOf all j with
      | true => exact htr _ _ _ hS (hR hq)
      | false =>
        exfalso
        simp only [rqOf, Bool.not_eq_false', List.any_eq_true, Bool.and_eq_true, beq_iff_eq] at hq
        obtain ⟨s, hsm, hs1, hs2⟩ := hq
        have ha := List.all_eq_true.1 hB1.2 s hsm
        simp only [hs2, bne_self_eq_false, Bool.false_or, hs1] at ha
        obtain ⟨_, oj, hoj, hallj⟩ := mem_ready.1 hj2
        have := ranc_listed hc2 6 j oj hoj ha hallj
        have h0 := (mem_ready.1 hi2).1
        rcases Nat.lt_or_ge k ls.size with h' | h'
        · simp [h'] at h0 this; rw [h0] at this; cases this
        · simp [Array.getElem?_eq_none h'] at this
    | 2, _, hB1, h =>
      simp only [show ¬ (2 = 0) from by decide, show ¬ (2 = 1) from by decide, if_false, Bool.and_eq_true, beq_iff_eq] at hB1
      have hB1 := hB1.2
      have hr : k ∈ Region.ready .any ops listed := by rw [hB1]; simp
      obtain ⟨_, o, ho, _⟩ := mem_ready.1 hr
      simp only [List.map_cons, wpF, hop ho] at h
      refine act hB1 ?_
      unfold wpOp
      simp only [ho]
      split
      · rename_i hw
        simp only [hw, if_true] at h
        exact .inl (Oper.wp_mono (fun _ _ hh => ⟨fun _ => hh.1, hh.2⟩) h)
      · rename_i hw
        simp only [hw] at h
        exact ⟨fun _ => hrefl _, h⟩
    | 3, hin, hB1, h =>
      simp only [show ¬ (3 = 0) from by decide, show ¬ (3 = 1) from by decide, if_false, Bool.and_eq_true, beq_iff_eq] at hB1
      have hB1 := hB1.2
      have hr : k ∈ Region.ready .any ops listed := by rw [hB1]; simp
      obtain ⟨_, o, ho, _⟩ := mem_ready.1 hr
      simp only [List.map_cons, wpF, hop ho] at h
      have hrq : rqOf all k = false := by
        simp only [rqOf, Bool.not_eq_false', List.any_eq_true, Bool.and_eq_true, beq_iff_eq]
        exact ⟨_, hin, rfl, rfl⟩
      refine act hB1 ?_
      unfold wpOp
      simp only [ho]
      split
      · rename_i hw
        simp only [hw, if_true] at h
        exact .inl (Oper.wp_mono (fun _ _ hh => ⟨fun h => (by rw [hrq] at h; cases h), hh⟩) h)
      · rename_i hw
        simp only [hw] at h
        exact ⟨fun _ => hrefl _, h⟩
    | t + 4, _, hB1, _ =>
      simp at hB1

theorem wp_region_floatD {id : Nat} {a : Act} {w : World} (R : World → World → Prop) (all : List (Nat × Nat)) (lo : List (Oper × Nat)) (hm : P.follows .mixedOrders = true)
    (hs : Region.noSelect ops = true) (hlo : (all.map fun s => (ops.getD s.1 default, s.2)) = lo) (hlen : all.length = ops.size)
    (hB : canonB ops all all (Array.replicate ops.size false) = true) (hQ : ∀ (i : Nat) (o : Oper), ops[i]? = some o → ∀ c (a : Act) v w, Q (.panic c) (a.put o.dst v) w → Q (.panic c) a w)
    (hrefl : ∀ w, R w w) (htr : ∀ a b c, R a b → R b c → R a c) (h : wpF P ops Q R lo a w.drew) : (Code.region id ops true).wp P Q a w := by
  refine wp_region_any hm (wpAny_of_R (R := R) (rq := rqOf all) _ _ _ _ ?_)
  have := wpAnyR_canonD hs hQ hrefl htr all all lo (Array.replicate ops.size false) a _ (fun _ h => h) hlo ?_ hB h
  · rw [hlen] at this; exact this
  intro k o ho hl
  simp [Array.getElem?_replicate] at hl
  split at hl <;> simp at hl

end
/-- What is left at the door speaks of the slots by the results alone. -/
theorem leaves_congr {P : Program} {fn : Func} {t1 t2 : Array Value} {R : Ending → World → Prop} (h : results fn t1 = results fn t2) : ∀ (ds : List Deferred) (u : FrameMode) (w : World), Leaves P fn t1 R ds u w → Leaves P fn t2 R ds u w
  | [], .returning, w, ⟨v, h1, h2⟩ => ⟨v, h ▸ h1, h2⟩
  | [], .panicking _, _, h1 => h1
  | [], .run, _, h1 => h1
  | d :: ds, u, w, ⟨h1, fv, cap, f, args, h2, h3, h4⟩ => ⟨h1, fv, cap, f, args, h2, h3, h4.mono fun e u' w' he => by
      cases e with
      | returned v => exact leaves_congr h ds _ _ he
      | panicked c => exact leaves_congr h ds _ _ he
      | outgrown => exact he⟩
end Go
