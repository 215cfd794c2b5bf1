/- Acts of a drawn region that make new things alone: in whatever order they come, what they yield is told. -/
import Derived.Test.YthocpbkgcpgpdaaDoorFR2
namespace Go
section
variable {P : Program} {ops : Array Oper} {Q : Exit → Act → World → Prop} {R : World → World → Prop} {rq : Nat → Bool}

/-- Only these acts come up, until all are listed. -/
def newsB (ops : Array Oper) (acts : List Nat) (lF : Array Bool) : Nat → Array Bool → Bool
  | 0, l => l == lF
  | n + 1, l => !(Region.ready .any ops l).isEmpty && (Region.ready .any ops l).all fun i => acts.contains i && newsB ops acts lF n (l.setIfInBounds i true)

/-- a is a0 but for what these slots hold. -/
structure Agree (ds : List Tmp) (a0 a : Act) : Prop where
  defers : a.defers = a0.defers
  size : a.tmps.size = a0.tmps.size
  same : ∀ t, t ∉ ds → a.tmps[t]? = a0.tmps[t]?
theorem Agree.refl (ds : List Tmp) (a : Act) : Agree ds a a := ⟨rfl, rfl, fun _ _ => rfl⟩
theorem Agree.put {ds : List Tmp} {a0 a : Act} (h : Agree ds a0 a) {d : Tmp} (hd : d ∈ ds) (v : Value) : Agree ds a0 (a.put (some d) v) :=
  ⟨h.defers, by simp [Act.put, h.size], fun t ht => by
    show (a.tmps.setIfInBounds d v)[t]? = _
    have hne : ¬ d = t := fun e => ht (by rw [← e]; exact hd)
    rw [Array.getElem?_setIfInBounds, if_neg hne]
    exact h.same t ht⟩
theorem Agree.eval {ds : List Tmp} {a0 a : Act} (h : Agree ds a0 a) {t : Tmp} (ht : t ∉ ds) : a.eval (.tmp t) = a0.eval (.tmp t) := by
  simp only [Act.eval, Array.getD_eq_getD_getElem?, h.same t ht]
theorem fold_tmps (val : Tmp → Value) : ∀ (ds : List Tmp) (a0 : Act) (t : Tmp), ((ds.foldl (fun b d => b.put (some d) (val d)) a0).tmps)[t]? = if t ∈ ds ∧ t < a0.tmps.size then some (val t) else a0.tmps[t]?
  | [], a0, t => by simp
  | d :: ds, a0, t => by
    rw [List.foldl_cons, fold_tmps val ds]
    have hs : (a0.put (some d) (val d)).tmps.size = a0.tmps.size := by simp [Act.put]
    rw [hs]
    by_cases h1 : t ∈ ds ∧ t < a0.tmps.size
    · rw [if_pos h1, if_pos ⟨List.mem_cons_of_mem _ h1.1, h1.2⟩]
    · rw [if_neg h1]
      show (a0.tmps.setIfInBounds d (val d))[t]? = _
      rw [Array.getElem?_setIfInBounds]
      by_cases h2 : d = t
      · subst h2
        rw [if_pos rfl]
        by_cases h3 : d < a0.tmps.size
        · rw [if_pos h3, if_pos ⟨List.mem_cons_self .., h3⟩]
        · rw [if_neg h3, if_neg (fun h => h3 h.2), Array.getElem?_eq_none (Nat.le_of_not_lt h3)]
      · rw [if_neg h2, if_neg]
        intro h
        rcases List.mem_cons.1 h.1 with h4 | h4
        · exact h2 h4.symm
        · exact h1 ⟨h4, h.2⟩
theorem fold_defers (val : Tmp → Value) : ∀ (ds : List Tmp) (a0 : Act), (ds.foldl (fun b d => b.put (some d) (val d)) a0).defers = a0.defers
  | [], _ => rfl
  | d :: ds, a0 => by rw [List.foldl_cons, fold_defers val ds]; rfl
theorem Agree.eq {ds : List Tmp} {a0 a : Act} (h : Agree ds a0 a) : a = ds.foldl (fun b d => b.put (some d) (a.tmps.getD d undef)) a0 := by
  have h1 : a.tmps = (ds.foldl (fun b d => b.put (some d) (a.tmps.getD d undef)) a0).tmps := by
    apply Array.ext_getElem?
    intro t
    rw [fold_tmps (fun d => a.tmps.getD d undef)]
    by_cases ht : t ∈ ds
    · by_cases hs : t < a0.tmps.size
      · rw [if_pos ⟨ht, hs⟩, Array.getD_eq_getD_getElem?, Array.getElem?_eq_getElem (by rw [h.size]; exact hs)]
        rfl
      · rw [if_neg (fun h => hs h.2), Array.getElem?_eq_none (by rw [h.size]; omega), Array.getElem?_eq_none (by omega)]
    · rw [if_neg (fun h => ht h.1), h.same t ht]
  have h2 := h.defers.trans (fold_defers (fun d => a.tmps.getD d undef) ds a0).symm
  generalize ds.foldl (fun b d => b.put (some d) (a.tmps.getD d undef)) a0 = b at *
  cases a; cases b; simp_all

theorem wpAnyR_news {acts : List Nat} {dst : Nat → Tmp} {a0 : Act} {w0 : World} {G : Nat → Value → World → Prop} {lF : Array Bool} {m : Nat}
    (hG : ∀ i v w w', G i v w → Fr (fun _ => False) w w' → G i v w') (hinj : ∀ i ∈ acts, ∀ j ∈ acts, dst i = dst j → i = j) (hsz : ∀ i ∈ acts, dst i < a0.tmps.size) (hR : ∀ w w', Fr (fun _ => False) w w' → R w w')
    (hlF : ∀ i ∈ acts, lF.getD i false = true)
    (hact : ∀ i ∈ acts, ∀ a w, Agree (acts.map dst) a0 a → Fr (fun _ => False) w0 w → ∀ K : Act → World → Prop, (∀ v w', G i v w' → Fr (fun _ => False) w w' → K (a.put (some (dst i)) v) w') → wpOp P ops Q i K a w)
    (hend : ∀ a w, Agree (acts.map dst) a0 a → (∀ i ∈ acts, ∃ v, a.tmps[dst i]? = some v ∧ G i v w) → Fr (fun _ => False) w0 w → wpAnyR P ops Q R rq m lF a w) :
    ∀ (n : Nat) (l : Array Bool) (a : Act) (w : World), newsB ops acts lF n l = true → (∀ i ∈ acts, l.getD i false = true → ∃ v, a.tmps[dst i]? = some v ∧ G i v w) → Agree (acts.map dst) a0 a → Fr (fun _ => False) w0 w → wpAnyR P ops Q R rq (m + n) l a w
  | 0, l, a, w, hB, hd, ha, hf => by
    have : l = lF := by simpa [newsB] using hB
    subst this
    exact hend a w ha (fun i hi => hd i hi (hlF i hi)) hf
  | n + 1, l, a, w, hB, hd, ha, hf => by
    simp only [newsB, Bool.and_eq_true, Bool.not_eq_true', List.all_eq_true] at hB
    obtain ⟨hne, hall⟩ := hB
    refine ⟨fun h0 => (by rw [h0] at hne; simp at hne), fun i hi => ?_⟩
    obtain ⟨hi1, hi2⟩ := hall i hi
    have him : i ∈ acts := by simpa using hi1
    refine hact i him a w ha hf _ fun v w' hg f => ⟨fun _ => hR _ _ f, ?_⟩
    refine wpAnyR_news hG hinj hsz hR hlF hact hend n _ _ _ hi2 (fun j hj hl => ?_) (ha.put (List.mem_map.2 ⟨i, him, rfl⟩) v) (hf.trans f)
    have hput : (a.put (some (dst i)) v).tmps = a.tmps.setIfInBounds (dst i) v := rfl
    rw [hput, Array.getElem?_setIfInBounds]
    by_cases hij : i = j
    · subst hij
      rw [if_pos rfl, if_pos (by rw [ha.size]; exact hsz i him)]
      exact ⟨v, rfl, hg⟩
    · rw [if_neg (fun e => hij (hinj i him j hj e))]
      rw [getD_set_ne false hij] at hl
      obtain ⟨u, hu, hgu⟩ := hd j hj hl
      exact ⟨u, hu, hG _ _ _ _ hgu f⟩

theorem wpAnyR_new {acts : List Nat} {dst : Nat → Tmp} {a0 : Act} {w0 : World} {G : Nat → Value → World → Prop} (lF : Array Bool) {lE : Array Bool} (m n : Nat) (hB : newsB ops acts lF n lE = true) (h0 : (acts.all fun i => !lE.getD i false && lF.getD i false && decide (dst i < a0.tmps.size)) = true)
    (hinj : (acts.all fun i => acts.all fun j => i == j || dst i != dst j) = true) (hG : ∀ i v w w', G i v w → Fr (fun _ => False) w w' → G i v w') (hR : ∀ w w', Fr (fun _ => False) w w' → R w w')
    (hact : ∀ i ∈ acts, ∀ a w, Agree (acts.map dst) a0 a → Fr (fun _ => False) w0 w → ∀ K : Act → World → Prop, (∀ v w', G i v w' → Fr (fun _ => False) w w' → K (a.put (some (dst i)) v) w') → wpOp P ops Q i K a w)
    (hend : ∀ (val : Tmp → Value) (w : World), (∀ i ∈ acts, G i (val (dst i)) w) → Fr (fun _ => False) w0 w → wpAnyR P ops Q R rq m lF ((acts.map dst).foldl (fun b d => b.put (some d) (val d)) a0) w) :
    wpAnyR P ops Q R rq (m + n) lE a0 w0 := by
  have h1 : ∀ i ∈ acts, lE.getD i false = false ∧ lF.getD i false = true ∧ dst i < a0.tmps.size := fun i hi => by
    have := List.all_eq_true.1 h0 i hi
    simp only [Bool.and_eq_true, Bool.not_eq_true', decide_eq_true_eq] at this
    exact ⟨this.1.1, this.1.2, this.2⟩
  refine wpAnyR_news (acts := acts) (dst := dst) (G := G) hG (fun i hi j hj e => ?_) (fun i hi => (h1 i hi).2.2) hR (fun i hi => (h1 i hi).2.1) hact (fun a w ha hv hf => ?_) n lE a0 w0 hB (fun i hi h => ?_) (Agree.refl _ _) (Fr.refl _ _)
  · have := List.all_eq_true.1 (List.all_eq_true.1 hinj i hi) j hj
    simp only [Bool.or_eq_true, beq_iff_eq, bne_iff_ne] at this
    exact this.resolve_right (fun h => h e)
  · rw [ha.eq]
    refine hend (fun d => a.tmps.getD d undef) w (fun i hi => ?_) hf
    obtain ⟨v, hv1, hv2⟩ := hv i hi
    simp only [Array.getD_eq_getD_getElem?, hv1, Option.getD_some]
    exact hv2
  · rw [(h1 i hi).1] at h; cases h
theorem run_callFunc {f : FuncId} {args : Array Value} {w : World} (hf : (P.funcs[f]?).map (fun fn => (fn.name == "runtime.NumGoroutine", fn.body.isNone)) = some (false, false)) : (callFunc f args).run P w = .ok (.enter f args) w := by
  obtain ⟨fn, h1, h2⟩ := Option.map_eq_some_iff.1 hf
  simp only [Prod.mk.injEq] at h2
  have h3 : ¬ fn.name = "runtime.NumGoroutine" := fun e => by have := h2.1; rw [e] at this; cases this
  have h4 : ¬ fn.body = none := fun e => by have := h2.2; rw [e] at this; cases this
  simp [callFunc, program, Sem.run, h1, h3, h4]
/-- What a guard asks is the same. -/
theorem Agree.wanted {ds : List Tmp} {a0 a : Act} (h : Agree ds a0 a) {o o1 : Oper} {j : Nat} {b : Bool} {t : Tmp} (hg : o.guard = some (j, b)) (hj : ops[j]? = some o1) (hd : o1.dst = some t) (ht : t ∉ ds) :
    Region.wanted o (yielded ops a.tmps) = Region.wanted o (yielded ops a0.tmps) := by
  have hy : yielded ops a.tmps j = yielded ops a0.tmps j := by
    unfold yielded
    simp only [hj, hd, Option.bind_some, h.same t ht]
  unfold Region.wanted
  simp only [hg, hy]
/-- A call as an act. -/
theorem wpOp_call {i : Nat} {o : Oper} {K : Act → World → Prop} {a : Act} {w : World} {f : FuncId} {xs : Array Operand} {ts : Array TypeId} {args : Array Value} (ho : ops[i]? = some o) (hw : Region.wanted o (yielded ops a.tmps) = true)
    (hop : o.op = .call { callee := .value (.func f), args := xs, argTypes := ts }) (hx : xs.map a.eval = args)
    (hf : (P.funcs[f]?).map (fun fn => (fn.name == "runtime.NumGoroutine", fn.body.isNone)) = some (false, false))
    (hc : Calls P f args w fun e w' => ∃ v, e = .returned v ∧ K (a.put o.dst v) w') : wpOp P ops Q i K a w := by
  refine wpOp_step ho fun K' hK => ?_
  rw [if_pos hw]
  subst hx
  have hr : (execOp a.eval o).run P w = .ok (.enter f (xs.map a.eval)) w := by
    unfold execOp
    simp only [hop, resolve, Act.eval, Deferred.ofValue, Sem.run_bind, Sem.run_pure, Result.andThen_ok, invoke, Array.empty_append, Array.append_empty]
    exact run_callFunc hf
  unfold Oper.wp
  rw [hr, Oper.upon_enter]
  refine hc.mono fun e w'' hh => ?_
  obtain ⟨v, rfl, hk⟩ := hh
  exact hK _ _ hk
/-- What yields a value, as an act. -/
theorem wpOp_value {i : Nat} {o : Oper} {K : Act → World → Prop} {a : Act} {w w1 : World} {v : Value} (ho : ops[i]? = some o) (hw : Region.wanted o (yielded ops a.tmps) = true) (hr : (execOp a.eval o).run P w = .ok (.value v) w1) (h : K (a.put o.dst v) w1) : wpOp P ops Q i K a w := by
  refine wpOp_step ho fun K' hK => ?_
  rw [if_pos hw]
  exact wp_value hr (hK _ _ h)
end
end Go
