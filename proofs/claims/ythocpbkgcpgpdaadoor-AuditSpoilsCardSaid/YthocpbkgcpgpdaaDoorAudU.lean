/- AuditSpoils: openers, rows of entries that are changed, the walk. -/
import Derived.Test.YthocpbkgcpgpdaaDoorRowKit21
import Derived.Test.YthocpbkgcpgpdaaDoorAudQ
namespace Go.Proofs.YthocpbkgcpgpdaaDoor
open Go.RowKit
def RdYR (w : World) (cs : List Value) (s : SayL) : Prop := RdY w cs s ∧ SayR s
theorem i64_ofS {z : Int} (h : (Lit.int .i64 z).wf = true) : -9223372036854775808 ≤ z ∧ z ≤ 9223372036854775807 := by
  have := bounds_i64 h
  omega
theorem opens_sayR : Opens Tryd.prog 24 4 RdYR :=
  fun H enc w spare held fuel cs x h => by
    obtain ⟨hl, hf⟩ := open_fields Tryd.underlying24 h (n := 4) (by kernel_rfl)
    refine ⟨hl, ?_⟩
    obtain ⟨z0, v0, h0, rfl, w0⟩ := hf 0 _ _ 1 _ rfl (opens_int Tryd.underlying3) (by kernel_rfl)
    obtain ⟨z1, v1, h1, rfl, w1⟩ := hf 1 _ _ 1 _ rfl (opens_int Tryd.underlying3) (by kernel_rfl)
    obtain ⟨s3, v3, h3, rfl, _⟩ := hf 2 _ _ 1 _ rfl (opens_string Tryd.underlying9) (by kernel_rfl)
    obtain ⟨s4, v4, h4, rfl, _⟩ := hf 3 _ _ 1 _ rfl (opens_string Tryd.underlying9) (by kernel_rfl)
    match cs, hl with
    | [c0, c1, c2, c3], _ =>
      cases (show [c0] = [Value.int .i64 z0] from h0)
      cases (show [c1] = [Value.int .i64 z1] from h1)
      cases (show [c2] = [Value.string s3] from h3)
      cases (show [c3] = [Value.string s4] from h4)
      exact ⟨⟨z0, z1, s3, s4⟩, rfl, i64_ofS w0, i64_ofS w1⟩
theorem opens_saysR : Opens Tryd.prog 40 1 (One (RdA 4 RdYR)) := opens_slice Tryd.underlying40 (by omega) (by kernel_rfl) opens_sayR
theorem rdy_of {w : World} {v : Value} {l : List SayL} (h : RdA 4 RdYR w v l) : RdA 4 RdY w v l := by
  obtain ⟨A, len, c, rfl, hl, hm, hj, hz⟩ := h
  refine ⟨A, len, c, rfl, hl, hm, fun j h => ?_, hz⟩
  obtain ⟨b, o, cs, rfl, hc, hr, hE, _⟩ := hj j h
  exact ⟨b, o, cs, rfl, hc, hr, hE⟩
theorem sayR_of {w : World} {v : Value} {l : List SayL} (h : RdA 4 RdYR w v l) : ∀ s ∈ l, SayR s := by
  obtain ⟨A, len, c, rfl, hl, hm, hj, hz⟩ := h
  intro s hs
  obtain ⟨j, hj', rfl⟩ := List.getElem_of_mem hs
  obtain ⟨b, o, cs, _, _, _, _, hR⟩ := hj j hj'
  exact hR
end Go.Proofs.YthocpbkgcpgpdaaDoor
namespace Go
theorem flatMap_set1 {α β : Type} (f : α → List β) (s : Nat) (x : α) (j : Nat) (v : β) (hj : j < s) : ∀ (l : List α) (_ : ∀ y ∈ l, (f y).length = s) (k : Nat) (hk : k < l.length), f x = (f l[k]).set j v → (l.flatMap f).set (k * s + j) v = (l.set k x).flatMap f
  | [], _, k, hk, _ => by simp at hk
  | y :: l, h, 0, _, hx => by
    have hy := h y (by simp)
    simp only [List.getElem_cons_zero] at hx
    simp only [Nat.zero_mul, Nat.zero_add, List.flatMap_cons, List.set_cons_zero]
    rw [List.set_append_left _ _ (by omega), hx]
  | y :: l, h, k + 1, hk, hx => by
    have hy := h y (by simp)
    simp only [List.getElem_cons_succ] at hx
    simp only [List.flatMap_cons, List.set_cons_succ]
    have e : (k + 1) * s + j = (f y).length + (k * s + j) := by rw [hy, Nat.add_mul]; omega
    rw [e, List.set_append_right _ _ (by omega), Nat.add_sub_cancel_left, flatMap_set1 f s x j v hj l (fun z hz => h z (by simp [hz])) k (by simpa using hk) hx]
theorem exec_slice_ln {P : Program} {o : Oper} {a : Act} {t e : TypeId} {x l : Operand} {g n c L s : Nat} {kl : IntKind} {zl : Int} (ho : o.op = .slice t x (some l) none none)
    (hx : a.eval x = .slice (some ⟨g, 0, none⟩) n c) (hl : a.eval l = .int kl zl) (el : zl = (L : Int)) (hc : L ≤ n)
    (ht : P.underlying t = some (.slice e)) (hs : (P.info? e).map (·.size) = some s) (w : World) : (execOp a.eval o).run P w = .ok (.value (.slice (some ⟨g, if c = L then 0 else L * s, none⟩) (n - L) (c - L))) w := by
  subst el
  have hel : P.elem t = e := by simp [Program.elem, ht]
  subst hel
  unfold execOp
  simp only [ho]
  refine exec_v ?_
  simp only [Option.map_some, Option.map_none, hx, hl]
  rw [run_sliceAt_slice _ t _ _ _ _ ht, run_slice_l _ t _ _ _ ht kl L (by omega) (by omega), run_size1 hs]
  simp only [Result.andThen, Int.toNat_natCast, sliced]
  by_cases h0 : c = L
  · simp [h0]
  · simp [h0, Addr.add]
    exact fun h => h.symm
end Go
namespace Go.Proofs.YthocpbkgcpgpdaaDoor
open Go.RowKit

/-- What is changed of a chain is not verified, or is the same, or clashes. -/
theorem spoils_law {es c : List Ent} (hg : (verN c (headN c)).2 = true) (hE : ∀ e ∈ es, EntR e) (hC : ∀ e ∈ c, EntR e) (hc : c ≠ []) (hv : (verN es (headN c)).2 = true) :
    listsB es c = true ∨ (es = [] ∧ headN c = zero32) ∨ clashR es.reverse c.reverse = true := by
  cases hl : listsB es c with
  | true => exact .inl rfl
  | false =>
    obtain ⟨h1, h2⟩ := edits_law hE hC hv hg hl
    by_cases h : es = []
    · exact .inr (.inl ⟨h, h1 (.inl h)⟩)
    · exact .inr (.inr (h2 h hc))

/-- A row of entries of one's own, with where their bytes lie. -/
structure OwT (B : Nat) (w : World) (v : Value) (ls : List (Ent × Value × Value)) : Prop where
  row : w.ownsRow B 30 7 v ls.length (ls.flatMap ecell)
  each : ∀ x ∈ ls, ∃ n m, w.ownsRow B 5 1 x.2.1 n (bts x.1.prev) ∧ w.ownsRow B 5 1 x.2.2 m (bts x.1.hash)
theorem ecell_len (x : Ent × Value × Value) : (ecell x).length = 7 := rfl
theorem zip_maps (ls : List (Ent × Value × Value)) : (ls.map Prod.fst).zip (ls.map Prod.snd) = ls := by
  induction ls with
  | nil => rfl
  | cons x ls ih => simp [ih]
theorem OwE.owt {B : Nat} {w : World} {v : Value} {es : List Ent} {ps : List (Value × Value)} (h : OwE B w v es ps) : ∃ ls, OwT B w v ls ∧ ls.map Prod.fst = es := by
  have hl := h.len
  have hz : (es.zip ps).length = es.length := by rw [List.length_zip]; omega
  refine ⟨es.zip ps, ⟨by rw [hz]; exact h.row, h.each⟩, ?_⟩
  exact List.map_fst_zip (by omega)
theorem OwT.rdes {B : Nat} {w : World} {v : Value} {ls : List (Ent × Value × Value)} (h : OwT B w v ls) : RdEs w v (ls.map Prod.fst) := by
  have : OwE B w v (ls.map Prod.fst) (ls.map Prod.snd) := ⟨by rw [List.length_map, evals, zip_maps]; exact h.row, by simp, by rw [zip_maps]; exact h.each⟩
  exact this.rdes
theorem OwT.fr {B : Nat} {w w' : World} {v : Value} {ls : List (Ent × Value × Value)} (h : OwT B w v ls) (f : Fr (fun _ => False) w w') : OwT B w' v ls :=
  ⟨own_fr h.row f (fun _ _ h => h), fun x hx => by obtain ⟨n, m, h1, h2⟩ := h.each x hx; exact ⟨n, m, own_fr h1 f (fun _ _ h => h), own_fr h2 f (fun _ _ h => h)⟩⟩
theorem OwT.below {B : Nat} {w w' : World} {v : Value} {ls : List (Ent × Value × Value)} (h : OwT B w v ls) (hb : Below w.heap.size w w') : OwT B w' v ls := h.fr (Fr.of_below hb (fun _ => False))
/-- A block of entries that is another one is changed. -/
theorem OwT.far {B b : Nat} {w w' : World} {v : Value} {ls : List (Ent × Value × Value)} {cs : Array Value} (h : OwT B w v ls) (hb : Blk w b cs 30) (hne : v.ownBlock ≠ some b) (f : Fr (fun k => k = b) w w') : OwT B w' v ls :=
  ⟨own_fr h.row f (fun k hk e => hne (e ▸ hk)), fun x hx => by
    obtain ⟨n, m, h1, h2⟩ := h.each x hx
    exact ⟨n, m, own_fr h1 f (fun k hk e => own_blk_ne h1 hb (by decide) (by rw [hk, e])), own_fr h2 f (fun k hk e => own_blk_ne h2 hb (by decide) (by rw [hk, e]))⟩⟩
theorem OwT.blk {B g n c : Nat} {w : World} {ls : List (Ent × Value × Value)} (h : OwT B w (.slice (some ⟨g, 0, none⟩) n c) ls) : ∃ cs : Array Value, Blk w g cs 30 ∧ ls.length * 7 ≤ cs.size ∧ B ≤ g := by
  rcases h.row.2 with ⟨h0, _⟩ | ⟨g', cap, cur, hv, hb, hg, hn, hc, hs, ht⟩
  · cases h0
  · simp only [Value.slice.injEq, Option.some.injEq, Addr.mk.injEq] at hv
    obtain ⟨⟨rfl, _⟩, _, rfl⟩ := hv
    exact ⟨cur, hg, by rw [hs]; exact Nat.mul_le_mul_right 7 hn, hb⟩
theorem own_setCells {w : World} {base g n c size o : Nat} {e : TypeId} {xs : List Value} (h : w.ownsRow base e size (.slice (some ⟨g, 0, none⟩) n c) n xs) (vs : List Value) (ho : o + vs.length ≤ n * size) :
    (w.setCells g o vs).ownsRow base e size (.slice (some ⟨g, 0, none⟩) n c) n (xs.take o ++ vs ++ xs.drop (o + vs.length)) := by
  have h1 := h.1
  rcases h.2 with ⟨h0, _⟩ | ⟨g', cap, cur, hv, hb, hg, hn, hc, hs, ht⟩
  · cases h0
  · simp only [Value.slice.injEq, Option.some.injEq, Addr.mk.injEq] at hv
    obtain ⟨⟨rfl, _⟩, _, rfl⟩ := hv
    have hnc : n * size ≤ c * size := Nat.mul_le_mul_right _ hn
    have hcl : cur.toList.length = cur.size := Array.length_toList
    have hb2 := Blk.setCells (w := w) (b := g) (cs := cur) (t := e) vs o hg (by omega)
    refine ⟨?_, .inr ⟨g, c, _, rfl, hb, hb2, hn, hc, ?_, ?_⟩⟩
    · simp only [List.length_append, List.length_take, List.length_drop]; omega
    · simp only [List.size_toArray, List.length_append, List.length_take, List.length_drop]; omega
    · rw [← ht]
      apply List.ext_getElem?
      intro i
      simp only [List.getElem?_take, List.getElem?_append, List.length_append, List.length_take, List.getElem?_drop, hcl]
      by_cases hi : i < n * size
      · rw [if_pos hi]
        by_cases h2 : i < o
        · simp only [show i < min o cur.size + vs.length by omega, show i < min o cur.size by omega, show i < min o (min (n * size) cur.size) + vs.length by omega, show i < min o (min (n * size) cur.size) by omega, if_true, h2, hi]
        · by_cases h3 : i < o + vs.length
          · simp only [show i < min o cur.size + vs.length by omega, show ¬ i < min o cur.size by omega, show i < min o (min (n * size) cur.size) + vs.length by omega, show ¬ i < min o (min (n * size) cur.size) by omega, if_true, if_false]
            congr 1
            omega
          · simp only [show ¬ i < min o cur.size + vs.length by omega, show ¬ i < min o (min (n * size) cur.size) + vs.length by omega, if_false, show o + vs.length + (i - (min o (min (n * size) cur.size) + vs.length)) < n * size by omega, if_true]
            congr 1
            omega
      · rw [if_neg hi]
        simp only [show ¬ i < min o (min (n * size) cur.size) + vs.length by omega, if_false, show ¬ o + vs.length + (i - (min o (min (n * size) cur.size) + vs.length)) < n * size by omega]
theorem OwT.set_each {B : Nat} {w w' : World} {ls : List (Ent × Value × Value)} {g : Nat} {cs : Array Value} {x : Ent × Value × Value} {k : Nat} (he : ∀ y ∈ ls, ∃ n m, w.ownsRow B 5 1 y.2.1 n (bts y.1.prev) ∧ w.ownsRow B 5 1 y.2.2 m (bts y.1.hash)) (hb : Blk w g cs 30)
    (f : Fr (fun i => i = g) w w') (hx : ∃ n m, w.ownsRow B 5 1 x.2.1 n (bts x.1.prev) ∧ w.ownsRow B 5 1 x.2.2 m (bts x.1.hash)) : ∀ y ∈ ls.set k x, ∃ n m, w'.ownsRow B 5 1 y.2.1 n (bts y.1.prev) ∧ w'.ownsRow B 5 1 y.2.2 m (bts y.1.hash) := by
  intro y hy
  have hall : ∃ n m, w.ownsRow B 5 1 y.2.1 n (bts y.1.prev) ∧ w.ownsRow B 5 1 y.2.2 m (bts y.1.hash) := by
    rcases List.mem_or_eq_of_mem_set hy with h | rfl
    · exact he y h
    · exact hx
  obtain ⟨n, m, h1, h2⟩ := hall
  exact ⟨n, m, own_fr h1 f (fun k hk e => own_blk_ne h1 hb (by decide) (by rw [hk, e])), own_fr h2 f (fun k hk e => own_blk_ne h2 hb (by decide) (by rw [hk, e]))⟩
theorem OwT.store {B g n c : Nat} {w : World} {ls : List (Ent × Value × Value)} (h : OwT B w (.slice (some ⟨g, 0, none⟩) n c) ls) (hn : n = ls.length) {k : Nat} (hk : k < ls.length) {x : Ent × Value × Value} (hx : ∃ n m, w.ownsRow B 5 1 x.2.1 n (bts x.1.prev) ∧ w.ownsRow B 5 1 x.2.2 m (bts x.1.hash)) :
    OwT B (w.setCells g (k * 7) (ecell x)) (.slice (some ⟨g, 0, none⟩) n c) (ls.set k x) ∧ Fr (fun i => i = g) w (w.setCells g (k * 7) (ecell x)) := by
  subst hn
  obtain ⟨cs, hb, hs, -⟩ := h.blk
  have f : Fr (fun i => i = g) w (w.setCells g (k * 7) (ecell x)) := (Fr.refl (fun i => i = g) w).setCells _ _ (fun _ => rfl)
  refine ⟨⟨?_, OwT.set_each h.each hb f hx⟩, f⟩
  have h1 := own_setCells h.row (o := k * 7) (ecell x) (by rw [ecell_len]; omega)
  rw [List.length_set, ← flatMap_set ecell 7 x ls (fun y _ => rfl) k hk rfl]
  exact h1
theorem OwT.cell {B g n c : Nat} {w : World} {ls : List (Ent × Value × Value)} (h : OwT B w (.slice (some ⟨g, 0, none⟩) n c) ls) (hn : n = ls.length) {k j : Nat} (hk : k < ls.length) (hj : j < 7) {v : Value} {x : Ent × Value × Value} (hc : ecell x = (ecell ls[k]).set j v) (hp : x.2 = ls[k].2) (hp1 : x.1.prev = ls[k].1.prev) (hp2 : x.1.hash = ls[k].1.hash) :
    OwT B (w.setCell ⟨g, k * 7 + j, none⟩ v) (.slice (some ⟨g, 0, none⟩) n c) (ls.set k x) ∧ Fr (fun i => i = g) w (w.setCell ⟨g, k * 7 + j, none⟩ v) := by
  subst hn
  obtain ⟨cs, hb, hs, -⟩ := h.blk
  have f : Fr (fun i => i = g) w (w.setCell ⟨g, k * 7 + j, none⟩ v) := (Fr.refl (fun i => i = g) w).setCell (p := ⟨g, k * 7 + j, none⟩) (fun _ => rfl) v
  refine ⟨⟨?_, OwT.set_each h.each hb f ?_⟩, f⟩
  · have h1 := own_setCells h.row (o := k * 7 + j) [v] (by simp; omega)
    have hl := h.row.1
    rw [List.length_set, ← flatMap_set1 ecell 7 x j v hj ls (fun y _ => rfl) k hk hc]
    have e : (ls.flatMap ecell).take (k * 7 + j) ++ [v] ++ (ls.flatMap ecell).drop (k * 7 + j + [v].length) = (ls.flatMap ecell).set (k * 7 + j) v := by
      rw [List.set_eq_take_append_cons_drop, if_pos (by omega)]
      simp
    rw [e] at h1
    exact h1
  · rw [hp, hp1, hp2]
    exact h.each _ (List.getElem_mem hk)
end Go.Proofs.YthocpbkgcpgpdaaDoor
namespace Go.Proofs.YthocpbkgcpgpdaaDoor
open Go.RowKit

theorem OwT.apart {B B' n s : Nat} {w w' : World} {v v' : Value} {ls : List (Ent × Value × Value)} {xs : List Value} (h : OwT B w v ls) (h' : w.ownsRow B' 30 s v' n xs) (hne : ∀ k, v.ownBlock = some k → v'.ownBlock ≠ some k) (f : Fr (fun i => some i = v'.ownBlock) w w') : OwT B w' v ls :=
  ⟨own_fr h.row f (fun k hk e => hne k hk e.symm), fun x hx => by
    obtain ⟨n, m, h1, h2⟩ := h.each x hx
    exact ⟨n, m, own_fr h1 f (fun k hk e => own_ne h1 h' (by decide) k hk e.symm), own_fr h2 f (fun k hk e => own_ne h2 h' (by decide) k hk e.symm)⟩⟩
theorem OwT.pick {B n : Nat} {w : World} {v v' : Value} {ls l2 : List (Ent × Value × Value)} {xs : List Value} (h : OwT B w v ls) (ho : w.ownsRow B 30 7 v' n xs) (hn : n = l2.length) (hx : xs = l2.flatMap ecell) (hs : ∀ x ∈ l2, x ∈ ls) : OwT B w v' l2 := by
  subst hn hx
  exact ⟨ho, fun x hx => h.each x (hs x hx)⟩
/-- What an append takes of the head of a row of entries. -/
theorem OwT.head {B g c n : Nat} {w : World} {ls : List (Ent × Value × Value)} (h : OwT B w (.slice (some ⟨g, 0, none⟩) n c) ls) (hn : n = ls.length) (i : Nat) : ∀ (j : Nat) (u : Value), ((ls.take i).flatMap ecell)[j]? = some u → w.cell? ((⟨g, 0, none⟩ : Addr).add j) = some u := by
  subst hn
  intro j u hu
  refine h.row.cells (g := g) rfl j u ?_
  have e : ls.flatMap ecell = (ls.take i).flatMap ecell ++ (ls.drop i).flatMap ecell := by rw [← List.flatMap_append, List.take_append_drop]
  rw [e, List.getElem?_append_left]
  · exact hu
  · rcases Nat.lt_or_ge j ((ls.take i).flatMap ecell).length with h1 | h1
    · exact h1
    · rw [List.getElem?_eq_none h1] at hu; cases hu
theorem OwT.tail {B g c n : Nat} {w : World} {ls : List (Ent × Value × Value)} (h : OwT B w (.slice (some ⟨g, 0, none⟩) n c) ls) (hn : n = ls.length) (i : Nat) (hi : i ≤ ls.length) : ∀ (j : Nat) (u : Value), ((ls.drop i).flatMap ecell)[j]? = some u → w.cell? ((⟨g, i * 7, none⟩ : Addr).add j) = some u := by
  subst hn
  intro j u hu
  have e : ls.flatMap ecell = (ls.take i).flatMap ecell ++ (ls.drop i).flatMap ecell := by rw [← List.flatMap_append, List.take_append_drop]
  have hl : ((ls.take i).flatMap ecell).length = i * 7 := by rw [flatMap_length ecell 7 _ (fun x _ => rfl), List.length_take, Nat.min_eq_left hi]
  have h1 := h.row.cells (g := g) rfl (i * 7 + j) u (by rw [e, List.getElem?_append_right (by omega), hl, Nat.add_sub_cancel_left]; exact hu)
  rw [Addr.add_mid] at h1 ⊢
  rw [Nat.zero_add] at h1
  exact h1
theorem OwT.tailA {B g c n : Nat} {w : World} {ls : List (Ent × Value × Value)} (h : OwT B w (.slice (some ⟨g, 0, none⟩) n c) ls) (hn : n = ls.length) (hnc : n ≤ c) (i : Nat) (hi : i < ls.length) :
    n - (i + 1) = 0 ∨ ∃ ad, (some ⟨g, if c = i + 1 then 0 else (i + 1) * 7, none⟩ : Option Addr) = some ad ∧ ∀ (j : Nat) (u : Value), ((ls.drop (i + 1)).flatMap ecell)[j]? = some u → w.cell? (ad.add j) = some u := by
  by_cases hc : c = i + 1
  · exact .inl (by omega)
  · exact .inr ⟨_, by rw [if_neg hc], h.tail hn (i + 1) hi⟩
theorem OwT.allA {B g c n : Nat} {w : World} {ls : List (Ent × Value × Value)} (h : OwT B w (.slice (some ⟨g, 0, none⟩) n c) ls) (hn : n = ls.length) :
    n = 0 ∨ ∃ ad, (some ⟨g, 0, none⟩ : Option Addr) = some ad ∧ ∀ (j : Nat) (u : Value), (ls.flatMap ecell)[j]? = some u → w.cell? (ad.add j) = some u := by
  subst hn
  exact .inr ⟨_, rfl, fun j u hu => h.row.cells (g := g) rfl j u hu⟩
theorem newOr_apart {w : World} {v' : Value} {g : Nat} {o : Option Nat} (nn : NewOr w (.slice none 0 0) v') (hg : g < w.heap.size) (ho : o = some g) : ∀ k, o = some k → v'.ownBlock ≠ some k := by
  intro k hk e
  rw [ho] at hk
  cases hk
  rcases nn with h | ⟨x, h, hx⟩
  · rw [h] at e; cases e
  · rw [h] at e; cases e; omega
theorem below_nil {w w' : World} (g : w.grownBy w' (Value.slice none 0 0).ownBlock) : Below w.heap.size w w' :=
  (Fr.of_grown g).below (Nat.le_refl _) (fun k _ e => by cases e)
theorem OwT.range {B g c n : Nat} {w : World} {ls : List (Ent × Value × Value)} (h : OwT B w (.slice (some ⟨g, 0, none⟩) n c) ls) (hn : n = ls.length) {k : Nat} (hk : k < ls.length) : w.rangeAt g (k * 7) (ecell ls[k]) := by
  subst hn
  intro j v hj
  have hj7 : j < 7 := by
    rcases Nat.lt_or_ge j 7 with h1 | h1
    · exact h1
    · rw [List.getElem?_eq_none (by rw [ecell_len]; exact h1)] at hj; cases hj
  have h1 := h.row.cells (g := g) rfl (k * 7 + j) v (by rw [flatMap_get ecell 7 ls (fun x _ => rfl) k hk j hj7]; exact hj)
  rw [Addr.add_mid, Nat.zero_add] at h1
  exact h1
theorem OwT.there {B g c n : Nat} {w : World} {ls : List (Ent × Value × Value)} (h : OwT B w (.slice (some ⟨g, 0, none⟩) n c) ls) (hn : n = ls.length) {k : Nat} (hk : k < ls.length) : w.there g (k * 7) 7 := by
  subst hn
  obtain ⟨cs, hb, hs, -⟩ := h.blk
  exact hb.there _ _ (by omega)
theorem ecell_one1 (x : Ent × Value × Value) (h : x.2.1.oneCell' = true ∧ x.2.2.oneCell' = true) : ∀ u ∈ ecell x, u.oneCell' = true := by
  intro u hu
  simp only [ecell, List.mem_cons, List.mem_nil_iff, or_false] at hu
  rcases hu with rfl | rfl | rfl | rfl | rfl | rfl | rfl
  · rfl
  · rfl
  · rfl
  · rfl
  · rfl
  · exact h.1
  · exact h.2
theorem ecell_one (ls : List (Ent × Value × Value)) (h : ∀ x ∈ ls, x.2.1.oneCell' = true ∧ x.2.2.oneCell' = true) : ∀ u ∈ ls.flatMap ecell, u.oneCell' = true := by
  intro u hu
  obtain ⟨x, hx, hu⟩ := List.mem_flatMap.1 hu
  obtain ⟨h1, h2⟩ := h x hx
  simp only [ecell, List.mem_cons, List.mem_nil_iff, or_false] at hu
  rcases hu with rfl | rfl | rfl | rfl | rfl | rfl | rfl
  · rfl
  · rfl
  · rfl
  · rfl
  · rfl
  · exact h1
  · exact h2
theorem OwT.one {B : Nat} {w : World} {v : Value} {ls : List (Ent × Value × Value)} (h : OwT B w v ls) : ∀ x ∈ ls, x.2.1.oneCell' = true ∧ x.2.2.oneCell' = true := fun x hx => by
  obtain ⟨n, m, h1, h2⟩ := h.each x hx
  obtain ⟨A1, c1, e1⟩ := own_form h1
  obtain ⟨A2, c2, e2⟩ := own_form h2
  rw [e1, e2]
  exact ⟨rfl, rfl⟩

theorem OwT.cell2 {B g n c : Nat} {w : World} {ls : List (Ent × Value × Value)} {k j : Nat} {v : Value} {x y : Ent × Value × Value} (h : OwT B w (.slice (some ⟨g, 0, none⟩) n c) (ls.set k y)) (hn : n = ls.length) (hk : k < ls.length) (hj : j < 7) (hc : ecell x = (ecell y).set j v) (hp : x.2 = y.2) (hp1 : x.1.prev = y.1.prev) (hp2 : x.1.hash = y.1.hash) :
    OwT B (w.setCell ⟨g, k * 7 + j, none⟩ v) (.slice (some ⟨g, 0, none⟩) n c) (ls.set k x) ∧ Fr (fun i => i = g) w (w.setCell ⟨g, k * 7 + j, none⟩ v) := by
  have hk' : k < (ls.set k y).length := by rw [List.length_set]; exact hk
  have h1 := h.cell (x := x) (v := v) (by rw [List.length_set]; exact hn) hk' hj (by rw [List.getElem_set_self]; exact hc) (by rw [List.getElem_set_self]; exact hp) (by rw [List.getElem_set_self]; exact hp1) (by rw [List.getElem_set_self]; exact hp2)
  rw [List.set_set] at h1
  exact h1
theorem OwT.at {B g n c : Nat} {w : World} {ls : List (Ent × Value × Value)} (h : OwT B w (.slice (some ⟨g, 0, none⟩) n c) ls) (hn : n = ls.length) {k : Nat} (hk : k < ls.length) (j : Nat) (hj : j < 7) : (∃ v, w.cell? ⟨g, k * 7 + j, none⟩ = some v) ∧ w.frozen? ⟨g, k * 7 + j, none⟩ = false := by
  obtain ⟨h1, h2⟩ := h.there hn hk j hj
  exact ⟨Option.isSome_iff_exists.1 h1, h2⟩

set_option maxHeartbeats 6000000 in
set_option maxRecDepth 100000 in
theorem spoils_walk (v : Value) (l : List SayL) (zi zk t0 c0 : Int) (who what : ByteArray) (w : World) (hv : RdA 4 RdY w v l) (hR : ∀ s ∈ l, SayR s) (ht0 : -9223372036854775808 ≤ t0 ∧ t0 ≤ 9223372036854775807) :
    Calls Tryd.prog 6 #[v, .int .i64 zi, .int .i64 zk, .agg #[.int .i64 t0, .int .i64 c0, .string who, .string what]] w fun en w' => en = .returned (.bool true) ∧ Below w.heap.size w w' := by
  have HRR := Lib.hid (show _ ∧ _ from ⟨hR, ht0⟩)
  clear hR ht0
  obtain ⟨A, ca, rfl⟩ := hv.slice
  have hb := Blk.new w #[.int .i64 t0, .int .i64 c0, .string who, .string what] 24
  have hB := (Below.refl w.heap.size w).alloc (Nat.le_refl _) (.cells #[.int .i64 t0, .int .i64 c0, .string who, .string what] 24)
  replace hv : RdA 4 RdY _ _ l := RdA.below hv hB (fun _ _ h => h)
  have hs := hB.size
  generalize hb0 : w.heap.size = B at *
  have HB := Lib.hid hb0
  clear hb0
  go_enter Tryd.func6, Tryd.ntmps6
  go_upto_region 1 with fail
  rw [HB.out]
  generalize w.alloc (.cells #[.int .i64 t0, .int .i64 c0, .string who, .string what] 24) = w0 at *
  go_wp2_with fail
  refine (awake_any w0).mono ?_
  rintro en w1 ⟨rfl, hb1⟩
  replace hv : RdA 4 RdY _ _ l := RdA.below hv hb1 (fun _ _ h => h)
  skip; replace hb := hb.fr (Fr.of_below hb1 (fun _ => False)) (fun h => h); skip; replace hB := hB.trans (hb1.mono hs); replace hs := Nat.le_trans hs hb1.size
  clear hb1
  have hch := chain_any _ l hv
  obtain ⟨O, hO⟩ : ∃ O, O = chainN l := ⟨_, rfl⟩
  rw [← hO] at hch
  have HO := Lib.hid hO
  clear hO hv
  have HDB := Lib.hid hs
  go_wp2_with fail
  refine hch.mono ?_
  rintro en w2 ⟨hb2, hq⟩
  clear hch
  skip; replace hb := hb.fr (Fr.of_below hb2 (fun _ => False)) (fun h => h); skip; replace hB := hB.trans (hb2.mono hs); replace hs := Nat.le_trans hs hb2.size
  clear hb2
  cases O with
  | none =>
    obtain rfl : en = _ := hq
    go_wp2_with fail
    go_ret
    exact ⟨rfl, by first | exact hB | (rw [HB.out]; exact hB)⟩
  | some c =>
    obtain ⟨v2, ps, rfl, ow, hSh, h20⟩ := hq
    have hmx := ow.rdes.max
    by_cases hi0 : zi < 0
    · clear h20 ow hSh
      go_wp2_with fail
      go_ret
      exact ⟨rfl, by first | exact hB | (rw [HB.out]; exact hB)⟩
    obtain ⟨i, rfl⟩ := Int.eq_ofNat_of_zero_le (show 0 ≤ zi by omega)
    obtain ⟨Ac, cc, hv2⟩ := own_form ow.row
    subst hv2
    have hi0I : decide ((i : Int) < 0) = false := decide_eq_false (by omega)
    by_cases hic : c.length ≤ i
    · have hicI : (c.length : Int) ≤ (i : Int) := by omega
      clear h20 ow hSh
      go_wp2_with fail
      go_ret
      exact ⟨rfl, by first | exact hB | (rw [HB.out]; exact hB)⟩
    have hicI : decide ((c.length : Int) ≤ (i : Int)) = false := decide_eq_false (by omega)
    have hicJ : decide (c.length ≤ i) = false := decide_eq_false hic
    by_cases hk0 : zk < 0
    · clear h20 ow hSh
      go_wp2_with fail
      go_ret
      exact ⟨rfl, by first | exact hB | (rw [HB.out]; exact hB)⟩
    obtain ⟨k, rfl⟩ := Int.eq_ofNat_of_zero_le (show 0 ≤ zk by omega)
    have hk0I : decide ((k : Int) < 0) = false := decide_eq_false (by omega)
    by_cases hkc : c.length ≤ k
    · have hkcI : (c.length : Int) ≤ (k : Int) := by omega
      clear h20 ow hSh
      go_wp2_with fail
      go_ret
      exact ⟨rfl, by first | exact hB | (rw [HB.out]; exact hB)⟩
    have hkcI : decide ((c.length : Int) ≤ (k : Int)) = false := decide_eq_false (by omega)
    have hkcJ : decide (c.length ≤ k) = false := decide_eq_false hkc
    have d0 := hb.cell 0
    have c2 := hb.cell 2
    have c3 := hb.cell 3
    simp only [List.getElem?_toArray, List.getElem?_cons_zero, List.getElem?_cons_succ] at d0 c2 c3
    by_cases h1 : 1000 < who.size
    · have h1I : (1000 : Int) < (who.size : Int) := by omega
      clear h20 ow hSh
      go_wp2_with fail
      go_ret
      exact ⟨rfl, by first | exact hB | (rw [HB.out]; exact hB)⟩
    have h1I : decide ((1000 : Int) < (who.size : Int)) = false := decide_eq_false (by omega)
    by_cases h2 : 1000 < what.size
    · have h2I : (1000 : Int) < (what.size : Int) := by omega
      clear h20 ow hSh
      go_wp2_with fail
      go_ret
      exact ⟨rfl, by first | exact hB | (rw [HB.out]; exact hB)⟩
    have h2I : decide ((1000 : Int) < (what.size : Int)) = false := decide_eq_false (by omega)
    have hsp := chain_spec HO.out.symm
    have hER := chain_entR HO.out.symm HRR.out.1 h20
    have HSH := Lib.hid hSh
    have HSP := Lib.hid (show _ ∧ _ ∧ _ ∧ _ from ⟨hsp.1, hER, h20, show who.size ≤ 1000 ∧ what.size ≤ 1000 from ⟨by omega, by omega⟩⟩)
    have HIK := Lib.hid (show i < c.length ∧ k < c.length from ⟨by omega, by omega⟩)
    obtain ⟨lc, hT, hfst⟩ := ow.owt
    have HF := Lib.hid hfst
    have hlc : lc.length = c.length := by rw [← hfst, List.length_map]
    have HLC := Lib.hid hlc
    obtain ⟨g, cg, hv3⟩ := own_some ow.row (by omega)
    simp only [Value.slice.injEq] at hv3
    obtain ⟨rfl, -, rfl⟩ := hv3
    have hcap : c.length ≤ cc := by
      obtain ⟨A', len, c', he, _, _, _, h1, _⟩ := ow.rdes
      cases he
      omega
    have HCAP := Lib.hid hcap
    clear ow hSh hsp hER hfst hlc hcap hi0 hic hk0 hkc h1 h2 h20
    go_upto_region 5 with fail
    clear hi0I hicI hicJ hk0I hkcI hkcJ h1I h2I
    have hc := hT.rdes
    rw [HF.out] at hc
    go_wp2_with fail
    refine (head_any _ c hc (headN_le HSH.out)).mono ?_
    rintro en w3 ⟨v3, rfl, o3, hb3⟩
    have hT3 := hT.below hb3
    skip; replace hb := hb.fr (Fr.of_below hb3 (fun _ => False)) (fun h => h); skip; replace hB := hB.trans (hb3.mono hs); replace hs := Nat.le_trans hs hb3.size
    obtain ⟨A3, c3', rfl⟩ := own_form o3
    obtain ⟨H, hH⟩ : ∃ H, H = headN c := ⟨_, rfl⟩
    rw [← hH] at o3 ⊢
    have HH := Lib.hid hH
    have hbase : w1.heap.size ≤ w3.heap.size := by have := hT3.row.lt g rfl; omega
    obtain ⟨bz, oz⟩ : ∃ bz, w3.ownsRow bz 5 1 (.slice A3 H.length c3') H.length (bts H) := ⟨_, o3⟩
    have hDB : B ≤ w1.heap.size := HDB.out
    clear hH o3 hb3 hT hc
    go_wp2_with fail
    refine wp_region_float (Fr (fun _ => False)) [(0, 0), (1, 0), (2, 0), (4, 0), (5, 0), (6, 0), (7, 0), (3, 3), (8, 3), (9, 0)] _ (by kernel_rfl) (by kernel_rfl) (by simp only [List.map_cons, List.map_nil, Array.getD_eq_getD_getElem?, List.getElem?_toArray, List.getElem?_cons_succ, List.getElem?_cons_zero, Option.getD_some]; rfl) rfl (by kernel_rfl) (fun _ _ d _ _ h => by cases d <;> exact h) (Fr.refl _) (fun _ _ _ => Fr.trans) ?_
    replace hT3 := hT3.fr ((Fr.refl (fun _ => False) w3).drew)
    replace hb := hb.drew
    replace oz := own_drew oz
    replace hB := hB.drew
    replace hbase : w1.heap.size ≤ w3.drew.heap.size := hbase
    replace hs : B ≤ w3.drew.heap.size := hs
    generalize w3.drew = w4 at *
    have hil : i ≤ lc.length := by have := HLC.out; have := HIK.out.1; omega
    have hic : i ≤ cc := by have := HCAP.out; have := HIK.out.1; omega
    have hi20 : i ≤ 20 ∧ c.length ≤ 20 := by have := HSP.out.2.2.1; have := HIK.out.1; omega
    (first | (refine wpF_f0 (fun K hK => ?_); go_simp; refine hK _ ?_; clear hK K) | (refine wpF_load1 rfl rfl rfl (by kernel_rfl) (by assumption) (by simp) (fun K hK => ?_); go_simp; refine hK _ ?_; clear hK K) | (refine wpF_str rfl rfl rfl (by assumption) (by simp) (by kernel_rfl) (by kernel_rfl) (fun K hK => ?_); go_simp; refine hK _ ?_; clear hK K))
    (first | (refine wpF_f0 (fun K hK => ?_); go_simp; refine hK _ ?_; clear hK K) | (refine wpF_load1 rfl rfl rfl (by kernel_rfl) (by assumption) (by simp) (fun K hK => ?_); go_simp; refine hK _ ?_; clear hK K) | (refine wpF_str rfl rfl rfl (by assumption) (by simp) (by kernel_rfl) (by kernel_rfl) (fun K hK => ?_); go_simp; refine hK _ ?_; clear hK K))
    refine wpF_f0v (fun w' => exec_slice_hn (H := i) rfl rfl rfl rfl hic Tryd.underlying22 sizeEntry w') rfl (fun K hK => ?_)
    (go_simp; refine hK _ ?_; clear hK K)
    (first | (refine wpF_f0 (fun K hK => ?_); go_simp; refine hK _ ?_; clear hK K) | (refine wpF_load1 rfl rfl rfl (by kernel_rfl) (by assumption) (by simp) (fun K hK => ?_); go_simp; refine hK _ ?_; clear hK K) | (refine wpF_str rfl rfl rfl (by assumption) (by simp) (by kernel_rfl) (by kernel_rfl) (fun K hK => ?_); go_simp; refine hK _ ?_; clear hK K))
    (first | (refine wpF_f0 (fun K hK => ?_); go_simp; refine hK _ ?_; clear hK K) | (refine wpF_load1 rfl rfl rfl (by kernel_rfl) (by assumption) (by simp) (fun K hK => ?_); go_simp; refine hK _ ?_; clear hK K) | (refine wpF_str rfl rfl rfl (by assumption) (by simp) (by kernel_rfl) (by kernel_rfl) (fun K hK => ?_); go_simp; refine hK _ ?_; clear hK K))
    (first | (refine wpF_f0 (fun K hK => ?_); go_simp; refine hK _ ?_; clear hK K) | (refine wpF_load1 rfl rfl rfl (by kernel_rfl) (by assumption) (by simp) (fun K hK => ?_); go_simp; refine hK _ ?_; clear hK K) | (refine wpF_str rfl rfl rfl (by assumption) (by simp) (by kernel_rfl) (by kernel_rfl) (fun K hK => ?_); go_simp; refine hK _ ?_; clear hK K))
    have hwi : IntKind.i64.wrap ((i : Int) + 1) = ((i + 1 : Nat) : Int) := wrap_nat (by omega) (by omega)
    refine wpF_f0v (fun w' => exec_slice_ln (L := i + 1) rfl rfl rfl (by first | exact hwi | rfl) (by have := HIK.out.1; omega) Tryd.underlying22 sizeEntry w') rfl (fun K hK => ?_)
    (go_simp; refine hK _ ?_; clear hK K)
    refine wpF_a3 (fun K hK => ?_); rw [if_pos (by rfl)]
    refine wp_append_k rfl w1.heap.size Tryd.underlying22 infoEntry rfl (by omega) rfl (World.ownsRow_nil _ _ _ _) rfl (by rw [flatMap_length ecell 7 _ (fun x _ => rfl), List.length_take, Nat.min_eq_left hil]) (.inr ⟨_, rfl, hT3.head HLC.out.symm i⟩) (ecell_one _ (fun x hx => hT3.one x (List.mem_of_mem_take hx))) (by simp only [maxLen]; omega) (by omega) hbase (fun v5 w5 o5 g5 nn5 => ?_)
    replace nn5 : NewOr w4 (.slice none 0 0) v5 := nn5
    replace g5 : w4.grownBy w5 (Value.slice none 0 0).ownBlock := g5
    replace o5 : w5.ownsRow w1.heap.size 30 7 v5 i ((lc.take i).flatMap ecell) := by rw [Nat.zero_add, List.nil_append] at o5; exact o5
    have hT5 := hT3.below (below_nil g5)
    have hg4 := (hT3.row.lt g rfl).2
    have ap5 := newOr_apart (o := (Value.slice (some ⟨g, 0, none⟩) c.length cc).ownBlock) nn5 hg4 rfl
    skip; replace hb := hb.fr (Fr.of_below (below_nil g5) (fun _ => False)) (fun h => h); replace oz := own_fr oz (Fr.of_below (below_nil g5) (fun _ => False)) (fun _ _ h => h); replace hB := hB.trans ((below_nil g5).mono hs); replace hs := Nat.le_trans hs (below_nil g5).size
    have hb5 := Nat.le_trans hbase (below_nil g5).size
    refine hK _ _ ?_
    clear hK K hT3 nn5 g5 hbase hg4
    repeat (first | (refine wpF_f0 (fun K hK => ?_); go_simp; refine hK _ ?_; clear hK K) | (refine wpF_load1 rfl rfl rfl (by kernel_rfl) (by assumption) (by simp) (fun K hK => ?_); go_simp; refine hK _ ?_; clear hK K) | (refine wpF_str rfl rfl rfl (by assumption) (by simp) (by kernel_rfl) (by kernel_rfl) (fun K hK => ?_); go_simp; refine hK _ ?_; clear hK K))
    refine wpF_a3 (fun K hK => ?_); rw [if_pos (by rfl)]
    refine wp_append_k (z := .agg #[.int .i64 0, .int .i64 0, .int .i64 0, .string ⟨#[]⟩, .string ⟨#[]⟩, .slice none 0 0, .slice none 0 0]) (news := (lc.drop (i + 1)).flatMap ecell) rfl w1.heap.size Tryd.underlying22 infoEntry rfl (by omega) rfl o5 rfl (by rw [flatMap_length ecell 7 _ (fun x _ => rfl), List.length_drop, HLC.out]) (hT5.tailA HLC.out.symm HCAP.out i (by rw [HLC.out]; exact HIK.out.1)) (ecell_one _ (fun x hx => hT5.one x (List.mem_of_mem_drop hx))) (by simp only [maxLen]; omega) (by omega) hb5 (fun v6 w6 o6 g6 nn6 => ?_)
    replace nn6 : NewOr w5 v5 v6 := nn6
    have f6 := Fr.of_grown g6
    have hT6 := hT5.apart o5 ap5 f6
    have hG := hT6.pick (l2 := lc.take i ++ lc.drop (i + 1)) o6 (by rw [List.length_append, List.length_take, List.length_drop, HLC.out]; have := HIK.out.1; omega) (by rw [List.flatMap_append]) (fun x hx => by
      rcases List.mem_append.1 hx with h | h
      · exact List.mem_of_mem_take h
      · exact List.mem_of_mem_drop h)
    replace hb : Blk w6 B #[.int .i64 t0, .int .i64 c0, .string who, .string what] 24 := hb.fr f6 (own_blk_ne o5 hb (by decide))
    replace oz := own_fr oz f6 (fun k hk e => own_ne oz o5 (by decide) k hk e.symm)
    replace hB := below_append hB o5 g6 hDB hs
    have hb6 := Nat.le_trans hb5 f6.size
    replace hs := Nat.le_trans hs f6.size
    have apG : ∀ x, w6.heap.size ≤ x → v6.ownBlock ≠ some x := fun x hx e => by have := (hG.row.lt x e).2; omega
    refine hK _ _ ?_
    clear hK K hT5 o5 o6 g6 f6 nn6 ap5 hb5 hil hic hwi
    generalize (if cc = i + 1 then 0 else (i + 1) * 7) = q8
    repeat (first | (refine wpF_f0 (fun K hK => ?_); go_simp; refine hK _ ?_; clear hK K) | (refine wpF_load1 rfl rfl rfl (by kernel_rfl) (by assumption) (by simp) (fun K hK => ?_); go_simp; refine hK _ ?_; clear hK K) | (refine wpF_str rfl rfl rfl (by assumption) (by simp) (by kernel_rfl) (by kernel_rfl) (fun K hK => ?_); go_simp; refine hK _ ?_; clear hK K))
    refine wpF_nil ?_
    have hcpos : 0 < c.length := by have := HIK.out.1; omega
    go_upto_region 8 with (refine wpList_append_k (z := .agg #[.int .i64 0, .int .i64 0, .int .i64 0, .string ⟨#[]⟩, .string ⟨#[]⟩, .slice none 0 0, .slice none 0 0]) (news := lc.flatMap ecell) rfl rfl w1.heap.size Tryd.underlying22 infoEntry rfl (by omega) rfl (World.ownsRow_nil _ _ _ _) rfl (by rw [flatMap_length ecell 7 _ (fun x _ => rfl), HLC.out]) (hT6.allA HLC.out.symm) (ecell_one _ (fun x hx => hT6.one x hx)) (by simp only [maxLen]; omega) (by omega) hb6 (fun v7 w7 o7 g7 nn7 => ?_))
    replace nn7 : NewOr w6 (.slice none 0 0) v7 := nn7
    replace g7 : w6.grownBy w7 (Value.slice none 0 0).ownBlock := g7
    replace o7 : w7.ownsRow w1.heap.size 30 7 v7 c.length (lc.flatMap ecell) := by rw [Nat.zero_add, List.nil_append] at o7; exact o7
    have hT7 := hT6.below (below_nil g7)
    have hS7 := hT7.pick (l2 := lc) o7 HLC.out.symm rfl (fun x hx => hx)
    replace hG := hG.below (below_nil g7)
    have hg6 := (hT6.row.lt g rfl).2
    have ap7 := newOr_apart (o := (Value.slice (some ⟨g, 0, none⟩) c.length cc).ownBlock) nn7 hg6 rfl
    obtain ⟨g', cs', rfl⟩ := own_some o7 hcpos
    have hgs : w6.heap.size ≤ g' := by
      rcases nn7 with h | ⟨x, h, hx⟩
      · cases h
      · cases h; exact hx
    have apS := apG g' hgs
    skip; replace hb := hb.fr (Fr.of_below (below_nil g7) (fun _ => False)) (fun h => h); replace oz := own_fr oz (Fr.of_below (below_nil g7) (fun _ => False)) (fun _ _ h => h); replace hB := hB.trans ((below_nil g7).mono hs); replace hs := Nat.le_trans hs (below_nil g7).size
    have hb7 := Nat.le_trans hb6 (below_nil g7).size
    have apc : g' ≠ g := fun e => ap7 g rfl (by rw [e]; rfl)
    clear o7 g7 nn7 ap7 hg6 hT6 hb6 hgs apG
    have hC := hT7
    have hS := hS7
    clear hT7 hS7
    have hil : i < lc.length := by rw [HLC.out]; exact HIK.out.1
    have hkl : k < lc.length := by rw [HLC.out]; exact HIK.out.2
    have hic : i < c.length := HIK.out.1
    have hkc : k < c.length := HIK.out.2
    go_upto_region 9 with (first
      | (refine wpList_loadN (n := 7) rfl rfl rfl (hC.range HLC.out.symm hkl) rfl (by kernel_rfl) (by kernel_rfl) ?_)
      | (refine wpList_storeN (n := 7) (cs := ecell lc[k]) rfl rfl rfl rfl rfl (hS.there HLC.out.symm hil) (by kernel_rfl) (ecell_one1 _ (hC.one _ (List.getElem_mem _))) ?_))
    obtain ⟨cw, hw, -, hDg⟩ := hS.blk
    obtain ⟨hS8, f8⟩ := hS.store HLC.out.symm hil (hC.each _ (List.getElem_mem hkl))
    replace hC := hC.far hw (fun e => apc (by cases e; rfl)) f8; replace hG := hG.far hw apS f8; replace hb := hb.fr f8 (fun e => Blk.ne hb hw (by decide) e); replace oz := own_fr oz f8 (fun k hk e => own_blk_ne oz hw (by decide) (by rw [hk, e])); replace hB := hB.trans (f8.below hs (fun k hk e => by omega)); replace hs := Nat.le_trans hs f8.size
    replace hb7 := Nat.le_trans hb7 f8.size
    clear hS f8 hw cw
    generalize w7.setCells g' (i * 7) (ecell lc[k]) = w8 at *
    go_upto_region 10 with (first
      | (refine wpList_loadN (n := 7) rfl rfl rfl (hC.range HLC.out.symm hil) rfl (by kernel_rfl) (by kernel_rfl) ?_)
      | (refine wpList_storeN (n := 7) (cs := ecell lc[i]) rfl rfl rfl rfl rfl (hS8.there (by rw [List.length_set, HLC.out]) (by rw [List.length_set]; exact hkl)) (by kernel_rfl) (ecell_one1 _ (hC.one _ (List.getElem_mem _))) ?_))
    obtain ⟨cw, hw, -, -⟩ := hS8.blk
    obtain ⟨hS, f9⟩ := hS8.store (by rw [List.length_set, HLC.out]) (by rw [List.length_set]; exact hkl) (hC.each _ (List.getElem_mem hil))
    replace hC := hC.far hw (fun e => apc (by cases e; rfl)) f9; replace hG := hG.far hw apS f9; replace hb := hb.fr f9 (fun e => Blk.ne hb hw (by decide) e); replace oz := own_fr oz f9 (fun k hk e => own_blk_ne oz hw (by decide) (by rw [hk, e])); replace hB := hB.trans (f9.below hs (fun k hk e => by omega)); replace hs := Nat.le_trans hs f9.size
    replace hb7 := Nat.le_trans hb7 f9.size
    clear hS8 f9 hw cw
    generalize w8.setCells g' (k * 7) (ecell lc[i]) = w9 at *
    obtain ⟨S, hSe⟩ : ∃ S, S = (lc.set i lc[k]).set k lc[i] := ⟨_, rfl⟩
    rw [← hSe] at hS
    have HS := Lib.hid hSe
    clear hSe
    go_upto_region 11 with (refine wpList_append_k (z := .agg #[.int .i64 0, .int .i64 0, .int .i64 0, .string ⟨#[]⟩, .string ⟨#[]⟩, .slice none 0 0, .slice none 0 0]) (news := lc.flatMap ecell) rfl rfl w1.heap.size Tryd.underlying22 infoEntry rfl (by omega) rfl (World.ownsRow_nil _ _ _ _) rfl (by rw [flatMap_length ecell 7 _ (fun x _ => rfl), HLC.out]) (hC.allA HLC.out.symm) (ecell_one _ (fun x hx => hC.one x hx)) (by simp only [maxLen]; omega) (by omega) hb7 (fun v10 w10 o10 g10 nn10 => ?_))
    replace nn10 : NewOr w9 (.slice none 0 0) v10 := nn10
    replace g10 : w9.grownBy w10 (Value.slice none 0 0).ownBlock := g10
    replace o10 : w10.ownsRow w1.heap.size 30 7 v10 c.length (lc.flatMap ecell) := by rw [Nat.zero_add, List.nil_append] at o10; exact o10
    have apG : ∀ x, w9.heap.size ≤ x → v6.ownBlock ≠ some x := fun x hx e => by have := (hG.row.lt x e).2; omega
    have apC : ∀ x, w9.heap.size ≤ x → x ≠ g := fun x hx e => by have := (hC.row.lt g rfl).2; omega
    have apT : ∀ x, w9.heap.size ≤ x → x ≠ g' := fun x hx e => by have := (hS.row.lt g' rfl).2; omega
    replace hC := hC.below (below_nil g10)
    replace hG := hG.below (below_nil g10)
    replace hS := hS.below (below_nil g10)
    have hM := hC.pick (l2 := lc) o10 HLC.out.symm rfl (fun x hx => hx)
    obtain ⟨g2, cm, rfl⟩ := own_some o10 hcpos
    have hgs : w9.heap.size ≤ g2 := by
      rcases nn10 with h | ⟨x, h, hx⟩
      · cases h
      · cases h; exact hx
    replace apG := apG g2 hgs
    replace apC := apC g2 hgs
    replace apT := apT g2 hgs
    skip; replace hb := hb.fr (Fr.of_below (below_nil g10) (fun _ => False)) (fun h => h); replace oz := own_fr oz (Fr.of_below (below_nil g10) (fun _ => False)) (fun _ _ h => h); replace hB := hB.trans ((below_nil g10).mono hs); replace hs := Nat.le_trans hs (below_nil g10).size
    clear o10 g10 nn10 hgs hb7
    clear d0 c2 c3
    obtain ⟨-, -, -, hDg2⟩ := hM.blk
    have e0 : lc.set i lc[i] = lc := List.set_getElem_self hil
    rw [← e0] at hM
    clear e0
    have c2 := hb.cell 2
    simp only [List.getElem?_toArray, List.getElem?_cons_zero, List.getElem?_cons_succ] at c2
    obtain ⟨⟨u3, hu3⟩, hf3⟩ := hM.at (by rw [List.length_set, HLC.out]) (k := i) (by rw [List.length_set]; exact hil) 3 (by omega)
    go_upto_region 12 with fail
    obtain ⟨cw, hw, -, -⟩ := hM.blk
    obtain ⟨hM1, f1⟩ := hM.cell2 (j := 3) (v := .string who) (x := ({ lc[i].1 with who := who }, lc[i].2)) HLC.out.symm hil (by omega) rfl rfl rfl rfl
    replace hC := hC.far hw (fun e => apC (by cases e; rfl)) f1; replace hG := hG.far hw apG f1; replace hb := hb.fr f1 (fun e => Blk.ne hb hw (by decide) e); replace oz := own_fr oz f1 (fun k hk e => own_blk_ne oz hw (by decide) (by rw [hk, e])); replace hB := hB.trans (f1.below hs (fun k hk e => by omega)); replace hs := Nat.le_trans hs f1.size; replace hS := hS.far hw (fun e => apT (by cases e; rfl)) f1
    clear hM f1 hw cw c2 hu3 hf3 u3
    generalize w10.setCell ⟨g2, i * 7 + 3, none⟩ (.string who) = w11 at *
    have c3 := hb.cell 3
    simp only [List.getElem?_toArray, List.getElem?_cons_zero, List.getElem?_cons_succ] at c3
    obtain ⟨⟨u3, hu3⟩, hf3⟩ := hM1.at (by rw [List.length_set, HLC.out]) (k := i) (by rw [List.length_set]; exact hil) 4 (by omega)
    go_upto_region 13 with fail
    obtain ⟨cw, hw, -, -⟩ := hM1.blk
    obtain ⟨hM2, f1⟩ := hM1.cell2 (j := 4) (v := .string what) (x := ({ lc[i].1 with who := who, what := what }, lc[i].2)) HLC.out.symm hil (by omega) rfl rfl rfl rfl
    replace hC := hC.far hw (fun e => apC (by cases e; rfl)) f1; replace hG := hG.far hw apG f1; replace hb := hb.fr f1 (fun e => Blk.ne hb hw (by decide) e); replace oz := own_fr oz f1 (fun k hk e => own_blk_ne oz hw (by decide) (by rw [hk, e])); replace hB := hB.trans (f1.below hs (fun k hk e => by omega)); replace hs := Nat.le_trans hs f1.size; replace hS := hS.far hw (fun e => apT (by cases e; rfl)) f1
    clear hM1 f1 hw cw c3 hu3 hf3 u3
    generalize w11.setCell ⟨g2, i * 7 + 4, none⟩ (.string what) = w12 at *
    have c1 := hb.cell 0
    simp only [List.getElem?_toArray, List.getElem?_cons_zero] at c1
    obtain ⟨⟨u3, hu3⟩, hf3⟩ := hM2.at (by rw [List.length_set, HLC.out]) (k := i) (by rw [List.length_set]; exact hil) 1 (by omega)
    go_upto_region 14 with fail
    obtain ⟨cw, hw, -, -⟩ := hM2.blk
    obtain ⟨hM, f1⟩ := hM2.cell2 (j := 1) (v := .int .i64 t0) (x := ({ lc[i].1 with who := who, what := what, time := t0 }, lc[i].2)) HLC.out.symm hil (by omega) rfl rfl rfl rfl
    replace hC := hC.far hw (fun e => apC (by cases e; rfl)) f1; replace hG := hG.far hw apG f1; replace hb := hb.fr f1 (fun e => Blk.ne hb hw (by decide) e); replace oz := own_fr oz f1 (fun k hk e => own_blk_ne oz hw (by decide) (by rw [hk, e])); replace hB := hB.trans (f1.below hs (fun k hk e => by omega)); replace hs := Nat.le_trans hs f1.size; replace hS := hS.far hw (fun e => apT (by cases e; rfl)) f1
    clear hM2 f1 hw cw c1 hu3 hf3 u3
    generalize w12.setCell ⟨g2, i * 7 + 1, none⟩ (.int .i64 t0) = w13 at *
    clear hDg2 hDg apc apS apG apC apT
    obtain ⟨M, hMe⟩ : ∃ M, M = lc.set i ({ lc[i].1 with who := who, what := what, time := t0 }, lc[i].2) := ⟨_, rfl⟩
    rw [← hMe] at hM
    have HM := Lib.hid hMe
    clear hMe
    have hc := hC.rdes
    have hgo := hG.rdes
    have hsw := hS.rdes
    have hsa := hM.rdes
    have hd := Rd.of_own oz
    have hlS : S.length = c.length := by rw [HS.out, List.length_set, List.length_set, HLC.out]
    have hlM : M.length = c.length := by rw [HM.out, List.length_set, HLC.out]
    rw [HF.out] at hc
    have hlen : ((lc.take i ++ lc.drop (i + 1)).map Prod.fst).length = c.length - 1 := by rw [List.length_map, List.length_append, List.length_take, List.length_drop, HLC.out]; omega
    have hin1 : ∀ e ∈ (lc.take i ++ lc.drop (i + 1)).map Prod.fst, e ∈ c := by
      intro e he
      rw [← HF.out]
      obtain ⟨x, hx, rfl⟩ := List.mem_map.1 he
      rcases List.mem_append.1 hx with h | h
      · exact List.mem_map_of_mem (List.mem_of_mem_take h)
      · exact List.mem_map_of_mem (List.mem_of_mem_drop h)
    have hin2 : ∀ e ∈ S.map Prod.fst, e ∈ c := by
      intro e he
      rw [← HF.out]
      obtain ⟨x, hx, rfl⟩ := List.mem_map.1 he
      rw [HS.out] at hx
      rcases List.mem_or_eq_of_mem_set hx with hx | rfl
      · rcases List.mem_or_eq_of_mem_set hx with hx | rfl
        · exact List.mem_map_of_mem hx
        · exact List.mem_map_of_mem (List.getElem_mem _)
      · exact List.mem_map_of_mem (List.getElem_mem _)
    have hin3 : ∀ e ∈ M.map Prod.fst, e ∈ c ∨ ∃ d ∈ c, e = { d with who := who, what := what, time := t0 } := by
      intro e he
      rw [← HF.out]
      obtain ⟨x, hx, rfl⟩ := List.mem_map.1 he
      rw [HM.out] at hx
      rcases List.mem_or_eq_of_mem_set hx with hx | rfl
      · exact .inl (List.mem_map_of_mem hx)
      · exact .inr ⟨_, List.mem_map_of_mem (List.getElem_mem hil), rfl⟩
    obtain ⟨E1, hE1⟩ : ∃ E, E = (lc.take i ++ lc.drop (i + 1)).map Prod.fst := ⟨_, rfl⟩
    obtain ⟨E2, hE2⟩ : ∃ E, E = S.map Prod.fst := ⟨_, rfl⟩
    obtain ⟨E3, hE3⟩ : ∃ E, E = M.map Prod.fst := ⟨_, rfl⟩
    have hl2 : E2.length = c.length := by rw [hE2, List.length_map, hlS]
    have hl3 : E3.length = c.length := by rw [hE3, List.length_map, hlM]
    rw [← hE1] at hgo hin1 hlen
    rw [← hE2] at hsw hin2
    rw [← hE3] at hsa hin3
    have IN := Lib.hid (show _ ∧ _ ∧ _ ∧ _ ∧ _ ∧ _ from ⟨hlen, hl2, hl3, hin1, hin2, hin3⟩)
    clear hC hG hS hM oz hb hE1 hE2 hE3 hlS hlM hl2 hl3 hlen hin1 hin2 hin3 HS HM HIK HF hDB
    generalize lc[i] = xi
    generalize lc[k] = xk
    clear hil hkl HLC
    clear S M lc
    obtain ⟨A6, c6, rfl⟩ := hgo.slice
    go_wp2_with fail
    refine (verify_any _ _ E1 H hgo hd (fun e he => HSH.out e (IN.out.2.2.2.1 e he))).mono ?_
    rintro en w14 ⟨rfl, hb14⟩
    obtain ⟨X, hX⟩ : ∃ X, X = verN E1 H := ⟨_, rfl⟩
    rw [← hX]
    obtain ⟨x1, x2⟩ := X
    have Hx := Lib.hid (congrArg Prod.snd hX)
    dsimp only at Hx
    clear hX
    replace hc := hc.below hb14
    replace hgo := hgo.below hb14
    replace hsw := hsw.below hb14
    replace hsa := hsa.below hb14
    replace hd := hd.below hb14
    skip; skip; skip; replace hB := hB.trans (hb14.mono hs); replace hs := Nat.le_trans hs hb14.size
    clear hb14
    go_wp2_with fail
    refine (verify_any _ _ E2 H hsw hd (fun e he => HSH.out e (IN.out.2.2.2.2.1 e he))).mono ?_
    rintro en w15 ⟨rfl, hb15⟩
    obtain ⟨X, hX⟩ : ∃ X, X = verN E2 H := ⟨_, rfl⟩
    rw [← hX]
    obtain ⟨y1, y2⟩ := X
    have Hy := Lib.hid (congrArg Prod.snd hX)
    dsimp only at Hy
    clear hX
    replace hc := hc.below hb15
    replace hgo := hgo.below hb15
    replace hsw := hsw.below hb15
    replace hsa := hsa.below hb15
    replace hd := hd.below hb15
    skip; skip; skip; replace hB := hB.trans (hb15.mono hs); replace hs := Nat.le_trans hs hb15.size
    clear hb15
    have sh3 : ∀ e, (e ∈ c ∨ ∃ d ∈ c, e = { d with who := who, what := what, time := t0 }) → ShE e := by
      intro e he
      rcases he with h | ⟨d, h, rfl⟩
      · exact HSH.out e h
      · exact ⟨HSP.out.2.2.2.1, HSP.out.2.2.2.2, (HSH.out d h).prev, (HSH.out d h).hash⟩
    go_wp2_with fail
    refine (verify_any _ _ E3 H hsa hd (fun e he => sh3 e (IN.out.2.2.2.2.2 e he))).mono ?_
    rintro en w16 ⟨rfl, hb16⟩
    obtain ⟨X, hX⟩ : ∃ X, X = verN E3 H := ⟨_, rfl⟩
    rw [← hX]
    obtain ⟨z1, z2⟩ := X
    have Hz := Lib.hid (congrArg Prod.snd hX)
    dsimp only at Hz
    clear hX
    replace hc := hc.below hb16
    replace hgo := hgo.below hb16
    replace hsw := hsw.below hb16
    replace hsa := hsa.below hb16
    replace hd := hd.below hb16
    skip; skip; skip; replace hB := hB.trans (hb16.mono hs); replace hs := Nat.le_trans hs hb16.size
    clear hb16
    go_wp2_with fail
    refine (lists_any _ _ E2 c hsw hc).mono ?_
    rintro en w17 ⟨rfl, hb17⟩
    obtain ⟨a2, hX⟩ : ∃ X, X = listsB E2 c := ⟨_, rfl⟩
    rw [← hX]
    have Ha := Lib.hid hX
    clear hX
    replace hc := hc.below hb17
    replace hgo := hgo.below hb17
    replace hsw := hsw.below hb17
    replace hsa := hsa.below hb17
    replace hd := hd.below hb17
    skip; skip; skip; replace hB := hB.trans (hb17.mono hs); replace hs := Nat.le_trans hs hb17.size
    clear hb17
    go_wp2_with fail
    refine (lists_any _ _ E3 c hsa hc).mono ?_
    rintro en w18 ⟨rfl, hb18⟩
    obtain ⟨b2, hX⟩ : ∃ X, X = listsB E3 c := ⟨_, rfl⟩
    rw [← hX]
    have Hb := Lib.hid hX
    clear hX
    replace hc := hc.below hb18
    replace hgo := hgo.below hb18
    replace hsw := hsw.below hb18
    replace hsa := hsa.below hb18
    replace hd := hd.below hb18
    skip; skip; skip; replace hB := hB.trans (hb18.mono hs); replace hs := Nat.le_trans hs hb18.size
    clear hb18
    have hgC : (verN c (headN c)).2 = true := by rw [HSP.out.1]
    have hcne : c ≠ [] := fun e => by rw [e] at hcpos; exact absurd hcpos (by decide)
    have en3 : ∀ e, (e ∈ c ∨ ∃ d ∈ c, e = { d with who := who, what := what, time := t0 }) → EntR e := by
      intro e he
      rcases he with h | ⟨d, h, rfl⟩
      · exact HSP.out.2.1 e h
      · exact ⟨(HSP.out.2.1 d h).no, HRR.out.2, (HSP.out.2.1 d h).code⟩
    have sp1 : x2 = true → E1 = [] ∧ H = zero32 ∨ clashR E1.reverse c.reverse = true := by
      intro hx
      have h1 := spoils_law (es := E1) (c := c) hgC (fun e he => HSP.out.2.1 e (IN.out.2.2.2.1 e he)) HSP.out.2.1 hcne (by rw [← HH.out, ← Hx.out]; exact hx)
      rcases h1 with h1 | h1 | h1
      · rw [listsB_len (by rw [IN.out.1]; omega)] at h1; cases h1
      · exact .inl ⟨h1.1, by rw [HH.out]; exact h1.2⟩
      · exact .inr h1
    have sp2 : y2 = false ∨ y2 = true ∧ a2 = true ∨ y2 = true ∧ a2 = false ∧ clashR E2.reverse c.reverse = true := by
      cases hx : y2 with
      | false => exact .inl rfl
      | true =>
        have h1 := spoils_law (es := E2) (c := c) hgC (fun e he => HSP.out.2.1 e (IN.out.2.2.2.2.1 e he)) HSP.out.2.1 hcne (by rw [← HH.out, ← Hy.out]; exact hx)
        cases ha : a2 with
        | true => exact .inr (.inl ⟨rfl, rfl⟩)
        | false =>
          rcases h1 with h1 | h1 | h1
          · rw [← Ha.out, ha] at h1; cases h1
          · have h2 := IN.out.2.1; rw [h1.1] at h2; simp only [List.length_nil] at h2; omega
          · exact .inr (.inr ⟨rfl, rfl, h1⟩)
    have sp3 : z2 = false ∨ z2 = true ∧ b2 = true ∨ z2 = true ∧ b2 = false ∧ clashR E3.reverse c.reverse = true := by
      cases hx : z2 with
      | false => exact .inl rfl
      | true =>
        have h1 := spoils_law (es := E3) (c := c) hgC (fun e he => en3 e (IN.out.2.2.2.2.2 e he)) HSP.out.2.1 hcne (by rw [← HH.out, ← Hz.out]; exact hx)
        cases ha : b2 with
        | true => exact .inr (.inl ⟨rfl, rfl⟩)
        | false =>
          rcases h1 with h1 | h1 | h1
          · rw [← Hb.out, ha] at h1; cases h1
          · have h2 := IN.out.2.2.1; rw [h1.1] at h2; simp only [List.length_nil] at h2; omega
          · exact .inr (.inr ⟨rfl, rfl, h1⟩)
    have O2 := Lib.hid sp2
    have O3 := Lib.hid sp3
    have S1 := Lib.hid sp1
    have SH := Lib.hid (show _ ∧ _ ∧ _ ∧ _ ∧ _ ∧ _ ∧ _ ∧ _ from ⟨fun e he => HSH.out e (IN.out.2.2.2.1 e he), fun e he => HSH.out e (IN.out.2.2.2.2.1 e he), fun e he => sh3 e (IN.out.2.2.2.2.2 e he), HSH.out, show E1.length < 1000000 by rw [IN.out.1]; omega, show E2.length < 1000000 by rw [IN.out.2.1]; omega, show E3.length < 1000000 by rw [IN.out.2.2.1]; omega, show c.length < 1000000 by omega⟩)
    clear hgC hcne en3 sp1 sp2 sp3 sh3 Hx Hy Hz Ha Hb HSP HSH HRR IN HH
    go_upto_region 19 with fail
    by_cases h0 : E1.length = 0
    · have h0I : ((E1.length : Int) == 0) = true := beq_iff_eq.2 (by omega)
      refine wp_region_float (Fr (fun _ => False)) [(0, 0), (1, 0), (2, 0), (3, 0), (4, 0), (5, 1), (6, 2), (7, 1), (8, 0), (9, 0), (10, 0)] _ (by kernel_rfl) (by kernel_rfl) (by simp only [List.map_cons, List.map_nil, Array.getD_eq_getD_getElem?, List.getElem?_toArray, List.getElem?_cons_succ, List.getElem?_cons_zero, Option.getD_some]; rfl) rfl (by kernel_rfl) (fun _ _ d _ _ h => by cases d <;> exact h) (Fr.refl _) (fun _ _ _ => Fr.trans) ?_
      have hbd : Below w18.heap.size w18 w18.drew := (Below.refl _ _).drew
      replace hc := hc.below hbd
      replace hgo := hgo.below hbd
      replace hsw := hsw.below hbd
      replace hsa := hsa.below hbd
      replace hd := hd.below hbd
      replace hB := hB.drew
      replace hs : B ≤ w18.drew.heap.size := hs
      clear hbd
      generalize w18.drew = w19 at *
      repeat (first | (refine wpF_f0 (fun K hK => ?_); go_simp; refine hK _ ?_; clear hK K) | (refine wpF_load1 rfl rfl rfl (by kernel_rfl) (by assumption) (by simp) (fun K hK => ?_); go_simp; refine hK _ ?_; clear hK K) | (refine wpF_str rfl rfl rfl (by assumption) (by simp) (by kernel_rfl) (by kernel_rfl) (fun K hK => ?_); go_simp; refine hK _ ?_; clear hK K) | (refine wpF_skip (by rfl) ?_))
      refine wpF_a2 (fun K hK => ?_); rw [if_pos (by rfl)]
      go_simp
      refine (zero_any w19).mono ?_
      rintro en w20 ⟨vz, rfl, ow, hb20⟩
      have hz := Rd.of_own ow
      obtain ⟨Az, cz, rfl⟩ := own_form ow
      replace hd := hd.below hb20
      replace hc := hc.below hb20
      replace hgo := hgo.below hb20
      replace hsw := hsw.below hb20
      replace hsa := hsa.below hb20
      replace hB := hB.trans (hb20.mono hs)
      replace hs := Nat.le_trans hs hb20.size
      refine hK _ _ (Fr.of_below hb20 _) ?_
      clear hK K hb20 ow
      repeat (first | (refine wpF_f0 (fun K hK => ?_); go_simp; refine hK _ ?_; clear hK K) | (refine wpF_load1 rfl rfl rfl (by kernel_rfl) (by assumption) (by simp) (fun K hK => ?_); go_simp; refine hK _ ?_; clear hK K) | (refine wpF_str rfl rfl rfl (by assumption) (by simp) (by kernel_rfl) (by kernel_rfl) (fun K hK => ?_); go_simp; refine hK _ ?_; clear hK K) | (refine wpF_skip (by rfl) ?_))
      obtain ⟨nv, hnv⟩ : ∃ q, q = ((str H).toList == (str zero32).toList) := ⟨_, rfl⟩
      rw [← hnv]
      have O1 := Lib.hid (show x2 = false ∨ x2 = true ∧ nv = true from by
        cases hx : x2 with
        | false => exact .inl rfl
        | true =>
          rcases S1.out hx with h | h
          · exact .inr ⟨rfl, by rw [hnv, h.2]; exact beq_self_eq_true _⟩
          · have h1 : E1 = [] := List.eq_nil_of_length_eq_zero h0
            rw [h1] at h
            exact absurd h (by simp [clashR]))
      clear hnv S1 hd hz h0I
      refine wpF_nil ?_
      rcases O1.out with rfl | ⟨rfl, rfl⟩
      · rcases O2.out with rfl | ⟨rfl, rfl⟩ | ⟨rfl, rfl, hcl⟩
        · rcases O3.out with rfl | ⟨rfl, rfl⟩ | ⟨rfl, rfl, hcl⟩
          · go_wp2_with fail
            go_ret
            exact ⟨rfl, by first | exact hB | (rw [HB.out]; exact hB)⟩
          · go_wp2_with fail
            go_ret
            exact ⟨rfl, by first | exact hB | (rw [HB.out]; exact hB)⟩
          · replace hcl := Lib.hid hcl
            go_wp2_with fail
            refine (clash_any _ _ E3 c hsa hc SH.out.2.2.1 SH.out.2.2.2.1 SH.out.2.2.2.2.2.2.1 SH.out.2.2.2.2.2.2.2).mono ?_
            rintro en ww ⟨rfl, hbw⟩
            rw [hcl.out]
            replace hc := hc.below hbw
            replace hgo := hgo.below hbw
            replace hsw := hsw.below hbw
            replace hsa := hsa.below hbw
            skip; skip; skip; replace hB := hB.trans (hbw.mono hs); replace hs := Nat.le_trans hs hbw.size
            clear hbw
            clear hcl
            go_wp2_with fail
            go_ret
            exact ⟨rfl, by first | exact hB | (rw [HB.out]; exact hB)⟩
        · rcases O3.out with rfl | ⟨rfl, rfl⟩ | ⟨rfl, rfl, hcl⟩
          · go_wp2_with fail
            go_ret
            exact ⟨rfl, by first | exact hB | (rw [HB.out]; exact hB)⟩
          · go_wp2_with fail
            go_ret
            exact ⟨rfl, by first | exact hB | (rw [HB.out]; exact hB)⟩
          · replace hcl := Lib.hid hcl
            go_wp2_with fail
            refine (clash_any _ _ E3 c hsa hc SH.out.2.2.1 SH.out.2.2.2.1 SH.out.2.2.2.2.2.2.1 SH.out.2.2.2.2.2.2.2).mono ?_
            rintro en ww ⟨rfl, hbw⟩
            rw [hcl.out]
            replace hc := hc.below hbw
            replace hgo := hgo.below hbw
            replace hsw := hsw.below hbw
            replace hsa := hsa.below hbw
            skip; skip; skip; replace hB := hB.trans (hbw.mono hs); replace hs := Nat.le_trans hs hbw.size
            clear hbw
            clear hcl
            go_wp2_with fail
            go_ret
            exact ⟨rfl, by first | exact hB | (rw [HB.out]; exact hB)⟩
        · replace hcl := Lib.hid hcl
          go_wp2_with fail
          refine (clash_any _ _ E2 c hsw hc SH.out.2.1 SH.out.2.2.2.1 SH.out.2.2.2.2.2.1 SH.out.2.2.2.2.2.2.2).mono ?_
          rintro en ww ⟨rfl, hbw⟩
          rw [hcl.out]
          replace hc := hc.below hbw
          replace hgo := hgo.below hbw
          replace hsw := hsw.below hbw
          replace hsa := hsa.below hbw
          skip; skip; skip; replace hB := hB.trans (hbw.mono hs); replace hs := Nat.le_trans hs hbw.size
          clear hbw
          clear hcl
          rcases O3.out with rfl | ⟨rfl, rfl⟩ | ⟨rfl, rfl, hcl⟩
          · go_wp2_with fail
            go_ret
            exact ⟨rfl, by first | exact hB | (rw [HB.out]; exact hB)⟩
          · go_wp2_with fail
            go_ret
            exact ⟨rfl, by first | exact hB | (rw [HB.out]; exact hB)⟩
          · replace hcl := Lib.hid hcl
            go_wp2_with fail
            refine (clash_any _ _ E3 c hsa hc SH.out.2.2.1 SH.out.2.2.2.1 SH.out.2.2.2.2.2.2.1 SH.out.2.2.2.2.2.2.2).mono ?_
            rintro en ww ⟨rfl, hbw⟩
            rw [hcl.out]
            replace hc := hc.below hbw
            replace hgo := hgo.below hbw
            replace hsw := hsw.below hbw
            replace hsa := hsa.below hbw
            skip; skip; skip; replace hB := hB.trans (hbw.mono hs); replace hs := Nat.le_trans hs hbw.size
            clear hbw
            clear hcl
            go_wp2_with fail
            go_ret
            exact ⟨rfl, by first | exact hB | (rw [HB.out]; exact hB)⟩
      · rcases O2.out with rfl | ⟨rfl, rfl⟩ | ⟨rfl, rfl, hcl⟩
        · rcases O3.out with rfl | ⟨rfl, rfl⟩ | ⟨rfl, rfl, hcl⟩
          · go_wp2_with fail
            go_ret
            exact ⟨rfl, by first | exact hB | (rw [HB.out]; exact hB)⟩
          · go_wp2_with fail
            go_ret
            exact ⟨rfl, by first | exact hB | (rw [HB.out]; exact hB)⟩
          · replace hcl := Lib.hid hcl
            go_wp2_with fail
            refine (clash_any _ _ E3 c hsa hc SH.out.2.2.1 SH.out.2.2.2.1 SH.out.2.2.2.2.2.2.1 SH.out.2.2.2.2.2.2.2).mono ?_
            rintro en ww ⟨rfl, hbw⟩
            rw [hcl.out]
            replace hc := hc.below hbw
            replace hgo := hgo.below hbw
            replace hsw := hsw.below hbw
            replace hsa := hsa.below hbw
            skip; skip; skip; replace hB := hB.trans (hbw.mono hs); replace hs := Nat.le_trans hs hbw.size
            clear hbw
            clear hcl
            go_wp2_with fail
            go_ret
            exact ⟨rfl, by first | exact hB | (rw [HB.out]; exact hB)⟩
        · rcases O3.out with rfl | ⟨rfl, rfl⟩ | ⟨rfl, rfl, hcl⟩
          · go_wp2_with fail
            go_ret
            exact ⟨rfl, by first | exact hB | (rw [HB.out]; exact hB)⟩
          · go_wp2_with fail
            go_ret
            exact ⟨rfl, by first | exact hB | (rw [HB.out]; exact hB)⟩
          · replace hcl := Lib.hid hcl
            go_wp2_with fail
            refine (clash_any _ _ E3 c hsa hc SH.out.2.2.1 SH.out.2.2.2.1 SH.out.2.2.2.2.2.2.1 SH.out.2.2.2.2.2.2.2).mono ?_
            rintro en ww ⟨rfl, hbw⟩
            rw [hcl.out]
            replace hc := hc.below hbw
            replace hgo := hgo.below hbw
            replace hsw := hsw.below hbw
            replace hsa := hsa.below hbw
            skip; skip; skip; replace hB := hB.trans (hbw.mono hs); replace hs := Nat.le_trans hs hbw.size
            clear hbw
            clear hcl
            go_wp2_with fail
            go_ret
            exact ⟨rfl, by first | exact hB | (rw [HB.out]; exact hB)⟩
        · replace hcl := Lib.hid hcl
          go_wp2_with fail
          refine (clash_any _ _ E2 c hsw hc SH.out.2.1 SH.out.2.2.2.1 SH.out.2.2.2.2.2.1 SH.out.2.2.2.2.2.2.2).mono ?_
          rintro en ww ⟨rfl, hbw⟩
          rw [hcl.out]
          replace hc := hc.below hbw
          replace hgo := hgo.below hbw
          replace hsw := hsw.below hbw
          replace hsa := hsa.below hbw
          skip; skip; skip; replace hB := hB.trans (hbw.mono hs); replace hs := Nat.le_trans hs hbw.size
          clear hbw
          clear hcl
          rcases O3.out with rfl | ⟨rfl, rfl⟩ | ⟨rfl, rfl, hcl⟩
          · go_wp2_with fail
            go_ret
            exact ⟨rfl, by first | exact hB | (rw [HB.out]; exact hB)⟩
          · go_wp2_with fail
            go_ret
            exact ⟨rfl, by first | exact hB | (rw [HB.out]; exact hB)⟩
          · replace hcl := Lib.hid hcl
            go_wp2_with fail
            refine (clash_any _ _ E3 c hsa hc SH.out.2.2.1 SH.out.2.2.2.1 SH.out.2.2.2.2.2.2.1 SH.out.2.2.2.2.2.2.2).mono ?_
            rintro en ww ⟨rfl, hbw⟩
            rw [hcl.out]
            replace hc := hc.below hbw
            replace hgo := hgo.below hbw
            replace hsw := hsw.below hbw
            replace hsa := hsa.below hbw
            skip; skip; skip; replace hB := hB.trans (hbw.mono hs); replace hs := Nat.le_trans hs hbw.size
            clear hbw
            clear hcl
            go_wp2_with fail
            go_ret
            exact ⟨rfl, by first | exact hB | (rw [HB.out]; exact hB)⟩
    · have h0I : ((E1.length : Int) == 0) = false := beq_eq_false_iff_ne.2 (by omega)
      refine wp_region_float (Fr (fun _ => False)) [(0, 0), (1, 0), (2, 0), (3, 0), (4, 0), (5, 1), (6, 2), (7, 1), (8, 0), (9, 0), (10, 0)] _ (by kernel_rfl) (by kernel_rfl) (by simp only [List.map_cons, List.map_nil, Array.getD_eq_getD_getElem?, List.getElem?_toArray, List.getElem?_cons_succ, List.getElem?_cons_zero, Option.getD_some]; rfl) rfl (by kernel_rfl) (fun _ _ d _ _ h => by cases d <;> exact h) (Fr.refl _) (fun _ _ _ => Fr.trans) ?_
      have hbd : Below w18.heap.size w18 w18.drew := (Below.refl _ _).drew
      replace hc := hc.below hbd
      replace hgo := hgo.below hbd
      replace hsw := hsw.below hbd
      replace hsa := hsa.below hbd
      replace hd := hd.below hbd
      replace hB := hB.drew
      replace hs : B ≤ w18.drew.heap.size := hs
      clear hbd
      generalize w18.drew = w19 at *
      have O1 := Lib.hid (show x2 = false ∨ x2 = true ∧ clashR E1.reverse c.reverse = true from by
        cases hx : x2 with
        | false => exact .inl rfl
        | true =>
          rcases S1.out hx with h | h
          · rw [h.1] at h0; exact absurd rfl h0
          · exact .inr ⟨rfl, h⟩)
      clear S1 hd
      repeat (first | (refine wpF_f0 (fun K hK => ?_); go_simp; refine hK _ ?_; clear hK K) | (refine wpF_load1 rfl rfl rfl (by kernel_rfl) (by assumption) (by simp) (fun K hK => ?_); go_simp; refine hK _ ?_; clear hK K) | (refine wpF_str rfl rfl rfl (by assumption) (by simp) (by kernel_rfl) (by kernel_rfl) (fun K hK => ?_); go_simp; refine hK _ ?_; clear hK K) | (refine wpF_skip (by rfl) ?_))
      refine wpF_nil ?_
      rcases O1.out with rfl | ⟨rfl, hcl⟩
      · rcases O2.out with rfl | ⟨rfl, rfl⟩ | ⟨rfl, rfl, hcl⟩
        · rcases O3.out with rfl | ⟨rfl, rfl⟩ | ⟨rfl, rfl, hcl⟩
          · go_wp2_with fail
            go_ret
            exact ⟨rfl, by first | exact hB | (rw [HB.out]; exact hB)⟩
          · go_wp2_with fail
            go_ret
            exact ⟨rfl, by first | exact hB | (rw [HB.out]; exact hB)⟩
          · replace hcl := Lib.hid hcl
            go_wp2_with fail
            refine (clash_any _ _ E3 c hsa hc SH.out.2.2.1 SH.out.2.2.2.1 SH.out.2.2.2.2.2.2.1 SH.out.2.2.2.2.2.2.2).mono ?_
            rintro en ww ⟨rfl, hbw⟩
            rw [hcl.out]
            replace hc := hc.below hbw
            replace hgo := hgo.below hbw
            replace hsw := hsw.below hbw
            replace hsa := hsa.below hbw
            skip; skip; skip; replace hB := hB.trans (hbw.mono hs); replace hs := Nat.le_trans hs hbw.size
            clear hbw
            clear hcl
            go_wp2_with fail
            go_ret
            exact ⟨rfl, by first | exact hB | (rw [HB.out]; exact hB)⟩
        · rcases O3.out with rfl | ⟨rfl, rfl⟩ | ⟨rfl, rfl, hcl⟩
          · go_wp2_with fail
            go_ret
            exact ⟨rfl, by first | exact hB | (rw [HB.out]; exact hB)⟩
          · go_wp2_with fail
            go_ret
            exact ⟨rfl, by first | exact hB | (rw [HB.out]; exact hB)⟩
          · replace hcl := Lib.hid hcl
            go_wp2_with fail
            refine (clash_any _ _ E3 c hsa hc SH.out.2.2.1 SH.out.2.2.2.1 SH.out.2.2.2.2.2.2.1 SH.out.2.2.2.2.2.2.2).mono ?_
            rintro en ww ⟨rfl, hbw⟩
            rw [hcl.out]
            replace hc := hc.below hbw
            replace hgo := hgo.below hbw
            replace hsw := hsw.below hbw
            replace hsa := hsa.below hbw
            skip; skip; skip; replace hB := hB.trans (hbw.mono hs); replace hs := Nat.le_trans hs hbw.size
            clear hbw
            clear hcl
            go_wp2_with fail
            go_ret
            exact ⟨rfl, by first | exact hB | (rw [HB.out]; exact hB)⟩
        · replace hcl := Lib.hid hcl
          go_wp2_with fail
          refine (clash_any _ _ E2 c hsw hc SH.out.2.1 SH.out.2.2.2.1 SH.out.2.2.2.2.2.1 SH.out.2.2.2.2.2.2.2).mono ?_
          rintro en ww ⟨rfl, hbw⟩
          rw [hcl.out]
          replace hc := hc.below hbw
          replace hgo := hgo.below hbw
          replace hsw := hsw.below hbw
          replace hsa := hsa.below hbw
          skip; skip; skip; replace hB := hB.trans (hbw.mono hs); replace hs := Nat.le_trans hs hbw.size
          clear hbw
          clear hcl
          rcases O3.out with rfl | ⟨rfl, rfl⟩ | ⟨rfl, rfl, hcl⟩
          · go_wp2_with fail
            go_ret
            exact ⟨rfl, by first | exact hB | (rw [HB.out]; exact hB)⟩
          · go_wp2_with fail
            go_ret
            exact ⟨rfl, by first | exact hB | (rw [HB.out]; exact hB)⟩
          · replace hcl := Lib.hid hcl
            go_wp2_with fail
            refine (clash_any _ _ E3 c hsa hc SH.out.2.2.1 SH.out.2.2.2.1 SH.out.2.2.2.2.2.2.1 SH.out.2.2.2.2.2.2.2).mono ?_
            rintro en ww ⟨rfl, hbw⟩
            rw [hcl.out]
            replace hc := hc.below hbw
            replace hgo := hgo.below hbw
            replace hsw := hsw.below hbw
            replace hsa := hsa.below hbw
            skip; skip; skip; replace hB := hB.trans (hbw.mono hs); replace hs := Nat.le_trans hs hbw.size
            clear hbw
            clear hcl
            go_wp2_with fail
            go_ret
            exact ⟨rfl, by first | exact hB | (rw [HB.out]; exact hB)⟩
      · replace hcl := Lib.hid hcl
        go_wp2_with fail
        refine (clash_any _ _ E1 c hgo hc SH.out.1 SH.out.2.2.2.1 SH.out.2.2.2.2.1 SH.out.2.2.2.2.2.2.2).mono ?_
        rintro en ww ⟨rfl, hbw⟩
        rw [hcl.out]
        replace hc := hc.below hbw
        replace hgo := hgo.below hbw
        replace hsw := hsw.below hbw
        replace hsa := hsa.below hbw
        skip; skip; skip; replace hB := hB.trans (hbw.mono hs); replace hs := Nat.le_trans hs hbw.size
        clear hbw
        clear hcl
        rcases O2.out with rfl | ⟨rfl, rfl⟩ | ⟨rfl, rfl, hcl⟩
        · rcases O3.out with rfl | ⟨rfl, rfl⟩ | ⟨rfl, rfl, hcl⟩
          · go_wp2_with fail
            go_ret
            exact ⟨rfl, by first | exact hB | (rw [HB.out]; exact hB)⟩
          · go_wp2_with fail
            go_ret
            exact ⟨rfl, by first | exact hB | (rw [HB.out]; exact hB)⟩
          · replace hcl := Lib.hid hcl
            go_wp2_with fail
            refine (clash_any _ _ E3 c hsa hc SH.out.2.2.1 SH.out.2.2.2.1 SH.out.2.2.2.2.2.2.1 SH.out.2.2.2.2.2.2.2).mono ?_
            rintro en ww ⟨rfl, hbw⟩
            rw [hcl.out]
            replace hc := hc.below hbw
            replace hgo := hgo.below hbw
            replace hsw := hsw.below hbw
            replace hsa := hsa.below hbw
            skip; skip; skip; replace hB := hB.trans (hbw.mono hs); replace hs := Nat.le_trans hs hbw.size
            clear hbw
            clear hcl
            go_wp2_with fail
            go_ret
            exact ⟨rfl, by first | exact hB | (rw [HB.out]; exact hB)⟩
        · rcases O3.out with rfl | ⟨rfl, rfl⟩ | ⟨rfl, rfl, hcl⟩
          · go_wp2_with fail
            go_ret
            exact ⟨rfl, by first | exact hB | (rw [HB.out]; exact hB)⟩
          · go_wp2_with fail
            go_ret
            exact ⟨rfl, by first | exact hB | (rw [HB.out]; exact hB)⟩
          · replace hcl := Lib.hid hcl
            go_wp2_with fail
            refine (clash_any _ _ E3 c hsa hc SH.out.2.2.1 SH.out.2.2.2.1 SH.out.2.2.2.2.2.2.1 SH.out.2.2.2.2.2.2.2).mono ?_
            rintro en ww ⟨rfl, hbw⟩
            rw [hcl.out]
            replace hc := hc.below hbw
            replace hgo := hgo.below hbw
            replace hsw := hsw.below hbw
            replace hsa := hsa.below hbw
            skip; skip; skip; replace hB := hB.trans (hbw.mono hs); replace hs := Nat.le_trans hs hbw.size
            clear hbw
            clear hcl
            go_wp2_with fail
            go_ret
            exact ⟨rfl, by first | exact hB | (rw [HB.out]; exact hB)⟩
        · replace hcl := Lib.hid hcl
          go_wp2_with fail
          refine (clash_any _ _ E2 c hsw hc SH.out.2.1 SH.out.2.2.2.1 SH.out.2.2.2.2.2.1 SH.out.2.2.2.2.2.2.2).mono ?_
          rintro en ww ⟨rfl, hbw⟩
          rw [hcl.out]
          replace hc := hc.below hbw
          replace hgo := hgo.below hbw
          replace hsw := hsw.below hbw
          replace hsa := hsa.below hbw
          skip; skip; skip; replace hB := hB.trans (hbw.mono hs); replace hs := Nat.le_trans hs hbw.size
          clear hbw
          clear hcl
          rcases O3.out with rfl | ⟨rfl, rfl⟩ | ⟨rfl, rfl, hcl⟩
          · go_wp2_with fail
            go_ret
            exact ⟨rfl, by first | exact hB | (rw [HB.out]; exact hB)⟩
          · go_wp2_with fail
            go_ret
            exact ⟨rfl, by first | exact hB | (rw [HB.out]; exact hB)⟩
          · replace hcl := Lib.hid hcl
            go_wp2_with fail
            refine (clash_any _ _ E3 c hsa hc SH.out.2.2.1 SH.out.2.2.2.1 SH.out.2.2.2.2.2.2.1 SH.out.2.2.2.2.2.2.2).mono ?_
            rintro en ww ⟨rfl, hbw⟩
            rw [hcl.out]
            replace hc := hc.below hbw
            replace hgo := hgo.below hbw
            replace hsw := hsw.below hbw
            replace hsa := hsa.below hbw
            skip; skip; skip; replace hB := hB.trans (hbw.mono hs); replace hs := Nat.le_trans hs hbw.size
            clear hbw
            clear hcl
            go_wp2_with fail
            go_ret
            exact ⟨rfl, by first | exact hB | (rw [HB.out]; exact hB)⟩
end Go.Proofs.YthocpbkgcpgpdaaDoor
