/- audit: two chains with one head; plain. -/
import Derived.Test.YthocpbkgcpgpdaaDoorAudD
import Derived.Test.YthocpbkgcpgpdaaDoorRowKit21
import Derived.Test.YthocpbkgcpgpdaaDoorAudH
namespace Go.Proofs.YthocpbkgcpgpdaaDoor
open Go.RowKit

theorem encK_inj {a b : List (List UInt8)} (h : encK a = encK b) : a = b := by
  have h1 := decM_encK a []
  rw [h, decM_encK b []] at h1
  simpa using h1.symm
theorem beN_be8 (x : Nat) (h : x < 18446744073709551616) : beN (be8 x) 8 = x := by
  simp only [beN, be8, List.getD_eq_getElem?_getD, List.getElem?_cons_zero, List.getElem?_cons_succ, Option.getD_some, UInt8.toNat_ofNat']
  omega
theorem be8_inj {x y : Nat} (hx : x < 18446744073709551616) (hy : y < 18446744073709551616) (h : be8 x = be8 y) : x = y := by
  rw [← beN_be8 x hx, h, beN_be8 y hy]
/-- Its numbers are of 64 bits. -/
structure EntR (e : Ent) : Prop where
  no : -9223372036854775808 ≤ e.no ∧ e.no ≤ 9223372036854775807
  time : -9223372036854775808 ≤ e.time ∧ e.time ≤ 9223372036854775807
  code : -9223372036854775808 ≤ e.code ∧ e.code ≤ 9223372036854775807
theorem z64_inj {x y : Int} (hx : -9223372036854775808 ≤ x ∧ x ≤ 9223372036854775807) (hy : -9223372036854775808 ≤ y ∧ y ≤ 9223372036854775807) (h : be8 (z64 x) = be8 (z64 y)) : x = y := by
  have h1 := be8_inj (by rw [z64]; omega) (by rw [z64]; omega) h
  simp only [z64] at h1
  omega
theorem said_inj {a b : Ent} (ha : EntR a) (hb : EntR b) (h : a.said = b.said) : a.no = b.no ∧ a.time = b.time ∧ a.code = b.code ∧ a.who = b.who ∧ a.what = b.what ∧ a.prev = b.prev := by
  simp only [Ent.said, List.cons.injEq, and_true] at h
  obtain ⟨h1, h2, h3, h4, h5, h6⟩ := h
  refine ⟨z64_inj ha.no hb.no h1, z64_inj ha.time hb.time h2, z64_inj ha.code hb.code h3, ?_, ?_, h6⟩
  · have : a.who.data = b.who.data := Array.toList_inj.1 h4
    cases hw : a.who; cases hv : b.who; simp_all
  · have : a.what.data = b.what.data := Array.toList_inj.1 h5
    cases hw : a.what; cases hv : b.what; simp_all
def Good : List Ent → Nat → List UInt8 → List UInt8 → Prop
  | [], _, prev, head => prev = head
  | e :: r, i, prev, head => e.no = (i : Int) ∧ e.prev = prev ∧ e.hash = Sha.digest (encK e.said) ∧ Good r (i + 1) e.hash head
theorem good_of {head : List UInt8} : ∀ (es : List Ent) (i : Nat) (prev : List UInt8), (verF es i prev head).2 = true → Good es i prev head
  | [], _, _, h => by simpa [verF, Good] using h
  | e :: r, i, prev, h => by
    rw [verF] at h
    split at h
    · rename_i hr
      simp only [rightB, Bool.and_eq_true, beq_iff_eq] at hr
      exact ⟨hr.1, hr.2.1, hr.2.2, good_of r _ _ h⟩
    · cases h
theorem ver_of {head : List UInt8} : ∀ (es : List Ent) (i : Nat) (prev : List UInt8), Good es i prev head → verF es i prev head = (i + es.length, true)
  | [], _, _, h => by simp only [Good] at h; simp [verF, h]
  | e :: r, i, prev, h => by
    obtain ⟨h1, h2, h3, h4⟩ := h
    rw [verF, if_pos (by simp [rightB, h1, h2, ← h3]), ver_of r _ _ h4, List.length_cons]
    congr 1
    omega
theorem good_snoc {x : Ent} {head : List UInt8} : ∀ (es : List Ent) (i : Nat) (prev : List UInt8), Good (es ++ [x]) i prev head ↔ Good es i prev x.prev ∧ x.no = ((i + es.length : Nat) : Int) ∧ x.hash = Sha.digest (encK x.said) ∧ x.hash = head
  | [], i, prev => by
    simp only [List.nil_append, Good, List.length_nil, Nat.add_zero]
    exact ⟨fun ⟨h1, h2, h3, h4⟩ => ⟨h2.symm, h1, h3, h4⟩, fun ⟨h1, h2, h3, h4⟩ => ⟨h2, h1.symm, h3, h4⟩⟩
  | e :: r, i, prev => by
    rw [List.cons_append, Good, Good, good_snoc r, List.length_cons]
    have : i + 1 + r.length = i + (r.length + 1) := by omega
    rw [this]
    exact ⟨fun ⟨h1, h2, h3, h4, h5, h6, h7⟩ => ⟨⟨h1, h2, h3, h4⟩, h5, h6, h7⟩, fun ⟨⟨h1, h2, h3, h4⟩, h5, h6, h7⟩ => ⟨h1, h2, h3, h4, h5, h6, h7⟩⟩
/-- Looked for from the last ones on: the lists stand reversed. -/
def clashR : List Ent → List Ent → Bool
  | x :: a, y :: b => if encK x.said == encK y.said then clashR a b else x.hash == y.hash
  | _, _ => false
theorem ent_ext {x y : Ent} (h : x.no = y.no ∧ x.time = y.time ∧ x.code = y.code ∧ x.who = y.who ∧ x.what = y.what ∧ x.prev = y.prev) (hh : x.hash = y.hash) : x = y := by
  cases x; cases y
  simp_all
theorem clash_of {z : List UInt8} : ∀ (ra rb : List Ent) (head : List UInt8), (∀ e ∈ ra, EntR e) → (∀ e ∈ rb, EntR e) → Good ra.reverse 0 z head → Good rb.reverse 0 z head → ra ≠ [] → rb ≠ [] → clashR ra rb = true ∨ ra = rb
  | [], _, _, _, _, _, _, h, _ => absurd rfl h
  | _ :: _, [], _, _, _, _, _, _, h => absurd rfl h
  | x :: ra, y :: rb, head, hA, hB, ha, hb, _, _ => by
    rw [List.reverse_cons] at ha hb
    obtain ⟨a1, a2, a3, a4⟩ := (good_snoc _ _ _).1 ha
    obtain ⟨b1, b2, b3, b4⟩ := (good_snoc _ _ _).1 hb
    rw [clashR]
    by_cases hs : encK x.said = encK y.said
    · rw [if_pos (by rw [beq_iff_eq]; exact hs)]
      have hf := said_inj (hA x (List.mem_cons_self ..)) (hB y (List.mem_cons_self ..)) (encK_inj hs)
      have hxy : x = y := ent_ext hf (a4.trans b4.symm)
      have hl : ra.length = rb.length := by
        have := hf.1
        rw [a2, b2] at this
        simp only [List.length_reverse, Nat.zero_add] at this
        omega
      cases ra with
      | nil =>
        have : rb = [] := List.eq_nil_of_length_eq_zero hl.symm
        subst this
        exact .inr (by rw [hxy])
      | cons x2 ra =>
        cases rb with
        | nil => cases hl
        | cons y2 rb =>
          rw [hxy] at a1
          rcases clash_of (x2 :: ra) (y2 :: rb) y.prev (fun e he => hA e (List.mem_cons_of_mem _ he)) (fun e he => hB e (List.mem_cons_of_mem _ he)) a1 b1 (by simp) (by simp) with h | h
          · exact .inl h
          · exact .inr (by rw [hxy, h])
    · rw [if_neg (by rw [beq_iff_eq]; exact hs)]
      exact .inl (by rw [beq_iff_eq]; exact a4.trans b4.symm)
theorem listsB_self : ∀ a : List Ent, listsB a a = true
  | [] => rfl
  | x :: a => by rw [listsB, sameE_self, listsB_self a]; rfl
theorem edits_law {a b : List Ent} {head : List UInt8} (hA : ∀ e ∈ a, EntR e) (hB : ∀ e ∈ b, EntR e) (ha : (verN a head).2 = true) (hb : (verN b head).2 = true) (hne : listsB a b = false) :
    (a = [] ∨ b = [] → head = zero32) ∧ (a ≠ [] → b ≠ [] → clashR a.reverse b.reverse = true) := by
  have ga := good_of a 0 zero32 ha
  have gb := good_of b 0 zero32 hb
  refine ⟨fun h => ?_, fun h1 h2 => ?_⟩
  · rcases h with rfl | rfl
    · exact ga.symm
    · exact gb.symm
  · rcases clash_of (z := zero32) a.reverse b.reverse head (fun e he => hA e (List.mem_reverse.1 he)) (fun e he => hB e (List.mem_reverse.1 he)) (by rw [List.reverse_reverse]; exact ga) (by rw [List.reverse_reverse]; exact gb) (by simpa using h1) (by simpa using h2) with h | h
    · exact h
    · have : a = b := List.reverse_inj.1 h
      rw [this, listsB_self] at hne
      cases hne
end Go.Proofs.YthocpbkgcpgpdaaDoor
namespace Go.Proofs.YthocpbkgcpgpdaaDoor
open Go.RowKit

def ecell (x : Ent × Value × Value) : List Value := [.int .i64 x.1.no, .int .i64 x.1.time, .int .i64 x.1.code, .string x.1.who, .string x.1.what, x.2.1, x.2.2]
def evals (es : List Ent) (ps : List (Value × Value)) : List Value := (es.zip ps).flatMap ecell
/-- A row of entries of one's own, their bytes too. -/
structure OwE (B : Nat) (w : World) (v : Value) (es : List Ent) (ps : List (Value × Value)) : Prop where
  row : w.ownsRow B 30 7 v es.length (evals es ps)
  len : ps.length = es.length
  each : ∀ x ∈ es.zip ps, ∃ n m, w.ownsRow B 5 1 x.2.1 n (bts x.1.prev) ∧ w.ownsRow B 5 1 x.2.2 m (bts x.1.hash)
theorem OwE.nil (B : Nat) (w : World) : OwE B w (.slice none 0 0) [] [] := ⟨World.ownsRow_nil _ _ _ _, rfl, fun x hx => by cases hx⟩
theorem OwE.fr {B : Nat} {w w' : World} {v : Value} {es : List Ent} {ps : List (Value × Value)} (h : OwE B w v es ps) {T : Nat → Prop} (f : Fr T w w') (ht : ∀ k, B ≤ k → k < w.heap.size → ¬ T k) : OwE B w' v es ps where
  row := own_fr h.row f (fun k hk => ht k (h.row.lt k hk).1 (h.row.lt k hk).2)
  len := h.len
  each := fun x hx => by
    obtain ⟨n, m, h1, h2⟩ := h.each x hx
    exact ⟨n, m, own_fr h1 f (fun k hk => ht k (h1.lt k hk).1 (h1.lt k hk).2), own_fr h2 f (fun k hk => ht k (h2.lt k hk).1 (h2.lt k hk).2)⟩
theorem OwE.below {B : Nat} {w w' : World} {v : Value} {es : List Ent} {ps : List (Value × Value)} (h : OwE B w v es ps) (f : Below w.heap.size w w') : OwE B w' v es ps := h.fr (Fr.of_below f (fun _ => False)) (fun _ _ _ h => h)
theorem zip_push {es : List Ent} {ps : List (Value × Value)} (h : ps.length = es.length) (e : Ent) (p : Value × Value) : (es ++ [e]).zip (ps ++ [p]) = es.zip ps ++ [(e, p)] := List.zip_append h.symm
theorem evals_push {es : List Ent} {ps : List (Value × Value)} (h : ps.length = es.length) (e : Ent) (p : Value × Value) : evals (es ++ [e]) (ps ++ [p]) = evals es ps ++ ecell (e, p) := by
  rw [evals, zip_push h, List.flatMap_append]
  simp [evals]
theorem OwE.rdes {B : Nat} {w : World} {v : Value} {es : List Ent} {ps : List (Value × Value)} (h : OwE B w v es ps) : RdEs w v es := by
  rcases h.row.2 with ⟨rfl, h0⟩ | ⟨g, cap, cur, rfl, hb, hg, hn, hc, hs, ht⟩
  · have : es = [] := List.eq_nil_of_length_eq_zero h0
    subst this
    exact RdA.nil _ _ _
  · refine ⟨_, _, _, rfl, rfl, by omega, fun j hj => ?_, hn, fun h => by cases h⟩
    have hjp : j < ps.length := by rw [h.len]; exact hj
    have hz : j < (es.zip ps).length := by rw [List.length_zip, h.len]; omega
    have hzj : (es.zip ps)[j] = (es[j], ps[j]) := List.getElem_zip
    obtain ⟨n, m, h1, h2⟩ := h.each _ (List.getElem_mem hz)
    rw [hzj] at h1 h2
    refine ⟨g, 0, ecell (es[j], ps[j]), rfl, rfl, ?_, _, _, rfl, Rd.of_own h1, Rd.of_own h2, own_nn h2⟩
    refine own_range h.row (0 + j * 7) _ (fun i u hu => ?_)
    have hi : i < 7 := by
      rcases Nat.lt_or_ge i 7 with h' | h'
      · exact h'
      · rw [List.getElem?_eq_none (by simpa [ecell] using h')] at hu; cases hu
    rw [Nat.zero_add, evals, flatMap_get ecell 7 (es.zip ps) (fun x _ => rfl) j hz i hi, hzj]
    exact hu
def chF : List SayL → List Ent → Option (List Ent)
  | [], out => some out
  | s :: r, out => if 1000 < s.who.size ∨ 1000 < s.what.size then none else chF r (out ++ [nextN out s.time s.code s.who s.what])
def chainN (l : List SayL) : Option (List Ent) := if 20 < l.length then none else chF l []
theorem chF_drop {l : List SayL} {t : Nat} (h : t < l.length) (out : List Ent) : chF (l.drop t) out = if 1000 < l[t].who.size ∨ 1000 < l[t].what.size then none else chF (l.drop (t + 1)) (out ++ [nextN out l[t].time l[t].code l[t].who l[t].what]) := by
  rw [List.drop_eq_getElem_cons h, chF]
def ChainP (B : Nat) (w : World) (o : Option (List Ent)) (en : Ending) (w' : World) : Prop := Below B w w' ∧ match o with
  | some es => ∃ v ps, en = .returned (.tuple #[v, .bool true]) ∧ OwE B w' v es ps ∧ (∀ e ∈ es, ShE e) ∧ es.length ≤ 20
  | none => en = .returned (.tuple #[.slice none 0 0, .bool false])
theorem infoEntry : (Tryd.prog.info? 30).map (fun i => (i.zero, i.size, i.bytes)) = some (some (.agg #[.int .i64 0, .int .i64 0, .int .i64 0, .string ⟨#[]⟩, .string ⟨#[]⟩, .slice none 0 0, .slice none 0 0]), 7, 104) := by kernel_rfl
set_option maxHeartbeats 1000000 in
set_option maxRecDepth 100000 in
theorem chain_any {w : World} (v : Value) (l : List SayL) (hv : RdA 4 RdY w v l) :
    Calls Tryd.prog 24 #[v] w (ChainP w.heap.size w (chainN l)) := by
  obtain ⟨A, c, rfl⟩ := hv.slice
  have hmx := hv.max
  obtain ⟨O, hO⟩ : ∃ O, O = chainN l := ⟨_, rfl⟩
  rw [← hO]
  have HO := Lib.hid hO
  clear hO
  generalize hb0 : w.heap.size = B at *
  have HB := Lib.hid hb0
  clear hb0
  have hB0 : Below B w w := Below.refl _ _
  have hs0 : B ≤ w.heap.size := by rw [HB.out]; exact Nat.le_refl _
  go_enter Tryd.func24, Tryd.ntmps24
  by_cases h20 : 20 < l.length
  · have h20I : (20 : Int) < (l.length : Int) := by omega
    have ho : O = none := by rw [HO.out, chainN, if_pos h20]
    subst ho
    go_wp2_with fail
    go_ret2
    exact ⟨by first | exact hB0 | (rw [HB.out]; exact hB0), rfl⟩
  have h20I : decide ((20 : Int) < (l.length : Int)) = false := decide_eq_false (by omega)
  have hO2 : O = chF l [] := by rw [HO.out, chainN, if_neg h20]
  replace HO := Lib.hid hO2
  have HL := Lib.hid (show l.length ≤ 20 by omega)
  clear hO2 h20
  go_wp2_with fail
  clear h20I
  go_loopw [4, 5] (fun o i wr => ∃ (t : Nat) (es : List Ent) (ps : List (Value × Value)), i = .int .i64 t ∧ t ≤ l.length ∧ es.length = t ∧ O = chF (l.drop t) es ∧ (∀ e ∈ es, ShE e) ∧ OwE B wr o es ps ∧ Below B w wr ∧ B ≤ wr.heap.size) (fun _ i _ => l.length - (intOf i).toNat)
  case atStart => exact ⟨0, [], [], rfl, Nat.zero_le _, rfl, HO.out, fun e he => by simp at he, OwE.nil _ _, hB0, hs0⟩
  case round =>
    clear hB0 hs0
    obtain ⟨t, es, ps, rfl, ht, hel, hch, hSh, ow, hB, hs⟩ := hrel
    have HC := Lib.hid (show _ ∧ _ ∧ _ from ⟨hel, hch, hSh⟩)
    clear hel hch hSh
    obtain ⟨Ao, co, rfl⟩ := own_form ow.row
    by_cases hlt : t < l.length
    · have hltI : (t : Int) < (l.length : Int) := by omega
      have ht0 : (0 : Int) ≤ (t : Int) := by omega
      have hvw : RdA 4 RdY wr (.slice A l.length c) l := RdA.below hv (by rw [HB.out]; exact hB) (fun _ _ h => h)
      obtain ⟨b, o, cs, rfl, hl4, hra, rfl⟩ := hvw.at hlt
      have hst := HC.out.2.1.trans (chF_drop hlt es)
      generalize l[t] = s at *
      have HST := Lib.hid hst
      clear hst hvw
      replace hra := hra.drew
      have c0 := hra 0 _ rfl
      have c1 := hra 1 _ rfl
      have c2 := hra 2 _ rfl
      have c3 := hra 3 _ rfl
      have c2' : wr.cell? ⟨b, o + t * 4 + 2, none⟩ = some (.string s.who) := c2
      have c3' : wr.cell? ⟨b, o + t * 4 + 3, none⟩ = some (.string s.what) := c3
      simp only [Nat.add_zero] at c0
      by_cases h1 : 1000 < s.who.size
      · have h1I : (1000 : Int) < (s.who.size : Int) := by omega
        have ho : O = none := by rw [HST.out, if_pos (.inl h1)]
        subst ho
        clear c0 c1 c2 c3
        go_wp2_with fail
        go_ret2
        exact ⟨by first | exact hB | (rw [HB.out]; exact hB), rfl⟩
      have h1I : decide ((1000 : Int) < (s.who.size : Int)) = false := decide_eq_false (by omega)
      by_cases h2 : 1000 < s.what.size
      · have h2I : (1000 : Int) < (s.what.size : Int) := by omega
        have ho : O = none := by rw [HST.out, if_pos (.inr h2)]
        subst ho
        clear c0 c1 c2 c3
        go_wp2_with fail
        go_ret2
        exact ⟨by first | exact hB | (rw [HB.out]; exact hB), rfl⟩
      have h2I : decide ((1000 : Int) < (s.what.size : Int)) = false := decide_eq_false (by omega)
      have hst := HST.out
      rw [if_neg (fun h => h.elim h1 h2)] at hst
      replace HST := Lib.hid hst
      clear hst
      go_wp2_with fail
      clear h1I h2I c2' c3'
      refine wp_region_float (Fr (fun _ => False)) [(0, 0), (1, 0), (2, 0), (3, 0), (4, 0), (5, 0), (6, 1), (7, 0), (8, 0), (9, 0), (10, 0), (11, 1), (12, 0), (13, 0), (14, 0), (15, 0), (16, 1), (17, 0), (18, 0), (19, 0), (20, 0), (21, 1), (22, 3), (23, 3), (24, 3), (25, 0)] _ (by kernel_rfl) (by kernel_rfl) (by simp only [List.map_cons, List.map_nil, Array.getD_eq_getD_getElem?, List.getElem?_toArray, List.getElem?_cons_succ, List.getElem?_cons_zero, Option.getD_some]; rfl) rfl (by kernel_rfl) (fun _ _ d _ _ h => by cases d <;> exact h) (Fr.refl _) (fun _ _ _ => Fr.trans) ?_
      replace ow := ow.below (Below.refl wr.heap.size wr).drew
      replace hB := hB.drew
      replace hs : B ≤ wr.drew.heap.size := hs
      generalize wr.drew = w2 at *
      repeat (first | (refine wpF_f0 (fun K hK => ?_); go_simp; refine hK _ ?_; clear hK K) | (refine wpF_load1 rfl rfl rfl (by kernel_rfl) (by assumption) (by simp) (fun K hK => ?_); go_simp; refine hK _ ?_; clear hK K) | (refine wpF_loadN rfl rfl rfl (by assumption) (by assumption) (by kernel_rfl) (by kernel_rfl) (by simp) (fun K hK => ?_); go_simp; refine hK _ ?_; clear hK K))
      refine wpF_a3 (fun K hK => ?_); rw [if_pos (by rfl)]
      go_simp
      have hnx := next_any _ es s.time s.code s.who s.what ow.rdes (headN_le HC.out.2.2) (by omega) (by omega)
      obtain ⟨E, hE⟩ : ∃ E, E = nextN es s.time s.code s.who s.what := ⟨_, rfl⟩
      rw [← hE] at hnx
      have HE := Lib.hid hE
      have HS := Lib.hid (show ShE E by rw [hE]; exact nextN_short (headN_le HC.out.2.2) (by omega) (by omega))
      clear hE
      refine hnx.mono ?_
      rintro en w3 ⟨vp, vh, n, m, rfl, op, oh, hb3⟩
      replace op := own_base op hs
      replace oh := own_base oh hs
      replace ow := ow.below hb3
      replace hB := hB.trans (hb3.mono hs)
      replace hs := Nat.le_trans hs hb3.size
      obtain ⟨Ap, cp, rfl⟩ := own_form op
      obtain ⟨Ah, ch, rfl⟩ := own_form oh
      refine hK _ _ ?_
      clear hK K hb3 hnx c0 c1 c2 c3 hra
      refine wpF_a3 (fun K hK => ?_); rw [if_pos (by rfl)]
      refine wp_value (exec_buildSlice (buildEs E.no E.time E.code E.who E.what Ap Ah n cp m ch w3) rfl (by simp [Act.eval])) ?_
      have f4 : Fr (fun _ => False) w3 (w3.alloc (.cells #[.int .i64 E.no, .int .i64 E.time, .int .i64 E.code, .string E.who, .string E.what, .slice Ap n cp, .slice Ah m ch] 30)) := (Fr.refl _ w3).alloc _
      have b4 := Blk.new w3 #[.int .i64 E.no, .int .i64 E.time, .int .i64 E.code, .string E.who, .string E.what, .slice Ap n cp, .slice Ah m ch] 30
      have hcell : ∀ (q : Nat) (u : Value), (ecell (E, .slice Ap n cp, .slice Ah m ch))[q]? = some u → (w3.alloc (.cells #[.int .i64 E.no, .int .i64 E.time, .int .i64 E.code, .string E.who, .string E.what, .slice Ap n cp, .slice Ah m ch] 30)).cell? ((⟨w3.heap.size, 0, none⟩ : Addr).add q) = some u := fun q u hu => by
        rw [Addr.add_mid, Nat.zero_add, b4.cell q]; simpa [ecell] using hu
      refine hK _ _ ?_
      clear hK K
      replace ow := ow.fr f4 (fun _ _ _ h => h)
      replace op := own_fr op f4 (fun _ _ h => h)
      replace oh := own_fr oh f4 (fun _ _ h => h)
      replace hB := hB.trans (f4.below (B := B) hs (fun _ _ h => h))
      replace hs := Nat.le_trans hs f4.size
      clear f4 b4
      generalize w3.alloc (.cells #[.int .i64 E.no, .int .i64 E.time, .int .i64 E.code, .string E.who, .string E.what, .slice Ap n cp, .slice Ah m ch] 30) = w4 at *
      generalize w3.heap.size = g4 at *
      have hrow := ow.row
      have hel := HC.out.1
      have hl20 := HL.out
      refine wpF_a3 (fun K hK => ?_); rw [if_pos (by rfl)]
      refine wp_append_k rfl B Tryd.underlying22 infoEntry rfl (by omega) (v := .slice Ao es.length co) rfl hrow (news := ecell (E, .slice Ap n cp, .slice Ah m ch)) rfl rfl (.inr ⟨_, rfl, hcell⟩) (by simp [ecell, Value.oneCell']) (by unfold maxLen; omega) (by omega) hs ?_
      intro v5 w5 o5 g5 n5
      have f5 := Fr.of_grown g5
      have ow5 : OwE B w5 v5 (es ++ [E]) (ps ++ [(.slice Ap n cp, .slice Ah m ch)]) := by
        refine ⟨?_, by simp [ow.len], fun x hx => ?_⟩
        · rw [evals_push ow.len, List.length_append]
          exact o5
        · rw [zip_push ow.len] at hx
          rcases List.mem_append.1 hx with hx | hx
          · obtain ⟨n', m', h1, h2⟩ := ow.each x hx
            exact ⟨n', m', own_fr h1 f5 (fun k hk e => own_ne h1 hrow (by decide) k hk e.symm), own_fr h2 f5 (fun k hk e => own_ne h2 hrow (by decide) k hk e.symm)⟩
          · rw [List.mem_singleton.1 hx]
            exact ⟨n, m, own_fr op f5 (fun k hk e => own_ne op hrow (by decide) k hk e.symm), own_fr oh f5 (fun k hk e => own_ne oh hrow (by decide) k hk e.symm)⟩
      replace hB := hB.trans (f5.below (B := B) hs (fun j hj e => by have := (hrow.lt j e.symm).1; omega))
      replace hs := Nat.le_trans hs f5.size
      have HOW := Lib.hid ow5
      clear g5 n5 f5 ow5 ow hrow op oh o5 hcell hel hl20
      go_simp
      refine hK _ _ ?_
      clear hK K
      repeat (first | (refine wpF_f0 (fun K hK => ?_); go_simp; refine hK _ ?_; clear hK K) | (refine wpF_load1 rfl rfl rfl (by kernel_rfl) (by assumption) (by simp) (fun K hK => ?_); go_simp; refine hK _ ?_; clear hK K) | (refine wpF_loadN rfl rfl rfl (by assumption) (by assumption) (by kernel_rfl) (by kernel_rfl) (by simp) (fun K hK => ?_); go_simp; refine hK _ ?_; clear hK K))
      refine wpF_nil ?_
      go_wp2_with fail
      go_roundw
      case rel =>
        refine ⟨t + 1, es ++ [E], _, by go_num, hlt, by simp [HC.out.1], by rw [HST.out, ← HE.out], fun e he => ?_, HOW.out, hB, hs⟩
        rcases List.mem_append.1 he with he | he
        · exact HC.out.2.2 e he
        · rw [List.mem_singleton.1 he]; exact HS.out
      case measure => simp [intOf]; omega
    · obtain rfl : t = l.length := by omega
      have ho : O = some es := by rw [HC.out.2.1, List.drop_length, chF]
      subst ho
      have HOW := Lib.hid ow
      clear ow
      go_wp2_with fail
      go_ret2
      exact ⟨by first | exact hB | (rw [HB.out]; exact hB), _, ps, rfl, HOW.out, HC.out.2.2, by have := HL.out; have := HC.out.1; omega⟩
end Go.Proofs.YthocpbkgcpgpdaaDoor
namespace Go.Proofs.YthocpbkgcpgpdaaDoor
open Go.RowKit

theorem headN_snoc (es : List Ent) (x : Ent) : headN (es ++ [x]) = x.hash := by
  rw [headN, List.getLast?_append]
  simp
theorem chF_spec : ∀ (l : List SayL) (out c : List Ent), chF l out = some c → Good out 0 zero32 (headN out) →
    Good c 0 zero32 (headN c) ∧ c.length = out.length + l.length ∧ c.take out.length = out ∧ ∀ j s, l[j]? = some s → ∃ e, c[out.length + j]? = some e ∧ e.no = ((out.length + j : Nat) : Int) ∧ e.time = s.time ∧ e.code = s.code ∧ e.who = s.who ∧ e.what = s.what
  | [], out, c, h, hg => by
    rw [chF, Option.some.injEq] at h
    subst h
    exact ⟨hg, by simp, by simp, fun j s hj => by simp at hj⟩
  | s :: r, out, c, h, hg => by
    rw [chF] at h
    split at h
    · cases h
    · have hg2 : Good (out ++ [nextN out s.time s.code s.who s.what]) 0 zero32 (headN (out ++ [nextN out s.time s.code s.who s.what])) := by
        rw [headN_snoc]
        exact (good_snoc _ _ _).2 ⟨hg, by rw [Nat.zero_add]; rfl, rfl, rfl⟩
      obtain ⟨h1, h2, h3, h4⟩ := chF_spec r _ c h hg2
      rw [List.length_append, List.length_singleton] at h2 h3 h4
      have h5 : c.take out.length = out := by
        have := congrArg (List.take out.length) h3
        rw [List.take_take, List.take_left, Nat.min_eq_left (by omega)] at this
        exact this
      refine ⟨h1, by rw [h2, List.length_cons]; omega, h5, fun j s' hj => ?_⟩
      cases j with
      | zero =>
        simp only [List.getElem?_cons_zero, Option.some.injEq] at hj
        subst hj
        refine ⟨nextN out s.time s.code s.who s.what, ?_, by rw [Nat.add_zero]; rfl, rfl, rfl, rfl, rfl⟩
        have : (c.take (out.length + 1))[out.length]? = c[out.length]? := by rw [List.getElem?_take, if_pos (by omega)]
        rw [Nat.add_zero, ← this, h3, List.getElem?_append_right (Nat.le_refl _), Nat.sub_self]
        rfl
      | succ j =>
        rw [List.getElem?_cons_succ] at hj
        obtain ⟨e, he, h6, h7⟩ := h4 j s' hj
        have hi : out.length + 1 + j = out.length + (j + 1) := by omega
        rw [hi] at he h6
        exact ⟨e, he, h6, h7⟩
theorem chain_spec {l : List SayL} {c : List Ent} (h : chainN l = some c) : verN c (headN c) = (c.length, true) ∧ Good c 0 zero32 (headN c) ∧ c.length = l.length ∧ ∀ (j : Nat) (s : SayL), l[j]? = some s → ∃ e, c[j]? = some e ∧ e.no = (j : Int) ∧ e.time = s.time ∧ e.code = s.code ∧ e.who = s.who ∧ e.what = s.what := by
  rw [chainN] at h
  split at h
  · cases h
  · obtain ⟨h1, h2, h3, h4⟩ := chF_spec l [] c h rfl
    refine ⟨by rw [verN, ver_of _ _ _ h1, Nat.zero_add], h1, by simpa using h2, fun j s hj => ?_⟩
    obtain ⟨e, he⟩ := h4 j s hj
    simp only [List.length_nil, Nat.zero_add] at he
    exact ⟨e, he⟩
theorem str_sb (s : ByteArray) : str (sb s) = s := by
  cases s; simp [str, sb]
theorem wrap_z64 {x : Int} (hx : -9223372036854775808 ≤ x ∧ x ≤ 9223372036854775807) : wrap64 ((z64 x : Nat) : Int) = x := by
  simp only [z64, wrap64]
  omega
theorem z64_lt (x : Int) : z64 x < 18446744073709551616 := by rw [z64]; omega
set_option maxRecDepth 100000 in
theorem narP_z64 {x : Int} (hx : -9223372036854775808 ≤ x ∧ x ≤ 9223372036854775807) : narP (be8 (z64 x)) = (x, 0) := by
  have h8 : (be8 (z64 x)).length = 8 := rfl
  have hb := beN_be8 (z64 x) (z64_lt x)
  have hw := wrap_z64 hx
  generalize z64 x = n at *
  rw [narP, if_pos h8, narZ, hb, hw]
theorem readN_bytes {e : Ent} (h : EntR e) : readN (encK (e.said ++ [e.hash])) = some e := by
  rw [readN, decM_encK]
  simp only [Ent.said, List.nil_append, List.cons_append]
  rw [narP_z64 h.no, narP_z64 h.time, narP_z64 h.code, if_pos ⟨rfl, rfl, rfl⟩, str_sb, str_sb]
/-- The numbers of what is said are of 64 bits. -/
def SayR (s : SayL) : Prop := (-9223372036854775808 ≤ s.time ∧ s.time ≤ 9223372036854775807) ∧ (-9223372036854775808 ≤ s.code ∧ s.code ≤ 9223372036854775807)
theorem chain_entR {l : List SayL} {c : List Ent} (h : chainN l = some c) (hl : ∀ s ∈ l, SayR s) (hc : c.length ≤ 20) : ∀ e ∈ c, EntR e := by
  obtain ⟨-, -, h3, h4⟩ := chain_spec h
  intro e he
  obtain ⟨j, hj, rfl⟩ := List.getElem_of_mem he
  obtain ⟨e', h5, h6, h7, h8, -⟩ := h4 j _ (List.getElem?_eq_getElem (by omega))
  rw [List.getElem?_eq_getElem hj, Option.some.injEq] at h5
  rw [h5]
  have hs := hl _ (List.getElem_mem (show j < l.length by omega))
  exact ⟨by rw [h6]; omega, by rw [h7]; exact hs.1, by rw [h8]; exact hs.2⟩
end Go.Proofs.YthocpbkgcpgpdaaDoor
