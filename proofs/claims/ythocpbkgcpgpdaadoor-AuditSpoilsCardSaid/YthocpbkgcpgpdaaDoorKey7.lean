/- key.Decode. -/
import Derived.Test.YthocpbkgcpgpdaaDoorKey6
namespace Go.Proofs.YthocpbkgcpgpdaaDoor
open Go.RowKit

theorem own_ne {w : World} {b1 b2 n1 n2 s1 s2 : Nat} {e1 e2 : TypeId} {v1 v2 : Value} {x1 x2 : List Value} (h1 : w.ownsRow b1 e1 s1 v1 n1 x1) (h2 : w.ownsRow b2 e2 s2 v2 n2 x2) (he : e1 ≠ e2) : ∀ k, v1.ownBlock = some k → v2.ownBlock ≠ some k := by
  intro k hk
  rcases h1.2 with ⟨rfl, _⟩ | ⟨g, cap, cur, rfl, hb, hg, _⟩
  · cases hk
  · cases hk
    exact fun e => own_blk_ne h2 (show Blk w g cur e1 from hg) (fun h => he h.symm) e.symm
theorem own_lit (w : World) (B : Nat) (hB : B ≤ w.heap.size) (v : Value) (T : TypeId) : (w.alloc (.cells #[v] T)).ownsRow B T 1 (.slice (some ⟨w.heap.size, 0, none⟩) 1 1) 1 [v] :=
  own_of_cells (Blk.new w #[v] T) hB rfl (Nat.le_refl _) (by simp [maxLen]) rfl (fun j _ => by simp)
/-- A row of rows of bytes, all one's own. -/
def OwL (w : World) (B : Nat) (v : Value) (ps : List (List UInt8)) : Prop :=
  ∃ vals : List Value, w.ownsRow B 28 1 v ps.length vals ∧ vals.length = ps.length ∧ ∀ j, j < ps.length → w.ownsRow B 5 1 (vals.getD j undef) (ps.getD j []).length (bts (ps.getD j []))
theorem OwL.nil (w : World) (B : Nat) : OwL w B (.slice none 0 0) [] := ⟨[], World.ownsRow_nil _ _ _ _, rfl, fun j h => absurd h (by simp)⟩
theorem OwL.fr {w w' : World} {B : Nat} {v : Value} {ps : List (List UInt8)} (h : OwL w B v ps) {T : Nat → Prop} (f : Fr T w w') (ht : ∀ k, k < w.heap.size → B ≤ k → ¬ T k) : OwL w' B v ps := by
  obtain ⟨vals, h1, h2, h3⟩ := h
  exact ⟨vals, own_fr h1 f (fun k hk => ht k (h1.lt k hk).2 (h1.lt k hk).1), h2, fun j hj => own_fr (h3 j hj) f (fun k hk => ht k ((h3 j hj).lt k hk).2 ((h3 j hj).lt k hk).1)⟩
theorem OwL.below {w w' : World} {B : Nat} {v : Value} {ps : List (List UInt8)} (h : OwL w B v ps) (hb : Below w.heap.size w w') : OwL w' B v ps := h.fr (Fr.of_below hb (fun _ => False)) (fun _ _ _ h => h)
theorem OwL.drew {w : World} {B : Nat} {v : Value} {ps : List (List UInt8)} (h : OwL w B v ps) : OwL w.drew B v ps := h.fr ((Fr.refl (fun _ => False) w).drew) (fun _ _ _ h => h)
/-- what the row is behind an append -/
theorem OwL.push {w w' : World} {B : Nat} {v v' vp : Value} {vals : List Value} {ps : List (List UInt8)} {p : List UInt8} (hv : w.ownsRow B 28 1 v ps.length vals) (hl : vals.length = ps.length)
    (hp : ∀ j, j < ps.length → w.ownsRow B 5 1 (vals.getD j undef) (ps.getD j []).length (bts (ps.getD j []))) (hn : w.ownsRow B 5 1 vp p.length (bts p))
    (h : w'.ownsRow B 28 1 v' (ps.length + 1) (vals ++ [vp])) (f : Fr (fun i => some i = v.ownBlock) w w') : OwL w' B v' (ps ++ [p]) := by
  refine ⟨vals ++ [vp], by rw [List.length_append]; exact h, by simp [hl], fun j hj => ?_⟩
  rcases Nat.lt_or_ge j ps.length with h1 | h1
  · rw [List.getD_eq_getElem?_getD, List.getD_eq_getElem?_getD, List.getElem?_append_left (by omega), List.getElem?_append_left h1, ← List.getD_eq_getElem?_getD, ← List.getD_eq_getElem?_getD]
    exact own_fr (hp j h1) f (fun k hk e => own_ne (hp j h1) hv (by decide) k hk e.symm)
  · have : j = ps.length := by rw [List.length_append, List.length_singleton] at hj; omega
    subst this
    rw [List.getD_eq_getElem?_getD, List.getD_eq_getElem?_getD, List.getElem?_append_right (by omega), List.getElem?_append_right (by omega), hl]
    simp only [Nat.sub_self, List.getElem?_cons_zero, Option.getD_some]
    exact own_fr hn f (fun k hk e => own_ne hn hv (by decide) k hk e.symm)
theorem OwL.rdl {w : World} {B : Nat} {v : Value} {ps : List (List UInt8)} (h : OwL w B v ps) : RdL w v ps := by
  obtain ⟨vals, h1, h2, h3⟩ := h
  have hm : ps.length ≤ maxLen := by
    rcases h1.2 with ⟨_, h0⟩ | ⟨g, cap, cur, rfl, hb, hg, hn, hc, hs, ht⟩
    · rw [h0]; simp [maxLen]
    · omega
  obtain ⟨A, c, rfl⟩ := own_form h1
  refine ⟨A, ps.length, c, rfl, rfl, hm, fun j hj => ?_⟩
  obtain ⟨g, c', hv⟩ := own_some h1 (by omega)
  simp only [Value.slice.injEq] at hv
  obtain ⟨rfl, -, rfl⟩ := hv
  have hc := h1.cells (g := g) rfl j _ (List.getElem?_eq_getElem (by omega))
  rw [Addr.add_mid] at hc
  refine ⟨g, 0, vals[j]'(by omega), rfl, hc, ?_⟩
  have := Rd.of_own (h3 j hj)
  rw [List.getD_eq_getElem?_getD, List.getElem?_eq_getElem (by omega), List.getD_eq_getElem?_getD, List.getElem?_eq_getElem hj] at this
  exact this

def DecP (B : Nat) (w : World) (r : Option (List (List UInt8))) (e : Ending) (w' : World) : Prop :=
  match r with
  | none => e = .returned (.tuple #[.slice none 0 0, .int .i64 3]) ∧ Below B w w'
  | some ps => ∃ v', e = .returned (.tuple #[v', .int .i64 0]) ∧ OwL w' B v' ps ∧ Below B w w'

set_option maxHeartbeats 3000000 in
set_option maxRecDepth 100000 in
theorem decode_any {w : World} (v : Value) (b : List UInt8) (hv : Rd w v b) (hm : b.length < 1000000) :
    Calls Tryd.prog 39 #[v] w (DecP w.heap.size w (decM [] [] b)) := by
  have hvl := hv.lt
  generalize hR : decM [] [] b = R
  have HR := Lib.hid hR
  clear hR
  generalize hB0 : w.heap.size = B at *
  have HB := Lib.hid hB0
  clear hB0
  generalize hO : v.ownBlock = O at *
  have HO := Lib.hid hO
  clear hO
  go_enter Tryd.func39, Tryd.ntmps39
  go_wp2_with fail
  go_loopw [0, 4, 5, 6, 7] (fun bv lv _ _ _ wr => ∃ (b' : List UInt8) (ps : List (List UInt8)), Rd wr bv b' ∧ bv.ownBlock = O ∧ (b' ≠ [] → ∀ k, O = some k → k < B) ∧ b'.length ≤ b.length ∧ decM ps [] b' = R ∧ OwL wr B lv ps ∧ ps.length + b'.length ≤ b.length ∧ Below B w wr) (fun bv _ _ _ _ _ => slen bv)
  case atStart => exact ⟨b, [], hv, HO.out, hvl, Nat.le_refl _, HR.out, OwL.nil _ _, by simp, Below.refl _ _⟩
  case round =>
    obtain ⟨b', ps, hb', hO', hlt, hbl, hp, ho, hal, hB⟩ := hrel
    have hs := hB.size
    rw [HB.out] at hs
    obtain ⟨A, c, rfl⟩ := hb'.slice
    have HP := Lib.hid hp
    have HO' := Lib.hid hO'
    have HLT := Lib.hid hlt
    have hmx := hb'.max
    clear hp hO' hlt
    by_cases h0 : b' = []
    · subst h0
      have hR2 : R = some ps := by rw [← HP.out]; rfl
      rw [show ([] : List UInt8).length = 0 from rfl]
      go_wp2_with fail
      refine bodyPost_ret (by simp [results, Tryd.results39, go_sem]; rfl) rfl ?_
      subst hR2
      exact ⟨_, rfl, ho, hB⟩
    have hl0 : 0 < b'.length := List.length_pos_iff.2 h0
    have hl0I : (0 : Int) < (b'.length : Int) := by omega
    go_wp2_with fail
    have hpa := part_any _ b' hb' (by omega)
    have hdp := decM_part b'.length ps [] b' (Nat.le_refl _) (.inr h0)
    have hpl := partM_len b'.length [] b'
    rw [HP.out] at hdp
    generalize partM [] b' = q at *
    have HPL := Lib.hid hpl
    clear hpl
    cases q with
    | none =>
      refine hpa.mono ?_
      rintro e w1 ⟨rfl, hb1⟩
      replace hB := hB.trans (hb1.mono hs)
      clear hpa
      have HDP := Lib.hid hdp
      clear hdp
      go_wp2_with fail
      refine bodyPost_ret (v := .tuple #[.slice none 0 0, .int .i64 3]) (by simp [results, Tryd.results39, go_sem]) rfl ?_
      have hR2 := HDP.out
      subst hR2
      exact ⟨rfl, hB⟩
    | some q =>
      obtain ⟨p, r⟩ := q
      refine hpa.mono ?_
      rintro e w1 ⟨vp, vr, rfl, op, rr, orr, hb1⟩
      have HDP := Lib.hid hdp
      replace ho := ho.below hb1
      replace op := own_base op hs
      replace hB := hB.trans (hb1.mono hs)
      replace hs := Nat.le_trans hs hb1.size
      clear hpa hdp hb' hb1
      obtain ⟨hr1, hr2⟩ := HPL.out p r (Nat.le_refl _) rfl
      obtain ⟨vals, ov, hvl2, hps⟩ := ho
      have HVL := Lib.hid hvl2
      have HPS := Lib.hid hps
      clear hvl2 hps HPL
      obtain ⟨Ap, cp, rfl⟩ := own_form op
      obtain ⟨Av, cv, rfl⟩ := own_form ov
      have f5 := (Below.refl w1.heap.size w1).alloc (Nat.le_refl _) (.cells #[.slice Ap p.length cp] 28)
      have ol := own_lit w1 B hs (.slice Ap p.length cp) 28
      have HPS2 : Hid (∀ j, j < ps.length → (w1.alloc (.cells #[.slice Ap p.length cp] 28)).ownsRow B 5 1 (vals.getD j undef) (ps.getD j []).length (bts (ps.getD j []))) :=
        Lib.hid fun j hj => own_fr (HPS.out j hj) (Fr.of_below f5 (fun _ => False)) (fun _ _ h => h)
      replace rr := rr.below f5; skip; replace op := own_fr op (Fr.of_below f5 (fun _ => False)) (fun _ _ h => h); replace ov := own_fr ov (Fr.of_below f5 (fun _ => False)) (fun _ _ h => h); replace hB := hB.trans (f5.mono hs); replace hs := Nat.le_trans hs f5.size
      clear f5 HPS
      go_wp2_with (first
        | (refine wpList_value rfl (exec_buildSlice (build_row Ap p.length cp _) rfl (by simp [Act.eval])) ?_; generalize w1.heap.size = g5 at *; generalize w1.alloc (.cells #[.slice Ap p.length cp] 28) = w5 at *)
        | (refine wpList_appRow (base := B) rfl rfl Tryd.underlying56 infoRow rfl rfl rfl ov ol (by simp [Value.oneCell']) (by simp only [maxLen]; omega) (by omega) hs (fun v6 w6 o6 g6 _ => ?_)))
      have hno : vr.ownBlock = O := orr.trans HO'.out
      have hOB := HLT.out h0
      go_roundw
      case rel =>
        refine ⟨r, ps ++ [p], rr.fr g6 (fun _ k hk e => by have := (ov.lt k e.symm).1; have := hOB k (hno ▸ hk); omega), hno, fun _ => hOB, by omega, HDP.out.symm, OwL.push ov HVL.out HPS2.out op o6 g6, by rw [List.length_append, List.length_singleton]; simp only [List.length_nil] at hr2; omega, below_own hB ov g6 (Nat.le_refl _) hs⟩
      case measure =>
        obtain ⟨Ax, cx, rfl⟩ := rr.slice
        exact hr1
end Go.Proofs.YthocpbkgcpgpdaaDoor
