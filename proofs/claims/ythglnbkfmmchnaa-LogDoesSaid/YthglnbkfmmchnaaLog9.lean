/- Rows of rows of bytes; conciergelaw07: short, texts. -/
import Derived.Test.YthglnbkfmmchnaaLog7
import Derived.Test.YthglnbkfmmchnaaK13
namespace Go.Proofs.Ythglnbkfmmchnaa
open Go.RowKit

theorem _root_.Go.RdL.below {w w' : World} {v : Value} {ls : List (List UInt8)} (h : RdL w v ls) (hb : Below w.heap.size w w') : RdL w' v ls := by
  obtain ⟨A, n, c, rfl, hn, hm, hall⟩ := h
  refine ⟨A, n, c, rfl, hn, hm, fun j hj => ?_⟩
  obtain ⟨b, o, vj, rfl, hc, hr⟩ := hall j hj
  exact ⟨b, o, vj, rfl, (Fr.of_below hb (fun _ => False)).cell hc (fun h => h), hr.below hb⟩
theorem _root_.Go.RdL.at {w : World} {A : Option Addr} {n c : Nat} {ls : List (List UInt8)} (h : RdL w (.slice A n c) ls) {j : Nat} (hj : j < ls.length) : ∃ b o vj, A = some ⟨b, o, none⟩ ∧ w.cell? ⟨b, o + j, none⟩ = some vj ∧ Rd w vj (ls.getD j []) := by
  obtain ⟨A', n', c', hv, hn, hm, hall⟩ := h
  simp only [Value.slice.injEq] at hv
  obtain ⟨rfl, rfl, rfl⟩ := hv
  obtain ⟨b, o, vj, h1, h2, h3⟩ := hall j hj
  refine ⟨b, o, vj, h1, h2, ?_⟩
  rw [List.getD_eq_getElem?_getD, List.getElem?_eq_getElem hj]
  exact h3
theorem _root_.Go.RdL.slice {w : World} {v : Value} {ls : List (List UInt8)} (h : RdL w v ls) : ∃ A c, v = .slice A ls.length c := by
  obtain ⟨A, n, c, rfl, rfl, _⟩ := h
  exact ⟨A, c, rfl⟩
theorem _root_.Go.RdL.max {w : World} {v : Value} {ls : List (List UInt8)} (h : RdL w v ls) : (ls.length : Int) ≤ 9223372036854775807 := by
  obtain ⟨A, n, c, rfl, rfl, hm, _⟩ := h
  simp only [maxLen] at hm; omega

theorem own_ne {w : World} {b1 b2 n1 n2 s1 s2 : Nat} {e1 e2 : TypeId} {v1 v2 : Value} {x1 x2 : List Value} (h1 : w.ownsRow b1 e1 s1 v1 n1 x1) (h2 : w.ownsRow b2 e2 s2 v2 n2 x2) (he : e1 ≠ e2) : ∀ k, v1.ownBlock = some k → v2.ownBlock ≠ some k := by
  intro k hk
  rcases h1.2 with ⟨rfl, _⟩ | ⟨g, cap, cur, rfl, hb, hg, _⟩
  · cases hk
  · cases hk
    exact fun e => own_blk_ne h2 (show Blk w g cur e1 from hg) (fun h => he h.symm) e.symm
theorem own_lit (w : World) (B : Nat) (hB : B ≤ w.heap.size) (v : Value) (T : TypeId) : (w.alloc (.cells #[v] T)).ownsRow B T 1 (.slice (some ⟨w.heap.size, 0, none⟩) 1 1) 1 [v] :=
  own_of_cells (Blk.new w #[v] T) hB rfl (Nat.le_refl _) (by simp [maxLen]) rfl (fun j _ => by simp)
/-- A row of rows of bytes, all one's own. -/
def OwL (w : World) (B : Nat) (v : Value) (ps : List (List UInt8)) : Prop :=
  ∃ vals : List Value, w.ownsRow B 32 1 v ps.length vals ∧ vals.length = ps.length ∧ ∀ j, j < ps.length → w.ownsRow B 5 1 (vals.getD j undef) (ps.getD j []).length (bts (ps.getD j []))
theorem OwL.nil (w : World) (B : Nat) : OwL w B (.slice none 0 0) [] := ⟨[], World.ownsRow_nil _ _ _ _, rfl, fun j h => absurd h (by simp)⟩
theorem OwL.fr {w w' : World} {B : Nat} {v : Value} {ps : List (List UInt8)} (h : OwL w B v ps) {T : Nat → Prop} (f : Fr T w w') (ht : ∀ k, k < w.heap.size → B ≤ k → ¬ T k) : OwL w' B v ps := by
  obtain ⟨vals, h1, h2, h3⟩ := h
  exact ⟨vals, own_fr h1 f (fun k hk => ht k (h1.lt k hk).2 (h1.lt k hk).1), h2, fun j hj => own_fr (h3 j hj) f (fun k hk => ht k ((h3 j hj).lt k hk).2 ((h3 j hj).lt k hk).1)⟩
theorem OwL.below {w w' : World} {B : Nat} {v : Value} {ps : List (List UInt8)} (h : OwL w B v ps) (hb : Below w.heap.size w w') : OwL w' B v ps := h.fr (Fr.of_below hb (fun _ => False)) (fun _ _ _ h => h)
theorem OwL.drew {w : World} {B : Nat} {v : Value} {ps : List (List UInt8)} (h : OwL w B v ps) : OwL w.drew B v ps := h.fr ((Fr.refl (fun _ => False) w).drew) (fun _ _ _ h => h)
/-- what the row is behind an append -/
theorem OwL.push {w w' : World} {B : Nat} {v v' vp : Value} {vals : List Value} {ps : List (List UInt8)} {p : List UInt8} (hv : w.ownsRow B 32 1 v ps.length vals) (hl : vals.length = ps.length)
    (hp : ∀ j, j < ps.length → w.ownsRow B 5 1 (vals.getD j undef) (ps.getD j []).length (bts (ps.getD j []))) (hn : w.ownsRow B 5 1 vp p.length (bts p))
    (h : w'.ownsRow B 32 1 v' (ps.length + 1) (vals ++ [vp])) (f : Fr (fun i => some i = v.ownBlock) w w') : OwL w' B v' (ps ++ [p]) := by
  refine ⟨vals ++ [vp], by rw [List.length_append]; exact h, by simp [hl], fun j hj => ?_⟩
  rcases Nat.lt_or_ge j ps.length with h1 | h1
  · rw [List.getD_eq_getElem?_getD, List.getD_eq_getElem?_getD, List.getElem?_append_left (by omega), List.getElem?_append_left h1, ← List.getD_eq_getElem?_getD, ← List.getD_eq_getElem?_getD]
    exact own_fr (hp j h1) f (fun k hk e => own_ne (hp j h1) hv (by decide) k hk e.symm)
  · have : j = ps.length := by rw [List.length_append, List.length_singleton] at hj; omega
    subst this
    rw [List.getD_eq_getElem?_getD, List.getD_eq_getElem?_getD, List.getElem?_append_right (by omega), List.getElem?_append_right (by omega), hl]
    simp only [Nat.sub_self, List.getElem?_cons_zero, Option.getD_some]
    exact own_fr hn f (fun k hk e => own_ne hn hv (by decide) k hk e.symm)
theorem OwL.rdl {w : World} {B : Nat} {v : Value} {ps : List (List UInt8)} (h : OwL w B v ps) : RdL w v ps := by
  obtain ⟨vals, h1, h2, h3⟩ := h
  have hm : ps.length ≤ maxLen := by
    rcases h1.2 with ⟨_, h0⟩ | ⟨g, cap, cur, rfl, hb, hg, hn, hc, hs, ht⟩
    · rw [h0]; simp [maxLen]
    · omega
  obtain ⟨A, c, rfl⟩ := own_form h1
  refine ⟨A, ps.length, c, rfl, rfl, hm, fun j hj => ?_⟩
  obtain ⟨g, c', hv⟩ := own_some h1 (by omega)
  simp only [Value.slice.injEq] at hv
  obtain ⟨rfl, -, rfl⟩ := hv
  have hc := h1.cells (g := g) rfl j _ (List.getElem?_eq_getElem (by omega))
  rw [Addr.add_mid] at hc
  refine ⟨g, 0, vals[j]'(by omega), rfl, hc, ?_⟩
  have := Rd.of_own (h3 j hj)
  rw [List.getD_eq_getElem?_getD, List.getElem?_eq_getElem (by omega), List.getD_eq_getElem?_getD, List.getElem?_eq_getElem hj] at this
  exact this

def shortB (ls : List (List UInt8)) : Bool := decide (ls.length ≤ 40) && ls.all fun p => decide (p.length ≤ 1000)
theorem shortB_spec {ls : List (List UInt8)} (h : shortB ls = true) : ls.length ≤ 40 ∧ ∀ p ∈ ls, p.length ≤ 1000 := by
  simp only [shortB, Bool.and_eq_true, decide_eq_true_eq, List.all_eq_true] at h
  exact h
set_option maxHeartbeats 1000000 in
theorem short_any {w : World} (v : Value) (ls : List (List UInt8)) (hL : RdL w v ls) :
    Calls Try.prog 9 #[v] w fun e w' => e = .returned (.bool (shortB ls)) ∧ w' = w := by
  obtain ⟨A, c, rfl⟩ := hL.slice
  have hmx := hL.max
  obtain ⟨F, hF⟩ : ∃ F, F = shortB ls := ⟨_, rfl⟩
  rw [← hF]
  have HF := Lib.hid hF
  clear hF
  go_enter Try.func9, Try.ntmps9
  by_cases h40 : 40 < ls.length
  · have h40I : (40 : Int) < (ls.length : Int) := by omega
    have hf : F = false := by rw [HF.out, shortB, decide_eq_false (by omega), Bool.false_and]
    subst hf
    go_wp2_with fail
    go_ret
    exact ⟨rfl, rfl⟩
  have h40I : decide ((40 : Int) < (ls.length : Int)) = false := decide_eq_false (by omega)
  go_wp2_with fail
  clear h40I
  go_loopw [3] (fun i wr => ∃ t : Nat, i = .int .i64 t ∧ t ≤ ls.length ∧ (∀ j, j < t → (ls.getD j []).length ≤ 1000) ∧ wr = w) (fun i _ => ls.length - (intOf i).toNat)
  case atStart => exact ⟨0, rfl, Nat.zero_le _, fun j h => absurd h (by omega), rfl⟩
  case round =>
    obtain ⟨t, rfl, ht, hall, rfl⟩ := hrel
    have HA := Lib.hid hall
    clear hall
    by_cases hlt : t < ls.length
    · have hltI : (t : Int) < (ls.length : Int) := by omega
      have ht0 : (0 : Int) ≤ (t : Int) := by omega
      obtain ⟨b, o', vj, rfl, hcj, hrj⟩ := hL.at hlt
      obtain ⟨p, hp⟩ : ∃ p, p = ls.getD t [] := ⟨_, rfl⟩
      rw [← hp] at hrj
      have HP := Lib.hid hp
      obtain ⟨Ap, cp, rfl⟩ := hrj.slice
      clear hp
      by_cases h1 : 1000 < p.length
      · have h1I : (1000 : Int) < (p.length : Int) := by omega
        have hf : F = false := by
          rw [HF.out, shortB, Bool.and_eq_false_iff]
          right
          rw [List.all_eq_false]
          refine ⟨p, ?_, by simp; omega⟩
          rw [HP.out, List.getD_eq_getElem?_getD, List.getElem?_eq_getElem hlt]
          exact List.getElem_mem hlt
        subst hf
        go_wp2_with fail
        go_ret
        exact ⟨rfl, rfl⟩
      · have h1I : decide ((1000 : Int) < (p.length : Int)) = false := decide_eq_false (by omega)
        go_wp2_with fail
        go_roundw
        case rel =>
          refine ⟨t + 1, by go_num, hlt, fun j hj => ?_, trivial⟩
          rcases Nat.lt_or_ge j t with h | h
          · exact HA.out j h
          · obtain rfl : j = t := by omega
            rw [← HP.out]; omega
        case measure => simp [intOf]; omega
    · obtain rfl : t = ls.length := by omega
      have hf : F = true := by
        rw [HF.out, shortB, decide_eq_true (by omega), Bool.true_and, List.all_eq_true]
        intro p hp
        obtain ⟨j, hj, rfl⟩ := List.getElem_of_mem hp
        have := HA.out j hj
        rw [List.getD_eq_getElem?_getD, List.getElem?_eq_getElem hj] at this
        simpa using this
      subst hf
      go_wp2_with fail
      go_ret
      exact ⟨rfl, rfl⟩


theorem getD_ext {a b : List (List UInt8)} (hl : a.length = b.length) (h : ∀ j, j < a.length → a.getD j [] = b.getD j []) : a = b := by
  apply List.ext_getElem hl
  intro j h1 h2
  have := h j h1
  rwa [List.getD_eq_getElem?_getD, List.getElem?_eq_getElem h1, List.getD_eq_getElem?_getD, List.getElem?_eq_getElem h2] at this
set_option maxHeartbeats 1000000 in
theorem texts_any {w : World} (v1 v2 : Value) (a b : List (List UInt8)) (h1 : RdL w v1 a) (h2 : RdL w v2 b) :
    Calls Try.prog 21 #[v1, v2] w fun e w' => e = .returned (.bool (a == b)) ∧ Below w.heap.size w w' := by
  obtain ⟨A1, c1, rfl⟩ := h1.slice
  obtain ⟨A2, c2, rfl⟩ := h2.slice
  have hm1 := h1.max
  have hm2 := h2.max
  obtain ⟨F, hF⟩ : ∃ F, F = (a == b) := ⟨_, rfl⟩
  rw [← hF]
  have HF := Lib.hid hF
  clear hF
  go_enter Try.func21, Try.ntmps21
  by_cases hl : a.length = b.length
  rotate_left
  · have hlb : ((a.length : Int) == (b.length : Int)) = false := beq_eq_false_iff_ne.2 (by omega)
    have hln : ((a.length : Int) != (b.length : Int)) = true := by rw [bne_iff_ne]; omega
    have hf : F = false := by rw [HF.out, beq_eq_false_iff_ne]; intro e; rw [e] at hl; exact hl rfl
    subst hf
    go_wp2_with fail
    go_ret
    exact ⟨rfl, Below.refl _ _⟩
  have HLN := Lib.hid hl
  generalize hn : b.length = n at *
  have HNB := Lib.hid hn
  rw [hl] at h1 ⊢
  have hnI : (n : Int) ≤ 9223372036854775807 := hm2
  clear hl hn hm1 hm2
  go_wp2_with fail
  go_loopw [5] (fun i wr => ∃ t : Nat, i = .int .i64 t ∧ t ≤ n ∧ (∀ j, j < t → a.getD j [] = b.getD j []) ∧ Below w.heap.size w wr) (fun i _ => n - (intOf i).toNat)
  case atStart => exact ⟨0, rfl, Nat.zero_le _, fun j h => absurd h (by omega), Below.refl _ _⟩
  case round =>
    obtain ⟨t, rfl, ht, hall, hB⟩ := hrel
    have HA := Lib.hid hall
    clear hall
    by_cases hlt : t < n
    · have hltI : (t : Int) < (n : Int) := by omega
      have ht0 : (0 : Int) ≤ (t : Int) := by omega
      obtain ⟨b1, o1, vj1, rfl, hcj1, hrj1⟩ := (h1.below hB).at (j := t) (by have := HLN.out; omega)
      obtain ⟨b2, o2, vj2, rfl, hcj2, hrj2⟩ := (h2.below hB).at (j := t) (by have := HNB.out; omega)
      obtain ⟨p, hp⟩ : ∃ p, p = a.getD t [] := ⟨_, rfl⟩
      obtain ⟨q, hq⟩ : ∃ q, q = b.getD t [] := ⟨_, rfl⟩
      rw [← hp] at hrj1
      rw [← hq] at hrj2
      have HP := Lib.hid hp
      have HQ := Lib.hid hq
      clear hp hq
      go_wp2_with fail
      refine wp_region_float (Fr (fun _ => False)) [(0, 0), (1, 0), (2, 0), (3, 1), (4, 1), (5, 0), (6, 0), (7, 0), (8, 1), (9, 1), (10, 0)] _ (by kernel_rfl) (by kernel_rfl) (by simp only [List.map_cons, List.map_nil, Array.getD_eq_getD_getElem?, List.getElem?_toArray, List.getElem?_cons_succ, List.getElem?_cons_zero, Option.getD_some]; rfl) rfl (by kernel_rfl) (fun _ _ d _ _ h => by cases d <;> exact h) (Fr.refl _) (fun _ _ _ => Fr.trans) ?_
      replace hcj1 : wr.drew.cell? ⟨b1, o1 + t, none⟩ = some vj1 := hcj1
      replace hcj2 : wr.drew.cell? ⟨b2, o2 + t, none⟩ = some vj2 := hcj2
      replace hrj1 := hrj1.drew
      replace hrj2 := hrj2.drew
      replace hB := hB.drew
      generalize wr.drew = w5 at *
      repeat (first | (refine wpF_f0 (fun K hK => ?_); go_simp; refine hK _ ?_; clear hK K) | (refine wpF_load1 rfl rfl rfl (by kernel_rfl) (by assumption) (by simp) (fun K hK => ?_); go_simp; refine hK _ ?_; clear hK K) | (refine wpF_str rfl rfl rfl (by assumption) (by simp) (by kernel_rfl) (by kernel_rfl) (fun K hK => ?_); go_simp; refine hK _ ?_; clear hK K))
      refine wpF_nil ?_
      rw [str_toList, str_toList]
      by_cases hpq : p = q
      · have hqb : (!(p == q)) = false := by rw [Bool.not_eq_false', beq_iff_eq]; exact hpq
        rw [hqb]
        go_wp2_with fail
        go_roundw
        case rel =>
          refine ⟨t + 1, by go_num, hlt, fun j hj => ?_, hB⟩
          rcases Nat.lt_or_ge j t with h | h
          · exact HA.out j h
          · obtain rfl : j = t := by omega
            rw [← HP.out, ← HQ.out]; exact hpq
        case measure => simp [intOf]; omega
      · have hqb : (!(p == q)) = true := by rw [Bool.not_eq_true', beq_eq_false_iff_ne]; exact hpq
        rw [hqb]
        have hf : F = false := by
          rw [HF.out, beq_eq_false_iff_ne]
          intro e
          exact hpq (by rw [HP.out, HQ.out, e])
        subst hf
        clear hpq
        go_wp2_with fail
        go_ret
        exact ⟨rfl, hB⟩
    · obtain rfl : t = n := by omega
      have hf : F = true := by
        rw [HF.out, beq_iff_eq]
        exact getD_ext (by rw [HLN.out, HNB.out]) (fun j hj => HA.out j (by have := HLN.out; omega))
      subst hf
      go_wp2_with fail
      go_ret
      exact ⟨rfl, hB⟩
end Go.Proofs.Ythglnbkfmmchnaa
namespace Go.Proofs.Ythglnbkfmmchnaa
open Go.RowKit
open Dsk (DSt DiskS chunk)

def OpenP (w : World) (p : Nat) (r : Option LSt × List (List UInt8) × Int) (e : Ending) (w' : World) : Prop := Below w.heap.size w w' ∧ match r.1 with
  | some L => ∃ lp v, w.heap.size ≤ lp ∧ e = .returned (.tuple #[.pointer (some ⟨lp, 0, none⟩), v, .int .i64 r.2.2]) ∧ Blk w' lp (lcells p L) 72 ∧ OwL w' w.heap.size v r.2.1
  | none => e = .returned (.tuple #[.pointer none, .slice none 0 0, .int .i64 r.2.2])
theorem bytesN_length {S : Nat → Prop} {w : World} {p : Nat} {D : DSt} (hd : DiskS S w p D) (bs : Nat) : ∀ k, bs + k ≤ D.kept.length → (bytesN D bs k).length = k * 64
  | 0, _ => by simp [bytesN]
  | k + 1, h => by
    rw [bytesN, List.length_append, bytesN_length hd bs k (by omega), at_len hd (bs + k) (by omega)]
    omega
theorem decN_gen (b : List UInt8) : (decN b).1 ≤ 1152921504606846976 := by
  rw [decN]
  split
  · simp
  · rw [decA]
    split
    · simp
    · rw [decB]
      split
      · rename_i h
        simp only [mayN, Bool.and_eq_true, decide_eq_true_eq] at h
        exact h.1.2
      · simp
theorem nextB_parts {L : LSt} {r : Int × Int × List UInt8 × Int} (h : nextB L r = true) : r.2.2.2 ≠ 0 := by
  simp only [nextB, Bool.and_eq_true, decide_eq_true_eq] at h
  exact h.1.1.1
theorem OwL.base {w : World} {B B' : Nat} {v : Value} {ps : List (List UInt8)} (h : OwL w B v ps) (hb : B' ≤ B) : OwL w B' v ps := by
  obtain ⟨vals, h1, h2, h3⟩ := h
  exact ⟨vals, own_base h1 hb, h2, fun j hj => own_base (h3 j hj) hb⟩
/-- What a call of next has just told. -/
def Pend (w : World) (B lp p : Nat) (all : List UInt8) (L : LSt) (bv tv : Value) : Prop := if nextB L (decN (all.drop L.fin)) then
    Blk w lp (lcells p (nextL L (decN (all.drop L.fin)))) 72 ∧ tv = .bool true ∧ w.ownsRow B 5 1 bv (decN (all.drop L.fin)).2.2.1.length (bts (decN (all.drop L.fin)).2.2.1)
  else Blk w lp (lcells p L) 72 ∧ tv = .bool false ∧ bv = .slice none 0 0
theorem NextP.pend {w w' : World} {B lp p : Nat} {all : List UInt8} {L : LSt} {e : Ending} (h : NextP w lp p L (decN (all.drop L.fin)) e w') (hB : B ≤ w.heap.size) : Fr (fun k => k = lp) w w' ∧ ∃ bv tv, e = .returned (.tuple #[bv, tv]) ∧ Pend w' B lp p all L bv tv := by
  obtain ⟨f, h⟩ := h
  refine ⟨f, ?_⟩
  split at h
  · rename_i hn
    obtain ⟨h1, dv, N, he, ho⟩ := h
    have hN := ho.1
    rw [bts_length, Nat.mul_one] at hN
    rw [← hN] at ho
    refine ⟨dv, .bool true, he, ?_⟩
    rw [Pend, if_pos hn]
    exact ⟨h1, rfl, own_base ho hB⟩
  · rename_i hn
    refine ⟨_, _, h.2, ?_⟩
    rw [Pend, if_neg hn]
    exact ⟨h.1, rfl, rfl⟩
theorem build_row (A : Option Addr) (n c : Nat) (w : World) : (Instr.buildSlice 22 1 #[(0, .slice A n c)]).run Try.prog w = .ok (.slice (some ⟨w.heap.size, 0, none⟩) 1 1) (w.alloc (.cells #[.slice A n c] 32)) := by kernel_rfl
theorem infoRowL : (Try.prog.info? 32).map (fun i => (i.zero, i.size, i.bytes)) = some (some (.slice none 0 0), 1, 24) := by kernel_rfl
set_option maxHeartbeats 4000000 in
set_option maxRecDepth 100000 in
theorem open_any {S : Nat → Prop} {w : World} {p : Nat} {D : DSt} (hd : DiskS S w p D) (hm : D.mem.length < 2 ^ 30) (z n : Int) :
    Calls Try.prog 20 #[.pointer (some ⟨p, 0, none⟩), .int .i64 z, .int .i64 n] w (OpenP w p (openN D z n)) := by
  have hfew := hd.few
  have har := area_any hd z n
  generalize hR : openN D z n = R
  have HR := Lib.hid hR
  clear hR
  cases ha : areaB D z n with
  | false =>
    have hR1 : R = (none, [], 1) := by rw [← HR.out, openN, ha]; rfl
    rw [ha] at har
    clear ha HR hd
    go_enter Try.func20, Try.ntmps20
    go_wp2_with fail
    refine har.mono ?_
    rintro e w1 ⟨rfl, rfl⟩
    go_wp2_with fail
    go_ret3
    rw [hR1]
    exact ⟨Below.refl _ _, rfl⟩
  | true =>
    rw [ha] at har
    obtain ⟨g1, g2, g3, g4⟩ := areaB_parts ha
    obtain ⟨n, rfl⟩ := Int.eq_ofNat_of_zero_le (show 0 ≤ n by omega)
    obtain ⟨z, rfl⟩ := Int.eq_ofNat_of_zero_le (show 0 ≤ z by omega)
    have HA := Lib.hid (show 1 ≤ n ∧ z + n ≤ D.kept.length ∧ D.kept.length ≤ 4096 by omega)
    clear g1 g2 g3 g4 hfew
    have hn1 := HA.out.1
    have hn4 : n ≤ 4096 := by have := HA.out.2; omega
    have HRR : Hid (R = if D.out then (none, [], 5) else if (foundN (bytesN D z n) (areaL z n 0)).1.seq = 0 then (none, [], 13)
      else (some (foundN (bytesN D z n) (areaL z n 0)).1, (foundN (bytesN D z n) (areaL z n 0)).2, 0)) := Lib.hid (by rw [← HR.out, openN, if_pos ha, Int.toNat_natCast, Int.toNat_natCast])
    clear ha HR
    generalize hB0 : w.heap.size = B at *
    have HB := Lib.hid hB0
    clear hB0
    go_enter Try.func20, Try.ntmps20
    go_wp2_with fail
    refine har.mono ?_
    rintro e w1 ⟨rfl, hl, hb1⟩
    rw [HB.out] at hl hb1
    rw [HB.out]
    have hd1 := hd.below (by rw [HB.out]; exact hb1)
    have hs := hb1.size
    rw [HB.out] at hs
    have hl1 := hl.lt
    clear har hd
    go_wp2_with fail
    go_loopw [11, 12, 13, 14, 28] (fun av _ _ _ i wr => ∃ t : Nat, i = .int .i64 t ∧ t ≤ n ∧ (0 < t → D.out = false) ∧ wr.ownsRow w1.heap.size 5 1 av (t * 64) (bts (bytesN D z t)) ∧ Blk wr B (lcells p (areaL z n 0)) 72 ∧ Below w1.heap.size w1 wr) (fun _ _ _ _ i _ => n - (intOf i).toNat)
    case atStart => exact ⟨0, rfl, Nat.zero_le _, fun h => absurd h (by omega), by rw [Nat.zero_mul]; exact World.ownsRow_nil _ _ _ _, hl, Below.refl _ _⟩
    case round =>
      obtain ⟨t, rfl, ht, hout, oa, hlr, hbr⟩ := hrel
      have hdr := hd1.below hbr
      have hsr := Nat.le_trans hs hbr.size
      have hbt := bytesN_length hdr z t (by have := HA.out.2; omega)
      clear hl
      by_cases hlt : t < n
      · have hltI : (t : Int) < (n : Int) := by omega
        have hrd := Dsk.read_s hdr hm ((z + t : Nat) : Int)
        have hzt : ((z + t : Nat) : Int) = (z : Int) + (t : Int) := by omega
        have hz4 : z ≤ 4096 := by have := HA.out.2; omega
        rw [hzt] at hrd
        clear hzt
        go_wp2_with fail
        refine hrd.mono ?_
        rintro e w2 ⟨vr, rfl, rr, hform, hb2⟩
        have hbr2 := hbr.trans (hb2.mono hbr.size)
        have oa2 := own_fr oa (Fr.of_below hb2 (fun _ => False)) (fun _ _ h => h)
        have hlr2 := hlr.fr (Fr.of_below hb2 (fun _ => False)) (fun h => h)
        have hsr2 := Nat.le_trans hsr hb2.size
        have hzi : (0 : Int) ≤ (z : Int) + (t : Int) ∧ (z : Int) + (t : Int) < D.kept.length := by have := HA.out.2; omega
        clear hrd hbr oa hlr hsr hb2 hdr
        by_cases ho : D.out = true
        · have hr : D.read ((z : Int) + (t : Int)) = ([], 5) := by rw [DSt.read, if_pos hzi, if_pos ho]
          have hRR := HRR.out
          rw [if_pos ho] at hRR
          rw [hr] at rr hform ⊢
          have hbf := hb1.trans (hbr2.mono hs)
          clear hr hzi rr hform
          go_wp2_with fail
          go_ret3
          rw [hRR]
          exact ⟨by rw [HB.out]; exact hbf, rfl⟩
        · have hr : D.read ((z : Int) + (t : Int)) = (D.at (z + t), 0) := by rw [DSt.read, if_pos hzi, if_neg ho]; congr 1
          have ho' : D.out = false := by simpa using ho
          rw [hr] at rr hform ⊢
          simp only at rr hform ⊢
          have hlen : (D.at (z + t)).length = 64 := by
            have hd9 := hd1
            exact at_len hd9 (z + t) (by have := HA.out.2; omega)
          have hsucc : bytesN D z (t + 1) = bytesN D z t ++ D.at (z + t) := rfl
          have HS := Lib.hid hsucc
          have HLT := Lib.hid hlt
          clear hr hzi hsucc hform hlt hbt
          generalize D.at (z + t) = blk at *
          generalize bytesN D z t = Y at *
          have HL64 := Lib.hid hlen
          have hapB : t * 64 + blk.length ≤ 140737488355328 := by omega
          clear hlen
          go_wp2_with (refine wpList_appRd (base := w1.heap.size) rfl rfl Try.underlying32 infoByte rfl rfl rfl oa2 rr hapB hbr2.size (fun v3 w3 o3 g3 _ => ?_))
          have hbr3 := below_own hbr2 oa2 g3 (Nat.le_refl _) hbr2.size
          have hlr3 := hlr2.fr g3 (fun e => own_blk_ne oa2 hlr2 (by decide) e)
          rw [HL64.out] at o3
          go_wp2_with fail
          go_roundw
          case rel => exact ⟨t + 1, by go_num, HLT.out, fun _ => ho', by rw [HS.out, show (t + 1) * 64 = t * 64 + 64 by omega]; exact o3, hlr3, hbr3⟩
          case measure => simp [intOf]; have := HLT.out; omega
      · obtain rfl : t = n := by omega
        have ho := hout hn1
        have hRR := HRR.out
        rw [ho] at hRR
        simp only [Bool.false_eq_true, if_false] at hRR
        have HRS := Lib.hid hRR
        have hbf := hb1.trans (hbr.mono hs)
        clear hRR HRR hout hdr
        have HBT := Lib.hid (show (bytesN D z t).length ≤ 300000 by rw [hbt]; omega)
        rw [← hbt] at oa
        clear hbt
        obtain ⟨L0, hL0⟩ : ∃ L0, L0 = areaL z t 0 := ⟨_, rfl⟩
        have HL0 := Lib.hid (show L0.fin = 0 ∧ L0.seq = 0 ∧ L0.gen = 0 by rw [hL0]; exact ⟨rfl, rfl, rfl⟩)
        rw [← hL0] at HRS hlr
        clear hL0
        generalize bytesN D z t = all at *
        have hra := Rd.of_own oa
        obtain ⟨Aa, ca, rfl⟩ := own_form oa
        have hall := HBT.out
        obtain ⟨l1, l2, l3⟩ := HL0.out
        have hnx := next_any hlr _ all hra hall (by rw [l1]; exact Nat.zero_le _) (by rw [l2]; omega) (by rw [l3]; omega)
        have hB1 : B + 1 ≤ w1.heap.size := hl1
        have HLL := Lib.hid (show L0.fin = 0 ∧ L0.seq = 0 ∧ L0.gen = 0 from ⟨l1, l2, l3⟩)
        have hw1B := hbr.size
        clear l1 l2 l3 hra
        go_wp2_with fail
        refine hnx.mono ?_
        intro e w2 hnp
        obtain ⟨f2, bv, tv, rfl, hpd⟩ := hnp.pend (B := B + 1) (Nat.le_trans hB1 hw1B)
        have oa2 := own_fr oa f2 (fun k hk e => by have := (oa.lt k hk).1; omega)
        have hbf2 : Below B w w2 := hbf.trans (f2.below (B := B) (by have := hbf.size; have := HB.out; omega) (fun k hk e => by omega))
        have hs2 := f2.size
        clear hnx hnp f2 oa hlr hbf hbr
        go_wp2_with fail
        go_loopw [15, 16, 17] (fun ov bv tv wr => ∃ (k : Nat) (L : LSt) (xs : List (List UInt8)), foundN all L0 = ((nextsN all (k + 1) L).1, xs ++ (nextsN all (k + 1) L).2) ∧ all.length ≤ L.fin + k ∧ L.fin ≤ all.length ∧ L.seq ≤ L.fin ∧ L.gen ≤ 1152921504606846976 ∧ xs.length ≤ L.seq ∧
          OwL wr (B + 1) ov xs ∧ Pend wr (B + 1) B p all L bv tv ∧ wr.ownsRow w1.heap.size 5 1 (.slice Aa all.length ca) all.length (bts all) ∧ Below B w wr ∧ w1.heap.size ≤ wr.heap.size) (fun ov _ _ _ => 300002 - slen ov)
        case atStart => exact ⟨all.length, L0, [], by simp [foundN], by omega, by have := HLL.out; omega, by have := HLL.out; omega, by have := HLL.out; omega, Nat.zero_le _, OwL.nil _ _, hpd, oa2, hbf2, Nat.le_trans hw1B hs2⟩
        case round =>
          obtain ⟨k, L, xs, hF, i1, i2, i3, i4, i5, hx, hp, oa3, hB3, hsz⟩ := hrel
          clear oa2 hbf2 hs2 hpd
          by_cases hnb : nextB L (decN (all.drop L.fin)) = true
          · rw [Pend, if_pos hnb] at hp
            obtain ⟨hlp, rfl, od⟩ := hp
            have hdl := decN_le (all.drop L.fin)
            have hd0 := nextB_parts hnb
            have hdg := decN_gen (all.drop L.fin)
            rw [List.length_drop] at hdl
            obtain ⟨k, rfl⟩ : ∃ k', k = k' + 1 := ⟨k - 1, by omega⟩
            rw [nextsN, if_pos hnb] at hF
            obtain ⟨d, hd⟩ : ∃ d, d = (decN (all.drop L.fin)).2.2.1 := ⟨_, rfl⟩
            obtain ⟨L', hL'⟩ : ∃ L', L' = nextL L (decN (all.drop L.fin)) := ⟨_, rfl⟩
            have j1 : all.length ≤ L'.fin + k := by rw [hL']; simp only [nextL]; omega
            have j2 : L'.fin ≤ all.length := by rw [hL']; simp only [nextL]; omega
            have j3 : L'.seq ≤ L'.fin := by rw [hL']; simp only [nextL]; omega
            have j4 : L'.gen ≤ 1152921504606846976 := by rw [hL']; simp only [nextL]; omega
            have j5 : (xs ++ [d]).length ≤ L'.seq := by rw [hL', List.length_append, List.length_singleton]; simp only [nextL]; omega
            rw [← hL', ← hd] at hF
            rw [← hL'] at hlp
            rw [← hd] at od
            have HF : Hid (foundN all L0 = ((nextsN all (k + 1) L').1, (xs ++ [d]) ++ (nextsN all (k + 1) L').2)) := Lib.hid (by rw [hF]; simp)
            have HJ := Lib.hid (show _ ∧ _ ∧ _ ∧ _ ∧ _ from ⟨j1, j2, j3, j4, j5⟩)
            have hxl : xs.length ≤ 300000 := by omega
            clear hF hd hL' hdl hd0 hdg hnb i1 i2 i3 i4 i5 j1 j2 j3 j4 j5
            obtain ⟨vals, ov, hvl2, hps⟩ := hx
            have HVL := Lib.hid hvl2
            have HPS := Lib.hid hps
            clear hvl2 hps
            obtain ⟨Ap, cp, rfl⟩ := own_form od
            obtain ⟨Av, cv, rfl⟩ := own_form ov
            have hsB : B + 1 ≤ wr.heap.size := Nat.le_trans hB1 hsz
            have hby : (xs.length + 1) * 24 ≤ 140737488355328 := by omega
            have hmx : xs.length + 1 ≤ maxLen := by simp only [maxLen]; omega
            go_wp2_with (refine wpList_pushN (k := 1) (size := 1) (bytes := 24) (news := [.slice Ap d.length cp]) (base := B + 1) rfl rfl rfl (by simp [Act.eval]) (build_row Ap d.length cp _) rfl rfl (by simp) (by simp) Try.underlying22 infoRowL rfl (by omega) rfl (by simp [Value.oneCell']) rfl ov hmx hby hsB (fun v6 w6 o6 g6 _ => ?_))
            have hB6 : Below B w w6 := below_own hB3 ov g6 (Nat.le_succ B) (Nat.le_trans (Nat.le_succ B) hsB)
            have hlp6 := hlp.fr g6 (fun e => own_blk_ne ov hlp (by decide) e)
            have oa6 := own_fr oa3 g6 (fun k hk e => own_ne oa3 ov (by decide) k hk e.symm)
            have hx6 := OwL.push ov HVL.out HPS.out od o6 g6
            have HSL : Hid (slen v6 = xs.length + 1) := Lib.hid (by obtain ⟨_, _, rfl⟩ := own_form o6; rfl)
            have hs6 := Nat.le_trans hsz g6.size
            have hra := Rd.of_own oa6
            have hnx := next_any hlp6 _ all hra hall HJ.out.2.1 (by have := HJ.out; omega) HJ.out.2.2.2.1
            clear ov od g6 o6 hlp oa3 hB3 hsz hra HPS
            go_wp2_with fail
            refine hnx.mono ?_
            intro e w7 hnp
            obtain ⟨f7, bv7, tv7, rfl, hpd⟩ := hnp.pend (B := B + 1) (Nat.le_trans hB1 hs6)
            have oa7 := own_fr oa6 f7 (fun k hk e => by have := (oa6.lt k hk).1; omega)
            have hx7 := hx6.fr f7 (fun k _ h e => by omega)
            have hB7 : Below B w w7 := hB6.trans (f7.below (B := B) (by omega) (fun k hk e => by omega))
            have hs7 := Nat.le_trans hs6 f7.size
            clear hnx hnp f7 oa6 hx6 hB6 hs6 hlp6
            go_wp2_with fail
            go_roundw
            case rel =>
              obtain ⟨j1, j2, j3, j4, j5⟩ := HJ.out
              exact ⟨k, L', xs ++ [d], HF.out, j1, j2, j3, j4, j5, hx7, hpd, oa7, hB7, hs7⟩
            case measure =>
              rw [HSL.out]
              show 300002 - (xs.length + 1) < 300002 - xs.length
              omega
          · rw [Pend, if_neg hnb] at hp
            obtain ⟨hlp, rfl, rfl⟩ := hp
            rw [nextsN, if_neg hnb, List.append_nil] at hF
            have hR2 := HRS.out
            rw [hF] at hR2
            simp only at hR2
            have HR2 := Lib.hid hR2
            obtain ⟨-, -, -, -, d4, -⟩ := lcells_all hlp
            have hxB := hx.base (B' := w.heap.size) (by rw [HB.out]; omega)
            clear hR2 hF HRS hnb oa3 i1 i2 i3 i4 i5 hx
            by_cases h0 : L.seq = 0
            · have h0I : ((L.seq : Int) == 0) = true := by rw [h0]; rfl
              have HR3 := Lib.hid (show R = (none, [], 13) by rw [HR2.out, if_pos h0])
              clear h0
              go_wp2_with fail
              go_ret3
              rw [HR3.out]
              exact ⟨by rw [HB.out]; exact hB3, rfl⟩
            · have h0I : ((L.seq : Int) == 0) = false := beq_eq_false_iff_ne.2 (by omega)
              have HR3 := Lib.hid (show R = (some L, xs, 0) by rw [HR2.out, if_neg h0])
              clear h0
              go_wp2_with fail
              go_ret3
              rw [HR3.out]
              exact ⟨by rw [HB.out]; exact hB3, B, _, Nat.le_of_eq HB.out, rfl, hlp, hxB⟩
end Go.Proofs.Ythglnbkfmmchnaa
