/- What was put together is parted again: plain. -/
import Derived.Test.YtdhllelldlkdfaaFrame20
namespace Go.Proofs.Ytdhllelldlkdfaa
open Go.RowKit

def PutL.nrm (p : PutL) : PutL := if p.gone then ⟨p.key, [], true⟩ else p
def PutL.eN (p : PutL) : List UInt8 := if p.gone then 1 :: (putN p.key.length ++ p.key) else 0 :: (putN p.key.length ++ (p.key ++ (putN p.val.length ++ p.val)))
theorem enc_eN (p : PutL) (l : List UInt8) : p.enc l = l ++ p.eN := by
  unfold PutL.enc PutL.eN
  split <;> simp
theorem batchN_eq (ps : List PutL) : ∀ t, t ≤ ps.length → batchN ps t = putN ps.length ++ (ps.take t).flatMap PutL.eN
  | 0, _ => by simp [batchN]
  | t + 1, h => by
    show (ps.getD t ⟨[], [], false⟩).enc (batchN ps t) = _
    rw [batchN_eq ps t (by omega), enc_eN, List.take_succ_eq_append_getElem (show t < ps.length by omega), List.flatMap_append, List.append_assoc]
    congr 2
    rw [List.getD_eq_getElem?_getD, List.getElem?_eq_getElem (show t < ps.length by omega)]
    simp
theorem manyN_put (n : Nat) (r : List UInt8) (hn : n ≤ r.length) (hm : r.length < 128 ^ 9) : manyN (putN n ++ r) = some (n, r) := by
  have h0 : 0 < (putN n).length := by
    have : putN n ≠ [] := by rw [putN, putF]; split <;> simp
    exact List.length_pos_iff.2 this
  rw [manyN, getN_put n r (by omega)]
  simp only
  rw [if_pos ⟨h0, by rw [List.length_append]; omega⟩, List.drop_left]
theorem textN_put (k r : List UInt8) (hm : (k ++ r).length < 128 ^ 9) : textN (putN k.length ++ (k ++ r)) = some (k, r) := by
  rw [textN, manyN_put _ _ (by simp) hm]
  simp
theorem oneN_eN (p : PutL) (r : List UInt8) (h1 : p.key.length ≤ 500) (h2 : p.val.length ≤ 500) (hm : r.length < 1000000000) : oneN (p.eN ++ r) = some (p.nrm, r) := by
  have hp : (1000003000 : Nat) < 128 ^ 9 := by decide
  have hq : (putN p.val.length).length ≤ 10 := putF_length 9 _
  unfold PutL.eN PutL.nrm
  cases hg : p.gone with
  | true =>
    rw [if_pos rfl, if_pos rfl, List.cons_append, List.append_assoc, oneN_cons, if_neg (by decide), textN_put _ _ (by rw [List.length_append]; omega)]
    rfl
  | false =>
    rw [if_neg Bool.false_ne_true, if_neg Bool.false_ne_true, List.cons_append, List.append_assoc, List.append_assoc, oneN_cons, if_neg (by decide), textN_put _ _ (by simp only [List.length_append]; omega)]
    simp only
    rw [if_neg (by decide), List.append_assoc, textN_put _ _ (by simp only [List.length_append]; omega)]
    simp only
    obtain ⟨k, v, g⟩ := p
    simp only at hg
    rw [hg]
theorem eN_len {p : PutL} (h1 : p.key.length ≤ 500) (h2 : p.val.length ≤ 500) : p.eN.length ≤ 1100 ∧ 1 ≤ p.eN.length := by
  have q1 : (putN p.key.length).length ≤ 10 := putF_length 9 _
  have q2 : (putN p.val.length).length ≤ 10 := putF_length 9 _
  unfold PutL.eN
  split <;> simp only [List.length_cons, List.length_append] <;> omega
set_option maxRecDepth 100000 in
theorem manyP_eN (ps : List PutL) (hp : ∀ p ∈ ps, p.key.length ≤ 500 ∧ p.val.length ≤ 500) (M : Nat) (hM : M = 1000000000) (t : Nat) : ∀ r : List UInt8, t ≤ ps.length → t * 1100 + r.length < M → manyP t ((ps.take t).flatMap PutL.eN ++ r) = some ((ps.take t).map PutL.nrm, r) := by
  induction t with
  | zero => intro r _ _; simp [manyP]
  | succ t ih =>
    intro r h hr
    have hin := hp _ (List.getElem_mem (show t < ps.length by omega))
    have hel := (eN_len hin.1 hin.2).1
    rw [List.take_succ_eq_append_getElem (show t < ps.length by omega), List.flatMap_append, List.append_assoc, manyP]
    have h3 : t * 1100 + ([ps[t]'(by omega)].flatMap PutL.eN ++ r).length < M := by
      clear hM
      rw [List.length_append]
      simp only [List.flatMap_cons, List.flatMap_nil, List.append_nil]
      omega
    rw [ih _ (by omega) h3]
    simp only [List.flatMap_cons, List.flatMap_nil, List.append_nil]
    have hrm : r.length < 1000000000 := Nat.lt_of_le_of_lt (Nat.le_add_left _ _) (hM ▸ hr)
    rw [oneN_eN _ _ hin.1 hin.2 hrm]
    simp only [List.map_append, List.map_cons, List.map_nil]
theorem eNs_len (ps : List PutL) (hp : ∀ p ∈ ps, p.key.length ≤ 500 ∧ p.val.length ≤ 500) : ps.length ≤ (ps.flatMap PutL.eN).length ∧ (ps.flatMap PutL.eN).length ≤ ps.length * 1100 := by
  induction ps with
  | nil => simp
  | cons p l ih =>
    have h1 := ih (fun q hq => hp q (List.mem_cons_of_mem _ hq))
    have h2 := hp p (List.mem_cons_self ..)
    have h3 := eN_len h2.1 h2.2
    simp only [List.flatMap_cons, List.length_append, List.length_cons]
    omega
theorem puts_batch (ps : List PutL) (h60 : ps.length ≤ 60) (hp : ∀ p ∈ ps, p.key.length ≤ 500 ∧ p.val.length ≤ 500) : putsN (batchN ps ps.length) = some (ps.map PutL.nrm) := by
  obtain ⟨h1, h2⟩ := eNs_len ps hp
  have hpw : (1000003000 : Nat) < 128 ^ 9 := by decide
  have h3 := manyP_eN ps hp _ rfl ps.length [] (Nat.le_refl _) (by simp; omega)
  rw [List.take_length, List.append_nil] at h3
  rw [putsN, batchN_eq ps _ (Nat.le_refl _), List.take_length, manyN_put _ _ h1 (by omega)]
  simp only
  rw [h3]
  simp
theorem batchN_len (ps : List PutL) (h60 : ps.length ≤ 60) (hp : ∀ p ∈ ps, p.key.length ≤ 500 ∧ p.val.length ≤ 500) : (batchN ps ps.length).length < 100000 := by
  have h2 := (eNs_len ps hp).2
  have q1 : (putN ps.length).length ≤ 10 := putF_length 9 _
  rw [batchN_eq ps _ (Nat.le_refl _), List.take_length, List.length_append]
  omega
theorem samePs_nrm (ps : List PutL) : samePs (ps.map PutL.nrm) ps = true := by
  simp only [samePs, Bool.and_eq_true, decide_eq_true_eq, List.length_map, List.all_eq_true, List.mem_range, true_and]
  intro j hj
  rw [List.getD_eq_getElem?_getD, List.getD_eq_getElem?_getD, List.getElem?_map, List.getElem?_eq_getElem hj]
  simp only [Option.map_some, Option.getD_some, sameP, PutL.nrm]
  split <;> simp_all
end Go.Proofs.Ytdhllelldlkdfaa
