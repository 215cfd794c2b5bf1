/- audit: right. -/
import Derived.Test.YthocpbkgcpgpdaaDoorAudA
namespace Go.Proofs.YthocpbkgcpgpdaaDoor
open Go.RowKit

theorem equal_any {w : World} (va vb : Value) (a b : List UInt8) (ha : Rd w va a) (hb : Rd w vb b) :
    Calls Tryd.prog 36 #[va, vb] w fun e w' => e = .returned (.bool (a == b)) ∧ w' = w := by
  go_enter Tryd.func36, Tryd.ntmps36
  go_wp2_with ((refine wpList_strg rfl rfl rfl (by assumption) (by kernel_rfl) (by kernel_rfl) ?_))
  go_ret
  rw [str_toList, str_toList]
  exact ⟨rfl, rfl⟩
def rightB (e : Ent) (no : Int) (prev : List UInt8) : Bool := (e.no == no) && ((e.prev == prev) && (e.hash == Sha.digest (encK e.said)))
set_option maxHeartbeats 1000000 in
set_option maxRecDepth 100000 in
theorem right_any {w : World} (e : Ent) (no : Int) (prev : List UInt8) (vp vh vq : Value) (hp : Rd w vp e.prev) (hh : Rd w vh e.hash) (hv : Rd w vq prev) (hS : ShE e) :
    Calls Tryd.prog 35 #[.agg #[.int .i64 e.no, .int .i64 e.time, .int .i64 e.code, .string e.who, .string e.what, vp, vh], .int .i64 no, vq] w fun en w' => en = .returned (.bool (rightB e no prev)) ∧ Below w.heap.size w w' := by
  obtain ⟨Ap, cp, rfl⟩ := hp.slice
  obtain ⟨Ah, ch, rfl⟩ := hh.slice
  obtain ⟨Aq, cq, rfl⟩ := hv.slice
  obtain ⟨q, hq⟩ : ∃ q, q = rightB e no prev := ⟨_, rfl⟩
  rw [← hq]
  obtain ⟨D, hD⟩ : ∃ D, D = Sha.digest (encK e.said) := ⟨_, rfl⟩
  rw [rightB, ← hD] at hq
  have HQ := Lib.hid hq
  have HD := Lib.hid hD
  clear hq hD
  have hb := Blk.new w #[.int .i64 e.no, .int .i64 e.time, .int .i64 e.code, .string e.who, .string e.what, .slice Ap e.prev.length cp, .slice Ah e.hash.length ch] 30
  have hB := (Below.refl w.heap.size w).alloc (Nat.le_refl _) (.cells #[.int .i64 e.no, .int .i64 e.time, .int .i64 e.code, .string e.who, .string e.what, .slice Ap e.prev.length cp, .slice Ah e.hash.length ch] 30)
  replace hp := hp.below hB
  replace hh := hh.below hB
  replace hv := hv.below hB
  have hs := hB.size
  generalize hb0 : w.heap.size = B at *
  have HB := Lib.hid hb0
  clear hb0
  go_enter Tryd.func35, Tryd.ntmps35
  go_upto_region 1 with fail
  rw [HB.out]
  generalize w.alloc (.cells #[.int .i64 e.no, .int .i64 e.time, .int .i64 e.code, .string e.who, .string e.what, .slice Ap e.prev.length cp, .slice Ah e.hash.length ch] 30) = w1 at *
  refine wp_region_float (Fr (fun _ => False)) [(0, 0), (1, 1), (2, 0), (3, 0), (4, 0), (5, 0), (6, 1), (7, 0), (8, 2), (9, 0), (10, 0), (11, 0), (12, 1), (13, 1), (14, 2), (15, 2), (16, 3), (17, 0), (18, 0)] _ (by kernel_rfl) (by kernel_rfl) (by simp only [List.map_cons, List.map_nil, Array.getD_eq_getD_getElem?, List.getElem?_toArray, List.getElem?_cons_succ, List.getElem?_cons_zero, Option.getD_some]; rfl) rfl (by kernel_rfl) (fun _ _ d _ _ h => by cases d <;> exact h) (Fr.refl _) (fun _ _ _ => Fr.trans) ?_
  replace hp := hp.drew
  replace hh := hh.drew
  replace hv := hv.drew
  replace hb : Blk w1.drew B #[.int .i64 e.no, .int .i64 e.time, .int .i64 e.code, .string e.who, .string e.what, .slice Ap e.prev.length cp, .slice Ah e.hash.length ch] 30 := hb
  replace hB := hB.drew
  replace hs : B ≤ w1.drew.heap.size := hs
  generalize w1.drew = w2 at *
  have c0 := hb.cell 0
  have c5 := hb.cell 5
  have c6 := hb.cell 6
  simp only [List.getElem?_toArray, List.getElem?_cons_zero, List.getElem?_cons_succ] at c0 c5 c6
  have hra : w2.rangeAt B 0 [.int .i64 e.no, .int .i64 e.time, .int .i64 e.code, .string e.who, .string e.what, .slice Ap e.prev.length cp, .slice Ah e.hash.length ch] := hb.range' 0 _ (fun j v hv => by rw [Nat.zero_add]; simpa using hv)
  have hl7 : ([.int .i64 e.no, .int .i64 e.time, .int .i64 e.code, .string e.who, .string e.what, .slice Ap e.prev.length cp, .slice Ah e.hash.length ch] : List Value).length = 7 := rfl
  have hq : q = ((e.no == no) && ((e.prev == prev) && (e.hash == D))) := HQ.out
  obtain ⟨q1, e1⟩ : ∃ x, (e.no == no) = x := ⟨_, rfl⟩
  obtain ⟨q2, e2⟩ : ∃ x, (e.prev == prev) = x := ⟨_, rfl⟩
  rw [e1, e2] at hq
  clear HQ
  replace HQ := Lib.hid hq
  clear hq
  cases q1
  · obtain rfl : q = false := HQ.out
    repeat (first | (refine wpF_f0 (fun K hK => ?_); go_simp; refine hK _ ?_; clear hK K) | (refine wpF_load1 rfl rfl rfl (by kernel_rfl) (by assumption) (by simp) (fun K hK => ?_); go_simp; refine hK _ ?_; clear hK K) | (refine wpF_str rfl rfl rfl (by assumption) (by simp) (by kernel_rfl) (by kernel_rfl) (fun K hK => ?_); go_simp; refine hK _ ?_; clear hK K) | (refine wpF_skip (by rfl) ?_))
    refine wpF_nil ?_
    go_wp2_with fail
    go_ret
    exact ⟨rfl, by first | exact hB | (rw [HB.out]; exact hB)⟩
  repeat (first | (refine wpF_f0 (fun K hK => ?_); go_simp; refine hK _ ?_; clear hK K) | (refine wpF_load1 rfl rfl rfl (by kernel_rfl) (by assumption) (by simp) (fun K hK => ?_); go_simp; refine hK _ ?_; clear hK K) | (refine wpF_loadN rfl rfl rfl (by assumption) (by assumption) (by kernel_rfl) (by kernel_rfl) (by simp) (fun K hK => ?_); go_simp; refine hK _ ?_; clear hK K))
  clear c0
  refine wpF_a2 (fun K hK => ?_); rw [if_pos (by rfl)]
  go_simp
  refine (equal_any _ _ _ _ hp hv).mono ?_
  rintro en w3 ⟨rfl, rfl⟩
  rw [e2]
  refine hK _ _ (Fr.refl _ _) ?_
  clear hK K
  cases q2
  · obtain rfl : q = false := HQ.out
    repeat (first | (refine wpF_f0 (fun K hK => ?_); go_simp; refine hK _ ?_; clear hK K) | (refine wpF_load1 rfl rfl rfl (by kernel_rfl) (by assumption) (by simp) (fun K hK => ?_); go_simp; refine hK _ ?_; clear hK K) | (refine wpF_str rfl rfl rfl (by assumption) (by simp) (by kernel_rfl) (by kernel_rfl) (fun K hK => ?_); go_simp; refine hK _ ?_; clear hK K) | (refine wpF_skip (by rfl) ?_))
    refine wpF_nil ?_
    go_wp2_with fail
    go_ret
    exact ⟨rfl, by first | exact hB | (rw [HB.out]; exact hB)⟩
  repeat (first | (refine wpF_f0 (fun K hK => ?_); go_simp; refine hK _ ?_; clear hK K) | (refine wpF_load1 rfl rfl rfl (by kernel_rfl) (by assumption) (by simp) (fun K hK => ?_); go_simp; refine hK _ ?_; clear hK K) | (refine wpF_loadN rfl rfl rfl (by assumption) (by assumption) (by kernel_rfl) (by kernel_rfl) (by simp) (fun K hK => ?_); go_simp; refine hK _ ?_; clear hK K))
  refine wpF_a2 (fun K hK => ?_); rw [if_pos (by rfl)]
  go_simp
  refine (body_any e _ _ hp hS).mono ?_
  rintro en w4 ⟨v4, rfl, o4, hb4⟩
  replace hh := hh.below hb4
  replace hB := hB.trans (hb4.mono hs)
  replace hs := Nat.le_trans hs hb4.size
  refine hK _ _ (Fr.of_below hb4 _) ?_
  clear hK K
  refine wpF_a2 (fun K hK => ?_); rw [if_pos (by rfl)]
  go_simp
  refine (Sha.shasum_any v4 _ (Rd.of_own o4) (Nat.lt_trans hS.encl (by omega))).mono ?_
  rintro en w5 ⟨v5, rfl, o5, hb5⟩
  rw [← HD.out] at o5
  replace hh := hh.below hb5
  replace hB := hB.trans (hb5.mono hs)
  replace hs := Nat.le_trans hs hb5.size
  refine hK _ _ (Fr.of_below hb5 _) ?_
  clear hK K
  refine wpF_a3 (fun K hK => ?_); rw [if_pos (by rfl)]
  go_simp
  refine (equal_any _ _ _ _ hh (Rd.of_own o5)).mono ?_
  rintro en w6 ⟨rfl, rfl⟩
  refine hK _ _ ?_
  clear hK K
  repeat (first | (refine wpF_f0 (fun K hK => ?_); go_simp; refine hK _ ?_; clear hK K) | (refine wpF_load1 rfl rfl rfl (by kernel_rfl) (by assumption) (by simp) (fun K hK => ?_); go_simp; refine hK _ ?_; clear hK K) | (refine wpF_loadN rfl rfl rfl (by assumption) (by assumption) (by kernel_rfl) (by kernel_rfl) (by simp) (fun K hK => ?_); go_simp; refine hK _ ?_; clear hK K))
  refine wpF_nil ?_
  go_wp2_with fail
  go_ret
  exact ⟨by rw [HQ.out, Bool.true_and, Bool.true_and]; rfl, by first | exact hB | (rw [HB.out]; exact hB)⟩
end Go.Proofs.YthocpbkgcpgpdaaDoor
namespace Go.Proofs.YthocpbkgcpgpdaaDoor
open Go.RowKit

def verF : List Ent → Nat → List UInt8 → List UInt8 → Nat × Bool
  | [], i, prev, head => (i, prev == head)
  | e :: r, i, prev, head => if rightB e i prev then verF r (i + 1) e.hash head else (i, false)
def verN (es : List Ent) (head : List UInt8) : Nat × Bool := verF es 0 zero32 head
theorem verF_drop {es : List Ent} {t : Nat} (h : t < es.length) (prev head : List UInt8) : verF (es.drop t) t prev head = if rightB (es[t]) t prev then verF (es.drop (t + 1)) (t + 1) es[t].hash head else (t, false) := by
  rw [List.drop_eq_getElem_cons h, verF]
set_option maxHeartbeats 1000000 in
set_option maxRecDepth 100000 in
theorem verify_any {w : World} (v vh : Value) (es : List Ent) (head : List UInt8) (hv : RdEs w v es) (hh : Rd w vh head) (hS : ∀ e ∈ es, ShE e) :
    Calls Tryd.prog 20 #[v, vh] w fun en w' => en = .returned (.tuple #[.int .i64 (verN es head).1, .bool (verN es head).2]) ∧ Below w.heap.size w w' := by
  obtain ⟨A, ca, rfl⟩ := hv.slice
  obtain ⟨Ah, ch, rfl⟩ := hh.slice
  have hmx := hv.max
  obtain ⟨R, hR⟩ : ∃ R, R = verN es head := ⟨_, rfl⟩
  rw [← hR]
  rw [verN] at hR
  have HR := Lib.hid hR
  clear hR
  generalize hb0 : w.heap.size = B at *
  have HB := Lib.hid hb0
  clear hb0
  go_enter Tryd.func20, Tryd.ntmps20
  go_wp2_with (go_at_call 18; refine (zero_any w).mono ?_; rintro en w1 ⟨v1, rfl, o1, hB⟩)
  have hs := hB.size
  rw [HB.out] at hB hs
  go_loopw [6, 7, 8, 12] (fun p _ _ i wr => ∃ (t : Nat) (prev : List UInt8), i = .int .i64 t ∧ t ≤ es.length ∧ R = verF (es.drop t) t prev head ∧ Rd wr p prev ∧ Below B w wr ∧ B ≤ wr.heap.size) (fun _ _ _ i _ => es.length - (intOf i).toNat)
  case atStart => exact ⟨0, zero32, rfl, Nat.zero_le _, HR.out, Rd.of_own o1, hB, hs⟩
  case round =>
    clear o1 hB hs
    obtain ⟨t, prev, rfl, ht, hver, rp, hB, hs⟩ := hrel
    have HV := Lib.hid hver
    clear hver
    obtain ⟨Aq, cq, rfl⟩ := rp.slice
    by_cases hlt : t < es.length
    · have hltI : (t : Int) < (es.length : Int) := by omega
      have ht0 : (0 : Int) ≤ (t : Int) := by omega
      have hvw := hv.below (by rw [HB.out]; exact hB)
      obtain ⟨b, o, cs, rfl, hl7, hra, vp, vq, rfl, hp, hq, -⟩ := hvw.at hlt
      have hSt := hS _ (List.getElem_mem hlt)
      have hst := verF_drop hlt prev head
      generalize es[t] = e at *
      have HST := Lib.hid (HV.out.trans hst)
      have h17 : ∀ u ∈ ([.int .i64 e.no, .int .i64 e.time, .int .i64 e.code, .string e.who, .string e.what, vp, vq] : List Value), u.oneCell' = true := by
        obtain ⟨A1, c1, rfl⟩ := hp.slice
        obtain ⟨A2, c2, rfl⟩ := hq.slice
        intro u hu
        simp only [List.mem_cons, List.mem_nil_iff, or_false] at hu
        rcases hu with rfl | rfl | rfl | rfl | rfl | rfl | rfl <;> rfl
      clear hst HV hvw
      go_upto_region 5 with (first
        | (refine wpList_loadN (n := 7) rfl rfl rfl hra hl7 (by kernel_rfl) (by kernel_rfl) ?_)
        | (refine wpList_alloc1 (e := 30) (n := 7) rfl rfl (by kernel_rfl) (fun zc hzc => ?_))
        | (refine wpList_store1 (cs := [.int .i64 e.no, .int .i64 e.time, .int .i64 e.code, .string e.who, .string e.what, vp, vq]) rfl rfl rfl rfl hl7 hzc (by kernel_rfl) h17 ?_))
      have hb := Blk.new wr [.int .i64 e.no, .int .i64 e.time, .int .i64 e.code, .string e.who, .string e.what, vp, vq].toArray 30
      have f := (Below.refl wr.heap.size wr).alloc (Nat.le_refl _) (.cells [.int .i64 e.no, .int .i64 e.time, .int .i64 e.code, .string e.who, .string e.what, vp, vq].toArray 30)
      replace hp := hp.below f; replace hq := hq.below f; replace rp := rp.below f; skip; skip; replace hB := hB.trans (f.mono hs); replace hs := Nat.le_trans hs f.size
      clear f hra hl7 h17
      go_simp
      generalize wr.alloc (.cells [.int .i64 e.no, .int .i64 e.time, .int .i64 e.code, .string e.who, .string e.what, vp, vq].toArray 30) = w2 at *
      generalize wr.heap.size = g2 at *
      have hra : w2.rangeAt g2 0 [.int .i64 e.no, .int .i64 e.time, .int .i64 e.code, .string e.who, .string e.what, vp, vq] := hb.range' 0 _ (fun j v hv => by rw [Nat.zero_add]; simpa using hv)
      have hl7 : ([.int .i64 e.no, .int .i64 e.time, .int .i64 e.code, .string e.who, .string e.what, vp, vq] : List Value).length = 7 := rfl
      go_wp2_with ((refine wpList_loadN rfl rfl rfl (by assumption) (by assumption) (by kernel_rfl) (by kernel_rfl) ?_))
      refine (right_any e t prev vp vq _ hp hq rp hSt).mono ?_
      rintro en w3 ⟨rfl, hb3⟩
      replace hp := hp.below hb3; replace hq := hq.below hb3; replace hb := hb.fr (Fr.of_below hb3 (fun _ => False)) (fun h => h); skip; replace hB := hB.trans (hb3.mono hs); replace hs := Nat.le_trans hs hb3.size
      clear hb3 hra rp hp
      obtain ⟨Q, hQ⟩ : ∃ Q, Q = rightB e t prev := ⟨_, rfl⟩
      rw [← hQ]
      have hst := HST.out
      rw [← hQ] at hst
      clear HST hQ
      cases Q
      · rw [if_neg Bool.false_ne_true] at hst
        subst hst
        go_wp2_with fail
        go_ret2
        exact ⟨rfl, by first | exact hB | (rw [HB.out]; exact hB)⟩
      · rw [if_pos rfl] at hst
        have HST := Lib.hid hst
        clear hst
        have c6 := hb.cell 6
        simp only [List.getElem?_toArray, List.getElem?_cons_zero, List.getElem?_cons_succ] at c6
        go_wp2_with fail
        go_roundw
        case rel => exact ⟨t + 1, e.hash, by go_num, hlt, HST.out, hq, hB, hs⟩
        case measure => simp [intOf]; omega
    · obtain rfl : t = es.length := by omega
      have hR := HV.out
      rw [List.drop_length, verF] at hR
      have HR2 := Lib.hid hR
      clear hR
      have hh2 := hh.below (by rw [HB.out]; exact hB)
      go_wp2_with fail
      refine (equal_any _ _ _ _ rp hh2).mono ?_
      rintro en w3 ⟨rfl, rfl⟩
      go_wp2_with fail
      go_ret2
      exact ⟨by rw [HR2.out]; rfl, by first | exact hB | (rw [HB.out]; exact hB)⟩
end Go.Proofs.YthocpbkgcpgpdaaDoor
namespace Go.Proofs.YthocpbkgcpgpdaaDoor
open Go.RowKit

set_option maxHeartbeats 1000000 in
set_option maxRecDepth 100000 in
theorem rverify_any {w : World} (v vh : Value) (es : List Ent) (head : List UInt8) (hv : RdEs w v es) (hh : Rd w vh head) (hS : ∀ e ∈ es, ShE e) :
    Calls Tryd.prog 21 #[v, vh] w fun en w' => en = .returned (.tuple #[.int .i64 (verN es head).1, .bool (verN es head).2]) ∧ Below w.heap.size w w' := by
  obtain ⟨A, ca, rfl⟩ := hv.slice
  obtain ⟨Ah, ch, rfl⟩ := hh.slice
  have hmx := hv.max
  obtain ⟨R, hR⟩ : ∃ R, R = verN es head := ⟨_, rfl⟩
  rw [← hR]
  rw [verN] at hR
  have HR := Lib.hid hR
  clear hR
  generalize hb0 : w.heap.size = B at *
  have HB := Lib.hid hb0
  clear hb0
  go_enter Tryd.func21, Tryd.ntmps21
  go_wp2_with (go_at_call 19; refine (rzero_any w).mono ?_; rintro en w1 ⟨v1, rfl, o1, hB⟩)
  have hs := hB.size
  rw [HB.out] at hB hs
  go_loopw [6, 7] (fun p i wr => ∃ (t : Nat) (prev : List UInt8), i = .int .i64 t ∧ t ≤ es.length ∧ R = verF (es.drop t) t prev head ∧ Rd wr p prev ∧ Below B w wr ∧ B ≤ wr.heap.size) (fun _ i _ => es.length - (intOf i).toNat)
  case atStart => exact ⟨0, zero32, rfl, Nat.zero_le _, HR.out, Rd.of_own o1, hB, hs⟩
  case round =>
    clear o1 hB hs
    obtain ⟨t, prev, rfl, ht, hver, rp, hB, hs⟩ := hrel
    have HV := Lib.hid hver
    clear hver
    obtain ⟨Aq, cq, rfl⟩ := rp.slice
    by_cases hlt : t < es.length
    · have hltI : (t : Int) < (es.length : Int) := by omega
      have ht0 : (0 : Int) ≤ (t : Int) := by omega
      have hvw := hv.below (by rw [HB.out]; exact hB)
      obtain ⟨b, o, cs, rfl, hl7, hra, vp, vq, rfl, hp, hq, -⟩ := hvw.at hlt
      have hSt := hS _ (List.getElem_mem hlt)
      have hst := verF_drop hlt prev head
      generalize es[t] = e at *
      obtain ⟨D, hD⟩ : ∃ D, D = Sha.digest (encK e.said) := ⟨_, rfl⟩
      have hrt : rightB e t prev = ((e.no == (t : Int)) && (((str e.prev).toList == (str prev).toList) && ((str e.hash).toList == (str D).toList))) := by rw [rightB, ← hD, str_toList, str_toList, str_toList, str_toList]
      obtain ⟨q1, e1⟩ : ∃ x, (e.no == (t : Int)) = x := ⟨_, rfl⟩
      obtain ⟨q2, e2⟩ : ∃ x, ((str e.prev).toList == (str prev).toList) = x := ⟨_, rfl⟩
      obtain ⟨q3, e3⟩ : ∃ x, ((str e.hash).toList == (str D).toList) = x := ⟨_, rfl⟩
      rw [e1, e2, e3] at hrt
      have n1 : (e.no != (t : Int)) = !q1 := by rw [bne, e1]
      have n2 : ((str e.prev).toList != (str prev).toList) = !q2 := by rw [bne, e2]
      have n3 : ((str e.hash).toList != (str D).toList) = !q3 := by rw [bne, e3]
      rw [hrt] at hst
      have HST := Lib.hid (HV.out.trans hst)
      have HD := Lib.hid hD
      clear hst HV hvw hrt hD
      obtain ⟨Ap, cp, rfl⟩ := hp.slice
      obtain ⟨Aj, cj, rfl⟩ := hq.slice
      have C6 : Hid (∀ w' : World, Below B w w' → w'.cell? ⟨b, o + t * 7 + 6, none⟩ = some (.slice Aj e.hash.length cj)) := Lib.hid (fun w' h => by
        have hb0 : b < w.heap.size := by
          obtain ⟨b', o', cs', hA', hl', hra', -⟩ := hv.at hlt
          cases hA'
          cases cs' with
          | nil => cases hl'
          | cons c0 cs' => exact block_lt_of_cell (hra' 0 c0 rfl)
        have h0 : wr.heap[b]? = w.heap[b]? := hB.block b (by rw [← HB.out]; exact hb0)
        have h1 : w'.heap[b]? = w.heap[b]? := h.block b (by rw [← HB.out]; exact hb0)
        exact (World.cell?_of_block (w := wr) (a := ⟨b, o + t * 7 + 6, none⟩) (h1.trans h0.symm)).trans (hra 6 _ rfl))
      go_wp2_with fail
      refine wp_region_float (Fr (fun _ => False)) [(0, 0), (1, 0), (2, 0), (3, 0), (4, 1), (5, 0), (6, 0), (7, 0), (8, 0), (9, 0), (10, 0), (11, 0), (12, 1), (13, 1), (14, 0), (15, 1), (16, 0), (17, 0), (18, 0), (19, 0), (20, 0), (21, 0), (22, 0), (23, 1), (24, 1), (25, 0), (26, 0), (27, 0), (28, 1), (29, 2), (30, 2), (31, 1), (32, 0), (33, 0)] _ (by kernel_rfl) (by kernel_rfl) (by simp only [List.map_cons, List.map_nil, Array.getD_eq_getD_getElem?, List.getElem?_toArray, List.getElem?_cons_succ, List.getElem?_cons_zero, Option.getD_some]; rfl) rfl (by kernel_rfl) (fun _ _ d _ _ h => by cases d <;> exact h) (Fr.refl _) (fun _ _ _ => Fr.trans) ?_
      replace hra := hra.drew
      replace hp := hp.drew
      replace hq := hq.drew
      replace rp := rp.drew
      replace hB := hB.drew
      replace hs : B ≤ wr.drew.heap.size := hs
      generalize wr.drew = w2 at *
      have c0 := hra 0 _ rfl
      have c5 := hra 5 _ rfl
      have c6 := hra 6 _ rfl
      simp only [Nat.add_zero] at c0
      cases q1
      · have hst : R = (t, false) := HST.out
        subst hst
        repeat (first | (refine wpF_f0 (fun K hK => ?_); go_simp; refine hK _ ?_; clear hK K) | (refine wpF_load1 rfl rfl rfl (by kernel_rfl) (by assumption) (by simp) (fun K hK => ?_); go_simp; refine hK _ ?_; clear hK K) | (refine wpF_str rfl rfl rfl (by assumption) (by simp) (by kernel_rfl) (by kernel_rfl) (fun K hK => ?_); go_simp; refine hK _ ?_; clear hK K) | (refine wpF_skip (by rfl) ?_))
        refine wpF_nil ?_
        go_wp2_with fail
        go_ret2
        exact ⟨rfl, by first | exact hB | (rw [HB.out]; exact hB)⟩
      cases q2
      · have hst : R = (t, false) := HST.out
        subst hst
        repeat (first | (refine wpF_f0 (fun K hK => ?_); go_simp; refine hK _ ?_; clear hK K) | (refine wpF_load1 rfl rfl rfl (by kernel_rfl) (by assumption) (by simp) (fun K hK => ?_); go_simp; refine hK _ ?_; clear hK K) | (refine wpF_str rfl rfl rfl (by assumption) (by simp) (by kernel_rfl) (by kernel_rfl) (fun K hK => ?_); go_simp; refine hK _ ?_; clear hK K) | (refine wpF_skip (by rfl) ?_))
        refine wpF_nil ?_
        go_wp2_with fail
        go_ret2
        exact ⟨rfl, by first | exact hB | (rw [HB.out]; exact hB)⟩
      iterate 8 (first | (refine wpF_f0 (fun K hK => ?_); go_simp; refine hK _ ?_; clear hK K) | (refine wpF_load1 rfl rfl rfl (by kernel_rfl) (by assumption) (by simp) (fun K hK => ?_); go_simp; refine hK _ ?_; clear hK K) | (refine wpF_str rfl rfl rfl (by assumption) (by simp) (by kernel_rfl) (by kernel_rfl) (fun K hK => ?_); go_simp; refine hK _ ?_; clear hK K))
      clear c0
      repeat (first | (refine wpF_f0 (fun K hK => ?_); go_simp; refine hK _ ?_; clear hK K) | (refine wpF_load1 rfl rfl rfl (by kernel_rfl) (by assumption) (by simp) (fun K hK => ?_); go_simp; refine hK _ ?_; clear hK K) | (refine wpF_str rfl rfl rfl (by assumption) (by simp) (by kernel_rfl) (by kernel_rfl) (fun K hK => ?_); go_simp; refine hK _ ?_; clear hK K))
      clear c5 c6
      (refine wpF_loadN rfl rfl rfl (by assumption) (by assumption) (by kernel_rfl) (by kernel_rfl) (by simp) (fun K hK => ?_); go_simp; refine hK _ ?_; clear hK K)
      refine wpF_a2 (fun K hK => ?_); rw [if_pos (by rfl)]
      go_simp
      refine (rbody_any e _ _ hp hSt).mono ?_
      rintro en w4 ⟨v4, rfl, o4, hb4⟩
      replace hq := hq.below hb4; skip; skip; replace hB := hB.trans (hb4.mono hs); replace hs := Nat.le_trans hs hb4.size
      refine hK _ _ (Fr.of_below hb4 _) ?_
      clear hK K hb4 hra hp rp
      refine wpF_a2 (fun K hK => ?_); rw [if_pos (by rfl)]
      go_simp
      refine (Sha.rsum_any v4 _ (Rd.of_own o4) (Nat.lt_trans hSt.encl (by omega))).mono ?_
      rintro en w5 ⟨v5, rfl, o5, hb5⟩
      rw [← HD.out] at o5
      replace hq := hq.below hb5; skip; skip; replace hB := hB.trans (hb5.mono hs); replace hs := Nat.le_trans hs hb5.size
      refine hK _ _ (Fr.of_below hb5 _) ?_
      clear hK K hb5 o4
      have r5 := Rd.of_own o5
      have c6 : w5.cell? ⟨b, o + t * 7 + 6, none⟩ = some (.slice Aj e.hash.length cj) := C6.out _ hB
      clear o5
      repeat (first | (refine wpF_f0 (fun K hK => ?_); go_simp; refine hK _ ?_; clear hK K) | (refine wpF_load1 rfl rfl rfl (by kernel_rfl) (by assumption) (by simp) (fun K hK => ?_); go_simp; refine hK _ ?_; clear hK K) | (refine wpF_str rfl rfl rfl (by assumption) (by simp) (by kernel_rfl) (by kernel_rfl) (fun K hK => ?_); go_simp; refine hK _ ?_; clear hK K) | (refine wpF_skip (by rfl) ?_))
      refine wpF_nil ?_
      cases q3
      · have hst : R = (t, false) := HST.out
        subst hst
        go_wp2_with fail
        go_ret2
        exact ⟨rfl, by first | exact hB | (rw [HB.out]; exact hB)⟩
      · go_wp2_with fail
        go_roundw
        case rel => exact ⟨t + 1, e.hash, by go_num, hlt, HST.out, hq, hB, hs⟩
        case measure => simp [intOf]; omega
    · obtain rfl : t = es.length := by omega
      have hR := HV.out
      rw [List.drop_length, verF] at hR
      have hR' : R = (es.length, (str prev).toList == (str head).toList) := by rw [str_toList, str_toList]; exact hR
      have HR2 := Lib.hid hR'
      clear hR hR'
      have hh2 := hh.below (by rw [HB.out]; exact hB)
      go_wp2_with fail
      refine wp_region_float (Fr (fun _ => False)) [(0, 0), (1, 0), (2, 0), (3, 1), (4, 0), (5, 1), (6, 0), (7, 0), (8, 0)] _ (by kernel_rfl) (by kernel_rfl) (by simp only [List.map_cons, List.map_nil, Array.getD_eq_getD_getElem?, List.getElem?_toArray, List.getElem?_cons_succ, List.getElem?_cons_zero, Option.getD_some]; rfl) rfl (by kernel_rfl) (fun _ _ d _ _ h => by cases d <;> exact h) (Fr.refl _) (fun _ _ _ => Fr.trans) ?_
      replace rp := rp.drew
      replace hh2 := hh2.drew
      replace hB := hB.drew
      generalize wr.drew = w2 at *
      repeat (first | (refine wpF_f0 (fun K hK => ?_); go_simp; refine hK _ ?_; clear hK K) | (refine wpF_load1 rfl rfl rfl (by kernel_rfl) (by assumption) (by simp) (fun K hK => ?_); go_simp; refine hK _ ?_; clear hK K) | (refine wpF_str rfl rfl rfl (by assumption) (by simp) (by kernel_rfl) (by kernel_rfl) (fun K hK => ?_); go_simp; refine hK _ ?_; clear hK K))
      refine wpF_nil ?_
      go_wp2_with fail
      go_ret2
      exact ⟨by rw [HR2.out]; rfl, by first | exact hB | (rw [HB.out]; exact hB)⟩
end Go.Proofs.YthocpbkgcpgpdaaDoor
