/- few, lists. -/
import Derived.Test.YthocpbkgcpgpdaaDoorAudC
import Derived.Test.YthocpbkgcpgpdaaDoorAudB
namespace Go.Proofs.YthocpbkgcpgpdaaDoor
open Go.RowKit

def fewB (es : List Ent) : Bool := decide (es.length ≤ 40) && es.all shortB
theorem fewB_spec {es : List Ent} (h : fewB es = true) : es.length ≤ 40 ∧ ∀ e ∈ es, ShE e := by
  simp only [fewB, Bool.and_eq_true, decide_eq_true_eq, List.all_eq_true] at h
  exact ⟨h.1, fun e he => shortB_spec.1 (h.2 e he)⟩
theorem headN_le {es : List Ent} (h : ∀ e ∈ es, ShE e) : (headN es).length ≤ 100 := by
  unfold headN
  cases hl : es.getLast? with
  | none => show (List.replicate 32 0).length ≤ 100; rw [List.length_replicate]; omega
  | some e => exact (h e (List.mem_of_getLast? hl)).hash
set_option maxHeartbeats 1000000 in
set_option maxRecDepth 100000 in
theorem few_any {w : World} (v : Value) (es : List Ent) (hv : RdEs w v es) :
    Calls Tryd.prog 12 #[v] w fun en w' => en = .returned (.bool (fewB es)) ∧ Below w.heap.size w w' := by
  obtain ⟨A, c, rfl⟩ := hv.slice
  have hmx := hv.max
  obtain ⟨F, hF⟩ : ∃ F, F = fewB es := ⟨_, rfl⟩
  rw [← hF]
  have HF := Lib.hid hF
  clear hF
  generalize hb0 : w.heap.size = B at *
  have HB := Lib.hid hb0
  clear hb0
  have hB0 : Below B w w := Below.refl _ _
  have hs0 : B ≤ w.heap.size := by rw [HB.out]; exact Nat.le_refl _
  go_enter Tryd.func12, Tryd.ntmps12
  by_cases h60 : 40 < es.length
  · have h60I : (40 : Int) < (es.length : Int) := by omega
    have hf : F = false := by rw [HF.out, fewB, decide_eq_false (by omega), Bool.false_and]
    subst hf
    go_wp2_with fail
    go_ret
    exact ⟨rfl, by first | exact hB0 | (rw [HB.out]; exact hB0)⟩
  have h60I : decide ((40 : Int) < (es.length : Int)) = false := decide_eq_false (by omega)
  go_wp2_with fail
  clear h60I
  go_loopw [3, 4] (fun i _ wr => ∃ t : Nat, i = .int .i64 t ∧ t ≤ es.length ∧ (∀ j (hj : j < es.length), j < t → shortB es[j] = true) ∧ Below B w wr ∧ B ≤ wr.heap.size) (fun i _ _ => es.length - (intOf i).toNat)
  case atStart => exact ⟨0, rfl, Nat.zero_le _, fun j _ h => absurd h (by omega), hB0, hs0⟩
  case round =>
    clear hB0 hs0
    obtain ⟨t, rfl, ht, hall, hB, hs⟩ := hrel
    have HA := Lib.hid hall
    clear hall
    by_cases hlt : t < es.length
    · have hltI : (t : Int) < (es.length : Int) := by omega
      have ht0 : (0 : Int) ≤ (t : Int) := by omega
      have hvw := hv.below (by rw [HB.out]; exact hB)
      obtain ⟨b, o, cs, rfl, hl7, hra, vp, vq, rfl, hp, hq, -⟩ := hvw.at hlt
      obtain ⟨Q, hQ⟩ : ∃ Q, Q = shortB es[t] := ⟨_, rfl⟩
      have HQ := Lib.hid hQ
      have hin := List.getElem_mem hlt
      generalize he : es[t] = e at *
      have HE := Lib.hid he
      clear hvw he
      go_wp2_with ((refine wpList_loadN rfl rfl rfl (by assumption) (by assumption) (by kernel_rfl) (by kernel_rfl) ?_))
      refine (short_any e vp vq hp hq).mono ?_
      rintro en w2 ⟨rfl, hb2⟩
      rw [← hQ]
      skip; skip; skip; replace hB := hB.trans (hb2.mono hs); replace hs := Nat.le_trans hs hb2.size
      clear hb2 hra hp hq hQ
      cases Q
      · have hf : F = false := by
          rw [HF.out, fewB, Bool.and_eq_false_iff]
          right
          rw [List.all_eq_false]
          exact ⟨e, hin, by rw [← HQ.out]; exact Bool.false_ne_true⟩
        subst hf
        go_wp2_with fail
        go_ret
        exact ⟨rfl, by first | exact hB | (rw [HB.out]; exact hB)⟩
      · go_wp2_with fail
        go_roundw
        case rel =>
          refine ⟨t + 1, by go_num, hlt, fun j hj hjt => ?_, hB, hs⟩
          rcases Nat.lt_or_ge j t with h | h
          · exact HA.out j hj h
          · obtain rfl : j = t := by omega
            rw [HE.out]; exact HQ.out.symm
        case measure => simp [intOf]; omega
    · obtain rfl : t = es.length := by omega
      have hf : F = true := by
        rw [HF.out, fewB, decide_eq_true (by omega), Bool.true_and, List.all_eq_true]
        intro p hp
        obtain ⟨j, hj, rfl⟩ := List.getElem_of_mem hp
        exact HA.out j hj hj
      subst hf
      go_wp2_with fail
      go_ret
      exact ⟨rfl, by first | exact hB | (rw [HB.out]; exact hB)⟩

def listsB : List Ent → List Ent → Bool
  | [], [] => true
  | x :: a, y :: b => sameE x y && listsB a b
  | _, _ => false
theorem listsB_len {a b : List Ent} (h : a.length ≠ b.length) : listsB a b = false := by
  induction a generalizing b with
  | nil => cases b with
    | nil => exact absurd rfl h
    | cons => rfl
  | cons x a ih => cases b with
    | nil => rfl
    | cons y b => rw [listsB, ih (fun e => h (by simp [e])), Bool.and_false]
theorem listsB_drop {a b : List Ent} {t : Nat} (h1 : t < a.length) (h2 : t < b.length) : listsB (a.drop t) (b.drop t) = (sameE a[t] b[t] && listsB (a.drop (t + 1)) (b.drop (t + 1))) := by
  rw [List.drop_eq_getElem_cons h1, List.drop_eq_getElem_cons h2, listsB]
set_option maxHeartbeats 1000000 in
set_option maxRecDepth 100000 in
theorem lists_any {w : World} (v1 v2 : Value) (a b : List Ent) (h1 : RdEs w v1 a) (h2 : RdEs w v2 b) :
    Calls Tryd.prog 22 #[v1, v2] w fun en w' => en = .returned (.bool (listsB a b)) ∧ Below w.heap.size w w' := by
  obtain ⟨A1, c1, rfl⟩ := h1.slice
  obtain ⟨A2, c2, rfl⟩ := h2.slice
  have hmx := h1.max
  have hmy := h2.max
  obtain ⟨F, hF⟩ : ∃ F, F = listsB a b := ⟨_, rfl⟩
  rw [← hF]
  have HF := Lib.hid hF
  clear hF
  generalize hb0 : w.heap.size = B at *
  have HB := Lib.hid hb0
  clear hb0
  have hB0 : Below B w w := Below.refl _ _
  have hs0 : B ≤ w.heap.size := by rw [HB.out]; exact Nat.le_refl _
  go_enter Tryd.func22, Tryd.ntmps22
  by_cases hl : a.length = b.length
  rotate_left
  · have hli : ((a.length : Int) == (b.length : Int)) = false := beq_eq_false_iff_ne.2 (by omega)
    have hli2 : (a.length == b.length) = false := beq_eq_false_iff_ne.2 hl
    have hf : F = false := by rw [HF.out, listsB_len hl]
    subst hf
    go_wp2_with fail
    go_ret
    exact ⟨rfl, by first | exact hB0 | (rw [HB.out]; exact hB0)⟩
  have HL := Lib.hid hl
  rw [← hl] at h2 hmy ⊢
  clear hl
  go_wp2_with fail
  go_loopw [5, 6] (fun i _ wr => ∃ t : Nat, i = .int .i64 t ∧ t ≤ a.length ∧ F = listsB (a.drop t) (b.drop t) ∧ Below B w wr ∧ B ≤ wr.heap.size) (fun i _ _ => a.length - (intOf i).toNat)
  case atStart => exact ⟨0, rfl, Nat.zero_le _, HF.out, hB0, hs0⟩
  case round =>
    clear hB0 hs0
    obtain ⟨t, rfl, ht, hall, hB, hs⟩ := hrel
    have HA := Lib.hid hall
    clear hall
    by_cases hlt : t < a.length
    · have hltI : (t : Int) < (a.length : Int) := by omega
      have ht0 : (0 : Int) ≤ (t : Int) := by omega
      obtain ⟨b1, o1, cs1, rfl, hl1, hra1, vp1, vq1, rfl, hp1, hq1, -⟩ := (h1.below (by rw [HB.out]; exact hB)).at hlt
      obtain ⟨b2, o2, cs2, rfl, hl2, hra2, vp2, vq2, rfl, hp2, hq2, -⟩ := (h2.below (by rw [HB.out]; exact hB)).at (show t < b.length from HL.out ▸ hlt)
      have hst := HA.out.trans (listsB_drop hlt (show t < b.length from HL.out ▸ hlt))
      generalize a[t] = x at *
      generalize b[t]'(HL.out ▸ hlt) = y at *
      have HST := Lib.hid hst
      clear hst HA
      go_wp2_with fail
      refine wp_region_float (Fr (fun _ => False)) [(0, 0), (1, 0), (2, 0), (3, 1), (4, 0), (5, 0), (6, 0), (7, 1), (8, 3), (9, 0)] _ (by kernel_rfl) (by kernel_rfl) (by simp only [List.map_cons, List.map_nil, Array.getD_eq_getD_getElem?, List.getElem?_toArray, List.getElem?_cons_succ, List.getElem?_cons_zero, Option.getD_some]; rfl) rfl (by kernel_rfl) (fun _ _ d _ _ h => by cases d <;> exact h) (Fr.refl _) (fun _ _ _ => Fr.trans) ?_
      replace hra1 := hra1.drew
      replace hra2 := hra2.drew
      replace hp1 := hp1.drew
      replace hp2 := hp2.drew
      replace hq1 := hq1.drew
      replace hq2 := hq2.drew
      replace hB := hB.drew
      replace hs : B ≤ wr.drew.heap.size := hs
      generalize wr.drew = w2 at *
      repeat (first | (refine wpF_f0 (fun K hK => ?_); go_simp; refine hK _ ?_; clear hK K) | (refine wpF_load1 rfl rfl rfl (by kernel_rfl) (by assumption) (by simp) (fun K hK => ?_); go_simp; refine hK _ ?_; clear hK K) | (refine wpF_loadN rfl rfl rfl (by assumption) (by assumption) (by kernel_rfl) (by kernel_rfl) (by simp) (fun K hK => ?_); go_simp; refine hK _ ?_; clear hK K))
      refine wpF_a3 (fun K hK => ?_); rw [if_pos (by rfl)]
      go_simp
      refine (same_any x y _ _ _ _ hp1 hq1 hp2 hq2).mono ?_
      rintro en w3 ⟨rfl, hb3⟩
      replace hB := hB.trans (hb3.mono hs)
      replace hs := Nat.le_trans hs hb3.size
      obtain ⟨Q, hQ⟩ : ∃ Q, Q = sameE x y := ⟨_, rfl⟩
      rw [← hQ]
      have hst := HST.out
      rw [← hQ] at hst
      replace HST := Lib.hid hst
      clear hst hQ hb3 hra1 hra2 hp1 hp2 hq1 hq2
      refine hK _ _ ?_
      clear hK K
      repeat (first | (refine wpF_f0 (fun K hK => ?_); go_simp; refine hK _ ?_; clear hK K) | (refine wpF_load1 rfl rfl rfl (by kernel_rfl) (by assumption) (by simp) (fun K hK => ?_); go_simp; refine hK _ ?_; clear hK K) | (refine wpF_loadN rfl rfl rfl (by assumption) (by assumption) (by kernel_rfl) (by kernel_rfl) (by simp) (fun K hK => ?_); go_simp; refine hK _ ?_; clear hK K))
      refine wpF_nil ?_
      cases Q
      · have hf : F = false := HST.out
        subst hf
        go_wp2_with fail
        go_ret
        exact ⟨rfl, by first | exact hB | (rw [HB.out]; exact hB)⟩
      · go_wp2_with fail
        go_roundw
        case rel => exact ⟨t + 1, by go_num, hlt, HST.out, hB, hs⟩
        case measure => simp [intOf]; omega
    · obtain rfl : t = a.length := by omega
      have hf : F = true := by
        have := HA.out
        rw [List.drop_length, List.drop_eq_nil_of_le (by rw [HL.out]; exact Nat.le_refl _)] at this
        exact this
      subst hf
      go_wp2_with fail
      go_ret
      exact ⟨rfl, by first | exact hB | (rw [HB.out]; exact hB)⟩
end Go.Proofs.YthocpbkgcpgpdaaDoor
namespace Go.Proofs.YthocpbkgcpgpdaaDoor
open Go.RowKit

theorem next_right (es : List Ent) (t c : Int) (who what : ByteArray) : rightB (nextN es t c who what) es.length (headN es) = true := by
  simp [rightB, nextN, Ent.said]
theorem nextN_short {es : List Ent} {t c : Int} {who what : ByteArray} (hh : (headN es).length ≤ 100) (h1 : who.size ≤ 1000) (h2 : what.size ≤ 1000) : ShE (nextN es t c who what) :=
  ⟨h1, h2, hh, by show (Sha.digest _).length ≤ 100; rw [digest_length]; omega⟩
theorem rdes_one {w : World} {g c : Nat} {e : Ent} {vp vh : Value} {t : TypeId} (hb : Blk w g #[.int .i64 e.no, .int .i64 e.time, .int .i64 e.code, .string e.who, .string e.what, vp, vh] t) (hp : Rd w vp e.prev) (hh : Rd w vh e.hash) (hn : ∀ n c, vh = .slice none n c → n = 0 ∧ c = 0) (hc : 1 ≤ c) :
    RdEs w (.slice (some ⟨g, 0, none⟩) 1 c) [e] := by
  refine ⟨some ⟨g, 0, none⟩, 1, c, rfl, rfl, by simp [maxLen], fun j hj => ?_, hc, fun h => by cases h⟩
  have hj0 : j = 0 := by simpa using hj
  subst hj0
  exact ⟨g, 0, _, rfl, rfl, hb.range' 0 _ (fun j v hv => by rw [Nat.zero_add]; simpa using hv), vp, vh, rfl, hp, hh, hn⟩
theorem own_nn {w : World} {base n : Nat} {e : TypeId} {size : Nat} {v : Value} {xs : List Value} (h : w.ownsRow base e size v n xs) : ∀ n c, v = .slice none n c → n = 0 ∧ c = 0 := by
  rcases h.2 with ⟨rfl, rfl⟩ | ⟨g, cap, cur, rfl, _⟩
  · intro n c e; cases e; exact ⟨rfl, rfl⟩
  · intro n c e; cases e
theorem buildEs (n t c : Int) (who what : ByteArray) (A1 A2 : Option Addr) (l1 c1 l2 c2 : Nat) (w : World) : (Instr.buildSlice 22 1 #[(0, .agg #[.int .i64 n, .int .i64 t, .int .i64 c, .string who, .string what, .slice A1 l1 c1, .slice A2 l2 c2])]).run Tryd.prog w =
    .ok (.slice (some ⟨w.heap.size, 0, none⟩) 1 1) (w.alloc (.cells #[.int .i64 n, .int .i64 t, .int .i64 c, .string who, .string what, .slice A1 l1 c1, .slice A2 l2 c2] 30)) := by kernel_rfl
def annB : ByteArray := ⟨#[97, 110, 110]⟩
def xB : ByteArray := ⟨#[120]⟩
theorem awake_facts : ∃ E, Hid (nextN [] 5 200 annB xB = E) ∧ E.no = 0 ∧ E.prev = zero32 ∧ ShE E ∧ verN [E] E.hash = (1, true) ∧ E.prev.length = 32 :=
  ⟨_, Lib.hid rfl, rfl, rfl, nextN_short (by decide) (by decide) (by decide), by
    have h := next_right [] 5 200 annB xB
    rw [verN, verF]
    rw [if_pos (by exact h), verF]
    simp, by show (List.replicate 32 (0 : UInt8)).length = 32; rw [List.length_replicate]⟩
set_option maxHeartbeats 1000000 in
set_option maxRecDepth 100000 in
theorem awake_any (w : World) : Calls Tryd.prog 11 #[] w fun en w' => en = .returned (.bool true) ∧ Below w.heap.size w w' := by
  obtain ⟨E, HE, h0, hpz, hS, hver, hp32⟩ := awake_facts
  have hnx := next_any (.slice none 0 0) [] 5 200 annB xB (RdA.nil _ _ w) (by decide) (by decide) (by decide)
  rw [HE.out] at hnx
  have HV := Lib.hid hver
  have HP := Lib.hid hpz
  have HZ := Lib.hid h0
  have H32 := Lib.hid hp32
  clear hver hpz h0 hp32
  generalize hb0 : w.heap.size = B at *
  have HB := Lib.hid hb0
  clear hb0
  go_enter Tryd.func11, Tryd.ntmps11
  go_wp2_with fail
  refine hnx.mono ?_
  rintro en w1 ⟨vp, vh, n, m, rfl, op, oh, hB⟩
  have hs := hB.size
  rw [HB.out] at hs
  obtain ⟨Ap, cp, rfl⟩ := own_form op
  obtain ⟨Ah, ch, rfl⟩ := own_form oh
  have nh := Lib.hid (own_nn oh)
  clear hnx
  go_upto_region 2 with (refine wpList_newN (n := 7) (cs := [.int .i64 E.no, .int .i64 E.time, .int .i64 E.code, .string E.who, .string E.what, .slice Ap n cp, .slice Ah m ch]) rfl rfl rfl rfl rfl rfl rfl (by simp) (by first | (simp; done) | (simp [Act.put]; done)) rfl (by kernel_rfl) (by simp [Value.oneCell']) ?_)
  have b1 := Blk.new w1 #[.int .i64 E.no, .int .i64 E.time, .int .i64 E.code, .string E.who, .string E.what, .slice Ap n cp, .slice Ah m ch] 30
  have f := (Below.refl w1.heap.size w1).alloc (Nat.le_refl _) (.cells #[.int .i64 E.no, .int .i64 E.time, .int .i64 E.code, .string E.who, .string E.what, .slice Ap n cp, .slice Ah m ch] 30)
  skip; skip; replace op := own_fr op (Fr.of_below f (fun _ => False)) (fun _ _ h => h); replace oh := own_fr oh (Fr.of_below f (fun _ => False)) (fun _ _ h => h); replace hB := hB.trans (f.mono hs); replace hs := Nat.le_trans hs f.size
  clear f
  show Code.wp _ _ _ _ (w1.alloc (.cells #[.int .i64 E.no, .int .i64 E.time, .int .i64 E.code, .string E.who, .string E.what, .slice Ap n cp, .slice Ah m ch] 30))
  generalize w1.alloc (.cells #[.int .i64 E.no, .int .i64 E.time, .int .i64 E.code, .string E.who, .string E.what, .slice Ap n cp, .slice Ah m ch] 30) = w2 at *
  generalize w1.heap.size = g1 at *
  have hra : w2.rangeAt g1 0 [.int .i64 E.no, .int .i64 E.time, .int .i64 E.code, .string E.who, .string E.what, .slice Ap n cp, .slice Ah m ch] := b1.range' 0 _ (fun j v hv => by rw [Nat.zero_add]; simpa using hv)
  have hl7 : ([.int .i64 E.no, .int .i64 E.time, .int .i64 E.code, .string E.who, .string E.what, .slice Ap n cp, .slice Ah m ch] : List Value).length = 7 := rfl
  have f3 := (Below.refl w2.heap.size w2).alloc (Nat.le_refl _) (.cells #[.int .i64 E.no, .int .i64 E.time, .int .i64 E.code, .string E.who, .string E.what, .slice Ap n cp, .slice Ah m ch] 30)
  have b3 := Blk.new w2 #[.int .i64 E.no, .int .i64 E.time, .int .i64 E.code, .string E.who, .string E.what, .slice Ap n cp, .slice Ah m ch] 30
  have b13 := b1.fr (Fr.of_below f3 (fun _ => False)) (fun h => h)
  have c6 := b13.cell 6
  simp only [List.getElem?_toArray, List.getElem?_cons_zero, List.getElem?_cons_succ] at c6
  have H3 := Lib.hid (show _ ∧ _ ∧ _ from ⟨f3, b3, b13⟩)
  clear f3 b3 b13
  go_wp2_with (first
    | (refine wpList_loadN (n := 7) rfl rfl rfl hra hl7 (by kernel_rfl) (by kernel_rfl) ?_)
    | (refine wpList_value rfl (exec_buildSlice (buildEs E.no E.time E.code E.who E.what Ap Ah n cp m ch w2) rfl (by simp [Act.eval, Act.put])) ?_))
  obtain ⟨f3, b3, b13⟩ := H3.out
  replace op := own_fr op (Fr.of_below f3 (fun _ => False)) (fun _ _ h => h)
  replace oh := own_fr oh (Fr.of_below f3 (fun _ => False)) (fun _ _ h => h)
  replace hB := hB.trans (f3.mono hs)
  replace hs := Nat.le_trans hs f3.size
  clear H3 f3 hra b1 c6
  generalize w2.alloc (.cells #[.int .i64 E.no, .int .i64 E.time, .int .i64 E.code, .string E.who, .string E.what, .slice Ap n cp, .slice Ah m ch] 30) = w3 at *
  generalize w2.heap.size = g3 at *
  have hm : m = E.hash.length := by have := oh.1; rw [bts_length] at this; omega
  have hn : n = E.prev.length := by have := op.1; rw [bts_length] at this; omega
  have hvf := verify_any (w := w3) (.slice (some ⟨g3, 0, none⟩) 1 1) (.slice Ah m ch) [E] E.hash (rdes_one b3 (Rd.of_own op) (Rd.of_own oh) nh.out (Nat.le_refl _)) (Rd.of_own oh) (fun e he => by rw [List.mem_singleton.1 he]; exact hS)
  rw [HV.out] at hvf
  refine hvf.mono ?_
  rintro en w4 ⟨rfl, hb4⟩
  skip; replace b13 := b13.fr (Fr.of_below hb4 (fun _ => False)) (fun h => h); replace op := own_fr op (Fr.of_below hb4 (fun _ => False)) (fun _ _ h => h); replace oh := own_fr oh (Fr.of_below hb4 (fun _ => False)) (fun _ _ h => h); replace hB := hB.trans (hb4.mono hs); replace hs := Nat.le_trans hs hb4.size
  clear hb4 hvf b3
  have rp := Rd.of_own op
  rw [HP.out] at rp
  rw [HZ.out] at b13
  rw [hn, H32.out] at rp b13
  have HN := Lib.hid hn
  clear hm hn op oh
  go_wp2_with fail
  refine wp_region_float (Fr (fun _ => False)) [(0, 0), (1, 1), (2, 0), (3, 0), (4, 0), (5, 1), (6, 1), (7, 2), (8, 1), (9, 0), (10, 0), (11, 0), (12, 0), (13, 1), (14, 0), (15, 0), (16, 0), (17, 0), (18, 0), (19, 0), (20, 0), (21, 0), (22, 0), (23, 0), (24, 0)] _ (by kernel_rfl) (by kernel_rfl) (by simp only [List.map_cons, List.map_nil, Array.getD_eq_getD_getElem?, List.getElem?_toArray, List.getElem?_cons_succ, List.getElem?_cons_zero, Option.getD_some]; rfl) rfl (by kernel_rfl) (fun _ _ d _ _ h => by cases d <;> exact h) (Fr.refl _) (fun _ _ _ => Fr.trans) ?_
  replace rp := rp.drew
  replace b13 : Blk w4.drew g1 #[.int .i64 0, .int .i64 E.time, .int .i64 E.code, .string E.who, .string E.what, .slice Ap 32 cp, .slice Ah m ch] 30 := b13
  replace hB := hB.drew
  replace hs : B ≤ w4.drew.heap.size := hs
  generalize w4.drew = w5 at *
  have c0 := b13.cell 0
  have c5 := b13.cell 5
  simp only [List.getElem?_toArray, List.getElem?_cons_zero, List.getElem?_cons_succ] at c0 c5
  repeat (first | (refine wpF_f0 (fun K hK => ?_); go_simp; refine hK _ ?_; clear hK K) | (refine wpF_load1 rfl rfl rfl (by kernel_rfl) (by assumption) (by simp) (fun K hK => ?_); go_simp; refine hK _ ?_; clear hK K) | (refine wpF_str rfl rfl rfl (by assumption) (by simp) (by kernel_rfl) (by kernel_rfl) (fun K hK => ?_); go_simp; refine hK _ ?_; clear hK K))
  refine wpF_a2 (fun K hK => ?_); rw [if_pos (by rfl)]
  go_simp
  refine (zero_any w5).mono ?_
  rintro en w6 ⟨v6, rfl, o6, hb6⟩
  replace b13 := b13.fr (Fr.of_below hb6 (fun _ => False)) (fun h => h)
  replace hB := hB.trans (hb6.mono hs)
  replace hs := Nat.le_trans hs hb6.size
  have r6 := Rd.of_own o6
  obtain ⟨A6, c6, rfl⟩ := own_form o6
  refine hK _ _ (Fr.of_below hb6 _) ?_
  clear hK K hb6 rp o6 c0 c5
  have c5 := b13.cell 5
  simp only [List.getElem?_toArray, List.getElem?_cons_zero, List.getElem?_cons_succ] at c5
  repeat (first | (refine wpF_f0 (fun K hK => ?_); go_simp; refine hK _ ?_; clear hK K) | (refine wpF_load1 rfl rfl rfl (by kernel_rfl) (by assumption) (by simp) (fun K hK => ?_); go_simp; refine hK _ ?_; clear hK K) | (refine wpF_str rfl rfl rfl (by assumption) (by simp) (by kernel_rfl) (by kernel_rfl) (fun K hK => ?_); go_simp; refine hK _ ?_; clear hK K))
  refine wpF_nil ?_
  go_wp2_with fail
  go_ret
  exact ⟨rfl, by first | exact hB | (rw [HB.out]; exact hB)⟩
end Go.Proofs.YthocpbkgcpgpdaaDoor
