/- The log, plain: the laws of crashes. -/
import Derived.Test.YthglnbkfmmchnaaLog13
namespace Go.Proofs.Ythglnbkfmmchnaa
open Go.RowKit
open Dsk (DSt chunk keepN)

theorem crashed_mem {D : DSt} (hm : D.mem = []) (picks : List Int) : (D.crashed picks).kept = D.kept := by
  simp only [DSt.crashed, hm, List.length_nil, keepN]
theorem crashed_none (D : DSt) (picks : List Int) : (D.crashed picks).mem = [] ∧ (D.crashed picks).out = false ∧ (D.crashed picks).armed = false ∧ (D.crashed picks).calls = D.calls := ⟨rfl, rfl, rfl, rfl⟩
theorem crashed_kept (D : DSt) (picks : List Int) : (D.crashed picks).kept = keepN (Dsk.pickB picks) D.kept D.mem D.mem.length := rfl
/-- What is found behind a crash. -/
theorem found {D : DSt} {L : LSt} {g : Nat} {xs : List (List UInt8)} {n : Nat} (picks : List Int) (h : LogOk (D.crashed picks).kept L g xs) (hx : xs ≠ []) (hn : (D.crashed picks).kept.length = n) (h1 : 1 ≤ n) :
    ∃ M, openN (D.crashed picks) 0 n = (some M, xs, 0) ∧ LogOk (D.crashed picks).kept M g xs ∧ M.down = false ∧ M.gen = g ∧ M.seq = xs.length := by
  refine ⟨{ L with down := false }, ?_, ?_, rfl, h.gen, h.seq⟩
  · rw [← hn]
    exact openN_ok rfl rfl h hx (by omega)
  · exact ⟨⟨h.len, h.bs, h.bl, h.gen, h.g1, h.seq, h.fin, h.fits, h.pre, h.may⟩, h.nxt⟩
theorem crashed_len {D : DSt} {K : List (List UInt8)} {k0 : Nat} {picks : List Int} (h : HalfK K k0 (D.crashed picks).kept) : (D.crashed picks).kept.length = K.length := h.size
theorem appN_up {D : DSt} {L : LSt} (h : L.down = false) (b : List UInt8) : appN D L b = addN D L b := by rw [appN, if_neg (by rw [h]; decide)]
theorem appN_down {D : DSt} {L : LSt} (h : L.down = true) (b : List UInt8) : appN D L b = (5, L, D) := by rw [appN, if_pos h]

/-- LogWhole -/
theorem whole_law {D : DSt} {L : LSt} {had : List (List UInt8)} (b : List UInt8) (hm : D.mem = []) (h : LogOk D.kept L 1 had) (hdw : L.down = false) (hne : had ≠ []) {n : Nat} (hn : D.kept.length = n) (h1 : 1 ≤ n) (picks : List Int) :
    ∃ M x, openN ((appN (appN D L b).2.2 (appN D L b).2.1 b).2.2.crashed picks) 0 n = (some M, x, 0) ∧ ((appN D L b).1 = 5 → (appN (appN D L b).2.2 (appN D L b).2.1 b).1 = 5) ∧
      ((appN D L b).1 = 0 → (appN (appN D L b).2.2 (appN D L b).2.1 b).1 = 0 → x = (had ++ [b]) ++ [b]) ∧ ((appN D L b).1 = 0 → x = had ++ [b] ∨ x = (had ++ [b]) ++ [b]) ∧ ((appN D L b).1 ≠ 0 → x = had ∨ (x = had ++ [b] ∧ (appN D L b).1 = 5)) := by
  rw [appN_up hdw]
  rcases addN_spec (b := b) hm h.toLogPre with ⟨-, e⟩ | ⟨-, e1, e2, -, e4, e5⟩ | ⟨-, e1, e2, -, e4⟩
  · rw [e]
    simp only
    rw [appN_up hdw, e]
    simp only
    have hc := crashed_mem hm picks
    obtain ⟨M, hM, -⟩ := found (D := D) picks (by rw [hc]; exact h) hne (by rw [hc]; exact hn) h1
    exact ⟨M, had, hM, fun h => by omega, fun h => by omega, fun h => by omega, fun _ => .inl rfl⟩
  · have hdn := addN_down D L b e1
    have hlen : (addN D L b).2.2.kept.length = n := by rw [← e5.bl, e2]; show L.bl = n; rw [h.bl, hn]
    generalize addN D L b = r at e1 e4 e5 hdn hlen ⊢
    obtain ⟨z, L', D'⟩ := r
    simp only at e1 e4 e5 hdn hlen ⊢
    subst e1
    rw [appN_up (hdn.trans hdw)]
    rcases addN_spec (b := b) e4 e5.toLogPre with ⟨-, k⟩ | ⟨-, k1, k2, -, k4, k5⟩ | ⟨-, k1, k2, -, k4⟩
    · rw [k]
      have hc := crashed_mem e4 picks
      obtain ⟨M, hM, -⟩ := found (D := D') picks (by rw [hc]; exact e5) (by simp) (by rw [hc]; exact hlen) h1
      exact ⟨M, _, hM, fun h => by omega, fun _ h => by simp only at h; omega, fun _ => .inl rfl, fun h => absurd rfl h⟩
    · have hlen2 : (addN D' L' b).2.2.kept.length = n := by rw [← k5.bl, k2]; show L'.bl = n; rw [e5.bl, hlen]
      have hc := crashed_mem k4 picks
      obtain ⟨M, hM, -⟩ := found (D := (addN D' L' b).2.2) picks (by rw [hc]; exact k5) (by simp) (by rw [hc]; exact hlen2) h1
      exact ⟨M, _, hM, fun h => by omega, fun _ _ => rfl, fun _ => .inr rfl, fun h => absurd rfl h⟩
    · have hk := k4 (Dsk.pickB picks)
      rw [← crashed_kept] at hk
      rcases hk with hk | hk
      · obtain ⟨M, hM, -⟩ := found (D := (addN D' L' b).2.2) picks (e5.half hk) (by simp) (by rw [hk.size]; exact hlen) h1
        exact ⟨M, _, hM, fun h => by omega, fun _ h => by omega, fun _ => .inl rfl, fun h => absurd rfl h⟩
      · obtain ⟨M, hM, -⟩ := found (D := (addN D' L' b).2.2) picks hk (by simp) (by rw [← hk.bl]; show L'.bl = n; rw [e5.bl, hlen]) h1
        exact ⟨M, _, hM, fun h => by omega, fun _ _ => rfl, fun _ => .inr rfl, fun h => absurd rfl h⟩
  · generalize addN D L b = r at e1 e2 e4 ⊢
    obtain ⟨z, L', D'⟩ := r
    simp only at e1 e2 e4 ⊢
    subst e1
    rw [appN_down (by rw [e2])]
    simp only
    have hk := e4 (Dsk.pickB picks)
    rw [← crashed_kept] at hk
    rcases hk with hk | hk
    · obtain ⟨M, hM, -⟩ := found (D := D') picks (h.half hk) hne (by rw [hk.size]; exact hn) h1
      exact ⟨M, _, hM, fun _ => trivial, fun h => by omega, fun h => by omega, fun _ => .inl rfl⟩
    · obtain ⟨M, hM, -⟩ := found (D := D') picks hk (by simp) (by rw [← hk.bl]; show L.bl = n; rw [h.bl, hn]) h1
      exact ⟨M, _, hM, fun _ => trivial, fun h => by omega, fun h => by omega, fun _ => .inr ⟨rfl, trivial⟩⟩

/-- Calls counted stay a number. -/
theorem did_in {D : DSt} : In64 D.did.calls := by
  unfold DSt.did
  split
  · split <;> exact wrap64_in _
  · exact wrap64_in _
theorem write_calls {D : DSt} (h : In64 D.calls) (i : Int) (bs : List UInt8) : In64 (D.write i bs).2.calls := by
  unfold DSt.write
  split
  · split
    · exact h
    · exact did_in
  · exact h
theorem sync_calls {D : DSt} (h : In64 D.calls) : In64 D.sync.2.calls := by
  unfold DSt.sync
  split
  · exact h
  · exact did_in
theorem lays_calls {D : DSt} (h : In64 D.calls) (k0 : Nat) (all : List UInt8) (k : Nat) : In64 (laysN D k0 all k).2.calls := by
  induction k with
  | zero => exact h
  | succ k ih =>
    rw [laysN]
    split
    · exact write_calls ih _ _
    · exact ih
theorem laySync_calls {r : Int × DSt} (h : In64 r.2.calls) : In64 (laySync r).2.calls := by
  unfold laySync
  split
  · exact sync_calls h
  · exact h
theorem layN_calls {D : DSt} (h : In64 D.calls) (L : LSt) (b : List UInt8) : In64 (layN D L b).2.calls := by
  unfold layN
  split
  · unfold layF
    refine laySync_calls ?_
    unfold layFst
    have h1 : ∀ n r, In64 (r : Int × DSt).2.calls → In64 (layOne n r).2.calls := fun n r hr => by
      unfold layOne
      split
      · exact laySync_calls hr
      · exact hr
    split
    · exact write_calls (h1 _ _ (lays_calls h _ _ _)) _ _
    · exact h1 _ _ (lays_calls h _ _ _)
  · exact h
theorem addN_calls {D : DSt} (h : In64 D.calls) (L : LSt) (b : List UInt8) : In64 (addN D L b).2.2.calls := by
  unfold addN
  split
  · split
    · exact layN_calls h _ _
    · exact layN_calls h _ _
  · exact h

/-- LogGoes: what is found behind the first crash. -/
theorem goes_law {D : DSt} {L : LSt} {had : List (List UInt8)} (b : List UInt8) (hm : D.mem = []) (h : LogOk D.kept L 1 had) (hdw : L.down = false) (hne : had ≠ []) {n : Nat} (hn : D.kept.length = n) (h1 : 1 ≤ n) (hc : In64 D.calls) (picks : List Int) :
    ∃ M x, openN ((appN D L b).2.2.crashed picks) 0 n = (some M, x, 0) ∧ LogUp ((appN D L b).2.2.crashed picks) M 1 x ∧ M.down = false ∧ ((appN D L b).2.2.crashed picks).kept.length = n ∧ x ≠ [] ∧ x.length ≤ had.length + 1 := by
  rw [appN_up hdw]
  have hcc := addN_calls hc L b
  have fin : ∀ {L' : LSt} {xs : List (List UInt8)}, LogOk ((addN D L b).2.2.crashed picks).kept L' 1 xs → xs ≠ [] → ((addN D L b).2.2.crashed picks).kept.length = n → xs.length ≤ had.length + 1 →
      ∃ M x, openN ((addN D L b).2.2.crashed picks) 0 n = (some M, x, 0) ∧ LogUp ((addN D L b).2.2.crashed picks) M 1 x ∧ M.down = false ∧ ((addN D L b).2.2.crashed picks).kept.length = n ∧ x ≠ [] ∧ x.length ≤ had.length + 1 := by
    intro L' xs h2 h3 h4 h5
    obtain ⟨M, m1, m2, m3, -⟩ := found picks h2 h3 h4 h1
    exact ⟨M, xs, m1, ⟨m2, rfl, rfl, rfl, hcc⟩, m3, h4, h3, h5⟩
  rcases addN_spec (b := b) hm h.toLogPre with ⟨-, e⟩ | ⟨-, e1, e2, -, e4, e5⟩ | ⟨-, e1, e2, -, e4⟩
  · have hk : ((addN D L b).2.2.crashed picks).kept = D.kept := by rw [e]; exact crashed_mem hm picks
    exact fin (by rw [hk]; exact h) hne (by rw [hk]; exact hn) (by omega)
  · have hk : ((addN D L b).2.2.crashed picks).kept = (addN D L b).2.2.kept := crashed_mem e4 picks
    exact fin (by rw [hk]; exact e5) (by simp) (by rw [hk, ← e5.bl, e2]; show L.bl = n; rw [h.bl, hn]) (by simp)
  · have hk := e4 (Dsk.pickB picks)
    rw [← crashed_kept] at hk
    rcases hk with hk | hk
    · exact fin (h.half hk) hne (by rw [hk.size]; exact hn) (by omega)
    · exact fin hk (by simp) (by rw [← hk.bl]; show L.bl = n; rw [h.bl, hn]) (by simp)

/-! ### a later turn -/
theorem nextsN_gen (all : List UInt8) : ∀ (k : Nat) (L : LSt), 0 < L.seq → (nextsN all k L).1.gen = L.gen ∧ 0 < (nextsN all k L).1.seq
  | 0, L, h => ⟨rfl, h⟩
  | k + 1, L, h => by
    rw [nextsN]
    split
    · rename_i hb
      obtain ⟨h1, h2⟩ := nextsN_gen all k (nextL L (decN (all.drop L.fin))) (by simp [nextL])
      refine ⟨?_, h2⟩
      simp only
      rw [h1]
      simp only [nextB, Bool.and_eq_true, Bool.or_eq_true, decide_eq_true_eq] at hb
      simp only [nextL]
      omega
    · exact ⟨rfl, h⟩
theorem decN_first {g s : Nat} {d t : List UInt8} (hg : g ≤ 1152921504606846976) (hd : d.length ≤ 65536) : (decN ([245] ++ (putN d.length ++ (be8 g ++ (be8 s ++ t))))).1 = 0 ∨ (decN ([245] ++ (putN d.length ++ (be8 g ++ (be8 s ++ t))))).1 = g := by
  have hp := putN_pos d.length
  have hgn := getN_put d.length (be8 g ++ (be8 s ++ t)) (by have : d.length < 128 ^ 3 := by omega
                                                            exact Nat.lt_of_lt_of_le this (Nat.pow_le_pow_right (by omega) (by omega)))
  rw [decN]
  split
  · exact .inl rfl
  · have hdr : ([245] ++ (putN d.length ++ (be8 g ++ (be8 s ++ t)))).drop 1 = putN d.length ++ (be8 g ++ (be8 s ++ t)) := rfl
    rw [hdr, hgn]
    rw [decA]
    split
    · exact .inl rfl
    · rename_i h
      rw [decB]
      split
      · right
        simp only
        have hz : 21 + (putN d.length).length + d.length - 4 = (1 + (putN d.length).length) + (16 + d.length) := by omega
        have e : ((([245] ++ (putN d.length ++ (be8 g ++ (be8 s ++ t)))).take (21 + (putN d.length).length + d.length - 4)).drop (1 + (putN d.length).length)).take 8 = be8 g := by
          rw [hz, List.drop_take, Nat.add_sub_cancel_left, List.take_take, Nat.min_eq_left (by omega)]
          have e2 : ([245] ++ (putN d.length ++ (be8 g ++ (be8 s ++ t)))).drop (1 + (putN d.length).length) = be8 g ++ (be8 s ++ t) := by
            rw [← List.append_assoc]
            exact List.drop_left' (by simp; omega)
          rw [e2]
          exact List.take_left' rfl
        rw [e, narZ_be8 g hg]
      · exact .inl rfl
/-- LogTurns -/
theorem turns_law {D : DSt} {L : LSt} {had : List (List UInt8)} (b : List UInt8) (hm : D.mem = []) (h : LogOk D.kept L 1 had) (hne : had ≠ []) {n : Nat} (hn : D.kept.length = n) (h1 : 1 ≤ n) (picks : List Int) :
    ((begN D 0 n 9 b).1.isSome = true ↔ (begN D 0 n 9 b).2.1 = 0) ∧ ((begN D 0 n 9 b).2.1 = 0 → ∃ M, openN ((begN D 0 n 9 b).2.2.crashed picks) 0 n = (some M, [b], 0) ∧ M.gen = 9) ∧
    ((begN D 0 n 9 b).2.1 ≠ 0 → ((∃ x, openN ((begN D 0 n 9 b).2.2.crashed picks) 0 n = (none, x, 13)) ∧ (begN D 0 n 9 b).2.1 = 5) ∨ ∃ M x, openN ((begN D 0 n 9 b).2.2.crashed picks) 0 n = (some M, x, 0) ∧ ((M.gen = 9 ∧ x = [b]) ∨ M.gen = 1)) := by
  have hbe := begN_fresh (g := 9) h1 (by omega) (by omega) hn b
  rw [show ((9 : Nat) : Int) = 9 from rfl] at hbe
  rw [hbe]
  clear hbe
  have hpre : LogPre D.kept (areaL 0 (n : Int) 9) 9 [] := ⟨h.len, rfl, by simp [areaL, hn], rfl, by omega, rfl, rfl, Nat.zero_le _, by simp [areaL, encs], by intro i x hx; simp at hx⟩
  rcases addN_spec (b := b) hm hpre with ⟨-, e⟩ | ⟨-, e1, e2, -, e4, e5⟩ | ⟨-, e1, e2, -, e4⟩
  · rw [e]
    simp only [show ¬ ((4 : Int) = 0) by decide, if_false]
    have hc := crashed_mem hm picks
    obtain ⟨M, hM, -, -, hg, -⟩ := found (D := D) picks (by rw [hc]; exact h) hne (by rw [hc]; exact hn) h1
    exact ⟨by simp, fun h => absurd h (by simp), fun _ => .inr ⟨M, _, hM, .inr hg⟩⟩
  · rw [if_pos e1]
    have hlen : (addN D (areaL 0 (n : Int) 9) b).2.2.kept.length = n := by rw [← e5.bl, e2]; simp [areaL]
    have hc := crashed_mem e4 picks
    obtain ⟨M, hM, -, -, hg, -⟩ := found (D := (addN D (areaL 0 (n : Int) 9) b).2.2) picks (by rw [hc]; exact e5) (by simp) (by rw [hc]; exact hlen) h1
    exact ⟨by simp, fun _ => ⟨M, hM, hg⟩, fun h => absurd rfl h⟩
  · rw [if_neg (by rw [e1]; decide)]
    simp only [e1]
    refine ⟨by simp, fun h => absurd h (by decide), fun _ => ?_⟩
    have hk := e4 (Dsk.pickB picks)
    rw [← crashed_kept] at hk
    rcases hk with hk | hk
    · have hEm : ((addN D (areaL 0 (n : Int) 9) b).2.2.crashed picks).mem = [] := rfl
      have hEo : ((addN D (areaL 0 (n : Int) 9) b).2.2.crashed picks).out = false := rfl
      generalize (addN D (areaL 0 (n : Int) 9) b).2.2.crashed picks = E at hk hEm hEo ⊢
      have hk0 : HalfK D.kept 0 E.kept := by
        have e0 : (areaL 0 (n : Int) 9).fin / 64 = 0 := Nat.zero_div 64
        rw [e0] at hk
        exact hk
      have hElen : E.kept.length = n := by rw [hk0.size]; exact hn
      have hbn : bytesN E (0 : Int).toNat (n : Int).toNat = E.kept.flatten := by
        rw [Int.toNat_natCast, show (0 : Int).toNat = 0 from rfl, bytesN_flat hEm _ (by omega), ← hElen, List.take_length]
      have hop : openN E 0 n = if (foundN E.kept.flatten (areaL 0 (n : Int) 0)).1.seq = 0 then (none, [], 13) else (some (foundN E.kept.flatten (areaL 0 (n : Int) 0)).1, (foundN E.kept.flatten (areaL 0 (n : Int) 0)).2, 0) := by
        have ha : areaB E 0 (n : Int) = true := by rw [← hElen]; exact area_whole (by omega)
        rw [openN, ha, hbn, hEo]
        rfl
      rw [hop]
      cases had with
      | nil => exact absurd rfl hne
      | cons x0 r =>
        have hx0 : x0.length ≤ 65536 := (mayF_parts (h.may 0 x0 rfl)).2.2.1
        have hD : ∃ t, D.kept.flatten = ([245] ++ (putN x0.length ++ (be8 1 ++ be8 0))) ++ t := by
          refine ⟨x0 ++ (byte4 (crc (bodyN 1 0 x0)) ++ (encs 1 1 r ++ D.kept.flatten.drop L.fin)), ?_⟩
          conv => lhs; rw [← List.take_append_drop L.fin D.kept.flatten, h.pre]
          simp only [encs, encN, sumB, bodyN, List.append_assoc, List.nil_append]
        obtain ⟨t, hD⟩ := hD
        have hpl : (putN x0.length).length ≤ 10 := putF_length 9 _
        have hPl : ([245] ++ (putN x0.length ++ (be8 1 ++ be8 0))).length ≤ 64 := by
          have h8 : ∀ x, (be8 x).length = 8 := fun x => rfl
          simp only [List.length_append, List.length_cons, List.length_nil, h8]
          omega
        have hall : E.kept.flatten = [245] ++ (putN x0.length ++ (be8 1 ++ (be8 0 ++ E.kept.flatten.drop ([245] ++ (putN x0.length ++ (be8 1 ++ be8 0))).length))) := by
          conv => lhs; rw [← List.take_append_drop ([245] ++ (putN x0.length ++ (be8 1 ++ be8 0))).length E.kept.flatten, half_take h.len hk0 (by omega), hD, List.take_left]
          simp only [List.append_assoc]
        have hdf := @decN_first 1 0 x0 (E.kept.flatten.drop ([245] ++ (putN x0.length ++ (be8 1 ++ be8 0))).length) (by omega) hx0
        rw [← hall] at hdf
        have hfu : foundN E.kept.flatten (areaL 0 (n : Int) 0) = nextsN E.kept.flatten (E.kept.flatten.length + 1) (areaL 0 (n : Int) 0) := rfl
        rw [hfu, nextsN]
        have hfin : (areaL 0 (n : Int) 0).fin = 0 := rfl
        rw [hfin, List.drop_zero]
        cases hnb : nextB (areaL 0 (n : Int) 0) (decN E.kept.flatten) with
        | false =>
          simp only [Bool.false_eq_true, if_false]
          exact .inl ⟨⟨[], rfl⟩, trivial⟩
        | true =>
          rw [if_pos rfl]
          obtain ⟨g1, g2⟩ := nextsN_gen E.kept.flatten E.kept.flatten.length (nextL (areaL 0 (n : Int) 0) (decN E.kept.flatten)) (by simp [nextL])
          simp only
          rw [if_neg (by omega)]
          refine .inr ⟨_, _, rfl, .inr ?_⟩
          rw [g1]
          have hr1 : 1 ≤ (decN E.kept.flatten).1 := by
            simp only [nextB, Bool.and_eq_true, decide_eq_true_eq] at hnb
            exact hnb.1.1.2
          simp only [nextL]
          omega
    · obtain ⟨M, hM, -, -, hg, -⟩ := found (D := (addN D (areaL 0 (n : Int) 9) b).2.2) picks hk (by simp) (by rw [← hk.bl]; simp [areaL]) h1
      exact .inr ⟨M, _, hM, .inl ⟨hg, by simp⟩⟩
end Go.Proofs.Ythglnbkfmmchnaa
