/- DiskArms: the walk. -/
import Derived.Test.YtnnhelknpnkphaaLaw05Loop
import Derived.Laws.Bits128
namespace Go.Proofs.Ytnnhelknpnkphaa
open Go.RowKit

/-- Behind k of the Writes. -/
structure ArmAt (n k : Nat) (D : DSt) : Prop where
  out : D.out = decide (n ≤ k)
  armed : D.armed = decide (k < n)
  left : k < n → D.left = (n : Int) - k
  calls : D.calls = ((min k n : Nat) : Int)
  kept : D.kept.length = 20
  mem : D.mem.length ≤ k
theorem armAt_zero (n : Nat) : ArmAt n 0 ((DSt.fresh 20).arm n) := by
  refine ⟨?_, ?_, fun _ => ?_, ?_, ?_, ?_⟩ <;> simp [DSt.arm, DSt.fresh] <;> omega
theorem armAt_succ {n k : Nat} {D : DSt} (h : ArmAt n k D) (hn : n ≤ 50) (hk : k ≤ 60) (i : Int) (h0 : 0 ≤ i) (h1 : i < 20) (bs : List UInt8) (hb : bs.length = 64) :
    ArmAt n (k + 1) (D.write i bs).2 ∧ (D.write i bs).1 = if k < n then 0 else 5 := by
  obtain ⟨a, b, c, d, e, f⟩ := h
  obtain ⟨kept, mem, out, armed, left, calls⟩ := D
  dsimp only at *
  subst a b d
  unfold DSt.write
  rw [if_pos ⟨h0, by simp only; omega, hb⟩]
  by_cases hkn : k < n
  · have c := c hkn
    subst c
    have hd : decide (n ≤ k) = false := decide_eq_false (by omega)
    simp only [hd, Bool.false_eq_true, if_false, hkn, if_true]
    unfold DSt.wrote DSt.did
    simp only [decide_true, if_true]
    have w1 : wrap64 ((n : Int) - k - 1) = (n : Int) - (k + 1 : Nat) := by unfold wrap64; omega
    have w2 : wrap64 (((min k n : Nat) : Int) + 1) = ((min (k + 1) n : Nat) : Int) := by unfold wrap64; omega
    rw [w1, w2]
    split
    · refine ⟨⟨?_, ?_, ?_, rfl, e, by simp only [List.length_append, List.length_cons, List.length_nil]; omega⟩, trivial⟩
      · simp only; rw [decide_eq_true (by omega)]
      · simp only; rw [decide_eq_false (by omega)]
      · intro hh; omega
    · refine ⟨⟨?_, ?_, ?_, rfl, e, by simp only [List.length_append, List.length_cons, List.length_nil]; omega⟩, trivial⟩
      · simp only; rw [decide_eq_false (by omega)]
      · simp only; rw [decide_eq_true (by omega)]
      · intro _; rfl
  · have hd : decide (n ≤ k) = true := decide_eq_true (by omega)
    simp only [hd, if_true, hkn, if_false]
    refine ⟨⟨?_, ?_, ?_, ?_, e, by simp only; omega⟩, trivial⟩
    · simp only; rw [decide_eq_true (by omega)]
    · simp only [decide_false]; rw [decide_eq_false (by omega)]
    · intro hh; omega
    · simp only; omega

set_option maxHeartbeats 8000000 in
set_option maxRecDepth 100000 in
theorem arms_walk (n : Int) (va : Value) (la : List Int) (w : World) (ha : RdI w va la) :
    Calls Try.prog 7 #[.int .i64 n, va] w fun e w' => e = .returned (.bool true) ∧ Below w.heap.size w w' := by
  obtain ⟨A, ca, rfl⟩ := ha.slice
  have hmax := ha.max
  by_cases hl : (0 ≤ n ∧ n ≤ 50) ∧ la.length ≤ 60
  · have hlI : (la.length : Int) ≤ 60 := by omega
    obtain ⟨⟨hn0, hn1⟩, hl⟩ := hl
    go_enter Try.func7, Try.ntmps7
    go_wp2_with fail
    refine (awake_any w).mono ?_
    rintro e w1 ⟨rfl, hb1⟩
    go_wp2_with fail
    refine (new_s 20 w1 (by omega) (by omega)).mono ?_
    rintro e w2 ⟨p, rfl, hD, hb2⟩
    have hB := hb1.size
    replace hb1 := below_then hb1 hb2
    replace hD := hD.but (S' := fun k => w.heap.size ≤ k) (fun k _ h => Nat.le_trans hB h)
    clear hb2 hB
    go_wp2_with fail
    refine (arm_s hD n).mono ?_
    rintro e w3 ⟨rfl, hD3, hf⟩
    replace hb1 := hb1.trans (hf.below hb1.size (fun q hq h => by omega))
    clear hf hD
    obtain ⟨N, rfl⟩ : ∃ N : Nat, n = N := ⟨n.toNat, by omega⟩
    have hN : N ≤ 50 := by omega
    go_wp2
    go_loopw [8, 9] (fun d i wr => ∃ k : Nat, d = .int .i64 (min k N : Nat) ∧ i = .int .i64 k ∧ k ≤ la.length ∧ (∃ D, DiskS (fun k => w.heap.size ≤ k) wr p D ∧ ArmAt N k D) ∧ Below w.heap.size w wr) (fun _ i _ => la.length - (intOf i).toNat)
    case atStart => exact ⟨0, by simp, rfl, Nat.zero_le _, ⟨_, hD3, armAt_zero N⟩, hb1⟩
    case round =>
      obtain ⟨k, rfl, rfl, hk, ⟨D, hDr, hA⟩, hbr⟩ := hrel
      by_cases hlt : k < la.length
      · have hltI : (k : Int) < (la.length : Int) := by omega
        have hk0 : (0 : Int) ≤ (k : Int) := by omega
        obtain ⟨b, o, rfl, hc⟩ := (ha.below hbr).at hlt
        go_wp2_with fail
        rw [show bits BinOp.and IntKind.i64 la[k] 127 % 256 = ((UInt8.ofNat (la[k] % 128).toNat).toNat : Int) by rw [i64_and127]; simp only [UInt8.toNat_ofNat']; omega]
        refine (block_rd _ wr).mono ?_
        rintro e w4 ⟨v, rfl, hv, -, hbb⟩
        replace hDr := hDr.below hbb
        replace hbr := below_then hbr hbb
        clear hbb hc
        go_wp2_with fail
        have hrem : (k : Int).tmod 20 = (k : Int) % 20 := Int.tmod_eq_emod_of_nonneg hk0
        clear hrem
        refine (write_s hDr (fun q hq => Nat.le_trans hbr.size hq) (by have := hA.mem; omega) ((k : Int) % 20) v _ hv).mono ?_
        rintro e w5 ⟨rfl, hD5, hf⟩
        obtain ⟨hA5, hr⟩ := armAt_succ hA hN (by omega) ((k : Int) % 20) (by omega) (by omega) _ (b64_len (UInt8.ofNat (la[k] % 128).toNat))
        rw [hr]
        replace hbr := hbr.trans (hf.below hbr.size (fun q hq h => by omega))
        generalize (D.write ((k : Int) % 20) (b64 (UInt8.ofNat (la[k] % 128).toNat))).2 = D5 at *
        clear hf hDr hr hA
        by_cases hkN : k < N
        · have hkNI : (k : Int) < (N : Int) := by omega
          rw [if_pos hkN]
          rw [show min k N = k by omega]
          go_wp2_with fail
          refine (on_s hD5).mono ?_
          rintro e w6 ⟨rfl, rfl⟩
          rw [hA5.out]
          rw [show (!decide (N ≤ k + 1)) = decide (((k + 1 : Nat) : Int) < (N : Int)) by rw [← decide_not]; exact decide_eq_decide.2 (by omega)]
          go_wp2_with fail
          refine (calls_s hD5).mono ?_
          rintro e w7 ⟨rfl, rfl⟩
          rw [hA5.calls, show min (k + 1) N = k + 1 by omega]
          go_wp2
          go_roundw
          case rel =>
            refine ⟨k + 1, ?_, by go_num, by omega, ⟨_, hD5, hA5⟩, hbr⟩
            rw [show min (k + 1) N = k + 1 by omega]
            go_num
          case measure => simp [intOf]; omega
        · have hkNI : decide ((k : Int) < (N : Int)) = false := decide_eq_false (by omega)
          rw [if_neg hkN]
          rw [show min k N = N by omega]
          go_wp2_with fail
          refine (on_s hD5).mono ?_
          rintro e w6 ⟨rfl, rfl⟩
          rw [hA5.out]
          rw [show (!decide (N ≤ k + 1)) = decide (((N : Nat) : Int) < (N : Int)) by rw [← decide_not]; exact decide_eq_decide.2 (by omega)]
          go_wp2_with fail
          refine (calls_s hD5).mono ?_
          rintro e w7 ⟨rfl, rfl⟩
          rw [hA5.calls, show min (k + 1) N = N by omega]
          go_wp2
          go_roundw
          case rel =>
            refine ⟨k + 1, ?_, by go_num, by omega, ⟨_, hD5, hA5⟩, hbr⟩
            rw [show min (k + 1) N = N by omega]
          case measure => simp [intOf]; omega
      · have hge : decide ((k : Int) < (la.length : Int)) = false := decide_eq_false (by omega)
        go_wp2_with fail
        refine (crash_s hDr (by have := hA.mem; omega) _ [] ⟨by simp, .inl ⟨_, _, rfl, rfl⟩⟩ (fun h => absurd rfl h)).mono ?_
        rintro e w4 ⟨rfl, hD4, hf⟩
        replace hbr := hbr.trans (hf.below hbr.size (fun q hq h => by omega))
        go_wp2_with fail
        refine (on_s hD4).mono ?_
        rintro e w5 ⟨rfl, rfl⟩
        rw [show (D.crashed []).out = false from rfl]
        obtain ⟨s1, -, -⟩ := sync_plain (D := D.crashed []) rfl rfl
        go_wp2_with fail
        refine (sync_s hD4 (by have := hA.mem; simp only [DSt.crashed, List.length_nil]; omega)).mono ?_
        rintro e w6 ⟨rfl, -, hf2⟩
        rw [s1]
        replace hbr := hbr.trans (hf2.below hbr.size (fun q hq h => by omega))
        go_wp2
        go_ret
        exact ⟨rfl, hbr⟩
  · go_enter Try.func7, Try.ntmps7
    go_wp2_with fail
    refine (awake_any w).mono ?_
    rintro e w1 ⟨rfl, hb1⟩
    by_cases hn0 : n < 0
    · go_wp2
      go_ret
      exact ⟨rfl, hb1⟩
    · by_cases hn1 : 50 < n
      · go_wp2
        go_ret
        exact ⟨rfl, hb1⟩
      · have hlI : (60 : Int) < (la.length : Int) := by omega
        go_wp2
        go_ret
        exact ⟨rfl, hb1⟩

end Go.Proofs.Ytnnhelknpnkphaa
