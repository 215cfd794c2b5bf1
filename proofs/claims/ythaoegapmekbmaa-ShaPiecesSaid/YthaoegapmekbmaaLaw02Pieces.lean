/- ShaPieces: the walk. -/
import Derived.Test.YthaoegapmekbmaaSha12
namespace Go.Proofs.Ythaoegapmekbmaa
open Go.RowKit

/-- The slice v reads as these rows of bytes. -/
def RdL (w : World) (v : Value) (ls : List (List UInt8)) : Prop :=
  ∃ A n c, v = .slice A n c ∧ ls.length = n ∧ n ≤ maxLen ∧ ∀ j (hj : j < ls.length), ∃ b o vj, A = some ⟨b, o, none⟩ ∧ w.cell? ⟨b, o + j, none⟩ = some vj ∧ Rd w vj ls[j]

set_option maxHeartbeats 3000000 in
set_option maxRecDepth 100000 in
theorem pieces_walk (v : Value) (ls : List (List UInt8)) (w : World) (hL : RdL w v ls) :
    Calls Try.prog 4 #[v] w fun e w' => e = .returned (.bool true) ∧ Below w.heap.size w w' := by
  obtain ⟨A, n, c, rfl, hn, hm, hall⟩ := hL
  have hmI : (n : Int) ≤ 9223372036854775807 := by simp only [maxLen] at hm; omega
  generalize hB0 : w.heap.size = B at *
  have HB := Lib.hid hB0
  clear hB0
  have hT : ∀ k, k < B → ¬ B ≤ k := fun k h1 h2 => by omega
  go_enter Try.func4, Try.ntmps4
  go_wp2_with fail
  refine (awake_any w).mono ?_
  rintro e w1 ⟨rfl, hb1⟩
  rw [HB.out] at hb1
  go_wp2_with fail
  refine (snewH_any w1).mono ?_
  rintro e w2 ⟨p, rfl, hp, hP, hb2⟩
  have hs1 := hb1.size
  rw [HB.out] at hs1
  have hpB : B ≤ p := by omega
  have f2 : Fr (fun k => B ≤ k) w w2 := Fr.of_below (by rw [HB.out]; exact hb1.trans (hb2.mono hs1)) _
  clear hb1 hb2 hp hs1
  by_cases h60 : 60 < n
  · have h60I : (60 : Int) < (n : Int) := by omega
    go_wp2_with fail
    go_ret
    exact ⟨rfl, f2.below (by rw [HB.out]; exact Nat.le_refl _) (fun k hk => hT k hk)⟩
  have h60I : decide ((60 : Int) < (n : Int)) = false := decide_eq_false (by omega)
  go_wp2_with fail
  go_loopw [5, 6, 7] (fun o i _ wr => ∃ (t : Nat) (M : List UInt8), i = .int .i64 t ∧ t ≤ n ∧ M.length ≤ 5000 ∧ wr.ownsRow B 5 1 o M.length (bts M) ∧ HoldsAt wr p M ∧ Fr (fun k => B ≤ k) w wr) (fun _ i _ _ => n - (intOf i).toNat)
  case atStart => exact ⟨0, [], rfl, Nat.zero_le _, by simp, World.ownsRow_nil _ _ _ _, hP, f2⟩
  case round =>
    clear hP f2
    obtain ⟨t, M, rfl, ht, hM, ho, hP, f⟩ := hrel
    obtain ⟨Ao, co, rfl⟩ := own_form ho
    by_cases hlt : t < n
    · have hltI : (t : Int) < (n : Int) := by omega
      have ht0 : (0 : Int) ≤ (t : Int) := by omega
      obtain ⟨b, o, vj, rfl, hcj, hrj⟩ := hall t (by omega)
      have hbB : b < B := by have := block_lt_of_cell hcj; rw [HB.out] at this; exact this
      have hrB := fun h => hrj.lt h
      rw [HB.out] at hrB
      have hcw := f.cell hcj (hT b hbB)
      have hrw := hrj.old f hrB hT
      generalize ls[t]'(by omega) = lj at *
      obtain ⟨Aj, cj, rfl⟩ := hrj.slice
      have hmj := hrj.max
      by_cases hbig : 5000 - (M.length : Int) < (lj.length : Int)
      · have hbd : decide (5000 - (M.length : Int) < (lj.length : Int)) = true := decide_eq_true hbig
        go_wp2_with fail
        go_ret
        exact ⟨rfl, f.below (by rw [HB.out]; exact Nat.le_refl _) (fun k hk => hT k hk)⟩
      have hbd : decide (5000 - (M.length : Int) < (lj.length : Int)) = false := decide_eq_false hbig
      have hls : M.length + lj.length ≤ 5000 := by omega
      have hPo := hP.ne ho
      go_wp2_with fail
      refine (write_any hP _ _ hrw (fun hl e => by have := hrB hl _ e; omega) (by omega)).mono ?_
      rintro e w3 ⟨rfl, hP, f3⟩
      have hnp : ∀ k, (Value.slice Ao M.length co).ownBlock = some k → ¬ k = p := fun k hk e => hPo (by rw [hk, e])
      replace ho := own_fr ho f3 hnp
      have hrw2 := hrw.fr f3 (fun hl k hk e => by have := hrB hl k hk; omega)
      have hcw2 := f3.cell hcw (fun e => by have e2 : b = p := e; omega)
      replace f := f.step f3 (fun i _ e => by rw [e]; exact hpB)
      have hsz := f.size
      rw [HB.out] at hsz
      clear f3 hnp hPo hcw hrw
      go_wp2_with (refine wpList_appRd (base := B) (l := M) rfl rfl Try.underlying22 infoByte rfl rfl rfl ho hrw2 (by omega) hsz (fun x2 w4 o2 g2 n2 => ?_))
      have hP4 := hP.fr g2 (fun e => hP.ne ho e.symm)
      have f4 := f.step g2 (fun i _ e => (ho.lt i e.symm).1)
      clear hP f ho g2 n2 hrw2 hcw2 hsz
      rw [← List.length_append] at o2 hls
      obtain ⟨A2, c2, rfl⟩ := own_form o2
      generalize M ++ lj = M2 at *
      obtain ⟨d, D⟩ := Dg.ex M2
      refine (sumD_any hP4 D (by omega)).mono ?_
      rintro e w5 ⟨s1, rfl, -, r1, hb5⟩
      have o5 := own_fr o2 (Fr.of_below hb5 (fun _ => False)) (fun _ _ h => h)
      have hP5 := hP4.below hb5
      have f5 := f4.trans (Fr.of_below hb5 (fun k => B ≤ k))
      clear o2 hP4 f4 hb5
      go_simp
      refine (‹∀ (a : Act) (w : World), wpList _ _ _ _ a w → _›) _ _ ?_
      go_wp2_with (refine wpList_strg rfl rfl rfl (by assumption) (by kernel_rfl) (by kernel_rfl) ?_)
      refine (shasumD_any _ _ (Rd.of_own o5) D (by omega)).mono ?_
      rintro e w6 ⟨s2, rfl, -, r2, hb6⟩
      have o6 := own_fr o5 (Fr.of_below hb6 (fun _ => False)) (fun _ _ h => h)
      have hP6 := hP5.below hb6
      have f6 := f5.trans (Fr.of_below hb6 (fun k => B ≤ k))
      clear o5 hP5 f5 hb6 r1
      go_simp
      refine (‹∀ (a : Act) (w : World), wpList _ _ _ _ a w → _›) _ _ ?_
      go_wp2_with (refine wpList_strg rfl rfl rfl (by assumption) (by kernel_rfl) (by kernel_rfl) ?_)
      refine (lenH_any hP6).mono ?_
      rintro e w7 ⟨rfl, rfl⟩
      go_wp2_with fail
      go_roundw
      case rel => exact ⟨t + 1, M2, by go_num, by omega, hls, o6, hP6, f6⟩
      case measure => simp [intOf]; omega
    · obtain rfl : t = n := by omega
      have hd : decide ((t : Int) < (t : Int)) = false := by simp
      go_wp2_with fail
      go_ret
      exact ⟨rfl, f.below (by rw [HB.out]; exact Nat.le_refl _) (fun k hk => hT k hk)⟩
end Go.Proofs.Ythaoegapmekbmaa
