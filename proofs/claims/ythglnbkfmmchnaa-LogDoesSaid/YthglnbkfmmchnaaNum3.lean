/- num: Wide; the document's Put, Wide. -/
import Derived.Test.YthglnbkfmmchnaaNum2
namespace Go.Proofs.Ythglnbkfmmchnaa
open Go.RowKit
set_option maxRecDepth 100000

set_option maxHeartbeats 2000000 in
theorem rput_any {w : World} (v : Value) (l : List UInt8) (n : Nat) (hv : Rd w v l) (hm : l.length < 10000000000) (hn : n < 9223372036854775808) :
    Calls Try.prog 70 #[v, .int .i64 n] w fun e w' => ∃ v', e = .returned v' ∧ w'.ownsRow w.heap.size 5 1 v' (l.length + (putN n).length) (bts (l ++ putN n)) ∧ Below w.heap.size w w' := by
  have h0 : (0 : Int) ≤ (n : Int) := by omega
  have hpl := putF_length 9 n
  have hp0 : putF 9 n = putN n := rfl
  rw [hp0] at hpl
  have hp128 : n < 128 ^ (9 + 1) := Nat.lt_of_lt_of_le hn (by decide)
  generalize hB0 : w.heap.size = B at *
  have HB := Lib.hid hB0
  clear hB0
  have hBw : B ≤ w.heap.size := by rw [HB.out]; exact Nat.le_refl _
  generalize hll : l.length = L at *
  have HL := Lib.hid hll
  clear hll
  go_enter Try.func70, Try.ntmps70
  go_wp2_with (refine wpList_appRd (base := B) (v := .slice none 0 0) (l := []) rfl rfl Try.underlying32 infoByte rfl rfl rfl (World.ownsRow_nil _ _ _ _) hv (by rw [HL.out]; omega) hBw (fun x1 w1 o1 g1 n1 => ?_))
  have hb1 : Below B w w1 := g1.below (B := B) hBw (fun k _ e => by cases e)
  rw [Nat.zero_add, List.nil_append, HL.out] at o1
  clear g1 n1
  go_loopw [1, 5] (fun nv o wr => ∃ (m f : Nat) (pre : List UInt8), nv = .int .i64 m ∧ m < 128 ^ (f + 1) ∧ m ≤ n ∧ pre ++ putF f m = putN n ∧ wr.ownsRow B 5 1 o (L + pre.length) (bts (l ++ pre)) ∧ Below B w wr ∧ B ≤ wr.heap.size) (fun nv _ _ => (intOf nv).toNat)
  case atStart => exact ⟨n, 9, [], rfl, hp128, Nat.le_refl _, hp0, by simpa using o1, hb1, by have := hb1.size; omega⟩
  case round =>
    clear o1 hb1
    obtain ⟨m, f, pre, rfl, hmf, hmn, hpre, ho, hb, hs⟩ := hrel
    have hpln : pre.length ≤ 10 := by have := congrArg List.length hpre; rw [List.length_append] at this; omega
    by_cases h128 : 128 ≤ m
    · obtain ⟨f', rfl⟩ : ∃ f', f = f' + 1 := by
        cases f with
        | zero => simp at hmf; omega
        | succ f => exact ⟨f, rfl⟩
      have hmI : (128 : Int) ≤ (m : Int) := by omega
      have hm0 : (0 : Int) ≤ (m : Int) := by omega
      have hst := putF_big (f := f') h128
      rw [hst] at hpre
      have hdiv : m / 128 < 128 ^ (f' + 1) := Nat.div_lt_of_lt_mul (by rw [Nat.pow_succ, Nat.mul_comm] at hmf; exact hmf)
      have hr : (m : Int) % 128 + 128 = ((UInt8.ofNat (m % 128 + 128)).toNat : Int) := by rw [UInt8.toNat_ofNat']; omega
      generalize UInt8.ofNat (m % 128 + 128) = x at *
      clear hst hmf
      have HDV := Lib.hid hdiv
      have HR := Lib.hid hr
      clear hdiv hr
      go_wp2_with (refine wpList_push (x := [x]) (l := l ++ pre) (base := B) rfl rfl rfl (by simp [Act.eval]; first | exact HR.out | (have := HR.out; omega)) (build1 x _) rfl rfl (by simp) (by simp) Try.underlying32 infoByte rfl rfl rfl ho (by omega) hs (fun v' w' ho' g1 n1 => ?_))
      have hb' := below_own hb ho g1 (Nat.le_refl _) hs
      have hs' := Nat.le_trans hs g1.size
      go_roundw
      case rel =>
        refine ⟨m / 128, f', pre ++ [x], by go_num, HDV.out, by omega, by rw [List.append_assoc]; exact hpre, ?_, hb', hs'⟩
        rw [← List.append_assoc, List.length_append, ← Nat.add_assoc]
        exact ho'
      case measure => simp [intOf]; omega
    · have hmI : decide ((128 : Int) ≤ (m : Int)) = false := decide_eq_false (by omega)
      rw [putF_small (by omega)] at hpre
      have hbx : (m : Int) = ((UInt8.ofNat m).toNat : Int) := by rw [UInt8.toNat_ofNat']; omega
      generalize UInt8.ofNat m = x at *
      have HBX := Lib.hid hbx
      clear hbx
      go_wp2_with (refine wpList_push (x := [x]) (l := l ++ pre) (base := B) rfl rfl rfl (by simp [Act.eval]; exact HBX.out) (build1 x _) rfl rfl (by simp) (by simp) Try.underlying32 infoByte rfl rfl rfl ho (by omega) hs (fun v' w' ho' g1 n1 => ?_))
      have hb' := below_own hb ho g1 (Nat.le_refl _) hs
      go_ret
      refine ⟨_, rfl, ?_, hb'⟩
      rw [← hpre, List.length_append, ← List.append_assoc, ← Nat.add_assoc]
      exact ho'

def be8 (x : Nat) : List UInt8 := [UInt8.ofNat (x / 2 ^ 56), UInt8.ofNat (x / 2 ^ 48), UInt8.ofNat (x / 2 ^ 40), UInt8.ofNat (x / 2 ^ 32), UInt8.ofNat (x / 2 ^ 24), UInt8.ofNat (x / 2 ^ 16), UInt8.ofNat (x / 2 ^ 8), UInt8.ofNat x]
theorem be8_get (x j : Nat) (h : j < 8) : (bts (be8 x))[j]? = some (.int .u8 ((UInt8.ofNat (x / 2 ^ (56 - 8 * j))).toNat : Int)) := by
  match j, h with
  | 0, _ | 1, _ | 2, _ | 3, _ | 4, _ | 5, _ | 6, _ => rfl
  | 7, _ => simp [be8, bts]
theorem set_get {cs : Array Value} {xs : List Value} {n k : Nat} {v : Value} {p : Nat → Prop} (hs : cs.size = n) (hk : k < n) (hv : xs[k]? = some v) (h : ∀ j, j < n → p j → cs[j]? = xs[j]?) : ∀ j, j < n → (j = k ∨ p j) → (cs.setIfInBounds k v)[j]? = xs[j]? := by
  intro j hj hp
  rw [Array.getElem?_setIfInBounds]
  by_cases e : k = j
  · subst e
    rw [if_pos rfl, if_pos (by omega), hv]
  · rw [if_neg e]
    rcases hp with hp | hp
    · exact absurd hp.symm e
    · exact h j hj hp

set_option maxHeartbeats 2000000 in
theorem wide_any {w : World} (n : Nat) (hn : n < 9223372036854775808) :
    Calls Try.prog 63 #[.int .i64 n] w fun e w' => ∃ v', e = .returned v' ∧ w'.ownsRow w.heap.size 5 1 v' 8 (bts (be8 n)) ∧ Below w.heap.size w w' := by
  have h0 : (0 : Int) ≤ (n : Int) := by omega
  go_enter Try.func63, Try.ntmps63
  go_wp2_with (refine wpList_makeN (c := 8) rfl rfl rfl rfl rfl rfl Try.underlying32 infoByte (by omega) (by simp [maxLen]) (fun g w1 zc hzc hnew hg f => ?_))
  go_loopw [4, 6] (fun _ i wr => ∃ t : Nat, i = .int .i64 t ∧ t ≤ 8 ∧ (∃ cs : Array Value, Blk wr g cs 5 ∧ cs.size = 8 ∧ ∀ j, j < 8 → j < t → cs[j]? = (bts (be8 n))[j]?) ∧ Fr (fun _ => False) w wr) (fun _ i _ => 8 - (intOf i).toNat)
  case atStart => exact ⟨0, rfl, Nat.zero_le _, ⟨zc, hnew, hzc, fun j _ hj => by omega⟩, f⟩
  case round =>
    clear hnew hzc f
    obtain ⟨t, rfl, ht, ⟨cs, hb, hs, hc⟩, hF⟩ := hrel
    by_cases hlt : t < 8
    · have hltI : (t : Int) < 8 := by omega
      have ht0 : (0 : Int) ≤ (t : Int) := by omega
      have hbg := be8_get n t hlt
      have hx : ((n : Int) / 2 ^ (8 * (7 - t)) % 256) = ((UInt8.ofNat (n / 2 ^ (56 - 8 * t))).toNat : Int) := by rw [show 8 * (7 - t) = 56 - 8 * t by omega, ← byte_of]; simp
      obtain ⟨v0, hcell⟩ : ∃ v0, wr.cell? ⟨g, t, none⟩ = some v0 := ⟨_, (hb.cell t).trans (Array.getElem?_eq_getElem (by omega))⟩
      have hfz := hb.frozen t
      generalize UInt8.ofNat (n / 2 ^ (56 - 8 * t)) = x at *
      have hb2 := hb.set t (.int .u8 (x.toNat : Int))
      have hF2 := hF.setCell (p := ⟨g, t, none⟩) (fun hh => by simp at hh; omega) (.int .u8 (x.toNat : Int))
      have hc2 := set_get (p := fun j => j < t) hs hlt hbg hc
      clear hb hF hbg hc
      go_wp2_with fail
      generalize wr.setCell ⟨g, t, none⟩ (.int .u8 (x.toNat : Int)) = w5 at *
      go_roundw
      case rel => exact ⟨t + 1, by go_num, by omega, ⟨_, hb2, by simpa using hs, fun j hj hjt => hc2 j hj (by omega)⟩, hF2⟩
      case measure => simp [intOf]; omega
    · obtain rfl : t = 8 := by omega
      have ho := own_of_cells (base := w.heap.size) (xs := bts (be8 n)) hb hg hs (Nat.le_refl _) (by simp [maxLen]) rfl (fun j hj => hc j hj hj)
      go_wp2_with fail
      go_ret
      exact ⟨_, rfl, ho, hF.below (Nat.le_refl _) (fun _ _ h => h)⟩

theorem div256 (n k : Nat) : n / 256 ^ k / 256 = n / 256 ^ (k + 1) := by rw [Nat.div_div_eq_div_mul, Nat.pow_succ]
set_option maxHeartbeats 2000000 in
theorem rwide_any {w : World} (n : Nat) (hn : n < 9223372036854775808) :
    Calls Try.prog 71 #[.int .i64 n] w fun e w' => ∃ v', e = .returned v' ∧ w'.ownsRow w.heap.size 5 1 v' 8 (bts (be8 n)) ∧ Below w.heap.size w w' := by
  have h0 : (0 : Int) ≤ (n : Int) := by omega
  go_enter Try.func71, Try.ntmps71
  go_wp2_with (refine wpList_makeN (c := 8) rfl rfl rfl rfl rfl rfl Try.underlying32 infoByte (by omega) (by simp [maxLen]) (fun g w1 zc hzc hnew hg f => ?_))
  go_loopw [3, 5] (fun u i wr => ∃ (z : Int) (k : Nat), i = .int .i64 z ∧ -1 ≤ z ∧ z + k = 7 ∧ u = .int .u64 ((n / 256 ^ k : Nat) : Int) ∧ (∃ cs : Array Value, Blk wr g cs 5 ∧ cs.size = 8 ∧ ∀ j : Nat, j < 8 → z < (j : Int) → cs[j]? = (bts (be8 n))[j]?) ∧ Fr (fun _ => False) w wr) (fun _ i _ => (intOf i + 1).toNat)
  case atStart => exact ⟨7, 0, rfl, by omega, by omega, by simp, ⟨zc, hnew, hzc, fun j _ hj => by omega⟩, f⟩
  case round =>
    clear hnew hzc f
    obtain ⟨z, k, rfl, hz1, hzk, rfl, ⟨cs, hb, hs, hc⟩, hF⟩ := hrel
    by_cases hlt : 0 ≤ z
    · obtain ⟨t, rfl⟩ := Int.eq_ofNat_of_zero_le hlt
      have ht7 : t ≤ 7 := by omega
      have hkt : k = 7 - t := by omega
      have hltI : (t : Int) < 8 := by omega
      have hbg := be8_get n t (by omega)
      have he : 2 ^ (56 - 8 * t) = 256 ^ k := by
        rw [show (256 : Nat) = 2 ^ 8 from rfl, ← Nat.pow_mul, show 8 * k = 56 - 8 * t by omega]
      rw [he] at hbg
      have hdv := div256 n k
      have hum : n / 256 ^ k ≤ n := Nat.div_le_self _ _
      have hx := byte_of (n / 256 ^ k)
      obtain ⟨v0, hcell⟩ : ∃ v0, wr.cell? ⟨g, t, none⟩ = some v0 := ⟨_, (hb.cell t).trans (Array.getElem?_eq_getElem (by omega))⟩
      have hfz := hb.frozen t
      generalize n / 256 ^ k = u at *
      generalize UInt8.ofNat u = x at *
      have hb2 := hb.set t (.int .u8 (x.toNat : Int))
      have hF2 := hF.setCell (p := ⟨g, t, none⟩) (fun hh => by simp at hh; omega) (.int .u8 (x.toNat : Int))
      have hc2 := set_get (p := fun j => (t : Int) < (j : Int)) hs (by omega) hbg hc
      have HDV := Lib.hid hdv
      have HE := Lib.hid hkt
      clear hb hF hbg hc hdv he hkt
      go_wp2_with fail
      generalize wr.setCell ⟨g, t, none⟩ (.int .u8 (x.toNat : Int)) = w5 at *
      go_roundw
      case rel =>
        refine ⟨(t : Int) - 1, k + 1, rfl, by omega, by omega, by rw [← HDV.out]; simp, ⟨_, hb2, by simpa using hs, fun j hj hjt => hc2 j hj (by omega)⟩, hF2⟩
      case measure => (simp [intOf] <;> omega)
    · have hzd : decide (0 ≤ z) = false := decide_eq_false hlt
      have ho := own_of_cells (base := w.heap.size) (xs := bts (be8 n)) hb hg hs (Nat.le_refl _) (by simp [maxLen]) rfl (fun j hj => hc j hj (by omega))
      go_wp2_with fail
      go_ret
      exact ⟨_, rfl, ho, hF.below (Nat.le_refl _) (fun _ _ h => h)⟩
end Go.Proofs.Ythglnbkfmmchnaa
