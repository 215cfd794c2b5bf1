/- num: Wide, Narrow of any numbers; the document's. -/
import Derived.Test.YthocpbkgcpgpdaaDoorNum2
import Derived.Test.YthocpbkgcpgpdaaDoorKey8
import Derived.Test.YthocpbkgcpgpdaaDoorKey11
import Derived.Test.YthocpbkgcpgpdaaDoorFR4
import Derived.Test.YthocpbkgcpgpdaaDoorK13
import Derived.Test.YthocpbkgcpgpdaaDoorRef4
import Derived.Test.YthocpbkgcpgpdaaDoorOpen
namespace Go.Proofs.YthocpbkgcpgpdaaDoor
open Go.RowKit

def be8 (x : Nat) : List UInt8 := [UInt8.ofNat (x / 2 ^ 56), UInt8.ofNat (x / 2 ^ 48), UInt8.ofNat (x / 2 ^ 40), UInt8.ofNat (x / 2 ^ 32), UInt8.ofNat (x / 2 ^ 24), UInt8.ofNat (x / 2 ^ 16), UInt8.ofNat (x / 2 ^ 8), UInt8.ofNat x]
theorem be8_get (x j : Nat) (h : j < 8) : (bts (be8 x))[j]? = some (.int .u8 ((UInt8.ofNat (x / 2 ^ (56 - 8 * j))).toNat : Int)) := by
  match j, h with
  | 0, _ | 1, _ | 2, _ | 3, _ | 4, _ | 5, _ | 6, _ => rfl
  | 7, _ => simp [be8, bts]
theorem set_get {cs : Array Value} {xs : List Value} {n k : Nat} {v : Value} {p : Nat → Prop} (hs : cs.size = n) (hk : k < n) (hv : xs[k]? = some v) (h : ∀ j, j < n → p j → cs[j]? = xs[j]?) : ∀ j, j < n → (j = k ∨ p j) → (cs.setIfInBounds k v)[j]? = xs[j]? := by
  intro j hj hp
  rw [Array.getElem?_setIfInBounds]
  by_cases e : k = j
  · subst e
    rw [if_pos rfl, if_pos (by omega), hv]
  · rw [if_neg e]
    rcases hp with hp | hp
    · exact absurd hp.symm e
    · exact h j hj hp

set_option maxHeartbeats 2000000 in
theorem wide_any {w : World} (z : Int) (n : Nat) (hz : z % 18446744073709551616 = (n : Int)) :
    Calls Tryd.prog 52 #[.int .i64 z] w fun e w' => ∃ v', e = .returned v' ∧ w'.ownsRow w.heap.size 5 1 v' 8 (bts (be8 n)) ∧ Below w.heap.size w w' := by
  have hzw : IntKind.u64.wrap z = (n : Int) := by rw [show IntKind.u64.wrap z = z % 18446744073709551616 from by simp [IntKind.wrap, IntKind.bits, IntKind.signed]]; exact hz
  go_enter Tryd.func52, Tryd.ntmps52
  go_wp2_with (refine wpList_makeN (c := 8) rfl rfl rfl rfl rfl rfl Tryd.underlying28 infoByte (by omega) (by simp [maxLen]) (fun g w1 zc hzc hnew hg f => ?_))
  go_loopw [4, 6] (fun _ i wr => ∃ t : Nat, i = .int .i64 t ∧ t ≤ 8 ∧ (∃ cs : Array Value, Blk wr g cs 5 ∧ cs.size = 8 ∧ ∀ j, j < 8 → j < t → cs[j]? = (bts (be8 n))[j]?) ∧ Fr (fun _ => False) w wr) (fun _ i _ => 8 - (intOf i).toNat)
  case atStart => exact ⟨0, rfl, Nat.zero_le _, ⟨zc, hnew, hzc, fun j _ hj => by omega⟩, f⟩
  case round =>
    clear hnew hzc f
    obtain ⟨t, rfl, ht, ⟨cs, hb, hs, hc⟩, hF⟩ := hrel
    by_cases hlt : t < 8
    · have hltI : (t : Int) < 8 := by omega
      have ht0 : (0 : Int) ≤ (t : Int) := by omega
      have hbg := be8_get n t hlt
      have hx : ((n : Int) / 2 ^ (8 * (7 - t)) % 256) = ((UInt8.ofNat (n / 2 ^ (56 - 8 * t))).toNat : Int) := by rw [show 8 * (7 - t) = 56 - 8 * t by omega, ← byte_of]; simp
      obtain ⟨v0, hcell⟩ : ∃ v0, wr.cell? ⟨g, t, none⟩ = some v0 := ⟨_, (hb.cell t).trans (Array.getElem?_eq_getElem (by omega))⟩
      have hfz := hb.frozen t
      generalize UInt8.ofNat (n / 2 ^ (56 - 8 * t)) = x at *
      have hb2 := hb.set t (.int .u8 (x.toNat : Int))
      have hF2 := hF.setCell (p := ⟨g, t, none⟩) (fun hh => by simp at hh; omega) (.int .u8 (x.toNat : Int))
      have hc2 := set_get (p := fun j => j < t) hs hlt hbg hc
      clear hb hF hbg hc
      go_wp2_with fail
      generalize wr.setCell ⟨g, t, none⟩ (.int .u8 (x.toNat : Int)) = w5 at *
      go_roundw
      case rel => exact ⟨t + 1, by go_num, by omega, ⟨_, hb2, by simpa using hs, fun j hj hjt => hc2 j hj (by omega)⟩, hF2⟩
      case measure => simp [intOf]; omega
    · obtain rfl : t = 8 := by omega
      have ho := own_of_cells (base := w.heap.size) (xs := bts (be8 n)) hb hg hs (Nat.le_refl _) (by simp [maxLen]) rfl (fun j hj => hc j hj hj)
      go_wp2_with fail
      go_ret
      exact ⟨_, rfl, ho, hF.below (Nat.le_refl _) (fun _ _ h => h)⟩

theorem div256 (n k : Nat) : n / 256 ^ k / 256 = n / 256 ^ (k + 1) := by rw [Nat.div_div_eq_div_mul, Nat.pow_succ]
set_option maxHeartbeats 2000000 in
theorem rwide_any {w : World} (z : Int) (n : Nat) (hz : z % 18446744073709551616 = (n : Int)) :
    Calls Tryd.prog 54 #[.int .i64 z] w fun e w' => ∃ v', e = .returned v' ∧ w'.ownsRow w.heap.size 5 1 v' 8 (bts (be8 n)) ∧ Below w.heap.size w w' := by
  have hzw : IntKind.u64.wrap z = (n : Int) := by rw [show IntKind.u64.wrap z = z % 18446744073709551616 from by simp [IntKind.wrap, IntKind.bits, IntKind.signed]]; exact hz
  go_enter Tryd.func54, Tryd.ntmps54
  go_wp2_with (refine wpList_makeN (c := 8) rfl rfl rfl rfl rfl rfl Tryd.underlying28 infoByte (by omega) (by simp [maxLen]) (fun g w1 zc hzc hnew hg f => ?_))
  go_loopw [3, 5] (fun u i wr => ∃ (y : Int) (k : Nat), i = .int .i64 y ∧ -1 ≤ y ∧ y + k = 7 ∧ u = .int .u64 ((n / 256 ^ k : Nat) : Int) ∧ (∃ cs : Array Value, Blk wr g cs 5 ∧ cs.size = 8 ∧ ∀ j : Nat, j < 8 → y < (j : Int) → cs[j]? = (bts (be8 n))[j]?) ∧ Fr (fun _ => False) w wr) (fun _ i _ => (intOf i + 1).toNat)
  case atStart => exact ⟨7, 0, rfl, by omega, by omega, by simp, ⟨zc, hnew, hzc, fun j _ hj => by omega⟩, f⟩
  case round =>
    clear hnew hzc f
    obtain ⟨y, k, rfl, hz1, hzk, rfl, ⟨cs, hb, hs, hc⟩, hF⟩ := hrel
    by_cases hlt : 0 ≤ y
    · obtain ⟨t, rfl⟩ := Int.eq_ofNat_of_zero_le hlt
      have ht7 : t ≤ 7 := by omega
      have hkt : k = 7 - t := by omega
      have hltI : (t : Int) < 8 := by omega
      have hbg := be8_get n t (by omega)
      have he : 2 ^ (56 - 8 * t) = 256 ^ k := by
        rw [show (256 : Nat) = 2 ^ 8 from rfl, ← Nat.pow_mul, show 8 * k = 56 - 8 * t by omega]
      rw [he] at hbg
      have hdv := div256 n k
      have hum : n / 256 ^ k ≤ n := Nat.div_le_self _ _
      have hx := byte_of (n / 256 ^ k)
      obtain ⟨v0, hcell⟩ : ∃ v0, wr.cell? ⟨g, t, none⟩ = some v0 := ⟨_, (hb.cell t).trans (Array.getElem?_eq_getElem (by omega))⟩
      have hfz := hb.frozen t
      generalize n / 256 ^ k = u at *
      generalize UInt8.ofNat u = x at *
      have hb2 := hb.set t (.int .u8 (x.toNat : Int))
      have hF2 := hF.setCell (p := ⟨g, t, none⟩) (fun hh => by simp at hh; omega) (.int .u8 (x.toNat : Int))
      have hc2 := set_get (p := fun j => (t : Int) < (j : Int)) hs (by omega) hbg hc
      have HDV := Lib.hid hdv
      have HE := Lib.hid hkt
      clear hb hF hbg hc hdv he hkt
      go_wp2_with fail
      generalize wr.setCell ⟨g, t, none⟩ (.int .u8 (x.toNat : Int)) = w5 at *
      go_roundw
      case rel =>
        refine ⟨(t : Int) - 1, k + 1, rfl, by omega, by omega, by rw [← HDV.out]; simp, ⟨_, hb2, by simpa using hs, fun j hj hjt => hc2 j hj (by omega)⟩, hF2⟩
      case measure => (simp [intOf] <;> omega)
    · have hzd : decide (0 ≤ y) = false := decide_eq_false hlt
      have ho := own_of_cells (base := w.heap.size) (xs := bts (be8 n)) hb hg hs (Nat.le_refl _) (by simp [maxLen]) rfl (fun j hj => hc j hj (by omega))
      go_wp2_with fail
      go_ret
      exact ⟨_, rfl, ho, hF.below (Nat.le_refl _) (fun _ _ h => h)⟩
def beN (l : List UInt8) : Nat → Nat
  | 0 => 0
  | t + 1 => beN l t * 256 + (l.getD t 0).toNat
theorem beN_lt (l : List UInt8) : ∀ t, beN l t < 256 ^ t
  | 0 => by simp [beN]
  | t + 1 => by
    have h := beN_lt l t
    have h2 : (l.getD t 0).toNat < 256 := (l.getD t 0).toNat_lt
    rw [beN, Nat.pow_succ]
    omega
/-- what Narrow answers -/
def narZ (l : List UInt8) : Int := wrap64 (beN l 8 : Int)
theorem u64_join {m x : Nat} (hm : m < 256 ^ 7) (hx : x < 256) : bits BinOp.or IntKind.u64 (IntKind.u64.wrap ((m : Int) * 256)) (x : Int) = ((m * 256 + x : Nat) : Int) := by
  have h7 : m < 72057594037927936 := hm
  have e : IntKind.u64.wrap ((m : Int) * 256) = ((m * 256 : Nat) : Int) := by
    rw [show IntKind.u64.wrap ((m : Int) * 256) = ((m : Int) * 256) % 18446744073709551616 from by simp [IntKind.wrap, IntKind.bits, IntKind.signed], Int.natCast_mul]; omega
  rw [e, u64_or_nat _ _ (by omega) (by omega), nat_join 8 (m * 256) x (by omega) (by omega)]

theorem u64_plus {m x : Nat} (hm : m < 256 ^ 7) (hx : x < 256) : IntKind.u64.wrap (IntKind.u64.wrap ((m : Int) * 256) + (x : Int)) = ((m * 256 + x : Nat) : Int) := by
  have h7 : m < 72057594037927936 := hm
  have e : ∀ z : Int, IntKind.u64.wrap z = z % 18446744073709551616 := by intro z; simp [IntKind.wrap, IntKind.bits, IntKind.signed]
  rw [e, e, Int.natCast_add, Int.natCast_mul]
  omega
set_option maxHeartbeats 2000000 in
theorem narrow_any {w : World} (v : Value) (l : List UInt8) (hv : Rd w v l) (h8 : l.length = 8) :
    Calls Tryd.prog 40 #[v] w fun e w' => e = .returned (.tuple #[.int .i64 (narZ l), .int .i64 0]) ∧ w' = w := by
  obtain ⟨A, c, rfl⟩ := hv.slice
  rw [h8]
  go_enter Tryd.func40, Tryd.ntmps40
  go_wp2_with fail
  go_loopw [4, 12] (fun a i wr => ∃ t : Nat, i = .int .i64 t ∧ t ≤ 8 ∧ a = .int .u64 (beN l t) ∧ wr = w) (fun _ i _ => 8 - (intOf i).toNat)
  case atStart => exact ⟨0, rfl, Nat.zero_le _, rfl, rfl⟩
  case round =>
    obtain ⟨t, rfl, ht, rfl, rfl⟩ := hrel
    by_cases hlt : t < 8
    · have hltI : (t : Int) < 8 := by omega
      have ht0 : (0 : Int) ≤ (t : Int) := by omega
      obtain ⟨b', o', rfl, hc⟩ := hv.at (j := t) (by omega)
      have e0 : l[t]'(by omega) = l.getD t 0 := by rw [List.getD_eq_getElem?_getD, List.getElem?_eq_getElem (by omega)]; rfl
      rw [e0] at hc
      have hx8 : (l.getD t 0).toNat < 256 := (l.getD t 0).toNat_lt
      have hst : beN l (t + 1) = beN l t * 256 + (l.getD t 0).toNat := rfl
      have hb7 : beN l t < 256 ^ 7 := Nat.lt_of_lt_of_le (beN_lt l t) (Nat.pow_le_pow_right (by omega) (by omega))
      generalize (l.getD t 0).toNat = x at *
      have hval := u64_join hb7 hx8
      rw [← hst] at hval
      generalize beN l t = a at *
      generalize ha2 : beN l (t + 1) = a2 at *
      have HA2 := Lib.hid ha2
      have HV := Lib.hid hval
      clear hst hb7 hval ha2 e0
      go_wp2_with fail
      go_roundw
      case rel => exact ⟨t + 1, by go_num, by omega, by rw [HA2.out, HV.out], trivial⟩
      case measure => simp [intOf]; omega
    · obtain rfl : t = 8 := by omega
      rw [show ((8 : Nat) : Int) = 8 from rfl]
      go_wp2_with fail
      go_ret2
      exact ⟨rfl, rfl⟩

set_option maxHeartbeats 2000000 in
theorem rnarrow_any {w : World} (v : Value) (l : List UInt8) (hv : Rd w v l) (h8 : l.length = 8) :
    Calls Tryd.prog 42 #[v] w fun e w' => e = .returned (.tuple #[.int .i64 (narZ l), .int .i64 0]) ∧ w' = w := by
  obtain ⟨A, c, rfl⟩ := hv.slice
  rw [h8]
  go_enter Tryd.func42, Tryd.ntmps42
  go_wp2_with fail
  go_loopw [4, 5] (fun a i wr => ∃ t : Nat, i = .int .i64 t ∧ t ≤ 8 ∧ a = .int .u64 (beN l t) ∧ wr = w) (fun _ i _ => 8 - (intOf i).toNat)
  case atStart => exact ⟨0, rfl, Nat.zero_le _, rfl, rfl⟩
  case round =>
    obtain ⟨t, rfl, ht, rfl, rfl⟩ := hrel
    by_cases hlt : t < 8
    · have hltI : (t : Int) < 8 := by omega
      have ht0 : (0 : Int) ≤ (t : Int) := by omega
      obtain ⟨b', o', rfl, hc⟩ := hv.at (j := t) (by omega)
      have e0 : l[t]'(by omega) = l.getD t 0 := by rw [List.getD_eq_getElem?_getD, List.getElem?_eq_getElem (by omega)]; rfl
      rw [e0] at hc
      have hx8 : (l.getD t 0).toNat < 256 := (l.getD t 0).toNat_lt
      have hst : beN l (t + 1) = beN l t * 256 + (l.getD t 0).toNat := rfl
      have hb7 : beN l t < 256 ^ 7 := Nat.lt_of_lt_of_le (beN_lt l t) (Nat.pow_le_pow_right (by omega) (by omega))
      generalize (l.getD t 0).toNat = x at *
      have hval := u64_plus hb7 hx8
      rw [← hst] at hval
      generalize beN l t = a at *
      generalize ha2 : beN l (t + 1) = a2 at *
      have HA2 := Lib.hid ha2
      have HV := Lib.hid hval
      clear hst hb7 hval ha2 e0
      go_wp2_with fail
      go_roundw
      case rel => exact ⟨t + 1, by go_num, by omega, by rw [HA2.out, HV.out], trivial⟩
      case measure => simp [intOf]; omega
    · obtain rfl : t = 8 := by omega
      rw [show ((8 : Nat) : Int) = 8 from rfl]
      go_wp2_with fail
      go_ret2
      exact ⟨rfl, rfl⟩

theorem narrow_bad {w : World} (v : Value) (l : List UInt8) (hv : Rd w v l) (h8 : l.length ≠ 8) :
    Calls Tryd.prog 40 #[v] w fun e w' => e = .returned (.tuple #[.int .i64 0, .int .i64 1]) ∧ w' = w := by
  obtain ⟨A, c, rfl⟩ := hv.slice
  have h8I : ((l.length : Int) != 8) = true := by rw [bne_iff_ne]; omega
  have h8J : ((l.length : Int) == 8) = false := by rw [beq_eq_false_iff_ne]; omega
  go_enter Tryd.func40, Tryd.ntmps40
  go_wp2_with fail
  go_ret2
  exact ⟨rfl, rfl⟩
theorem rnarrow_bad {w : World} (v : Value) (l : List UInt8) (hv : Rd w v l) (h8 : l.length ≠ 8) :
    Calls Tryd.prog 42 #[v] w fun e w' => e = .returned (.tuple #[.int .i64 0, .int .i64 1]) ∧ w' = w := by
  obtain ⟨A, c, rfl⟩ := hv.slice
  have h8I : ((l.length : Int) != 8) = true := by rw [bne_iff_ne]; omega
  have h8J : ((l.length : Int) == 8) = false := by rw [beq_eq_false_iff_ne]; omega
  go_enter Tryd.func42, Tryd.ntmps42
  go_wp2_with fail
  go_ret2
  exact ⟨rfl, rfl⟩
end Go.Proofs.YthocpbkgcpgpdaaDoor
namespace Go.Proofs.YthocpbkgcpgpdaaDoor
open Go.RowKit

structure Ent where
  no : Int
  time : Int
  code : Int
  who : ByteArray
  what : ByteArray
  prev : List UInt8
  hash : List UInt8
def z64 (z : Int) : Nat := (z % 18446744073709551616).toNat
theorem z64_spec (z : Int) : z % 18446744073709551616 = (z64 z : Int) := by rw [z64]; omega
def Ent.said (e : Ent) : List (List UInt8) := [be8 (z64 e.no), be8 (z64 e.time), be8 (z64 e.code), sb e.who, sb e.what, e.prev]
/-- a new row of rows that read as these -/
def OwQ (w : World) (B : Nat) (v : Value) (vals : List Value) (ps : List (List UInt8)) : Prop :=
  w.ownsRow B 28 1 v ps.length vals ∧ vals.length = ps.length ∧ ∀ j, j < ps.length → Rd w (vals.getD j undef) (ps.getD j []) ∧ (ps.getD j [] ≠ [] → ∀ k, (vals.getD j undef).ownBlock = some k → k < w.heap.size ∧ v.ownBlock ≠ some k)
theorem OwQ.below {w w' : World} {B : Nat} {v : Value} {vals : List Value} {ps : List (List UInt8)} (h : OwQ w B v vals ps) (hb : Below w.heap.size w w') : OwQ w' B v vals ps :=
  ⟨own_fr h.1 (Fr.of_below hb (fun _ => False)) (fun _ _ h => h), h.2.1, fun j hj => ⟨(h.2.2 j hj).1.below hb, fun hn k hk => ⟨Nat.lt_of_lt_of_le ((h.2.2 j hj).2 hn k hk).1 hb.size, ((h.2.2 j hj).2 hn k hk).2⟩⟩⟩
theorem OwQ.push {w w' : World} {B : Nat} {v v' vp : Value} {vals : List Value} {ps : List (List UInt8)} {p : List UInt8} (h : OwQ w B v vals ps) (hp : Rd w vp p) (hk : p ≠ [] → ∀ k, vp.ownBlock = some k → k < w.heap.size ∧ v.ownBlock ≠ some k)
    (ho : w'.ownsRow B 28 1 v' (ps.length + 1) (vals ++ [vp])) (f : Fr (fun i => some i = v.ownBlock) w w') (hn : NewOr w v v') : OwQ w' B v' (vals ++ [vp]) (ps ++ [p]) := by
  have hne : ∀ k, k < w.heap.size → v.ownBlock ≠ some k → v'.ownBlock ≠ some k := fun k h1 h2 e => by
    rcases hn with hn | ⟨g, hg, hge⟩
    · rw [hn] at e; exact h2 e
    · rw [hg] at e; cases e; omega
  refine ⟨by rw [List.length_append]; exact ho, by simp [h.2.1], fun j hj => ?_⟩
  rcases Nat.lt_or_ge j ps.length with h1 | h1
  · rw [List.getD_eq_getElem?_getD, List.getD_eq_getElem?_getD, List.getElem?_append_left (by have := h.2.1; omega), List.getElem?_append_left h1, ← List.getD_eq_getElem?_getD, ← List.getD_eq_getElem?_getD]
    obtain ⟨h2, h3⟩ := h.2.2 j h1
    exact ⟨h2.fr f (fun hz k hk e => (h3 hz k hk).2 e.symm), fun hz k hk => ⟨Nat.lt_of_lt_of_le (h3 hz k hk).1 f.size, hne k (h3 hz k hk).1 (h3 hz k hk).2⟩⟩
  · have : j = ps.length := by rw [List.length_append, List.length_singleton] at hj; omega
    subst this
    rw [List.getD_eq_getElem?_getD, List.getD_eq_getElem?_getD, List.getElem?_append_right (by have := h.2.1; omega), List.getElem?_append_right (by omega), h.2.1]
    simp only [Nat.sub_self, List.getElem?_cons_zero, Option.getD_some]
    exact ⟨hp.fr f (fun hz k h1 e => (hk hz k h1).2 e.symm), fun hz k h1 => ⟨Nat.lt_of_lt_of_le (hk hz k h1).1 f.size, hne k (hk hz k h1).1 (hk hz k h1).2⟩⟩
theorem OwQ.rdl {w : World} {B : Nat} {v : Value} {vals : List Value} {ps : List (List UInt8)} (h : OwQ w B v vals ps) : RdL w v ps := by
  obtain ⟨h1, h2, h3⟩ := h
  have hm : ps.length ≤ maxLen := by
    rcases h1.2 with ⟨_, h0⟩ | ⟨g, cap, cur, rfl, hb, hg, hn, hc, hs, ht⟩
    · rw [h0]; simp [maxLen]
    · omega
  obtain ⟨A, c, rfl⟩ := own_form h1
  refine ⟨A, ps.length, c, rfl, rfl, hm, fun j hj => ?_⟩
  obtain ⟨g, c', hv⟩ := own_some h1 (by omega)
  simp only [Value.slice.injEq] at hv
  obtain ⟨rfl, -, rfl⟩ := hv
  have hc := h1.cells (g := g) rfl j _ (List.getElem?_eq_getElem (by omega))
  rw [Addr.add_mid] at hc
  refine ⟨g, 0, vals[j]'(by omega), rfl, hc, ?_⟩
  have := (h3 j hj).1
  rw [List.getD_eq_getElem?_getD, List.getElem?_eq_getElem (by omega), List.getD_eq_getElem?_getD, List.getElem?_eq_getElem hj] at this
  exact this

/-- A new slice that reads so. -/
def NewRd (w : World) (v : Value) (l : List UInt8) : Prop := Rd w v l ∧ (∀ k, v.ownBlock = some k → k < w.heap.size) ∧ ∃ A n c, v = .slice A n c
theorem NewRd.fr {w w' : World} {v : Value} {l : List UInt8} (h : NewRd w v l) (f : Fr (fun _ => False) w w') : NewRd w' v l :=
  ⟨h.1.fr f (fun _ _ _ h => h), fun k hk => Nat.lt_of_lt_of_le (h.2.1 k hk) f.size, h.2.2⟩
theorem NewRd.of_own {w : World} {B n : Nat} {v : Value} {l : List UInt8} (h : w.ownsRow B 5 1 v n (bts l)) : NewRd w v l :=
  ⟨Rd.of_own h, fun k hk => (h.lt k hk).2, by obtain ⟨A, c, rfl⟩ := own_form h; exact ⟨_, _, _, rfl⟩⟩
def saidG (e : Ent) (i : Nat) (v : Value) (w : World) : Prop := NewRd w v (if i = 2 then be8 (z64 e.no) else if i = 5 then be8 (z64 e.time) else if i = 8 then be8 (z64 e.code) else if i = 11 then sb e.who else sb e.what)
theorem build6 (A0 A1 A2 A3 A4 A5 : Option Addr) (n0 c0 n1 c1 n2 c2 n3 c3 n4 c4 n5 c5 : Nat) (w : World) : (Instr.buildSlice 56 6 #[(0, .slice A0 n0 c0), (1, .slice A1 n1 c1), (2, .slice A2 n2 c2), (3, .slice A3 n3 c3), (4, .slice A4 n4 c4), (5, .slice A5 n5 c5)]).run Tryd.prog w =
    .ok (.slice (some ⟨w.heap.size, 0, none⟩) 6 6) (w.alloc (.cells #[.slice A0 n0 c0, .slice A1 n1 c1, .slice A2 n2 c2, .slice A3 n3 c3, .slice A4 n4 c4, .slice A5 n5 c5] 28)) := by kernel_rfl
set_option maxHeartbeats 3000000 in
set_option maxRecDepth 100000 in
theorem said_any {w : World} (e : Ent) (vp vh : Value) (hp : Rd w vp e.prev) (h1 : e.who.size ≤ maxLen) (h2 : e.what.size ≤ maxLen) :
    Calls Tryd.prog 38 #[.agg #[.int .i64 e.no, .int .i64 e.time, .int .i64 e.code, .string e.who, .string e.what, vp, vh]] w fun en w' => ∃ v vals, en = .returned v ∧ OwQ w' w.heap.size v vals e.said ∧ Below w.heap.size w w' := by
  have hvl := hp.lt
  obtain ⟨Ap, cp, rfl⟩ := hp.slice
  have hb := Blk.new w #[.int .i64 e.no, .int .i64 e.time, .int .i64 e.code, .string e.who, .string e.what, .slice Ap e.prev.length cp, vh] 30
  have hB := (Below.refl w.heap.size w).alloc (Nat.le_refl _) (.cells #[.int .i64 e.no, .int .i64 e.time, .int .i64 e.code, .string e.who, .string e.what, .slice Ap e.prev.length cp, vh] 30)
  replace hp := hp.below hB
  have hs := hB.size
  generalize hb0 : w.heap.size = B at *
  have HB := Lib.hid hb0
  clear hb0
  go_enter Tryd.func38, Tryd.ntmps38
  go_upto_region 1 with fail
  rw [HB.out]
  generalize w.alloc (.cells #[.int .i64 e.no, .int .i64 e.time, .int .i64 e.code, .string e.who, .string e.what, .slice Ap e.prev.length cp, vh] 30) = w1 at *
  refine wp_region_pre (Fr (fun _ => False)) [(0, 0), (1, 1), (3, 0), (4, 1), (6, 0), (7, 1), (9, 0), (10, 1), (12, 0), (13, 1), (15, 0), (16, 1), (2, 2), (5, 2), (8, 2), (11, 2), (14, 2), (17, 2), (18, 2)] [(0, 0), (1, 1), (3, 0), (4, 1), (6, 0), (7, 1), (9, 0), (10, 1), (12, 0), (13, 1), (15, 0), (16, 1)] _ 7
    #[true, true, false, true, true, false, true, true, false, true, true, false, true, true, false, true, true, false, false] (by kernel_rfl) (by kernel_rfl) (by simp only [List.map_cons, List.map_nil, Array.getD_eq_getD_getElem?, List.getElem?_toArray, List.getElem?_cons_succ, List.getElem?_cons_zero, Option.getD_some]; rfl) rfl (by kernel_rfl) (fun _ _ d _ _ h => by cases d <;> exact h) (Fr.refl _) (fun _ _ _ => Fr.trans) ?_
  replace hp := hp.drew
  replace hb : Blk w1.drew B #[.int .i64 e.no, .int .i64 e.time, .int .i64 e.code, .string e.who, .string e.what, .slice Ap e.prev.length cp, vh] 30 := hb
  replace hB := hB.drew
  replace hs : B ≤ w1.drew.heap.size := hs
  generalize w1.drew = w2 at *
  have c0 := hb.cell 0
  have c1 := hb.cell 1
  have c2 := hb.cell 2
  have c3 := hb.cell 3
  have c4 := hb.cell 4
  have c5 := hb.cell 5
  simp only [List.getElem?_toArray, List.getElem?_cons_zero, List.getElem?_cons_succ] at c0 c1 c2 c3 c4 c5
  repeat (first | (refine wpF_f0 (fun K hK => ?_); go_simp; refine hK _ ?_; clear hK K) | (refine wpF_load1 rfl rfl rfl (by kernel_rfl) (by assumption) (by simp) (fun K hK => ?_); go_simp; refine hK _ ?_; clear hK K) | (refine wpF_loadN rfl rfl rfl (by assumption) (by assumption) (by kernel_rfl) (by kernel_rfl) (by simp) (fun K hK => ?_); go_simp; refine hK _ ?_; clear hK K))
  refine wpF_nil ?_
  refine wpAnyR_new (acts := [2, 5, 8, 11, 14]) (dst := fun i => i + 3) (G := saidG e) #[true, true, true, true, true, true, true, true, true, true, true, true, true, true, true, true, true, false, false] 2 5 (by kernel_rfl) (by kernel_rfl) (by kernel_rfl) (fun i v w w' h f => h.fr f) (fun _ _ h => h) ?_ ?_
  · intro i hi a w3 hA hF K hK
    simp only [List.mem_cons, List.mem_nil_iff, or_false] at hi
    rcases hi with rfl | rfl | rfl | rfl | rfl
    · refine wpOp_call (f := 52) (args := #[.int .i64 e.no]) rfl rfl rfl (by simp only [List.map_toArray, List.map_cons, List.map_nil]; rw [hA.eval (by decide)]; rfl) (by kernel_rfl) ((wide_any e.no _ (z64_spec _)).mono ?_)
      rintro en w4 ⟨v, rfl, ho, hb4⟩
      exact ⟨v, rfl, hK v w4 (NewRd.of_own ho) (Fr.of_below hb4 _)⟩
    · refine wpOp_call (f := 52) (args := #[.int .i64 e.time]) rfl rfl rfl (by simp only [List.map_toArray, List.map_cons, List.map_nil]; rw [hA.eval (by decide)]; rfl) (by kernel_rfl) ((wide_any e.time _ (z64_spec _)).mono ?_)
      rintro en w4 ⟨v, rfl, ho, hb4⟩
      exact ⟨v, rfl, hK v w4 (NewRd.of_own ho) (Fr.of_below hb4 _)⟩
    · refine wpOp_call (f := 52) (args := #[.int .i64 e.code]) rfl rfl rfl (by simp only [List.map_toArray, List.map_cons, List.map_nil]; rw [hA.eval (by decide)]; rfl) (by kernel_rfl) ((wide_any e.code _ (z64_spec _)).mono ?_)
      rintro en w4 ⟨v, rfl, ho, hb4⟩
      exact ⟨v, rfl, hK v w4 (NewRd.of_own ho) (Fr.of_below hb4 _)⟩
    · obtain ⟨c, w4, hr, hrd, hb4, hlt⟩ := run_bytes (src := 9) (dst := 28) w3 e.who Tryd.underlying9 Tryd.underlying28 Tryd.underlying5 h1
      refine wpOp_value rfl rfl (exec_convert rfl (by rw [hA.eval (by decide)]; rfl) hr) ?_
      exact hK _ w4 ⟨hrd, fun k hk => (by cases hk; exact hlt), _, _, _, rfl⟩ (Fr.of_below hb4 _)
    · obtain ⟨c, w4, hr, hrd, hb4, hlt⟩ := run_bytes (src := 9) (dst := 28) w3 e.what Tryd.underlying9 Tryd.underlying28 Tryd.underlying5 h2
      refine wpOp_value rfl rfl (exec_convert rfl (by rw [hA.eval (by decide)]; rfl) hr) ?_
      exact hK _ w4 ⟨hrd, fun k hk => (by cases hk; exact hlt), _, _, _, rfl⟩ (Fr.of_below hb4 _)
  · intro val w3 hval hF
    have v0 := hval 2 (by simp)
    have v1 := hval 5 (by simp)
    have v2 := hval 8 (by simp)
    have v3 := hval 11 (by simp)
    have v4 := hval 14 (by simp)
    simp only [saidG] at v0 v1 v2 v3 v4
    clear hval
    replace v0 : NewRd w3 (val 5) (be8 (z64 e.no)) := v0
    replace v1 : NewRd w3 (val 8) (be8 (z64 e.time)) := v1
    replace v2 : NewRd w3 (val 11) (be8 (z64 e.code)) := v2
    replace v3 : NewRd w3 (val 14) (sb e.who) := v3
    replace v4 : NewRd w3 (val 17) (sb e.what) := v4
    have hp3 := hp.fr hF (fun _ _ _ h => h)
    replace hB := hB.trans (hF.below (B := B) hs (fun _ _ h => h))
    replace hs := Nat.le_trans hs hF.size
    clear hb c0 c1 c2 c3 c4 c5 hp
    simp only [List.map_cons, List.map_nil, List.foldl_cons, List.foldl_nil]
    generalize val (2 + 3) = x0 at *
    generalize val (5 + 3) = x1 at *
    generalize val (8 + 3) = x2 at *
    generalize val (11 + 3) = x3 at *
    generalize val (14 + 3) = x4 at *
    obtain ⟨r0, l0, A0, n0, q0, rfl⟩ := v0
    obtain ⟨r1, l1, A1, n1, q1, rfl⟩ := v1
    obtain ⟨r2, l2, A2, n2, q2, rfl⟩ := v2
    obtain ⟨r3, l3, A3, n3, q3, rfl⟩ := v3
    obtain ⟨r4, l4, A4, n4, q4, rfl⟩ := v4
    have hp4 := fun h => hp3.lt h
    refine wpAnyR_ready (rs := [17]) (by kernel_rfl) (by simp) ?_
    refine AllR.cons rfl (fun K hK => ?_) AllR.nil
    rw [if_pos (by rfl)]
    refine wp_value (exec_buildSlice (build6 A0 A1 A2 A3 A4 Ap n0 q0 n1 q1 n2 q2 n3 q3 n4 q4 e.prev.length cp w3) rfl (by simp [Act.eval, Act.put])) ?_
    have f5 : Fr (fun _ => False) w3 (w3.alloc (.cells #[.slice A0 n0 q0, .slice A1 n1 q1, .slice A2 n2 q2, .slice A3 n3 q3, .slice A4 n4 q4, .slice Ap e.prev.length cp] 28)) := (Fr.refl _ w3).alloc _
    have b5 := Blk.new w3 #[.slice A0 n0 q0, .slice A1 n1 q1, .slice A2 n2 q2, .slice A3 n3 q3, .slice A4 n4 q4, .slice Ap e.prev.length cp] 28
    refine hK _ _ (fun _ => f5) ?_
    clear hK K
    refine wpAnyR_ready (rs := [18]) (by kernel_rfl) (by simp) ?_
    refine AllR.cons rfl (fun K hK => ?_) AllR.nil
    rw [if_pos (by rfl)]
    go_simp
    refine hK _ _ (fun _ => Fr.refl _ _) ?_
    clear hK K
    refine wpAnyR_end (by kernel_rfl) ?_
    have hB6 := hB.trans (f5.below (B := B) hs (fun _ _ h => h))
    have hlt : ∀ k, k < w3.heap.size → k < (w3.alloc (.cells #[.slice A0 n0 q0, .slice A1 n1 q1, .slice A2 n2 q2, .slice A3 n3 q3, .slice A4 n4 q4, .slice Ap e.prev.length cp] 28)).heap.size := fun k hk => Nat.lt_of_lt_of_le hk f5.size
    have ow : OwQ (w3.alloc (.cells #[.slice A0 n0 q0, .slice A1 n1 q1, .slice A2 n2 q2, .slice A3 n3 q3, .slice A4 n4 q4, .slice Ap e.prev.length cp] 28)) B (.slice (some ⟨w3.heap.size, 0, none⟩) 6 6) [.slice A0 n0 q0, .slice A1 n1 q1, .slice A2 n2 q2, .slice A3 n3 q3, .slice A4 n4 q4, .slice Ap e.prev.length cp] e.said := by
      refine ⟨own_of_blk b5 hs rfl (by simp [maxLen]), rfl, fun j hj => ?_⟩
      have h6 : j < 6 := hj
      match j, h6 with
      | 0, _ => exact ⟨r0.fr f5 (fun _ _ _ h => h), fun _ k hk => ⟨hlt k (l0 k hk), fun e => by cases e; exact absurd (l0 _ hk) (Nat.lt_irrefl _)⟩⟩
      | 1, _ => exact ⟨r1.fr f5 (fun _ _ _ h => h), fun _ k hk => ⟨hlt k (l1 k hk), fun e => by cases e; exact absurd (l1 _ hk) (Nat.lt_irrefl _)⟩⟩
      | 2, _ => exact ⟨r2.fr f5 (fun _ _ _ h => h), fun _ k hk => ⟨hlt k (l2 k hk), fun e => by cases e; exact absurd (l2 _ hk) (Nat.lt_irrefl _)⟩⟩
      | 3, _ => exact ⟨r3.fr f5 (fun _ _ _ h => h), fun _ k hk => ⟨hlt k (l3 k hk), fun e => by cases e; exact absurd (l3 _ hk) (Nat.lt_irrefl _)⟩⟩
      | 4, _ => exact ⟨r4.fr f5 (fun _ _ _ h => h), fun _ k hk => ⟨hlt k (l4 k hk), fun e => by cases e; exact absurd (l4 _ hk) (Nat.lt_irrefl _)⟩⟩
      | 5, _ => exact ⟨hp3.fr f5 (fun _ _ _ h => h), fun hn k hk => ⟨hlt k (hp4 hn k hk), fun e => by cases e; exact absurd (hp4 hn _ hk) (Nat.lt_irrefl _)⟩⟩
    go_wp2_with fail
    go_ret
    exact ⟨_, _, rfl, ow, by first | exact hB6 | (rw [HB.out]; exact hB6)⟩

set_option maxHeartbeats 3000000 in
set_option maxRecDepth 100000 in
theorem rparts_any {w : World} (e : Ent) (vp vh : Value) (hp : Rd w vp e.prev) (h1 : e.who.size ≤ maxLen) (h2 : e.what.size ≤ maxLen) :
    Calls Tryd.prog 44 #[.agg #[.int .i64 e.no, .int .i64 e.time, .int .i64 e.code, .string e.who, .string e.what, vp, vh]] w fun en w' => ∃ v vals, en = .returned v ∧ OwQ w' w.heap.size v vals e.said ∧ Below w.heap.size w w' := by
  have hvl := hp.lt
  obtain ⟨Ap, cp, rfl⟩ := hp.slice
  have hb := Blk.new w #[.int .i64 e.no, .int .i64 e.time, .int .i64 e.code, .string e.who, .string e.what, .slice Ap e.prev.length cp, vh] 30
  have hB := (Below.refl w.heap.size w).alloc (Nat.le_refl _) (.cells #[.int .i64 e.no, .int .i64 e.time, .int .i64 e.code, .string e.who, .string e.what, .slice Ap e.prev.length cp, vh] 30)
  replace hp := hp.below hB
  have hs := hB.size
  generalize hb0 : w.heap.size = B at *
  have HB := Lib.hid hb0
  clear hb0
  go_enter Tryd.func44, Tryd.ntmps44
  go_upto_region 1 with fail
  rw [HB.out]
  generalize w.alloc (.cells #[.int .i64 e.no, .int .i64 e.time, .int .i64 e.code, .string e.who, .string e.what, .slice Ap e.prev.length cp, vh] 30) = w1 at *
  refine wp_region_pre (Fr (fun _ => False)) [(0, 0), (1, 1), (3, 0), (4, 1), (6, 0), (7, 1), (9, 0), (10, 1), (12, 0), (13, 1), (15, 0), (16, 1), (2, 2), (5, 2), (8, 2), (11, 2), (14, 2), (17, 2), (18, 2)] [(0, 0), (1, 1), (3, 0), (4, 1), (6, 0), (7, 1), (9, 0), (10, 1), (12, 0), (13, 1), (15, 0), (16, 1)] _ 7
    #[true, true, false, true, true, false, true, true, false, true, true, false, true, true, false, true, true, false, false] (by kernel_rfl) (by kernel_rfl) (by simp only [List.map_cons, List.map_nil, Array.getD_eq_getD_getElem?, List.getElem?_toArray, List.getElem?_cons_succ, List.getElem?_cons_zero, Option.getD_some]; rfl) rfl (by kernel_rfl) (fun _ _ d _ _ h => by cases d <;> exact h) (Fr.refl _) (fun _ _ _ => Fr.trans) ?_
  replace hp := hp.drew
  replace hb : Blk w1.drew B #[.int .i64 e.no, .int .i64 e.time, .int .i64 e.code, .string e.who, .string e.what, .slice Ap e.prev.length cp, vh] 30 := hb
  replace hB := hB.drew
  replace hs : B ≤ w1.drew.heap.size := hs
  generalize w1.drew = w2 at *
  have c0 := hb.cell 0
  have c1 := hb.cell 1
  have c2 := hb.cell 2
  have c3 := hb.cell 3
  have c4 := hb.cell 4
  have c5 := hb.cell 5
  simp only [List.getElem?_toArray, List.getElem?_cons_zero, List.getElem?_cons_succ] at c0 c1 c2 c3 c4 c5
  repeat (first | (refine wpF_f0 (fun K hK => ?_); go_simp; refine hK _ ?_; clear hK K) | (refine wpF_load1 rfl rfl rfl (by kernel_rfl) (by assumption) (by simp) (fun K hK => ?_); go_simp; refine hK _ ?_; clear hK K) | (refine wpF_loadN rfl rfl rfl (by assumption) (by assumption) (by kernel_rfl) (by kernel_rfl) (by simp) (fun K hK => ?_); go_simp; refine hK _ ?_; clear hK K))
  refine wpF_nil ?_
  refine wpAnyR_new (acts := [2, 5, 8, 11, 14]) (dst := fun i => i + 3) (G := saidG e) #[true, true, true, true, true, true, true, true, true, true, true, true, true, true, true, true, true, false, false] 2 5 (by kernel_rfl) (by kernel_rfl) (by kernel_rfl) (fun i v w w' h f => h.fr f) (fun _ _ h => h) ?_ ?_
  · intro i hi a w3 hA hF K hK
    simp only [List.mem_cons, List.mem_nil_iff, or_false] at hi
    rcases hi with rfl | rfl | rfl | rfl | rfl
    · refine wpOp_call (f := 54) (args := #[.int .i64 e.no]) rfl rfl rfl (by simp only [List.map_toArray, List.map_cons, List.map_nil]; rw [hA.eval (by decide)]; rfl) (by kernel_rfl) ((rwide_any e.no _ (z64_spec _)).mono ?_)
      rintro en w4 ⟨v, rfl, ho, hb4⟩
      exact ⟨v, rfl, hK v w4 (NewRd.of_own ho) (Fr.of_below hb4 _)⟩
    · refine wpOp_call (f := 54) (args := #[.int .i64 e.time]) rfl rfl rfl (by simp only [List.map_toArray, List.map_cons, List.map_nil]; rw [hA.eval (by decide)]; rfl) (by kernel_rfl) ((rwide_any e.time _ (z64_spec _)).mono ?_)
      rintro en w4 ⟨v, rfl, ho, hb4⟩
      exact ⟨v, rfl, hK v w4 (NewRd.of_own ho) (Fr.of_below hb4 _)⟩
    · refine wpOp_call (f := 54) (args := #[.int .i64 e.code]) rfl rfl rfl (by simp only [List.map_toArray, List.map_cons, List.map_nil]; rw [hA.eval (by decide)]; rfl) (by kernel_rfl) ((rwide_any e.code _ (z64_spec _)).mono ?_)
      rintro en w4 ⟨v, rfl, ho, hb4⟩
      exact ⟨v, rfl, hK v w4 (NewRd.of_own ho) (Fr.of_below hb4 _)⟩
    · obtain ⟨c, w4, hr, hrd, hb4, hlt⟩ := run_bytes (src := 9) (dst := 28) w3 e.who Tryd.underlying9 Tryd.underlying28 Tryd.underlying5 h1
      refine wpOp_value rfl rfl (exec_convert rfl (by rw [hA.eval (by decide)]; rfl) hr) ?_
      exact hK _ w4 ⟨hrd, fun k hk => (by cases hk; exact hlt), _, _, _, rfl⟩ (Fr.of_below hb4 _)
    · obtain ⟨c, w4, hr, hrd, hb4, hlt⟩ := run_bytes (src := 9) (dst := 28) w3 e.what Tryd.underlying9 Tryd.underlying28 Tryd.underlying5 h2
      refine wpOp_value rfl rfl (exec_convert rfl (by rw [hA.eval (by decide)]; rfl) hr) ?_
      exact hK _ w4 ⟨hrd, fun k hk => (by cases hk; exact hlt), _, _, _, rfl⟩ (Fr.of_below hb4 _)
  · intro val w3 hval hF
    have v0 := hval 2 (by simp)
    have v1 := hval 5 (by simp)
    have v2 := hval 8 (by simp)
    have v3 := hval 11 (by simp)
    have v4 := hval 14 (by simp)
    simp only [saidG] at v0 v1 v2 v3 v4
    clear hval
    replace v0 : NewRd w3 (val 5) (be8 (z64 e.no)) := v0
    replace v1 : NewRd w3 (val 8) (be8 (z64 e.time)) := v1
    replace v2 : NewRd w3 (val 11) (be8 (z64 e.code)) := v2
    replace v3 : NewRd w3 (val 14) (sb e.who) := v3
    replace v4 : NewRd w3 (val 17) (sb e.what) := v4
    have hp3 := hp.fr hF (fun _ _ _ h => h)
    replace hB := hB.trans (hF.below (B := B) hs (fun _ _ h => h))
    replace hs := Nat.le_trans hs hF.size
    clear hb c0 c1 c2 c3 c4 c5 hp
    simp only [List.map_cons, List.map_nil, List.foldl_cons, List.foldl_nil]
    generalize val (2 + 3) = x0 at *
    generalize val (5 + 3) = x1 at *
    generalize val (8 + 3) = x2 at *
    generalize val (11 + 3) = x3 at *
    generalize val (14 + 3) = x4 at *
    obtain ⟨r0, l0, A0, n0, q0, rfl⟩ := v0
    obtain ⟨r1, l1, A1, n1, q1, rfl⟩ := v1
    obtain ⟨r2, l2, A2, n2, q2, rfl⟩ := v2
    obtain ⟨r3, l3, A3, n3, q3, rfl⟩ := v3
    obtain ⟨r4, l4, A4, n4, q4, rfl⟩ := v4
    have hp4 := fun h => hp3.lt h
    refine wpAnyR_ready (rs := [17]) (by kernel_rfl) (by simp) ?_
    refine AllR.cons rfl (fun K hK => ?_) AllR.nil
    rw [if_pos (by rfl)]
    refine wp_value (exec_buildSlice (build6 A0 A1 A2 A3 A4 Ap n0 q0 n1 q1 n2 q2 n3 q3 n4 q4 e.prev.length cp w3) rfl (by simp [Act.eval, Act.put])) ?_
    have f5 : Fr (fun _ => False) w3 (w3.alloc (.cells #[.slice A0 n0 q0, .slice A1 n1 q1, .slice A2 n2 q2, .slice A3 n3 q3, .slice A4 n4 q4, .slice Ap e.prev.length cp] 28)) := (Fr.refl _ w3).alloc _
    have b5 := Blk.new w3 #[.slice A0 n0 q0, .slice A1 n1 q1, .slice A2 n2 q2, .slice A3 n3 q3, .slice A4 n4 q4, .slice Ap e.prev.length cp] 28
    refine hK _ _ (fun _ => f5) ?_
    clear hK K
    refine wpAnyR_ready (rs := [18]) (by kernel_rfl) (by simp) ?_
    refine AllR.cons rfl (fun K hK => ?_) AllR.nil
    rw [if_pos (by rfl)]
    go_simp
    refine hK _ _ (fun _ => Fr.refl _ _) ?_
    clear hK K
    refine wpAnyR_end (by kernel_rfl) ?_
    have hB6 := hB.trans (f5.below (B := B) hs (fun _ _ h => h))
    have hlt : ∀ k, k < w3.heap.size → k < (w3.alloc (.cells #[.slice A0 n0 q0, .slice A1 n1 q1, .slice A2 n2 q2, .slice A3 n3 q3, .slice A4 n4 q4, .slice Ap e.prev.length cp] 28)).heap.size := fun k hk => Nat.lt_of_lt_of_le hk f5.size
    have ow : OwQ (w3.alloc (.cells #[.slice A0 n0 q0, .slice A1 n1 q1, .slice A2 n2 q2, .slice A3 n3 q3, .slice A4 n4 q4, .slice Ap e.prev.length cp] 28)) B (.slice (some ⟨w3.heap.size, 0, none⟩) 6 6) [.slice A0 n0 q0, .slice A1 n1 q1, .slice A2 n2 q2, .slice A3 n3 q3, .slice A4 n4 q4, .slice Ap e.prev.length cp] e.said := by
      refine ⟨own_of_blk b5 hs rfl (by simp [maxLen]), rfl, fun j hj => ?_⟩
      have h6 : j < 6 := hj
      match j, h6 with
      | 0, _ => exact ⟨r0.fr f5 (fun _ _ _ h => h), fun _ k hk => ⟨hlt k (l0 k hk), fun e => by cases e; exact absurd (l0 _ hk) (Nat.lt_irrefl _)⟩⟩
      | 1, _ => exact ⟨r1.fr f5 (fun _ _ _ h => h), fun _ k hk => ⟨hlt k (l1 k hk), fun e => by cases e; exact absurd (l1 _ hk) (Nat.lt_irrefl _)⟩⟩
      | 2, _ => exact ⟨r2.fr f5 (fun _ _ _ h => h), fun _ k hk => ⟨hlt k (l2 k hk), fun e => by cases e; exact absurd (l2 _ hk) (Nat.lt_irrefl _)⟩⟩
      | 3, _ => exact ⟨r3.fr f5 (fun _ _ _ h => h), fun _ k hk => ⟨hlt k (l3 k hk), fun e => by cases e; exact absurd (l3 _ hk) (Nat.lt_irrefl _)⟩⟩
      | 4, _ => exact ⟨r4.fr f5 (fun _ _ _ h => h), fun _ k hk => ⟨hlt k (l4 k hk), fun e => by cases e; exact absurd (l4 _ hk) (Nat.lt_irrefl _)⟩⟩
      | 5, _ => exact ⟨hp3.fr f5 (fun _ _ _ h => h), fun hn k hk => ⟨hlt k (hp4 hn k hk), fun e => by cases e; exact absurd (hp4 hn _ hk) (Nat.lt_irrefl _)⟩⟩
    go_wp2_with fail
    go_ret
    exact ⟨_, _, rfl, ow, by first | exact hB6 | (rw [HB.out]; exact hB6)⟩

end Go.Proofs.YthocpbkgcpgpdaaDoor
namespace Go.Proofs.YthocpbkgcpgpdaaDoor
open Go.RowKit

/-- A short entry. -/
structure ShE (e : Ent) : Prop where
  who : e.who.size ≤ 1000
  what : e.what.size ≤ 1000
  prev : e.prev.length ≤ 100
  hash : e.hash.length ≤ 100
theorem ShE.who' {e : Ent} (h : ShE e) : e.who.size ≤ maxLen := by have := h.who; simp only [maxLen]; omega
theorem ShE.what' {e : Ent} (h : ShE e) : e.what.size ≤ maxLen := by have := h.what; simp only [maxLen]; omega
theorem sb_length (s : ByteArray) : (sb s).length = s.size := Array.length_toList
theorem ShE.parts {e : Ent} (h : ShE e) : ∀ p ∈ e.said, p.length < 1000000 := by
  intro p hp
  have h1 := h.who
  have h2 := h.what
  have h3 := h.prev
  simp only [Ent.said, List.mem_cons, List.mem_nil_iff, or_false] at hp
  rcases hp with rfl | rfl | rfl | rfl | rfl | rfl
  · show 8 < _; omega
  · show 8 < _; omega
  · show 8 < _; omega
  · rw [sb_length]; omega
  · rw [sb_length]; omega
  · omega
theorem encK_bd (ls : List (List UInt8)) (M : Nat) (h : ∀ p ∈ ls, p.length ≤ M) : (encK ls).length ≤ ls.length * (2 * M + 2) := by
  induction ls with
  | nil => simp [encK]
  | cons p ls ih =>
    show (esc p ++ [0, 1] ++ encK ls).length ≤ _
    have h1 := h p (List.mem_cons_self ..)
    have h2 := ih (fun q hq => h q (List.mem_cons_of_mem _ hq))
    have h3 : p.count 0 ≤ p.length := List.count_le_length
    simp only [List.length_append, esc_length, List.length_cons, List.length_nil]
    rw [Nat.add_mul]
    omega
theorem ShE.le {e : Ent} (h : ShE e) : ∀ p ∈ e.said ++ [e.hash], p.length ≤ 1000 := by
  intro p hp
  have h1 := h.who
  have h2 := h.what
  have h3 := h.prev
  have h4 := h.hash
  simp only [Ent.said, List.mem_append, List.mem_cons, List.mem_nil_iff, or_false] at hp
  rcases hp with (rfl | rfl | rfl | rfl | rfl | rfl) | rfl
  · show 8 ≤ _; omega
  · show 8 ≤ _; omega
  · show 8 ≤ _; omega
  · rw [sb_length]; omega
  · rw [sb_length]; omega
  · omega
  · omega
theorem ShE.encs {e : Ent} (h : ShE e) : (encK e.said).length ≤ 12012 := by
  have h1 := encK_bd e.said 1000 (fun p hp => h.le p (List.mem_append_left _ hp))
  have h2 : e.said.length = 6 := rfl
  rw [h2] at h1
  omega
theorem ShE.encl {e : Ent} (h : ShE e) : (encK e.said).length < 100000000 := Nat.lt_of_le_of_lt h.encs (by omega)
set_option maxHeartbeats 1000000 in
theorem body_any {w : World} (e : Ent) (vp vh : Value) (hp : Rd w vp e.prev) (hS : ShE e) :
    Calls Tryd.prog 29 #[.agg #[.int .i64 e.no, .int .i64 e.time, .int .i64 e.code, .string e.who, .string e.what, vp, vh]] w fun en w' => ∃ v, en = .returned v ∧ w'.ownsRow w.heap.size 5 1 v (encK e.said).length (bts (encK e.said)) ∧ Below w.heap.size w w' := by
  obtain ⟨Ap, cp, rfl⟩ := hp.slice
  have hb := Blk.new w #[.int .i64 e.no, .int .i64 e.time, .int .i64 e.code, .string e.who, .string e.what, .slice Ap e.prev.length cp, vh] 30
  have hB := (Below.refl w.heap.size w).alloc (Nat.le_refl _) (.cells #[.int .i64 e.no, .int .i64 e.time, .int .i64 e.code, .string e.who, .string e.what, .slice Ap e.prev.length cp, vh] 30)
  replace hp := hp.below hB
  have hs := hB.size
  generalize hb0 : w.heap.size = B at *
  have HB := Lib.hid hb0
  clear hb0
  go_enter Tryd.func29, Tryd.ntmps29
  go_upto_region 1 with fail
  rw [HB.out]
  generalize w.alloc (.cells #[.int .i64 e.no, .int .i64 e.time, .int .i64 e.code, .string e.who, .string e.what, .slice Ap e.prev.length cp, vh] 30) = w1 at *
  have hra : w1.rangeAt B 0 [.int .i64 e.no, .int .i64 e.time, .int .i64 e.code, .string e.who, .string e.what, .slice Ap e.prev.length cp, vh] := hb.range' 0 _ (fun j v hv => by rw [Nat.zero_add]; simpa using hv)
  have hl7 : ([.int .i64 e.no, .int .i64 e.time, .int .i64 e.code, .string e.who, .string e.what, .slice Ap e.prev.length cp, vh] : List Value).length = 7 := rfl
  go_wp2_with ((refine wpList_loadN rfl rfl rfl (by assumption) (by assumption) (by kernel_rfl) (by kernel_rfl) ?_))
  refine (said_any e _ vh hp (hS.who') (hS.what')).mono ?_
  rintro en w2 ⟨v2, vals, rfl, ow, hb2⟩
  replace hB := hB.trans (hb2.mono hs)
  replace hs := Nat.le_trans hs hb2.size
  go_wp2_with fail
  refine (encode_any v2 e.said ow.rdl hS.parts hS.encl).mono ?_
  rintro en w3 ⟨v3, rfl, o3, hb3⟩
  replace hB := hB.trans (hb3.mono hs)
  replace o3 := own_base o3 hs
  go_wp2_with fail
  go_ret
  exact ⟨_, rfl, o3, by first | exact hB | (rw [HB.out]; exact hB)⟩

set_option maxHeartbeats 1000000 in
theorem rbody_any {w : World} (e : Ent) (vp vh : Value) (hp : Rd w vp e.prev) (hS : ShE e) :
    Calls Tryd.prog 30 #[.agg #[.int .i64 e.no, .int .i64 e.time, .int .i64 e.code, .string e.who, .string e.what, vp, vh]] w fun en w' => ∃ v, en = .returned v ∧ w'.ownsRow w.heap.size 5 1 v (encK e.said).length (bts (encK e.said)) ∧ Below w.heap.size w w' := by
  obtain ⟨Ap, cp, rfl⟩ := hp.slice
  have hb := Blk.new w #[.int .i64 e.no, .int .i64 e.time, .int .i64 e.code, .string e.who, .string e.what, .slice Ap e.prev.length cp, vh] 30
  have hB := (Below.refl w.heap.size w).alloc (Nat.le_refl _) (.cells #[.int .i64 e.no, .int .i64 e.time, .int .i64 e.code, .string e.who, .string e.what, .slice Ap e.prev.length cp, vh] 30)
  replace hp := hp.below hB
  have hs := hB.size
  generalize hb0 : w.heap.size = B at *
  have HB := Lib.hid hb0
  clear hb0
  go_enter Tryd.func30, Tryd.ntmps30
  go_upto_region 1 with fail
  rw [HB.out]
  generalize w.alloc (.cells #[.int .i64 e.no, .int .i64 e.time, .int .i64 e.code, .string e.who, .string e.what, .slice Ap e.prev.length cp, vh] 30) = w1 at *
  have hra : w1.rangeAt B 0 [.int .i64 e.no, .int .i64 e.time, .int .i64 e.code, .string e.who, .string e.what, .slice Ap e.prev.length cp, vh] := hb.range' 0 _ (fun j v hv => by rw [Nat.zero_add]; simpa using hv)
  have hl7 : ([.int .i64 e.no, .int .i64 e.time, .int .i64 e.code, .string e.who, .string e.what, .slice Ap e.prev.length cp, vh] : List Value).length = 7 := rfl
  go_wp2_with ((refine wpList_loadN rfl rfl rfl (by assumption) (by assumption) (by kernel_rfl) (by kernel_rfl) ?_))
  refine (rparts_any e _ vh hp (hS.who') (hS.what')).mono ?_
  rintro en w2 ⟨v2, vals, rfl, ow, hb2⟩
  replace hB := hB.trans (hb2.mono hs)
  replace hs := Nat.le_trans hs hb2.size
  go_wp2_with fail
  refine (rencode_any v2 e.said ow.rdl hS.encl).mono ?_
  rintro en w3 ⟨v3, rfl, o3, hb3⟩
  replace hB := hB.trans (hb3.mono hs)
  replace o3 := own_base o3 hs
  go_wp2_with fail
  go_ret
  exact ⟨_, rfl, o3, by first | exact hB | (rw [HB.out]; exact hB)⟩

end Go.Proofs.YthocpbkgcpgpdaaDoor
namespace Go.Proofs.YthocpbkgcpgpdaaDoor
open Go.RowKit

def zero32 : List UInt8 := List.replicate 32 0
theorem mk32 (w : World) : (Instr.makeSlice 28 (.int .i64 32) (.int .i64 32)).run Tryd.prog w = .ok (.slice (some ⟨w.heap.size, 0, none⟩) 32 32) (w.alloc (.cells (bts zero32).toArray 5)) := by kernel_rfl
set_option maxRecDepth 100000 in
theorem zero_any (w : World) : Calls Tryd.prog 18 #[] w fun en w' => ∃ v, en = .returned v ∧ w'.ownsRow w.heap.size 5 1 v 32 (bts zero32) ∧ Below w.heap.size w w' := by
  go_enter Tryd.func18, Tryd.ntmps18
  go_wp2_with (refine wpList_value rfl (Sha.exec_makeSlice rfl rfl rfl (mk32 _)) ?_)
  go_ret
  exact ⟨_, rfl, own_of_blk (Blk.new w (bts zero32).toArray 5) (Nat.le_refl _) rfl (by simp [maxLen]), (Below.refl w.heap.size w).alloc (Nat.le_refl _) _⟩

set_option maxRecDepth 100000 in
theorem rzero_any (w : World) : Calls Tryd.prog 19 #[] w fun en w' => ∃ v, en = .returned v ∧ w'.ownsRow w.heap.size 5 1 v 32 (bts zero32) ∧ Below w.heap.size w w' := by
  go_enter Tryd.func19, Tryd.ntmps19
  go_wp2_with (refine wpList_value rfl (Sha.exec_makeSlice rfl rfl rfl (mk32 _)) ?_)
  go_ret
  exact ⟨_, rfl, own_of_blk (Blk.new w (bts zero32).toArray 5) (Nat.le_refl _) rfl (by simp [maxLen]), (Below.refl w.heap.size w).alloc (Nat.le_refl _) _⟩


def RdE (w : World) (cs : List Value) (e : Ent) : Prop := ∃ vp vh, cs = [.int .i64 e.no, .int .i64 e.time, .int .i64 e.code, .string e.who, .string e.what, vp, vh] ∧ Rd w vp e.prev ∧ Rd w vh e.hash ∧ ∀ n c, vh = .slice none n c → n = 0 ∧ c = 0
def RdEs (w : World) (v : Value) (es : List Ent) : Prop := RdA 7 RdE w v es
theorem RdE.below {w w' : World} {cs : List Value} {e : Ent} (h : RdE w cs e) (f : Below w.heap.size w w') : RdE w' cs e := by
  obtain ⟨vp, vh, rfl, h1, h2, h3⟩ := h
  exact ⟨vp, vh, rfl, h1.below f, h2.below f, h3⟩
theorem RdEs.below {w w' : World} {v : Value} {es : List Ent} (h : RdEs w v es) (f : Below w.heap.size w w') : RdEs w' v es := RdA.below h f (fun _ _ h => h.below f)
theorem RdEs.slice {w : World} {v : Value} {es : List Ent} (h : RdEs w v es) : ∃ A c, v = .slice A es.length c := RdA.slice h
theorem RdEs.max {w : World} {v : Value} {es : List Ent} (h : RdEs w v es) : (es.length : Int) ≤ 9223372036854775807 := RdA.max h
theorem RdEs.at {w : World} {A : Option Addr} {m c : Nat} {es : List Ent} (h : RdEs w (.slice A m c) es) {j : Nat} (hj : j < es.length) :
    ∃ b o cs, A = some ⟨b, o, none⟩ ∧ cs.length = 7 ∧ w.rangeAt b (o + j * 7) cs ∧ RdE w cs es[j] := RdA.at h hj
def headN (es : List Ent) : List UInt8 := match es.getLast? with
  | none => zero32
  | some e => e.hash
set_option maxHeartbeats 1000000 in
set_option maxRecDepth 100000 in
theorem head_any {w : World} (v : Value) (es : List Ent) (hv : RdEs w v es) (hh : (headN es).length ≤ 100) :
    Calls Tryd.prog 16 #[v] w fun en w' => ∃ v, en = .returned v ∧ w'.ownsRow w.heap.size 5 1 v (headN es).length (bts (headN es)) ∧ Below w.heap.size w w' := by
  obtain ⟨A, c, rfl⟩ := hv.slice
  have hmx := hv.max
  go_enter Tryd.func16, Tryd.ntmps16
  rcases Nat.eq_zero_or_pos es.length with h0 | h0
  · have hz : ((es.length : Int) == 0) = true := by rw [h0]; rfl
    have he : es = [] := List.eq_nil_of_length_eq_zero h0
    subst he
    clear hmx h0
    go_wp2_with (go_at_call 18; refine (zero_any w).mono ?_; rintro en w1 ⟨v1, rfl, o1, hb1⟩)
    go_ret
    exact ⟨_, rfl, o1, hb1⟩
  · have hz : ((es.length : Int) == 0) = false := by rw [beq_eq_false_iff_ne]; omega
    obtain ⟨b, o, cs, rfl, hl7, hra, vp, vh, rfl, hp, hq, hn⟩ := hv.at (j := es.length - 1) (by omega)
    have c6 := hra 6 _ rfl
    have hhd : headN es = (es[es.length - 1]'(by omega)).hash := by
      rw [headN, List.getLast?_eq_getElem?, List.getElem?_eq_getElem (by omega)]
    have ha1 : ((es.length : Int) - 1) = ((es.length - 1 : Nat) : Int) := by omega
    have ha2 : IntKind.i64.wrap ((es.length : Int) - 1) = ((es.length - 1 : Nat) : Int) := by rw [IntKind.wrap_i64]; omega
    have hlt : ((es.length - 1 : Nat) : Int) < (es.length : Int) := by omega
    have hge : (0 : Int) ≤ ((es.length - 1 : Nat) : Int) := by omega
    rw [← hhd] at hq
    have HL := Lib.hid (show es.length - 1 < es.length by omega)
    clear hl7 hra hp hhd
    go_wp2_with fail
    refine (clone_any _ _ hq hn (by omega)).mono ?_; rintro en w1 ⟨v1, rfl, o1, hb1⟩; go_wp2_with fail; go_ret; exact ⟨_, rfl, o1, hb1⟩

set_option maxHeartbeats 1000000 in
set_option maxRecDepth 100000 in
theorem rhead_any {w : World} (v : Value) (es : List Ent) (hv : RdEs w v es) (hh : (headN es).length ≤ 100) :
    Calls Tryd.prog 17 #[v] w fun en w' => ∃ v, en = .returned v ∧ Rd w' v (headN es) ∧ Below w.heap.size w w' := by
  obtain ⟨A, c, rfl⟩ := hv.slice
  have hmx := hv.max
  go_enter Tryd.func17, Tryd.ntmps17
  rcases Nat.eq_zero_or_pos es.length with h0 | h0
  · have hz : ((es.length : Int) == 0) = true := by rw [h0]; rfl
    have he : es = [] := List.eq_nil_of_length_eq_zero h0
    subst he
    clear hmx h0
    go_wp2_with (go_at_call 19; refine (rzero_any w).mono ?_; rintro en w1 ⟨v1, rfl, o1, hb1⟩)
    go_ret
    exact ⟨_, rfl, Rd.of_own o1, hb1⟩
  · have hz : ((es.length : Int) == 0) = false := by rw [beq_eq_false_iff_ne]; omega
    obtain ⟨b, o, cs, rfl, hl7, hra, vp, vh, rfl, hp, hq, hn⟩ := hv.at (j := es.length - 1) (by omega)
    have c6 := hra 6 _ rfl
    have hhd : headN es = (es[es.length - 1]'(by omega)).hash := by
      rw [headN, List.getLast?_eq_getElem?, List.getElem?_eq_getElem (by omega)]
    have ha1 : ((es.length : Int) - 1) = ((es.length - 1 : Nat) : Int) := by omega
    have ha2 : IntKind.i64.wrap ((es.length : Int) - 1) = ((es.length - 1 : Nat) : Int) := by rw [IntKind.wrap_i64]; omega
    have hlt : ((es.length - 1 : Nat) : Int) < (es.length : Int) := by omega
    have hge : (0 : Int) ≤ ((es.length - 1 : Nat) : Int) := by omega
    rw [← hhd] at hq
    have HL := Lib.hid (show es.length - 1 < es.length by omega)
    clear hl7 hra hp hhd
    go_wp2_with fail
    go_ret; exact ⟨_, rfl, hq, Below.refl _ _⟩

end Go.Proofs.YthocpbkgcpgpdaaDoor
namespace Go.Proofs.YthocpbkgcpgpdaaDoor
open Go.RowKit

theorem digest_length (m : List UInt8) : (Sha.digest m).length = 32 := by rw [Sha.digest, Sha.bytesN_length]
def nextN (es : List Ent) (t c : Int) (who what : ByteArray) : Ent :=
  ⟨es.length, t, c, who, what, headN es, Sha.digest (encK [be8 (z64 es.length), be8 (z64 t), be8 (z64 c), sb who, sb what, headN es])⟩
theorem buildE (n t c : Int) (who what : ByteArray) (A : Option Addr) (l ca : Nat) (w : World) : (Instr.build 30 #[(0, .int .i64 n), (1, .int .i64 t), (2, .int .i64 c), (3, .string who), (4, .string what), (5, .slice A l ca)]).run Tryd.prog w =
    .ok (.agg #[.int .i64 n, .int .i64 t, .int .i64 c, .string who, .string what, .slice A l ca, .slice none 0 0]) w := by kernel_rfl
/-- An entry of its own. -/
def NextP (B : Nat) (w : World) (E : Ent) (en : Ending) (w' : World) : Prop := ∃ vp vh n m, en = .returned (.agg #[.int .i64 E.no, .int .i64 E.time, .int .i64 E.code, .string E.who, .string E.what, vp, vh]) ∧
  w'.ownsRow B 5 1 vp n (bts E.prev) ∧ w'.ownsRow B 5 1 vh m (bts E.hash) ∧ Below B w w'
theorem own_set3 {w : World} {base : Nat} {e : TypeId} {size n : Nat} {v : Value} {xs vs : List Value} {b : Nat} {cs : Array Value} {t : TypeId} (h : w.ownsRow base e size v n xs) (hb : Blk w b cs t) (ht : e ≠ t := by decide) : (w.setCells b 0 vs).ownsRow base e size v n xs :=
  own_fr h ((Fr.refl (fun i => i = b) w).setCells vs 0 (fun _ => rfl)) (fun _ hk e => own_blk_ne h hb ht (by rw [hk, e]))
theorem results_cellN {P : Program} {fn : Func} {p : Tmp} {ty : TypeId} (h : fn.results = #[.cell p ty]) (tmps : Array Value) {w : World} {g : Nat} {t : TypeId} {cs : Array Value}
    (hp : tmps.getD p undef = .pointer (some ⟨g, 0, none⟩)) (hg : Blk w g cs t)
    (hu : (P.underlying ty).map TypeDesc.isRow = some true) (hi : (P.info? ty).map (·.size) = some cs.size) :
    (results fn tmps).run P w = .ok (.agg cs) w := by
  obtain ⟨d, hd, hd2⟩ := Option.map_eq_some_iff.1 hu
  have hp' : tmps[p]?.getD undef = .pointer (some ⟨g, 0, none⟩) := by simpa using hp
  have hr := run_loadVar_row (P := P) w g t ty cs (0, 0) d hg hd (by cases d <;> simp_all [TypeDesc.isRow]) hi
  simp [results, h, hp', asAddr, hr]
set_option maxHeartbeats 3000000 in
set_option maxRecDepth 100000 in
theorem next_any {w : World} (v : Value) (es : List Ent) (t c : Int) (who what : ByteArray) (hv : RdEs w v es) (hh : (headN es).length ≤ 100) (hwho : who.size ≤ 1000) (hwhat : what.size ≤ 1000) :
    Calls Tryd.prog 14 #[v, .int .i64 t, .int .i64 c, .string who, .string what] w (NextP w.heap.size w (nextN es t c who what)) := by
  obtain ⟨A, ca, rfl⟩ := hv.slice
  have hmx := hv.max
  obtain ⟨E, hE⟩ : ∃ E, E = nextN es t c who what := ⟨_, rfl⟩
  have hS : ShE E := by
    rw [hE]
    exact ⟨hwho, hwhat, hh, by show (Sha.digest _).length ≤ 100; rw [digest_length]; omega⟩
  have hno : E.no = es.length := by rw [hE]; rfl
  have htm : E.time = t := by rw [hE]; rfl
  have hco : E.code = c := by rw [hE]; rfl
  have hwo : E.who = who := by rw [hE]; rfl
  have hwa : E.what = what := by rw [hE]; rfl
  have hpr : E.prev = headN es := by rw [hE]; rfl
  have hha : E.hash = Sha.digest (encK E.said) := by rw [hE]; rfl
  rw [← hE]
  have HE := Lib.hid (show _ ∧ _ ∧ _ ∧ _ ∧ _ ∧ _ ∧ _ from ⟨hno, htm, hco, hwo, hwa, hpr, hha⟩)
  clear hE hno htm hco hwo hwa hpr hha
  have hb2 := Blk.new w #[.int .i64 0, .int .i64 0, .int .i64 0, .string ⟨#[]⟩, .string ⟨#[]⟩, .slice none 0 0, .slice none 0 0] 30
  have hB := (Below.refl w.heap.size w).alloc (Nat.le_refl _) (.cells #[.int .i64 0, .int .i64 0, .int .i64 0, .string ⟨#[]⟩, .string ⟨#[]⟩, .slice none 0 0, .slice none 0 0] 30)
  replace hv := hv.below hB
  have hs := hB.size
  generalize hb0 : w.heap.size = B at *
  have HB := Lib.hid hb0
  go_enter Tryd.func14, Tryd.ntmps14
  go_upto_region 1 with (refine wpList_allocZ rfl rfl (zs := #[.int .i64 0, .int .i64 0, .int .i64 0, .string ⟨#[]⟩, .string ⟨#[]⟩, .slice none 0 0, .slice none 0 0]) (by kernel_rfl) ?_; rw [hb0]; generalize w.alloc (.cells #[.int .i64 0, .int .i64 0, .int .i64 0, .string ⟨#[]⟩, .string ⟨#[]⟩, .slice none 0 0, .slice none 0 0] 30) = w1 at *)
  clear hb0
  have hgB : B < w1.heap.size := hb2.lt
  go_wp2_with fail
  refine (head_any _ es hv hh).mono ?_
  rintro en w3 ⟨vp, rfl, o3, hb22⟩; obtain ⟨N, hNN⟩ : ∃ N, N = (headN es).length := ⟨_, rfl⟩; rw [← hNN] at o3; clear hNN; skip; replace hb2 := hb2.fr (Fr.of_below hb22 (fun _ => False)) (fun h => h); skip; replace hB := hB.trans (hb22.mono hs); replace hs := Nat.le_trans hs hb22.size; clear hb22 hv hmx; replace o3 := own_base o3 (Nat.le_of_lt hgB); obtain ⟨Ap, cp, rfl⟩ := own_form o3
  go_upto_region 2 with (first
    
    | (refine wpList_value rfl (exec_build (buildE es.length t c who what Ap N cp w3) rfl (by simp [Act.eval, Act.put])) ?_)
    | (refine wpList_newN (n := 7) (cs := [.int .i64 es.length, .int .i64 t, .int .i64 c, .string who, .string what, .slice Ap N cp, .slice none 0 0]) rfl rfl rfl rfl rfl rfl rfl (by simp) (by simp [Act.put]) rfl (by kernel_rfl) (by simp [Value.oneCell']) ?_))
  have b4 := Blk.new w3 #[.int .i64 es.length, .int .i64 t, .int .i64 c, .string who, .string what, .slice Ap N cp, .slice none 0 0] 30
  have f4 := (Below.refl w3.heap.size w3).alloc (Nat.le_refl _) (.cells #[.int .i64 es.length, .int .i64 t, .int .i64 c, .string who, .string what, .slice Ap N cp, .slice none 0 0] 30)
  have hg4 : B < w3.heap.size := hb2.lt
  skip; replace hb2 := hb2.fr (Fr.of_below f4 (fun _ => False)) (fun h => h); replace o3 := own_fr o3 (Fr.of_below f4 (fun _ => False)) (fun _ _ h => h); replace hB := hB.trans (f4.mono hs); replace hs := Nat.le_trans hs f4.size
  clear f4
  show Code.wp _ _ _ _ (w3.alloc (.cells #[.int .i64 es.length, .int .i64 t, .int .i64 c, .string who, .string what, .slice Ap N cp, .slice none 0 0] 30))
  generalize w3.alloc (.cells #[.int .i64 es.length, .int .i64 t, .int .i64 c, .string who, .string what, .slice Ap N cp, .slice none 0 0] 30) = w4 at *
  generalize w3.heap.size = g4 at *
  have hra : w4.rangeAt g4 0 [.int .i64 es.length, .int .i64 t, .int .i64 c, .string who, .string what, .slice Ap N cp, .slice none 0 0] := b4.range' 0 _ (fun j v hv => by rw [Nat.zero_add]; simpa using hv)
  have hl7 : ([.int .i64 es.length, .int .i64 t, .int .i64 c, .string who, .string what, .slice Ap N cp, .slice none 0 0] : List Value).length = 7 := rfl
  have hbd := body_any (w := w4) E (.slice Ap N cp) (.slice none 0 0) (by rw [HE.out.2.2.2.2.2.1]; exact Rd.of_own o3) hS
  rw [HE.out.1, HE.out.2.1, HE.out.2.2.1, HE.out.2.2.2.1, HE.out.2.2.2.2.1] at hbd
  go_wp2_with ((refine wpList_loadN rfl rfl rfl (by assumption) (by assumption) (by kernel_rfl) (by kernel_rfl) ?_))
  refine hbd.mono ?_
  rintro en w5 ⟨v5, rfl, o5, hb5⟩
  skip; replace hb2 := hb2.fr (Fr.of_below hb5 (fun _ => False)) (fun h => h); replace b4 := b4.fr (Fr.of_below hb5 (fun _ => False)) (fun h => h); replace o3 := own_fr o3 (Fr.of_below hb5 (fun _ => False)) (fun _ _ h => h); replace hB := hB.trans (hb5.mono hs); replace hs := Nat.le_trans hs hb5.size
  clear hb5 hbd hra
  go_wp2_with fail
  refine (Sha.shasum_any v5 _ (Rd.of_own o5) (Nat.lt_trans hS.encl (by omega))).mono ?_
  rintro en w6 ⟨v6, rfl, o6, hb6⟩
  replace o6 := own_base o6 hs
  skip; replace hb2 := hb2.fr (Fr.of_below hb6 (fun _ => False)) (fun h => h); replace b4 := b4.fr (Fr.of_below hb6 (fun _ => False)) (fun h => h); replace o3 := own_fr o3 (Fr.of_below hb6 (fun _ => False)) (fun _ _ h => h); replace hB := hB.trans (hb6.mono hs); replace hs := Nat.le_trans hs hb6.size
  clear hb6 o5
  obtain ⟨A6, c6, rfl⟩ := own_form o6
  have z6 := b4.cell 6
  simp only [List.getElem?_toArray, List.getElem?_cons_zero, List.getElem?_cons_succ] at z6
  have fz := b4.frozen 6
  go_upto_region 3 with fail
  replace o3 := own_set o3 b4 (by decide) 6 (.slice A6 32 c6)
  replace o6 := own_set o6 b4 (by decide) 6 (.slice A6 32 c6)
  have f7 : Fr (fun j => j = g4) w6 (w6.setCell ⟨g4, 6, none⟩ (.slice A6 32 c6)) := (Fr.refl (fun j => j = g4) w6).setCell (p := ⟨g4, 6, none⟩) (fun _ => rfl) _
  replace b4 := b4.set 6 (.slice A6 32 c6)
  replace hb2 := hb2.far (p := ⟨g4, 6, none⟩) (show B ≠ g4 by omega) (.slice A6 32 c6)
  replace hB := hB.trans (f7.below (B := B) hs (fun k hk (e : k = g4) => by omega))
  replace hs := Nat.le_trans hs f7.size
  clear f7 z6 fz
  generalize w6.setCell ⟨g4, 6, none⟩ (.slice A6 32 c6) = w7 at *
  replace b4 : Blk w7 g4 #[.int .i64 es.length, .int .i64 t, .int .i64 c, .string who, .string what, .slice Ap N cp, .slice A6 32 c6] 30 := b4
  go_wp2_with (first
    | (refine wpList_loadN (n := 7) rfl rfl rfl (b4.range' 0 [.int .i64 es.length, .int .i64 t, .int .i64 c, .string who, .string what, .slice Ap N cp, .slice A6 32 c6] (fun j v hv => by rw [Nat.zero_add]; simpa using hv)) rfl (by kernel_rfl) (by kernel_rfl) ?_)
    | (refine wpList_storeN (n := 7) (cs := [.int .i64 es.length, .int .i64 t, .int .i64 c, .string who, .string what, .slice Ap N cp, .slice A6 32 c6]) rfl rfl rfl rfl rfl (hb2.there 0 7 (by simp)) (by kernel_rfl) (by simp [Value.oneCell']) ?_))
  refine bodyPost_ret (results_cellN rfl _ (by rfl) (hb2.setCells [.int .i64 es.length, .int .i64 t, .int .i64 c, .string who, .string what, .slice Ap N cp, .slice A6 32 c6] 0 (by simp)) (by kernel_rfl) (by rfl)) rfl ?_
  refine ⟨.slice Ap N cp, .slice A6 32 c6, N, 32, ?_, ?_, ?_, (hB.trans (((Fr.refl (fun i => i = B) w7).setCells _ 0 (fun _ => rfl)).below (B := B) hs (fun k hk e => by omega)))⟩
  · rw [HE.out.1, HE.out.2.1, HE.out.2.2.1, HE.out.2.2.2.1, HE.out.2.2.2.2.1]; rfl
  · rw [HE.out.2.2.2.2.2.1]; exact own_set3 o3 hb2
  · rw [HE.out.2.2.2.2.2.2]; exact own_set3 o6 hb2

set_option maxHeartbeats 3000000 in
set_option maxRecDepth 100000 in
theorem rnext_any {w : World} (v : Value) (es : List Ent) (t c : Int) (who what : ByteArray) (hv : RdEs w v es) (hh : (headN es).length ≤ 100) (hwho : who.size ≤ 1000) (hwhat : what.size ≤ 1000) :
    Calls Tryd.prog 15 #[v, .int .i64 t, .int .i64 c, .string who, .string what] w (NextP w.heap.size w (nextN es t c who what)) := by
  obtain ⟨A, ca, rfl⟩ := hv.slice
  have hmx := hv.max
  obtain ⟨E, hE⟩ : ∃ E, E = nextN es t c who what := ⟨_, rfl⟩
  have hS : ShE E := by
    rw [hE]
    exact ⟨hwho, hwhat, hh, by show (Sha.digest _).length ≤ 100; rw [digest_length]; omega⟩
  have hno : E.no = es.length := by rw [hE]; rfl
  have htm : E.time = t := by rw [hE]; rfl
  have hco : E.code = c := by rw [hE]; rfl
  have hwo : E.who = who := by rw [hE]; rfl
  have hwa : E.what = what := by rw [hE]; rfl
  have hpr : E.prev = headN es := by rw [hE]; rfl
  have hha : E.hash = Sha.digest (encK E.said) := by rw [hE]; rfl
  rw [← hE]
  have HE := Lib.hid (show _ ∧ _ ∧ _ ∧ _ ∧ _ ∧ _ ∧ _ from ⟨hno, htm, hco, hwo, hwa, hpr, hha⟩)
  clear hE hno htm hco hwo hwa hpr hha
  have hb2 := Blk.new w #[.int .i64 0, .int .i64 0, .int .i64 0, .string ⟨#[]⟩, .string ⟨#[]⟩, .slice none 0 0, .slice none 0 0] 30
  have hB := (Below.refl w.heap.size w).alloc (Nat.le_refl _) (.cells #[.int .i64 0, .int .i64 0, .int .i64 0, .string ⟨#[]⟩, .string ⟨#[]⟩, .slice none 0 0, .slice none 0 0] 30)
  replace hv := hv.below hB
  have hs := hB.size
  generalize hb0 : w.heap.size = B at *
  have HB := Lib.hid hb0
  go_enter Tryd.func15, Tryd.ntmps15
  go_upto_region 1 with (refine wpList_allocZ rfl rfl (zs := #[.int .i64 0, .int .i64 0, .int .i64 0, .string ⟨#[]⟩, .string ⟨#[]⟩, .slice none 0 0, .slice none 0 0]) (by kernel_rfl) ?_; rw [hb0]; generalize w.alloc (.cells #[.int .i64 0, .int .i64 0, .int .i64 0, .string ⟨#[]⟩, .string ⟨#[]⟩, .slice none 0 0, .slice none 0 0] 30) = w1 at *)
  clear hb0
  have hgB : B < w1.heap.size := hb2.lt
  go_wp2_with fail
  refine (rhead_any _ es hv hh).mono ?_
  rintro en w2 ⟨vp, rfl, rp, hb22⟩; obtain ⟨N, hNN⟩ : ∃ N, N = (headN es).length := ⟨_, rfl⟩; have HNN := Lib.hid hNN; clear hNN; skip; replace hb2 := hb2.fr (Fr.of_below hb22 (fun _ => False)) (fun h => h); skip; replace hB := hB.trans (hb22.mono hs); replace hs := Nat.le_trans hs hb22.size; clear hb22 hv hmx
  go_upto_region 2 with (first
    | (refine wpList_appRd (base := B) (l := []) (n := 0) rfl rfl Tryd.underlying28 infoByte rfl rfl rfl (World.ownsRow_nil _ _ _ _) rp (by omega) hs (fun v3 w3 o3 g3 _ => ?_); rw [List.nil_append, Nat.zero_add, ← HNN.out] at o3; replace hb2 := hb2.fr g3 (fun e => by cases e); replace hB := hB.trans (g3.below (B := B) hs (fun k _ e => by cases e)); replace hs := Nat.le_trans hs g3.size; clear g3 rp; obtain ⟨Ap, cp, rfl⟩ := own_form o3)
    | (refine wpList_value rfl (exec_build (buildE es.length t c who what Ap N cp w3) rfl (by simp [Act.eval, Act.put])) ?_)
    | (refine wpList_newN (n := 7) (cs := [.int .i64 es.length, .int .i64 t, .int .i64 c, .string who, .string what, .slice Ap N cp, .slice none 0 0]) rfl rfl rfl rfl rfl rfl rfl (by simp) (by simp [Act.put]) rfl (by kernel_rfl) (by simp [Value.oneCell']) ?_))
  have b4 := Blk.new w3 #[.int .i64 es.length, .int .i64 t, .int .i64 c, .string who, .string what, .slice Ap N cp, .slice none 0 0] 30
  have f4 := (Below.refl w3.heap.size w3).alloc (Nat.le_refl _) (.cells #[.int .i64 es.length, .int .i64 t, .int .i64 c, .string who, .string what, .slice Ap N cp, .slice none 0 0] 30)
  have hg4 : B < w3.heap.size := hb2.lt
  skip; replace hb2 := hb2.fr (Fr.of_below f4 (fun _ => False)) (fun h => h); replace o3 := own_fr o3 (Fr.of_below f4 (fun _ => False)) (fun _ _ h => h); replace hB := hB.trans (f4.mono hs); replace hs := Nat.le_trans hs f4.size
  clear f4
  show Code.wp _ _ _ _ (w3.alloc (.cells #[.int .i64 es.length, .int .i64 t, .int .i64 c, .string who, .string what, .slice Ap N cp, .slice none 0 0] 30))
  generalize w3.alloc (.cells #[.int .i64 es.length, .int .i64 t, .int .i64 c, .string who, .string what, .slice Ap N cp, .slice none 0 0] 30) = w4 at *
  generalize w3.heap.size = g4 at *
  have hra : w4.rangeAt g4 0 [.int .i64 es.length, .int .i64 t, .int .i64 c, .string who, .string what, .slice Ap N cp, .slice none 0 0] := b4.range' 0 _ (fun j v hv => by rw [Nat.zero_add]; simpa using hv)
  have hl7 : ([.int .i64 es.length, .int .i64 t, .int .i64 c, .string who, .string what, .slice Ap N cp, .slice none 0 0] : List Value).length = 7 := rfl
  have hbd := rbody_any (w := w4) E (.slice Ap N cp) (.slice none 0 0) (by rw [HE.out.2.2.2.2.2.1]; exact Rd.of_own o3) hS
  rw [HE.out.1, HE.out.2.1, HE.out.2.2.1, HE.out.2.2.2.1, HE.out.2.2.2.2.1] at hbd
  go_wp2_with ((refine wpList_loadN rfl rfl rfl (by assumption) (by assumption) (by kernel_rfl) (by kernel_rfl) ?_))
  refine hbd.mono ?_
  rintro en w5 ⟨v5, rfl, o5, hb5⟩
  skip; replace hb2 := hb2.fr (Fr.of_below hb5 (fun _ => False)) (fun h => h); replace b4 := b4.fr (Fr.of_below hb5 (fun _ => False)) (fun h => h); replace o3 := own_fr o3 (Fr.of_below hb5 (fun _ => False)) (fun _ _ h => h); replace hB := hB.trans (hb5.mono hs); replace hs := Nat.le_trans hs hb5.size
  clear hb5 hbd hra
  go_wp2_with fail
  refine (Sha.rsum_any v5 _ (Rd.of_own o5) (Nat.lt_trans hS.encl (by omega))).mono ?_
  rintro en w6 ⟨v6, rfl, o6, hb6⟩
  replace o6 := own_base o6 hs
  skip; replace hb2 := hb2.fr (Fr.of_below hb6 (fun _ => False)) (fun h => h); replace b4 := b4.fr (Fr.of_below hb6 (fun _ => False)) (fun h => h); replace o3 := own_fr o3 (Fr.of_below hb6 (fun _ => False)) (fun _ _ h => h); replace hB := hB.trans (hb6.mono hs); replace hs := Nat.le_trans hs hb6.size
  clear hb6 o5
  obtain ⟨A6, c6, rfl⟩ := own_form o6
  have z6 := b4.cell 6
  simp only [List.getElem?_toArray, List.getElem?_cons_zero, List.getElem?_cons_succ] at z6
  have fz := b4.frozen 6
  go_upto_region 3 with fail
  replace o3 := own_set o3 b4 (by decide) 6 (.slice A6 32 c6)
  replace o6 := own_set o6 b4 (by decide) 6 (.slice A6 32 c6)
  have f7 : Fr (fun j => j = g4) w6 (w6.setCell ⟨g4, 6, none⟩ (.slice A6 32 c6)) := (Fr.refl (fun j => j = g4) w6).setCell (p := ⟨g4, 6, none⟩) (fun _ => rfl) _
  replace b4 := b4.set 6 (.slice A6 32 c6)
  replace hb2 := hb2.far (p := ⟨g4, 6, none⟩) (show B ≠ g4 by omega) (.slice A6 32 c6)
  replace hB := hB.trans (f7.below (B := B) hs (fun k hk (e : k = g4) => by omega))
  replace hs := Nat.le_trans hs f7.size
  clear f7 z6 fz
  generalize w6.setCell ⟨g4, 6, none⟩ (.slice A6 32 c6) = w7 at *
  replace b4 : Blk w7 g4 #[.int .i64 es.length, .int .i64 t, .int .i64 c, .string who, .string what, .slice Ap N cp, .slice A6 32 c6] 30 := b4
  go_wp2_with (first
    | (refine wpList_loadN (n := 7) rfl rfl rfl (b4.range' 0 [.int .i64 es.length, .int .i64 t, .int .i64 c, .string who, .string what, .slice Ap N cp, .slice A6 32 c6] (fun j v hv => by rw [Nat.zero_add]; simpa using hv)) rfl (by kernel_rfl) (by kernel_rfl) ?_)
    | (refine wpList_storeN (n := 7) (cs := [.int .i64 es.length, .int .i64 t, .int .i64 c, .string who, .string what, .slice Ap N cp, .slice A6 32 c6]) rfl rfl rfl rfl rfl (hb2.there 0 7 (by simp)) (by kernel_rfl) (by simp [Value.oneCell']) ?_))
  refine bodyPost_ret (results_cellN rfl _ (by rfl) (hb2.setCells [.int .i64 es.length, .int .i64 t, .int .i64 c, .string who, .string what, .slice Ap N cp, .slice A6 32 c6] 0 (by simp)) (by kernel_rfl) (by rfl)) rfl ?_
  refine ⟨.slice Ap N cp, .slice A6 32 c6, N, 32, ?_, ?_, ?_, (hB.trans (((Fr.refl (fun i => i = B) w7).setCells _ 0 (fun _ => rfl)).below (B := B) hs (fun k hk e => by omega)))⟩
  · rw [HE.out.1, HE.out.2.1, HE.out.2.2.1, HE.out.2.2.2.1, HE.out.2.2.2.2.1]; rfl
  · rw [HE.out.2.2.2.2.2.1]; exact own_set3 o3 hb2
  · rw [HE.out.2.2.2.2.2.2]; exact own_set3 o6 hb2

end Go.Proofs.YthocpbkgcpgpdaaDoor
namespace Go.Proofs.YthocpbkgcpgpdaaDoor
open Go.RowKit

theorem buildRow (v : Value) (w : World) (hv : v.cells = #[v]) : (Instr.buildSlice 56 1 #[(0, v)]).run Tryd.prog w = .ok (.slice (some ⟨w.heap.size, 0, none⟩) 1 1) (w.alloc (.cells #[v] 28)) := by
  obtain ⟨i, hi, hz, hsize, hby⟩ := info_parts infoRow
  have := run_buildSlice_one (P := Tryd.prog) Tryd.underlying56 hi hz v (by rw [hv, hsize]; rfl) (by omega) (by omega) w
  rwa [hv] at this
theorem ShE.encb {e : Ent} (h : ShE e) : (encK (e.said ++ [e.hash])).length < 100000000 := by
  have h1 := encK_bd (e.said ++ [e.hash]) 1000 h.le
  have h2 : (e.said ++ [e.hash]).length = 7 := rfl
  rw [h2] at h1
  omega
theorem ShE.partb {e : Ent} (h : ShE e) : ∀ p ∈ e.said ++ [e.hash], p.length < 1000000 := fun p hp => Nat.lt_of_le_of_lt (h.le p hp) (by omega)
def bytG (B : Nat) (e : Ent) (vh : Value) (i : Nat) (v : Value) (w : World) : Prop :=
  if i = 1 then ∃ vals, OwQ w B v vals e.said else ∃ g, v = .slice (some ⟨g, 0, none⟩) 1 1 ∧ Blk w g #[vh] 28
set_option maxHeartbeats 3000000 in
set_option maxRecDepth 100000 in
theorem bytes_any {w : World} (e : Ent) (vp vh : Value) (hp : Rd w vp e.prev) (hh : Rd w vh e.hash) (hS : ShE e) :
    Calls Tryd.prog 25 #[.agg #[.int .i64 e.no, .int .i64 e.time, .int .i64 e.code, .string e.who, .string e.what, vp, vh]] w fun en w' => ∃ v, en = .returned v ∧ w'.ownsRow w.heap.size 5 1 v (encK (e.said ++ [e.hash])).length (bts (encK (e.said ++ [e.hash]))) ∧ Below w.heap.size w w' := by
  have hhl := hh.lt
  obtain ⟨Ap, cp, rfl⟩ := hp.slice
  obtain ⟨Ah, ch, rfl⟩ := hh.slice
  have hb := Blk.new w #[.int .i64 e.no, .int .i64 e.time, .int .i64 e.code, .string e.who, .string e.what, .slice Ap e.prev.length cp, .slice Ah e.hash.length ch] 30
  have hB := (Below.refl w.heap.size w).alloc (Nat.le_refl _) (.cells #[.int .i64 e.no, .int .i64 e.time, .int .i64 e.code, .string e.who, .string e.what, .slice Ap e.prev.length cp, .slice Ah e.hash.length ch] 30)
  replace hp := hp.below hB
  replace hh := hh.below hB
  have hs := hB.size
  generalize hb0 : w.heap.size = B at *
  have HB := Lib.hid hb0
  clear hb0
  go_enter Tryd.func25, Tryd.ntmps25
  go_upto_region 1 with fail
  rw [HB.out]
  generalize w.alloc (.cells #[.int .i64 e.no, .int .i64 e.time, .int .i64 e.code, .string e.who, .string e.what, .slice Ap e.prev.length cp, .slice Ah e.hash.length ch] 30) = w1 at *
  refine wp_region_pre (Fr (fun _ => False)) [(0, 1), (2, 0), (3, 1), (1, 2), (4, 2), (5, 3), (6, 3), (7, 3)] [(0, 1), (2, 0), (3, 1)] _ 5
    #[true, false, true, true, false, false, false, false] (by kernel_rfl) (by kernel_rfl) (by simp only [List.map_cons, List.map_nil, Array.getD_eq_getD_getElem?, List.getElem?_toArray, List.getElem?_cons_succ, List.getElem?_cons_zero, Option.getD_some]; rfl) rfl (by kernel_rfl) (fun _ _ d _ _ h => by cases d <;> exact h) (Fr.refl _) (fun _ _ _ => Fr.trans) ?_
  replace hp := hp.drew
  replace hh := hh.drew
  replace hb : Blk w1.drew B #[.int .i64 e.no, .int .i64 e.time, .int .i64 e.code, .string e.who, .string e.what, .slice Ap e.prev.length cp, .slice Ah e.hash.length ch] 30 := hb
  replace hB := hB.drew
  replace hs : B ≤ w1.drew.heap.size := hs
  generalize w1.drew = w2 at *
  have c6 := hb.cell 6
  simp only [List.getElem?_toArray, List.getElem?_cons_zero, List.getElem?_cons_succ] at c6
  have hra : w2.rangeAt B 0 [.int .i64 e.no, .int .i64 e.time, .int .i64 e.code, .string e.who, .string e.what, .slice Ap e.prev.length cp, .slice Ah e.hash.length ch] := hb.range' 0 _ (fun j v hv => by rw [Nat.zero_add]; simpa using hv)
  have hl7 : ([.int .i64 e.no, .int .i64 e.time, .int .i64 e.code, .string e.who, .string e.what, .slice Ap e.prev.length cp, .slice Ah e.hash.length ch] : List Value).length = 7 := rfl
  repeat (first | (refine wpF_f0 (fun K hK => ?_); go_simp; refine hK _ ?_; clear hK K) | (refine wpF_load1 rfl rfl rfl (by kernel_rfl) (by assumption) (by simp) (fun K hK => ?_); go_simp; refine hK _ ?_; clear hK K) | (refine wpF_loadN rfl rfl rfl (by assumption) (by assumption) (by kernel_rfl) (by kernel_rfl) (by simp) (fun K hK => ?_); go_simp; refine hK _ ?_; clear hK K))
  refine wpF_nil ?_
  refine wpAnyR_new (acts := [1, 4]) (dst := fun i => i + 3) (G := bytG B e (.slice Ah e.hash.length ch)) #[true, true, true, true, true, false, false, false] 3 2 (by kernel_rfl) (by kernel_rfl) (by kernel_rfl) (fun i v w w' h f => ?_) (fun _ _ h => h) ?_ ?_
  · unfold bytG at h ⊢
    split
    · rename_i hi; rw [if_pos hi] at h
      obtain ⟨vals, h⟩ := h
      exact ⟨vals, h.below (f.below (Nat.le_refl _) (fun _ _ h => h))⟩
    · rename_i hi; rw [if_neg hi] at h
      obtain ⟨g, h1, h2⟩ := h
      exact ⟨g, h1, h2.fr f (fun h => h)⟩
  · intro i hi a w3 hA hF K hK
    simp only [List.mem_cons, List.mem_nil_iff, or_false] at hi
    rcases hi with rfl | rfl
    · refine wpOp_call (f := 38) (args := #[.agg #[.int .i64 e.no, .int .i64 e.time, .int .i64 e.code, .string e.who, .string e.what, .slice Ap e.prev.length cp, .slice Ah e.hash.length ch]]) rfl rfl rfl (by simp only [List.map_toArray, List.map_cons, List.map_nil]; rw [hA.eval (by decide)]; rfl) (by kernel_rfl) ((said_any e _ _ (hp.fr hF (fun _ _ _ h => h)) hS.who' hS.what').mono ?_)
      rintro en w4 ⟨v, vals, rfl, ho, hb4⟩
      have hsz : B ≤ w3.heap.size := Nat.le_trans hs hF.size
      exact ⟨v, rfl, hK v w4 ⟨vals, own_base ho.1 hsz, ho.2⟩ (Fr.of_below hb4 _)⟩
    · refine wpOp_value rfl rfl (exec_buildSlice (buildRow (.slice Ah e.hash.length ch) w3 rfl) rfl (by simp only [List.map_toArray, List.map_cons, List.map_nil]; rw [hA.eval (by decide)]; rfl)) ?_
      exact hK _ _ ⟨_, rfl, Blk.new w3 _ _⟩ ((Fr.refl _ w3).alloc _)
  · intro val w3 hval hF
    have v0 := hval 1 (by simp)
    have v1 := hval 4 (by simp)
    clear hval
    replace v0 : ∃ vals, OwQ w3 B (val (1 + 3)) vals e.said := v0
    replace v1 : ∃ g, val (4 + 3) = .slice (some ⟨g, 0, none⟩) 1 1 ∧ Blk w3 g #[.slice Ah e.hash.length ch] 28 := v1
    have hh3 := hh.fr hF (fun _ _ _ h => h)
    replace hB := hB.trans (hF.below (B := B) hs (fun _ _ h => h))
    replace hs := Nat.le_trans hs hF.size
    clear hb c6 hra hh hp
    simp only [List.map_cons, List.map_nil, List.foldl_cons, List.foldl_nil]
    generalize val (1 + 3) = x0 at *
    generalize val (4 + 3) = x1 at *
    obtain ⟨vals, ow⟩ := v0
    obtain ⟨g, rfl, bg⟩ := v1
    have hr6 : w3.ownsRow B 28 1 x0 6 vals := ow.1
    refine wpAnyR_ready (rs := [5]) (by kernel_rfl) (by simp) ?_
    refine AllR.cons rfl (fun K hK => ?_) AllR.nil
    rw [if_pos (by rfl)]
    refine wp_append_k rfl B Tryd.underlying56 infoRow rfl (by omega) (v := x0) rfl hr6 (news := [.slice Ah e.hash.length ch]) rfl (by simp) (.inr ⟨_, rfl, fun j u hu => ?_⟩) (by simp [Value.oneCell']) (by simp [maxLen]) (by omega) hs ?_
    · rw [Addr.add_mid, Nat.zero_add, bg.cell]; simpa using hu
    intro v4 w4 o4 g4 n4
    have f4 := Fr.of_grown g4
    have ow4 : OwQ w4 B v4 (vals ++ [.slice Ah e.hash.length ch]) (e.said ++ [e.hash]) := ow.push hh3 (fun hn k hk => ⟨hh3.lt hn k hk, fun e' => by have := (hr6.lt k e').1; have := hhl hn k hk; omega⟩) o4 (by exact ⟨f4.os, f4.tape, f4.output, f4.size, fun k hk hn => f4.block k hk hn⟩) n4
    replace hB := hB.trans (f4.below (B := B) hs (fun j hj e => by have := (hr6.lt j e.symm).1; omega))
    replace hs := Nat.le_trans hs f4.size
    go_simp
    refine hK _ _ (fun h => by simp [rqOf] at h) ?_
    clear hK K g4 n4 f4 ow hr6 bg hh3 o4
    refine wpAnyR_ready (rs := [6]) (by kernel_rfl) (by simp) ?_
    refine AllR.cons rfl (fun K hK => ?_) AllR.nil
    rw [if_pos (by rfl)]
    go_simp
    refine (encode_any v4 _ ow4.rdl hS.partb hS.encb).mono ?_
    rintro en w5 ⟨v5, rfl, o5, hb5⟩
    replace hB := hB.trans (hb5.mono hs)
    replace o5 := own_base o5 hs
    refine hK _ _ (fun h => by simp [rqOf] at h) ?_
    clear hK K
    refine wpAnyR_ready (rs := [7]) (by kernel_rfl) (by simp) ?_
    refine AllR.cons rfl (fun K hK => ?_) AllR.nil
    rw [if_pos (by rfl)]
    go_simp
    refine hK _ _ (fun h => by simp [rqOf] at h) ?_
    clear hK K
    refine wpAnyR_end (by kernel_rfl) ?_
    go_wp2_with fail
    go_ret
    exact ⟨_, rfl, o5, by first | exact hB | (rw [HB.out]; exact hB)⟩
end Go.Proofs.YthocpbkgcpgpdaaDoor
namespace Go.Proofs.YthocpbkgcpgpdaaDoor
open Go.RowKit

set_option maxHeartbeats 3000000 in
set_option maxRecDepth 100000 in
theorem rbytes_any {w : World} (e : Ent) (vp vh : Value) (hp : Rd w vp e.prev) (hh : Rd w vh e.hash) (hS : ShE e) :
    Calls Tryd.prog 31 #[.agg #[.int .i64 e.no, .int .i64 e.time, .int .i64 e.code, .string e.who, .string e.what, vp, vh]] w fun en w' => ∃ v, en = .returned v ∧ w'.ownsRow w.heap.size 5 1 v (encK (e.said ++ [e.hash])).length (bts (encK (e.said ++ [e.hash]))) ∧ Below w.heap.size w w' := by
  have hhl := hh.lt
  obtain ⟨Ap, cp, rfl⟩ := hp.slice
  obtain ⟨Ah, ch, rfl⟩ := hh.slice
  have hb := Blk.new w #[.int .i64 e.no, .int .i64 e.time, .int .i64 e.code, .string e.who, .string e.what, .slice Ap e.prev.length cp, .slice Ah e.hash.length ch] 30
  have hB := (Below.refl w.heap.size w).alloc (Nat.le_refl _) (.cells #[.int .i64 e.no, .int .i64 e.time, .int .i64 e.code, .string e.who, .string e.what, .slice Ap e.prev.length cp, .slice Ah e.hash.length ch] 30)
  replace hp := hp.below hB
  replace hh := hh.below hB
  have hs := hB.size
  generalize hb0 : w.heap.size = B at *
  have HB := Lib.hid hb0
  clear hb0
  go_enter Tryd.func31, Tryd.ntmps31
  go_upto_region 1 with fail
  rw [HB.out]
  generalize w.alloc (.cells #[.int .i64 e.no, .int .i64 e.time, .int .i64 e.code, .string e.who, .string e.what, .slice Ap e.prev.length cp, .slice Ah e.hash.length ch] 30) = w1 at *
  have hra : w1.rangeAt B 0 [.int .i64 e.no, .int .i64 e.time, .int .i64 e.code, .string e.who, .string e.what, .slice Ap e.prev.length cp, .slice Ah e.hash.length ch] := hb.range' 0 _ (fun j v hv => by rw [Nat.zero_add]; simpa using hv)
  have hl7 : ([.int .i64 e.no, .int .i64 e.time, .int .i64 e.code, .string e.who, .string e.what, .slice Ap e.prev.length cp, .slice Ah e.hash.length ch] : List Value).length = 7 := rfl
  have HL := Lib.hid hhl
  clear hhl
  go_wp2_with ((refine wpList_loadN rfl rfl rfl (by assumption) (by assumption) (by kernel_rfl) (by kernel_rfl) ?_))
  refine (rparts_any e _ _ hp hS.who' hS.what').mono ?_
  rintro en w2 ⟨v2, vals, rfl, ow, hb2⟩
  replace ow : OwQ w2 B v2 vals e.said := ⟨own_base ow.1 hs, ow.2⟩
  replace hh := hh.below hb2; replace hb := hb.fr (Fr.of_below hb2 (fun _ => False)) (fun h => h); skip; replace hB := hB.trans (hb2.mono hs); replace hs := Nat.le_trans hs hb2.size
  clear hb2 hra hp
  have c6 := hb.cell 6
  simp only [List.getElem?_toArray, List.getElem?_cons_zero, List.getElem?_cons_succ] at c6
  have hr6 : w2.ownsRow B 28 1 v2 6 vals := ow.1
  have HOW := Lib.hid ow
  clear ow
  go_upto_region 3 with (refine wpList_pushN (base := B) (size := 1) (bytes := 24) (news := [.slice Ah e.hash.length ch]) rfl rfl rfl (by first | rfl | (simp [Act.eval]; done) | (simp [Act.eval]; rfl)) (buildRow (.slice Ah e.hash.length ch) _ rfl) rfl rfl (by simp) (by simp) Tryd.underlying56 infoRow rfl (by omega) rfl (by simp [Value.oneCell']) rfl hr6 (by simp [maxLen]) (by omega) hs (fun v4 w4 o4 g4 n4 => ?_))
  have ow4 : OwQ w4 B v4 (vals ++ [.slice Ah e.hash.length ch]) (e.said ++ [e.hash]) := HOW.out.push hh (fun hn k hk => ⟨hh.lt hn k hk, fun e' => by have := (hr6.lt k e').1; have := HL.out hn k hk; omega⟩) o4 g4 n4
  replace hB := hB.trans (g4.below (B := B) hs (fun j hj e => by have := (hr6.lt j e.symm).1; omega))
  replace hs := Nat.le_trans hs g4.size
  clear g4 n4 hr6 hh o4 c6
  go_wp2_with fail
  refine (rencode_any v4 _ ow4.rdl hS.encb).mono ?_
  rintro en w5 ⟨v5, rfl, o5, hb5⟩
  replace hB := hB.trans (hb5.mono hs)
  replace o5 := own_base o5 hs
  go_wp2_with fail
  go_ret
  exact ⟨_, rfl, o5, by first | exact hB | (rw [HB.out]; exact hB)⟩

def shortB (e : Ent) : Bool := decide (e.who.size ≤ 1000) && (decide (e.what.size ≤ 1000) && (decide (e.prev.length ≤ 100) && decide (e.hash.length ≤ 100)))
theorem shortB_spec {e : Ent} : shortB e = true ↔ ShE e := by
  simp only [shortB, Bool.and_eq_true, decide_eq_true_eq]
  exact ⟨fun h => ⟨h.1, h.2.1, h.2.2.1, h.2.2.2⟩, fun h => ⟨h.who, h.what, h.prev, h.hash⟩⟩
set_option maxHeartbeats 2000000 in
set_option maxRecDepth 100000 in
theorem short_any {w : World} (e : Ent) (vp vh : Value) (hp : Rd w vp e.prev) (hh : Rd w vh e.hash) :
    Calls Tryd.prog 26 #[.agg #[.int .i64 e.no, .int .i64 e.time, .int .i64 e.code, .string e.who, .string e.what, vp, vh]] w fun en w' => en = .returned (.bool (shortB e)) ∧ Below w.heap.size w w' := by
  obtain ⟨Ap, cp, rfl⟩ := hp.slice
  obtain ⟨Ah, ch, rfl⟩ := hh.slice
  obtain ⟨q, hq⟩ : ∃ q, q = shortB e := ⟨_, rfl⟩
  rw [← hq]
  have HQ := Lib.hid hq
  clear hq
  have hb := Blk.new w #[.int .i64 e.no, .int .i64 e.time, .int .i64 e.code, .string e.who, .string e.what, .slice Ap e.prev.length cp, .slice Ah e.hash.length ch] 30
  have hB := (Below.refl w.heap.size w).alloc (Nat.le_refl _) (.cells #[.int .i64 e.no, .int .i64 e.time, .int .i64 e.code, .string e.who, .string e.what, .slice Ap e.prev.length cp, .slice Ah e.hash.length ch] 30)
  generalize hb0 : w.heap.size = B at *
  have HB := Lib.hid hb0
  clear hb0 hp hh
  go_enter Tryd.func26, Tryd.ntmps26
  go_upto_region 1 with fail
  rw [HB.out]
  generalize w.alloc (.cells #[.int .i64 e.no, .int .i64 e.time, .int .i64 e.code, .string e.who, .string e.what, .slice Ap e.prev.length cp, .slice Ah e.hash.length ch] 30) = w1 at *
  have c3 := hb.cell 3
  have c4 := hb.cell 4
  have c5 := hb.cell 5
  have c6 := hb.cell 6
  simp only [List.getElem?_toArray, List.getElem?_cons_zero, List.getElem?_cons_succ] at c3 c4 c5 c6
  have hq := HQ.out
  replace hq : q = (decide (e.who.size ≤ 1000) && (decide (e.what.size ≤ 1000) && (decide (e.prev.length ≤ 100) && decide (e.hash.length ≤ 100)))) := hq
  have e1 : decide ((e.who.size : Int) ≤ 1000) = decide (e.who.size ≤ 1000) := by rw [decide_eq_decide]; omega
  have e2 : decide ((e.what.size : Int) ≤ 1000) = decide (e.what.size ≤ 1000) := by rw [decide_eq_decide]; omega
  have e3 : decide ((e.prev.length : Int) ≤ 100) = decide (e.prev.length ≤ 100) := by rw [decide_eq_decide]; omega
  have e4 : decide ((e.hash.length : Int) ≤ 100) = decide (e.hash.length ≤ 100) := by rw [decide_eq_decide]; omega
  generalize decide (e.who.size ≤ 1000) = q1 at *
  generalize decide (e.what.size ≤ 1000) = q2 at *
  generalize decide (e.prev.length ≤ 100) = q3 at *
  generalize decide (e.hash.length ≤ 100) = q4 at *
  subst hq
  cases q1
  · go_wp2_with fail
    go_ret
    exact ⟨rfl, by first | exact hB | (rw [HB.out]; exact hB)⟩
  cases q2
  · go_wp2_with fail
    go_ret
    exact ⟨rfl, by first | exact hB | (rw [HB.out]; exact hB)⟩
  cases q3
  · go_wp2_with fail
    go_ret
    exact ⟨rfl, by first | exact hB | (rw [HB.out]; exact hB)⟩
  go_wp2_with fail
  go_ret
  exact ⟨rfl, by first | exact hB | (rw [HB.out]; exact hB)⟩
end Go.Proofs.YthocpbkgcpgpdaaDoor
