/- mac: pad, Mac. -/
import Derived.Test.YthaoegapmekbmaaSha12
import Derived.Test.YthaoegapmekbmaaK7
namespace Go.Proofs.Ythaoegapmekbmaa
open Go.RowKit

def keyH (key : List UInt8) : List UInt8 := if key.length ≤ 64 then key else digest key
def keyN (key : List UInt8) : List UInt8 := keyH key ++ zeros (64 - (keyH key).length)
def inN (K : List UInt8) (c : UInt8) : Nat → List UInt8
  | 0 => []
  | t + 1 => inN K c t ++ [K.getD t 0 ^^^ c]
def padN (key : List UInt8) (c : UInt8) : List UInt8 := inN (keyN key) c 64
def macN (key b : List UInt8) : List UInt8 := digest (padN key 92 ++ digest (padN key 54 ++ b))
theorem inN_length (K : List UInt8) (c : UInt8) : ∀ t, (inN K c t).length = t
  | 0 => rfl
  | t + 1 => by rw [inN, List.length_append, inN_length K c t]; rfl
theorem padN_length (key : List UInt8) (c : UInt8) : (padN key c).length = 64 := inN_length _ _ _
theorem keyH_le (key : List UInt8) : (keyH key).length ≤ 64 := by
  unfold keyH
  split
  · assumption
  · rw [digest, bytesN_length]; omega
theorem keyN_length (key : List UInt8) : (keyN key).length = 64 := by
  have := keyH_le key
  rw [keyN, List.length_append, zeros_length]; omega
theorem xor_u8 (x y : UInt8) : bits BinOp.xor IntKind.u8 (x.toNat : Int) (y.toNat : Int) = ((x ^^^ y).toNat : Int) := by
  rw [u8_xor_nat _ _ x.toNat_lt y.toNat_lt, UInt8.toNat_xor]
theorem zeros64 : (Try.prog.info? 49).map (fun i => i.zero.map fun z => z.cells) = some (some (bts (zeros 64)).toArray) := by kernel_rfl
theorem zeros_eq : ∀ n, zeros n = List.replicate n 0
  | 0 => rfl
  | n + 1 => by rw [zeros, zeros_eq n, List.replicate_succ']
theorem zeros_drop (k : Nat) : (zeros 64).drop k = zeros (64 - k) := by rw [zeros_eq, zeros_eq, List.drop_replicate]
theorem in_step {K : List UInt8} {c : UInt8} {t : Nat} (h : t < K.length) : (inN K c t ++ K.drop t).set t (K.getD t 0 ^^^ c) = inN K c (t + 1) ++ K.drop (t + 1) := by
  rw [List.set_append_right _ _ (by rw [inN_length]; omega), inN_length, Nat.sub_self, List.drop_eq_getElem_cons h, List.set_cons_zero, inN, List.append_assoc]
  rfl
theorem in_get {K : List UInt8} {c : UInt8} {t : Nat} (h : t < K.length) : (inN K c t ++ K.drop t)[t]? = some (K.getD t 0) := by
  rw [List.getElem?_append_right (by rw [inN_length]; omega), inN_length, Nat.sub_self, List.getElem?_drop, Nat.add_zero, List.getD_eq_getElem?_getD, List.getElem?_eq_getElem h]
  rfl

set_option maxHeartbeats 2000000 in
set_option maxRecDepth 100000 in
theorem pad_loop {w : World} (v : Value) (key : List UInt8) (cc : UInt8) (hv : Rd w v key) (hm : key.length < 100000000000) :
    Calls Try.prog 36 #[v, .int .u8 (cc.toNat : Int)] w fun e w' => ∃ g, e = .returned (.slice (some ⟨g, 0, none⟩) 64 64) ∧ w.heap.size ≤ g ∧ Blk w' g (bts (padN key cc)).toArray 49 ∧ Below w.heap.size w w' := by
  have hK : padN key cc = inN (keyN key) cc 64 := rfl
  have hKl := keyN_length key
  have hkn : keyN key = keyH key ++ zeros (64 - (keyH key).length) := rfl
  have hkl := keyH_le key
  obtain ⟨A, c, rfl⟩ := hv.slice
  generalize hpn : padN key cc = PN at *
  have HK := Lib.hid hK
  clear hK hpn
  by_cases hlen : key.length ≤ 64
  · have hkh : keyH key = key := if_pos hlen
    have hlI : decide ((64 : Int) < (key.length : Int)) = false := decide_eq_false (by omega)
    rw [hkh] at hkn hkl
    generalize keyN key = K at *
    clear hkh
    go_enter Try.func36, Try.ntmps36
    have hb := Blk.new w (bts (zeros 64)).toArray 49
    have hB := (Below.refl w.heap.size w).alloc (Nat.le_refl _) (.cells (bts (zeros 64)).toArray 49)
    have hr := hv.below hB
    obtain ⟨g, hgg⟩ : ∃ g, Hid (g = w.heap.size) := ⟨_, Lib.hid rfl⟩
    have hg : w.heap.size ≤ g := by have := hgg.out; omega
    rw [← hgg.out] at hb
    go_upto_region 4 with (refine wpList_allocZ (e := 49) rfl rfl zeros64 ?_)
    generalize w.alloc (.cells (bts (zeros 64)).toArray 49) = w2 at *
    try rw [← hgg.out]
    generalize hkk : key = kk at *
    clear hkk
    go_wp2_with (refine wpList_copy_rd (o := 0) (dLen := 64) (dCap := 64) rfl rfl Try.underlying22 sizeByte rfl rfl hr hkl hb (by rw [List.size_toArray, bts_length, zeros_length]; omega) (fun w3 hb3 f3 => ?_)); have e3 : ((bts (zeros 64)).toArray.toList.take 0 ++ bts kk ++ (bts (zeros 64)).toArray.toList.drop (0 + kk.length)).toArray = (bts (inN K cc 0 ++ K.drop 0)).toArray := (by rw [hkn, List.drop_zero, List.take_zero, List.nil_append, inN, List.nil_append, bts_append, Nat.zero_add]; congr 2; rw [← zeros_drop _]; simp [bts]); rw [e3] at hb3; have hB3 := hB.trans (f3.below (B := w.heap.size) hB.size (fun i hi e => by omega)); clear hb hB f3 e3 hr hkn; go_loopw [6, 15] (fun _ i wr => ∃ t : Nat, i = .int .i64 t ∧ t ≤ 64 ∧ Blk wr g (bts (inN K cc t ++ K.drop t)).toArray 49 ∧ Below w.heap.size w wr) (fun _ i _ => 64 - (intOf i).toNat); (case atStart => exact ⟨0, rfl, Nat.zero_le _, hb3, hB3⟩)
    case round =>
      clear hb3 hB3
      obtain ⟨t, rfl, ht, hb, hB⟩ := hrel
      have hsz := hB.size
      by_cases hlt : t < 64
      · have hltI : (t : Int) < 64 := by omega
        have ht0 : (0 : Int) ≤ (t : Int) := by omega
        have hc : wr.cell? ⟨g, t, none⟩ = some (.int .u8 ((K.getD t 0).toNat : Int)) := by
          rw [hb.cell, List.getElem?_toArray, bts_get, in_get (by omega)]; rfl
        have hfz := hb.frozen t
        have hst := in_step (K := K) (c := cc) (t := t) (by omega)
        have hb2 := hb.set t (.int .u8 ((K.getD t 0 ^^^ cc).toNat : Int))
        have e2 : (bts (inN K cc t ++ K.drop t)).toArray.setIfInBounds t (.int .u8 ((K.getD t 0 ^^^ cc).toNat : Int)) = (bts (inN K cc (t + 1) ++ K.drop (t + 1))).toArray := by
          rw [← hst]
          apply Array.toList_inj.1
          rw [Array.toList_setIfInBounds]
          simp only [bts, List.map_set]
        rw [e2] at hb2
        have hB2 := hB.trans (((Fr.refl (fun k => k = g) wr).setCell (p := ⟨g, t, none⟩) (fun _ => rfl) (.int .u8 ((K.getD t 0 ^^^ cc).toNat : Int))).below (B := w.heap.size) hsz (fun i hi e => by omega))
        have hxw := xor_u8 (K.getD t 0) cc
        clear hst e2 hb hB
        generalize K.getD t 0 = x at *
        rw [UInt8.toNat_xor] at hb2 hB2 hxw
        go_wp2_with fail
        generalize wr.setCell ⟨g, t, none⟩ (.int .u8 ((x.toNat ^^^ cc.toNat : Nat) : Int)) = w5 at *
        go_roundw
        case rel => exact ⟨t + 1, by go_num, by omega, hb2, hB2⟩
        case measure => simp [intOf]; omega
      · obtain rfl : t = 64 := by omega
        rw [List.drop_eq_nil_of_le (by omega), List.append_nil, ← HK.out] at hb
        go_wp2_with fail
        go_ret
        exact ⟨_, rfl, hg, hb, hB⟩
  · have hkh : keyH key = digest key := if_neg hlen
    have hlI : (64 : Int) < (key.length : Int) := by omega
    obtain ⟨dd, D⟩ := Dg.ex key
    rw [hkh, D.eq] at hkn hkl
    generalize keyN key = K at *
    clear hkh
    go_enter Try.func36, Try.ntmps36
    have hb := Blk.new w (bts (zeros 64)).toArray 49
    have hB := (Below.refl w.heap.size w).alloc (Nat.le_refl _) (.cells (bts (zeros 64)).toArray 49)
    have hr := hv.below hB
    obtain ⟨g, hgg⟩ : ∃ g, Hid (g = w.heap.size) := ⟨_, Lib.hid rfl⟩
    have hg : w.heap.size ≤ g := by have := hgg.out; omega
    rw [← hgg.out] at hb
    go_upto_region 3 with (refine wpList_allocZ (e := 49) rfl rfl zeros64 ?_)
    generalize w.alloc (.cells (bts (zeros 64)).toArray 49) = w2 at *
    try rw [← hgg.out]
    go_wp2_with fail
    refine (shasumD_any _ _ hr D (by omega)).mono ?_
    rintro e w4 ⟨v4, rfl, o4, hr, hb4⟩
    replace hb := hb.fr (Fr.of_below hb4 (fun _ => False)) (fun h => h)
    replace hB := hB.trans (hb4.mono hB.size)
    obtain ⟨A4, c4, rfl⟩ := own_form o4
    clear o4 hb4 D
    generalize hkk : dd = kk at *
    clear hkk
    go_wp2_with (refine wpList_copy_rd (o := 0) (dLen := 64) (dCap := 64) rfl rfl Try.underlying22 sizeByte rfl rfl hr hkl hb (by rw [List.size_toArray, bts_length, zeros_length]; omega) (fun w3 hb3 f3 => ?_)); have e3 : ((bts (zeros 64)).toArray.toList.take 0 ++ bts kk ++ (bts (zeros 64)).toArray.toList.drop (0 + kk.length)).toArray = (bts (inN K cc 0 ++ K.drop 0)).toArray := (by rw [hkn, List.drop_zero, List.take_zero, List.nil_append, inN, List.nil_append, bts_append, Nat.zero_add]; congr 2; rw [← zeros_drop _]; simp [bts]); rw [e3] at hb3; have hB3 := hB.trans (f3.below (B := w.heap.size) hB.size (fun i hi e => by omega)); clear hb hB f3 e3 hr hkn; go_loopw [6, 15] (fun _ i wr => ∃ t : Nat, i = .int .i64 t ∧ t ≤ 64 ∧ Blk wr g (bts (inN K cc t ++ K.drop t)).toArray 49 ∧ Below w.heap.size w wr) (fun _ i _ => 64 - (intOf i).toNat); (case atStart => exact ⟨0, rfl, Nat.zero_le _, hb3, hB3⟩)
    case round =>
      clear hb3 hB3
      obtain ⟨t, rfl, ht, hb, hB⟩ := hrel
      have hsz := hB.size
      by_cases hlt : t < 64
      · have hltI : (t : Int) < 64 := by omega
        have ht0 : (0 : Int) ≤ (t : Int) := by omega
        have hc : wr.cell? ⟨g, t, none⟩ = some (.int .u8 ((K.getD t 0).toNat : Int)) := by
          rw [hb.cell, List.getElem?_toArray, bts_get, in_get (by omega)]; rfl
        have hfz := hb.frozen t
        have hst := in_step (K := K) (c := cc) (t := t) (by omega)
        have hb2 := hb.set t (.int .u8 ((K.getD t 0 ^^^ cc).toNat : Int))
        have e2 : (bts (inN K cc t ++ K.drop t)).toArray.setIfInBounds t (.int .u8 ((K.getD t 0 ^^^ cc).toNat : Int)) = (bts (inN K cc (t + 1) ++ K.drop (t + 1))).toArray := by
          rw [← hst]
          apply Array.toList_inj.1
          rw [Array.toList_setIfInBounds]
          simp only [bts, List.map_set]
        rw [e2] at hb2
        have hB2 := hB.trans (((Fr.refl (fun k => k = g) wr).setCell (p := ⟨g, t, none⟩) (fun _ => rfl) (.int .u8 ((K.getD t 0 ^^^ cc).toNat : Int))).below (B := w.heap.size) hsz (fun i hi e => by omega))
        have hxw := xor_u8 (K.getD t 0) cc
        clear hst e2 hb hB
        generalize K.getD t 0 = x at *
        rw [UInt8.toNat_xor] at hb2 hB2 hxw
        go_wp2_with fail
        generalize wr.setCell ⟨g, t, none⟩ (.int .u8 ((x.toNat ^^^ cc.toNat : Nat) : Int)) = w5 at *
        go_roundw
        case rel => exact ⟨t + 1, by go_num, by omega, hb2, hB2⟩
        case measure => simp [intOf]; omega
      · obtain rfl : t = 64 := by omega
        rw [List.drop_eq_nil_of_le (by omega), List.append_nil, ← HK.out] at hb
        go_wp2_with fail
        go_ret
        exact ⟨_, rfl, hg, hb, hB⟩
end Go.Proofs.Ythaoegapmekbmaa
