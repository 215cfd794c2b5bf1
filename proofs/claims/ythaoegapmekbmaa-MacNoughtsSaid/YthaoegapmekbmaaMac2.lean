/- mac: Mac, Looks, Equal, Check. -/
import Derived.Test.YthaoegapmekbmaaMac1
namespace Go.Proofs.Ythaoegapmekbmaa
open Go.RowKit

theorem rd_g {w : World} {g : Nat} {l : List UInt8} {t : TypeId} (h : Blk w g (bts l).toArray t) (hl : l.length = 64) : Rd w (.slice (some ⟨g, 0, none⟩) 64 64) l := Rd.blk h hl (by omega) (by simp [maxLen])

set_option maxHeartbeats 2000000 in
theorem mac_any {w : World} (vk vb : Value) (key b : List UInt8) (hk : Rd w vk key) (hb : Rd w vb b) (hkm : key.length < 100000000000) (hbm : b.length < 100000000000) :
    Calls Try.prog 25 #[vk, vb] w fun e w' => ∃ v, e = .returned v ∧ w'.ownsRow w.heap.size 5 1 v 32 (bts (macN key b)) ∧ Below w.heap.size w w' := by
  have hkB := fun h => hk.lt h
  have hbB := fun h => hb.lt h
  have hmac : macN key b = digest (padN key 92 ++ digest (padN key 54 ++ b)) := rfl
  have hpl := padN_length key
  generalize macN key b = M at *
  have HM := Lib.hid hmac
  clear hmac
  generalize hB0 : w.heap.size = B at *
  have HB := Lib.hid hB0
  clear hB0
  have hT : ∀ k, k < B → ¬ B ≤ k := fun k h1 h2 => by omega
  go_enter Try.func25, Try.ntmps25
  go_wp2_with fail
  refine (snewH_any w).mono ?_
  rintro e w1 ⟨p, rfl, hp, hP, hb1⟩
  rw [HB.out] at hp hb1
  have f1 : Fr (fun k => B ≤ k) w w1 := Fr.of_below (by rw [HB.out]; exact hb1) _
  have hs1 := hb1.size
  rw [HB.out] at hs1
  go_wp2_with fail
  refine (snewH_any w1).mono ?_
  rintro e w2 ⟨q, rfl, hq, hQ, hb2⟩
  have hpq : p ≠ q := by have := hP.lt; omega
  replace hP := hP.below hb2
  have hqB : B ≤ q := by omega
  have f2 := f1.trans (Fr.of_below hb2 _)
  have hs2 := hb2.size
  clear f1 hb1 hb2 hq
  have hp2 := hP.lt
  have hq2 := hQ.lt
  go_wp2_with fail
  refine (pad_loop _ key 54 (hk.old f2 hkB hT) hkm).mono ?_
  rintro e w3 ⟨g, rfl, hg, b3, hb3⟩
  have r3 := rd_g b3 (hpl 54)
  replace hP := hP.below hb3
  replace hQ := hQ.below hb3
  have f3 := f2.trans (Fr.of_below hb3 _)
  clear f2 hb3
  go_wp2_with fail
  refine (write_any hP _ _ r3 (fun _ e => by have e2 : g = _ := Option.some.inj e; omega) (by simp [hpl])).mono ?_
  rintro e w4 ⟨rfl, hP, g4⟩
  rw [List.nil_append] at hP
  replace hQ := hQ.fr g4 (fun e => hpq e.symm)
  have f4 := f3.step g4 (fun i _ e => by rw [e]; omega)
  clear f3 g4 b3 r3 hg
  go_wp2_with fail
  refine (write_any hP _ _ (hb.old f4 hbB hT) (fun hl e => by have := hbB hl _ e; omega) (by rw [hpl]; omega)).mono ?_
  rintro e w5 ⟨rfl, hP, g5⟩
  replace hQ := hQ.fr g5 (fun e => hpq e.symm)
  have f5 := f4.step g5 (fun i _ e => by rw [e]; omega)
  clear f4 g5
  have hq5 := hQ.lt
  have hp5 := hP.lt
  go_wp2_with fail
  refine (pad_loop _ key 92 (hk.old f5 hkB hT) hkm).mono ?_
  rintro e w6 ⟨g, rfl, hg, b6, hb6⟩
  have r6 := rd_g b6 (hpl 92)
  replace hP := hP.below hb6
  replace hQ := hQ.below hb6
  have f6 := f5.trans (Fr.of_below hb6 _)
  clear f5 hb6
  go_wp2_with fail
  refine (write_any hQ _ _ r6 (fun _ e => by have e2 : g = _ := Option.some.inj e; omega) (by simp [hpl])).mono ?_
  rintro e w7 ⟨rfl, hQ, g7⟩
  rw [List.nil_append] at hQ
  replace hP := hP.fr g7 (fun e => hpq e)
  have f7 := f6.step g7 (fun i _ e => by rw [e]; omega)
  clear f6 g7 b6 r6 hg
  obtain ⟨d1, D1⟩ := Dg.ex (padN key 54 ++ b)
  go_wp2_with fail
  refine (sumD_any hP D1 (by rw [List.length_append, hpl]; omega)).mono ?_
  rintro e w8 ⟨v8, rfl, o8, r8, hb8⟩
  replace hP := hP.below hb8
  replace hQ := hQ.below hb8
  have f8 := f7.trans (Fr.of_below hb8 _)
  clear f7 hb8
  go_wp2_with fail
  refine (write_any hQ _ _ r8 (fun _ => hQ.ne o8) (by rw [hpl, D1.len]; omega)).mono ?_
  rintro e w9 ⟨rfl, hQ, g9⟩
  have f9 := f8.step g9 (fun i _ e => by rw [e]; omega)
  clear f8 g9 o8 r8
  have hs9 := f9.size
  rw [HB.out] at hs9
  obtain ⟨d2, D2⟩ := Dg.ex (padN key 92 ++ d1)
  go_wp2_with fail
  refine (sumD_any hQ D2 (by rw [List.length_append, hpl, D1.len]; omega)).mono ?_
  rintro e w10 ⟨v10, rfl, o10, -, hb10⟩
  have f10 := f9.trans (Fr.of_below hb10 _)
  have hMd : M = d2 := by rw [HM.out, D1.eq, D2.eq]
  go_wp2_with fail
  go_ret
  refine ⟨_, rfl, ?_, f10.below (by rw [HB.out]; exact Nat.le_refl _) (fun k hk => hT k hk)⟩
  rw [hMd]
  exact own_base o10 hs9

theorem looks_any {w : World} (va vb : Value) (a b : List UInt8) (ha : Rd w va a) (hb : Rd w vb b) :
    Calls Try.prog 28 #[va, vb] w fun e w' => e = .returned (.int .i64 (if a.length = b.length then (a.length : Int) else 0)) ∧ w' = w := by
  obtain ⟨A, c, rfl⟩ := ha.slice
  obtain ⟨A2, c2, rfl⟩ := hb.slice
  by_cases h : a.length = b.length
  · rw [if_pos h, h]
    go_enter Try.func28, Try.ntmps28
    go_wp2
    go_ret
    exact ⟨rfl, rfl⟩
  · rw [if_neg h]
    have hI : ((a.length : Int) == (b.length : Int)) = false := by rw [beq_eq_false_iff_ne]; omega
    go_enter Try.func28, Try.ntmps28
    go_wp2
    go_ret
    exact ⟨rfl, rfl⟩

def dN (a b : List UInt8) : Nat → UInt8
  | 0 => 0
  | t + 1 => dN a b t ||| (a.getD t 0 ^^^ b.getD t 0)
theorem or_u8 (x y : UInt8) : bits BinOp.or IntKind.u8 (x.toNat : Int) (y.toNat : Int) = ((x ||| y).toNat : Int) := by
  rw [u8_or_nat _ _ x.toNat_lt y.toNat_lt, UInt8.toNat_or]
theorem dN_zero (a b : List UInt8) : ∀ t, (dN a b t).toNat = 0 ↔ ∀ j, j < t → a.getD j 0 = b.getD j 0
  | 0 => by simp [dN]
  | t + 1 => by
    have ih := dN_zero a b t
    rw [dN, UInt8.toNat_or, UInt8.toNat_xor, Nat.or_eq_zero_iff, ih]
    constructor
    · rintro ⟨h1, h2⟩ j hj
      rcases Nat.lt_or_ge j t with h | h
      · exact h1 j h
      · obtain rfl : j = t := by omega
        have h3 := congrArg (· ^^^ (b.getD j 0).toNat) h2
        rw [Nat.xor_assoc, Nat.xor_self, Nat.xor_zero, Nat.zero_xor] at h3
        exact UInt8.toNat_inj.1 h3
    · intro h
      exact ⟨fun j hj => h j (by omega), by rw [h t (by omega)]; exact Nat.xor_self _⟩
theorem dN_eq {a b : List UInt8} (hl : a.length = b.length) : (((dN a b a.length).toNat : Int) == 0) = (a == b) := by
  by_cases h : a = b
  · subst h
    rw [beq_self_eq_true, beq_iff_eq]
    have := (dN_zero a a a.length).2 (fun _ _ => rfl)
    omega
  · rw [beq_eq_false_iff_ne.2 h, beq_eq_false_iff_ne]
    intro e
    apply h
    have := (dN_zero a b a.length).1 (by omega)
    apply List.ext_getElem hl
    intro j h1 h2
    have := this j h1
    rw [List.getD_eq_getElem?_getD, List.getD_eq_getElem?_getD, List.getElem?_eq_getElem h1, List.getElem?_eq_getElem h2] at this
    simpa using this

set_option maxHeartbeats 2000000 in
theorem equal_any {w : World} (va vb : Value) (a b : List UInt8) (ha : Rd w va a) (hb : Rd w vb b) :
    Calls Try.prog 27 #[va, vb] w fun e w' => e = .returned (.bool (a == b)) ∧ Below w.heap.size w w' := by
  obtain ⟨A, c, rfl⟩ := ha.slice
  obtain ⟨A2, c2, rfl⟩ := hb.slice
  have hma := ha.max
  by_cases h : a.length = b.length
  · have hdn := dN_eq h
    have hlk := looks_any (.slice A a.length c) (.slice A2 b.length c2) a b ha hb
    rw [if_pos h] at hlk
    rw [← h] at hlk hb ⊢
    generalize hn : a.length = n at *
    have HN := Lib.hid hn
    have HL := Lib.hid h
    have HD := Lib.hid hdn
    clear hn h hdn
    go_enter Try.func27, Try.ntmps27
    go_wp2_with fail
    refine hlk.mono ?_
    rintro e w1 ⟨rfl, rfl⟩
    go_wp2_with fail
    go_loopw [5, 6, 10] (fun d _ i wr => ∃ t : Nat, d = .int .u8 ((dN a b t).toNat : Int) ∧ i = .int .i64 t ∧ t ≤ n ∧ Rd wr (.slice A n c) a ∧ Rd wr (.slice A2 n c2) b ∧ Below w1.heap.size w1 wr) (fun _ _ i _ => n - (intOf i).toNat)
    case atStart => exact ⟨0, rfl, rfl, Nat.zero_le _, ha, hb, Below.refl _ _⟩
    case round =>
      clear ha hb
      obtain ⟨t, rfl, rfl, ht, ha, hb, hB⟩ := hrel
      by_cases hlt : t < n
      · have hltI : (t : Int) < (n : Int) := by omega
        have ht0 : (0 : Int) ≤ (t : Int) := by omega
        obtain ⟨b1, o1, rfl, c1⟩ := ha.at (j := t) (by rw [HN.out]; exact hlt)
        obtain ⟨b2, o2, rfl, c2'⟩ := hb.at (j := t) (by rw [← HL.out]; exact hlt)
        have e1 : a[t]'(by rw [HN.out]; exact hlt) = a.getD t 0 := by rw [List.getD_eq_getElem?_getD, List.getElem?_eq_getElem (by rw [HN.out]; exact hlt)]; rfl
        have e2 : b[t]'(by rw [← HL.out]; exact hlt) = b.getD t 0 := by rw [List.getD_eq_getElem?_getD, List.getElem?_eq_getElem (by rw [← HL.out]; exact hlt)]; rfl
        rw [e1] at c1
        rw [e2] at c2'
        have hdt : dN a b (t + 1) = dN a b t ||| (a.getD t 0 ^^^ b.getD t 0) := rfl
        clear e1 e2
        generalize a.getD t 0 = x at *
        generalize b.getD t 0 = y at *
        generalize dN a b t = d at *
        replace c1 : wr.drew.cell? ⟨b1, o1 + t, none⟩ = _ := c1
        replace c2' : wr.drew.cell? ⟨b2, o2 + t, none⟩ = _ := c2'
        go_wp2_with fail
        refine wp_region_float (Fr (fun _ => False)) [(0, 0), (1, 0), (2, 0), (3, 0), (4, 1), (5, 0), (6, 0), (7, 0), (8, 1), (9, 0), (10, 0), (11, 0)] _ (by kernel_rfl) (by kernel_rfl) (by simp only [List.map_cons, List.map_nil, Array.getD_eq_getD_getElem?, List.getElem?_toArray, List.getElem?_cons_succ, List.getElem?_cons_zero, Option.getD_some]; rfl) rfl (by kernel_rfl) (fun _ _ d _ _ h => by cases d <;> exact h) (Fr.refl _) (fun _ _ _ => Fr.trans) ?_
        replace ha := ha.drew
        replace hb := hb.drew
        replace hB := hB.drew
        generalize wr.drew = w4 at *
        repeat (first | (refine wpF_f0 (fun K hK => ?_); go_simp; refine hK _ ?_; clear hK K) | (refine wpF_load1 rfl rfl rfl (by kernel_rfl) (by assumption) (by simp) (fun K hK => ?_); go_simp; refine hK _ ?_; clear hK K) | (refine wpF_loadN rfl rfl rfl (by assumption) (by assumption) (by kernel_rfl) (by kernel_rfl) (by simp) (fun K hK => ?_); go_simp; refine hK _ ?_; clear hK K))
        rw [xor_u8, or_u8, ← hdt]
        refine wpF_nil ?_
        go_wp2_with fail
        go_roundw
        case rel => exact ⟨t + 1, rfl, by go_num, by omega, ha, hb, hB⟩
        case measure => simp [intOf]; omega
      · obtain rfl : t = n := by omega
        by_cases hz : (dN a b t).toNat = 0
        · have hab : (a == b) = true := by rw [← HD.out, hz]; rfl
          go_wp2_with fail
          go_ret
          exact ⟨by rw [hab]; rfl, hB⟩
        · have hab : (a == b) = false := by rw [← HD.out, beq_eq_false_iff_ne]; omega
          have hzb : (((dN a b t).toNat : Int) == 0) = false := by rw [beq_eq_false_iff_ne]; omega
          go_wp2_with fail
          go_ret
          exact ⟨by rw [hab]; rfl, hB⟩
  · have hI : ((a.length : Int) == (b.length : Int)) = false := by rw [beq_eq_false_iff_ne]; omega
    have hab : (a == b) = false := by rw [beq_eq_false_iff_ne]; intro e; exact h (by rw [e])
    rw [hab]
    go_enter Try.func27, Try.ntmps27
    go_wp2_with fail
    refine (looks_any _ _ a b ha hb).mono ?_
    rintro e w1 ⟨rfl, rfl⟩
    rw [if_neg h]
    go_wp2_with fail
    go_loopw [5, 6, 10] (fun d _ i wr => d = .int .u8 0 ∧ i = .int .i64 0 ∧ wr = w1) (fun _ _ i _ => 0)
    case atStart => exact ⟨rfl, rfl, rfl⟩
    case round =>
      obtain ⟨rfl, rfl, rfl⟩ := hrel
      go_wp2_with fail
      go_ret
      exact ⟨rfl, Below.refl _ _⟩

structure Mg (key b m : List UInt8) : Prop where
  eq : macN key b = m
  len : m.length = 32
theorem Mg.ex (key b : List UInt8) : ∃ m, Mg key b m := ⟨_, rfl, by rw [macN, digest, bytesN_length]⟩
theorem macD_any {w : World} (vk vb : Value) {key b m : List UInt8} (hk : Rd w vk key) (hb : Rd w vb b) (hm : Mg key b m) (hkm : key.length < 100000000000) (hbm : b.length < 100000000000) :
    Calls Try.prog 25 #[vk, vb] w fun e w' => ∃ v, e = .returned v ∧ w'.ownsRow w.heap.size 5 1 v 32 (bts m) ∧ Rd w' v m ∧ Below w.heap.size w w' := by
  obtain ⟨rfl, _⟩ := hm
  refine (mac_any vk vb key b hk hb hkm hbm).mono ?_
  rintro e w' ⟨v, h1, h2, h3⟩
  exact ⟨v, h1, h2, Rd.of_own h2, h3⟩
theorem check_any {w : World} (vk vb vc : Value) {key b m c : List UInt8} (hk : Rd w vk key) (hb : Rd w vb b) (hc : Rd w vc c) (hm : Mg key b m) (hkm : key.length < 100000000000) (hbm : b.length < 100000000000) :
    Calls Try.prog 29 #[vk, vb, vc] w fun e w' => e = .returned (.bool (m == c)) ∧ Below w.heap.size w w' := by
  go_enter Try.func29, Try.ntmps29
  go_wp2_with fail
  refine (macD_any vk vb hk hb hm hkm hbm).mono ?_
  rintro e w1 ⟨v, rfl, o, r, hb1⟩
  go_wp2_with fail
  refine (equal_any v vc m c r (hc.below hb1)).mono ?_
  rintro e w2 ⟨rfl, hb2⟩
  go_wp2_with fail
  go_ret
  exact ⟨rfl, below_then hb1 hb2⟩
end Go.Proofs.Ythaoegapmekbmaa
