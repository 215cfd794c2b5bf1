/- The document's sha: words. -/
import Derived.Test.YthocpbkgcpgpdaaDoorRef1
namespace Go.Proofs.YthocpbkgcpgpdaaDoor.Sha
open Go.RowKit

theorem infoWord : (Tryd.prog.info? 70).map (fun i => (i.zero, i.size, i.bytes)) = some (some (.int .u32 0), 1, 4) := by kernel_rfl
theorem wide4 (a b c d : UInt8) : ((a.toUInt32 <<< UInt32.ofNat 24 ||| b.toUInt32 <<< UInt32.ofNat 16) ||| c.toUInt32 <<< UInt32.ofNat 8) ||| d.toUInt32 = wideN [a, b, c, d] 4 := by
  have e : wideN [a, b, c, d] 4 = ((((0 <<< UInt32.ofNat 8 ||| a.toUInt32) <<< UInt32.ofNat 8 ||| b.toUInt32) <<< UInt32.ofNat 8 ||| c.toUInt32) <<< UInt32.ofNat 8 ||| d.toUInt32) := rfl
  rw [e]
  apply UInt32.toNat_inj.1
  apply Nat.eq_of_testBit_eq
  intro i
  simp only [UInt32.toNat_or, UInt32.toNat_shiftLeft, Nat.testBit_or, Nat.testBit_mod_two_pow, Nat.testBit_shiftLeft, UInt8.toNat_toUInt32, UInt32.toNat_ofNat', UInt32.toNat_zero]
  by_cases hi : i < 32
  · have h : i = 0 ∨ i = 1 ∨ i = 2 ∨ i = 3 ∨ i = 4 ∨ i = 5 ∨ i = 6 ∨ i = 7 ∨ i = 8 ∨ i = 9 ∨ i = 10 ∨ i = 11 ∨ i = 12 ∨ i = 13 ∨ i = 14 ∨ i = 15 ∨ i = 16 ∨ i = 17 ∨ i = 18 ∨ i = 19 ∨ i = 20 ∨ i = 21 ∨ i = 22 ∨ i = 23 ∨ i = 24 ∨ i = 25 ∨ i = 26 ∨ i = 27 ∨ i = 28 ∨ i = 29 ∨ i = 30 ∨ i = 31 := by omega
    rcases h with rfl | rfl | rfl | rfl | rfl | rfl | rfl | rfl | rfl | rfl | rfl | rfl | rfl | rfl | rfl | rfl | rfl | rfl | rfl | rfl | rfl | rfl | rfl | rfl | rfl | rfl | rfl | rfl | rfl | rfl | rfl | rfl <;> simp
  · simp [hi]
theorem wide_at (l : List UInt8) (t : Nat) (h : 4 * t + 3 < l.length) : wideN (l.drop (4 * t)) 4 = wideN [l[4 * t], l[4 * t + 1], l[4 * t + 2], l[4 * t + 3]] 4 := by
  have g : ∀ k, k < 4 → (l.drop (4 * t)).getD k 0 = [l[4 * t]'(by omega), l[4 * t + 1], l[4 * t + 2], l[4 * t + 3]].getD k 0 := by
    intro k hk
    rw [List.getD_eq_getElem?_getD, List.getElem?_drop, List.getElem?_eq_getElem (by omega)]
    match k, hk with
    | 0, _ | 1, _ | 2, _ | 3, _ => rfl
  simp only [wideN, g 0 (by omega), g 1 (by omega), g 2 (by omega), g 3 (by omega)]

theorem u8_u32 (c : UInt8) : (c.toNat : Int) % 4294967296 = (c.toUInt32.toNat : Int) := by
  have : c.toNat < 256 := c.toNat_lt
  rw [UInt8.toNat_toUInt32]; omega
theorem wrap_u8 (x : UInt8) : IntKind.u32.wrap (x.toNat : Int) = (x.toUInt32.toNat : Int) := by rw [IntKind.wrap_u32', u8_u32]
theorem wrap_shl (x : UInt32) (k : Nat) (hk : k < 32) : IntKind.u32.wrap ((x.toNat : Int) * 2 ^ k) = ((x <<< UInt32.ofNat k).toNat : Int) := by rw [IntKind.wrap_u32', shl_u32 x k hk]
theorem word4 (a b c d : UInt8) : bits BinOp.or IntKind.u32 (bits BinOp.or IntKind.u32 (bits BinOp.or IntKind.u32 (IntKind.u32.wrap (IntKind.u32.wrap (a.toNat : Int) * 16777216)) (IntKind.u32.wrap (IntKind.u32.wrap (b.toNat : Int) * 65536)))
    (IntKind.u32.wrap (IntKind.u32.wrap (c.toNat : Int) * 256))) (IntKind.u32.wrap (d.toNat : Int)) = ((wideN [a, b, c, d] 4).toNat : Int) := by
  have h24 : IntKind.u32.wrap ((a.toUInt32.toNat : Int) * 16777216) = _ := wrap_shl a.toUInt32 24 (by omega)
  have h16 : IntKind.u32.wrap ((b.toUInt32.toNat : Int) * 65536) = _ := wrap_shl b.toUInt32 16 (by omega)
  have h8 : IntKind.u32.wrap ((c.toUInt32.toNat : Int) * 256) = _ := wrap_shl c.toUInt32 8 (by omega)
  rw [wrap_u8, wrap_u8, wrap_u8, wrap_u8, h24, h16, h8, or_u32, or_u32, or_u32, wide4]
set_option maxHeartbeats 8000000 in
set_option maxRecDepth 100000 in
theorem rwords_any {w : World} (v : Value) (l : List UInt8) (hv : Rd w v l) (hl : l.length = 64) :
    Calls Tryd.prog 58 #[v] w fun e w' => ∃ v', e = .returned v' ∧ w'.ownsRow w.heap.size 70 1 v' 64 (wds (schedN l 64)) ∧ Below w.heap.size w w' := by
  obtain ⟨A, c, rfl⟩ := hv.slice
  have hcap := rd_cap hv (by omega)
  obtain ⟨b, o, rfl, -⟩ := hv.at (j := 0) (by omega)
  rw [hl] at hv hcap ⊢
  have hcI : (64 : Int) ≤ (c : Int) := by omega
  have hbw : b < w.heap.size := hv.lt (by intro e; rw [e] at hl; simp at hl) b rfl
  go_enter Tryd.func58, Tryd.ntmps58
  go_wp2_with (refine wpList_makeN (c := 64) rfl rfl rfl rfl rfl rfl Tryd.underlying67 infoWord (by omega) (by simp [maxLen]) (fun g w1 zc hzc hnew hg f => ?_))
  have hbg : b ≠ g := by omega
  replace hv := hv.fr f (fun _ _ _ h => h)
  go_loopw [4] (fun i wr => ∃ t : Nat, i = .int .i64 t ∧ t ≤ 16 ∧ (∃ cs : Array Value, Blk wr g cs 70 ∧ cs.size = 64 ∧ ∀ j, j < t → cs[j]? = some (W32 ((schedN l t).getD j 0))) ∧ Rd wr (.slice (some ⟨b, o, none⟩) 64 c) l ∧ Fr (fun _ => False) w wr) (fun i _ => 16 - (intOf i).toNat)
  case atStart => exact ⟨0, rfl, Nat.zero_le _, ⟨zc, hnew, hzc, fun j hj => by omega⟩, hv, f⟩
  case round =>
    clear hnew hv f
    obtain ⟨t, rfl, ht, ⟨cs, hb, hs, hc⟩, hR, hF⟩ := hrel
    by_cases hlt : t < 16
    ·
      -- <A
      have hltI : (t : Int) < 16 := by omega
      have ht0 : (0 : Int) ≤ (t : Int) := by omega
      have h64I : (t : Int) < 64 := by omega
      have hwa := wide_at l t (by omega)
      have at' : ∀ k (hk : k < 64), wr.drew.cell? ⟨b, o + k, none⟩ = some (.int .u8 ((l[k]'(by omega)).toNat : Int)) := fun k hk => by
        obtain ⟨b2, o2, e, hcell⟩ := hR.at (j := k) (by omega)
        cases e
        exact hcell
      have c0 := at' (4 * t) (by omega)
      have c1 := at' (4 * t + 1) (by omega)
      have c2 := at' (4 * t + 2) (by omega)
      have c3 := at' (4 * t + 3) (by omega)
      generalize l[4 * t] = x0 at *
      generalize l[4 * t + 1] = x1 at *
      generalize l[4 * t + 2] = x2 at *
      generalize l[4 * t + 3] = x3 at *
      clear at'
      have hw0 : IntKind.i64.wrap (4 * (t : Int)) = ((4 * t : Nat) : Int) := wrap_nat (by omega) (by omega)
      have hw1 : IntKind.i64.wrap (((4 * t : Nat) : Int) + 1) = ((4 * t + 1 : Nat) : Int) := wrap_nat (by omega) (by omega)
      have hw2 : IntKind.i64.wrap (((4 * t : Nat) : Int) + 2) = ((4 * t + 2 : Nat) : Int) := wrap_nat (by omega) (by omega)
      have hw3 : IntKind.i64.wrap (((4 * t : Nat) : Int) + 3) = ((4 * t + 3 : Nat) : Int) := wrap_nat (by omega) (by omega)
      have l0 : ((4 * t : Nat) : Int) < 64 := by omega
      have l1 : ((4 * t + 1 : Nat) : Int) < 64 := by omega
      have l2 : ((4 * t + 2 : Nat) : Int) < 64 := by omega
      have l3 : ((4 * t + 3 : Nat) : Int) < 64 := by omega
      generalize 4 * t + 1 = u1 at *
      generalize 4 * t + 2 = u2 at *
      generalize 4 * t + 3 = u3 at *
      generalize hu0 : 4 * t = u0 at *
      have HU0 := Lib.hid hu0
      clear hu0
      go_wp2_with fail
      refine wp_region_float (Fr (fun _ => False)) [(0, 0), (1, 0), (2, 0), (3, 0), (4, 0), (5, 0), (6, 1), (7, 0), (8, 0), (9, 0), (10, 0), (11, 0), (12, 0), (13, 0), (14, 1), (15, 0), (16, 0), (17, 0), (18, 0), (19, 0), (20, 0), (21, 0), (22, 0), (23, 1), (24, 0), (25, 0), (26, 0), (27, 0), (28, 0), (29, 0), (30, 0), (31, 0), (32, 1), (33, 0), (34, 0), (35, 0), (36, 3)] _ (by kernel_rfl) (by kernel_rfl) (by simp only [List.map_cons, List.map_nil, Array.getD_eq_getD_getElem?, List.getElem?_toArray, List.getElem?_cons_succ, List.getElem?_cons_zero, Option.getD_some]; rfl) rfl (by kernel_rfl) (fun _ _ d _ _ h => by cases d <;> exact h) (Fr.refl _) (fun _ _ _ => Fr.trans) ?_
      replace hb : Blk wr.drew g cs 70 := hb
      replace hR := hR.drew
      replace hF := hF.drew
      generalize wr.drew = w3 at *
      repeat (first | (refine wpF_f0 (fun K hK => ?_); go_simp; refine hK _ ?_; clear hK K) | (refine wpF_load1 rfl rfl rfl (by kernel_rfl) (by assumption) (by simp) (fun K hK => ?_); go_simp; refine hK _ ?_; clear hK K) | (refine wpF_loadN rfl rfl rfl (by assumption) (by assumption) (by kernel_rfl) (by kernel_rfl) (by simp) (fun K hK => ?_); go_simp; refine hK _ ?_; clear hK K))
      obtain ⟨v0, hcell⟩ : ∃ v0, w3.cell? ⟨g, t, none⟩ = some v0 := ⟨_, (hb.cell t).trans (Array.getElem?_eq_getElem (by omega))⟩
      have hfz := hb.frozen t
      refine wpF_a3 (fun K hK => ?_); rw [if_pos (by rfl)]
      go_simp
      rw [word4, ← hwa]
      have hb2 := hb.set t (W32 (wideN (l.drop u0) 4))
      have hst : Fr (fun k => k = g) w3 (w3.setCell ⟨g, t, none⟩ (W32 (wideN (l.drop u0) 4))) := (Fr.refl (fun k => k = g) w3).setCell (p := ⟨g, t, none⟩) (fun _ => rfl) _
      have hF2 := hF.setCell (p := ⟨g, t, none⟩) (fun hh => by simp at hh; omega) (W32 (wideN (l.drop u0) 4))
      have hR2 := hR.fr hst (fun _ q hq e => by cases hq; exact hbg e)
      have hc2 := sched_set hs (show t < 64 by omega) hc (show schedNext l (schedN l t) t = wideN (l.drop u0) 4 by unfold schedNext; rw [if_pos hlt, HU0.out])
      generalize w3.setCell ⟨g, t, none⟩ (W32 (wideN (l.drop u0) 4)) = w4 at *
      clear hb hR hF hst hcell hfz c0 c1 c2 c3 hw0 hw1 hw2 hw3 l0 l1 l2 l3
      refine hK _ _ ?_
      clear hK K
      refine wpF_nil ?_
      go_wp2_with fail
      go_roundw
      case rel => exact ⟨t + 1, by go_num, by omega, ⟨_, hb2, by simpa using hs, hc2⟩, hR2, hF2⟩
      case measure => simp [intOf]; omega
      -- >A
    · obtain rfl : t = 16 := by omega
      go_wp2_with fail
      try rw [show ((16 : Nat) : Int) = 16 from rfl]
      go_loopw [5, 6, 7, 8, 9] (fun i _ _ _ _ wr => ∃ t : Nat, i = .int .i64 t ∧ t ≤ 64 ∧ 16 ≤ t ∧ (∃ cs : Array Value, Blk wr g cs 70 ∧ cs.size = 64 ∧ ∀ j, j < t → cs[j]? = some (W32 ((schedN l t).getD j 0))) ∧ Fr (fun _ => False) w wr) (fun i _ _ _ _ _ => 64 - (intOf i).toNat)
      case atStart => exact ⟨16, rfl, by omega, by omega, ⟨cs, hb, hs, hc⟩, hF⟩
      case round =>
        clear hb hs hc hF hR
        obtain ⟨t, rfl, ht, ht16, ⟨cs, hb, hs, hc⟩, hF⟩ := hrel
        by_cases hlt : t < 64
        ·
          -- <B
          have hltI : (t : Int) < 64 := by omega
          have ht0 : (0 : Int) ≤ (t : Int) := by omega
          have hw15 : IntKind.i64.wrap ((t : Int) - 15) = ((t - 15 : Nat) : Int) := wrap_nat (by omega) (by omega)
          have hw2 : IntKind.i64.wrap ((t : Int) - 2) = ((t - 2 : Nat) : Int) := wrap_nat (by omega) (by omega)
          have hw7 : IntKind.i64.wrap ((t : Int) - 7) = ((t - 7 : Nat) : Int) := wrap_nat (by omega) (by omega)
          have hw16 : IntKind.i64.wrap ((t : Int) - 16) = ((t - 16 : Nat) : Int) := wrap_nat (by omega) (by omega)
          have c15 : wr.cell? ⟨g, t - 15, none⟩ = some (W32 ((schedN l t).getD (t - 15) 0)) := (hb.cell _).trans (hc _ (by omega))
          have c2 : wr.cell? ⟨g, t - 2, none⟩ = some (W32 ((schedN l t).getD (t - 2) 0)) := (hb.cell _).trans (hc _ (by omega))
          have c7 : wr.drew.cell? ⟨g, t - 7, none⟩ = some (W32 ((schedN l t).getD (t - 7) 0)) := (hb.cell _).trans (hc _ (by omega))
          have c16 : wr.drew.cell? ⟨g, t - 16, none⟩ = some (W32 ((schedN l t).getD (t - 16) 0)) := (hb.cell _).trans (hc _ (by omega))
          have hnx : schedNext l (schedN l t) t = sig1 ((schedN l t).getD (t - 2) 0) + (schedN l t).getD (t - 7) 0 + sig0 ((schedN l t).getD (t - 15) 0) + (schedN l t).getD (t - 16) 0 := by unfold schedNext; rw [if_neg (by omega)]
          have l15 : ((t - 15 : Nat) : Int) < 64 := by omega
          have l2 : ((t - 2 : Nat) : Int) < 64 := by omega
          have l7 : ((t - 7 : Nat) : Int) < 64 := by omega
          have l16 : ((t - 16 : Nat) : Int) < 64 := by omega
          generalize (schedN l t).getD (t - 15) 0 = x15 at *
          generalize (schedN l t).getD (t - 2) 0 = x2 at *
          generalize (schedN l t).getD (t - 7) 0 = x7 at *
          generalize (schedN l t).getD (t - 16) 0 = x16 at *
          go_wp2_with fail
          refine (turned_any x15 7 (by omega) (by omega) _).mono ?_
          rintro e w8 ⟨rfl, rfl⟩
          go_wp2_with fail
          refine (turned_any x15 18 (by omega) (by omega) _).mono ?_
          rintro e w8 ⟨rfl, rfl⟩
          go_wp2_with fail
          refine (turned_any x2 17 (by omega) (by omega) _).mono ?_
          rintro e w8 ⟨rfl, rfl⟩
          go_wp2_with fail
          refine (turned_any x2 19 (by omega) (by omega) _).mono ?_
          rintro e w8 ⟨rfl, rfl⟩
          go_wp2_with fail
          refine wp_region_float (Fr (fun _ => False)) [(0, 0), (1, 0), (2, 0), (3, 0), (4, 0), (5, 0), (6, 0), (7, 1), (8, 0), (9, 0), (10, 0), (11, 0), (12, 0), (13, 0), (14, 0), (15, 1), (16, 0), (17, 0), (18, 3)] _ (by kernel_rfl) (by kernel_rfl) (by simp only [List.map_cons, List.map_nil, Array.getD_eq_getD_getElem?, List.getElem?_toArray, List.getElem?_cons_succ, List.getElem?_cons_zero, Option.getD_some]; rfl) rfl (by kernel_rfl) (fun _ _ d _ _ h => by cases d <;> exact h) (Fr.refl _) (fun _ _ _ => Fr.trans) ?_
          replace hb : Blk w8.drew g cs 70 := hb
          replace hF := hF.drew
          clear c2 c15
          generalize w8.drew = w3 at *
          repeat (first | (refine wpF_f0 (fun K hK => ?_); go_simp; refine hK _ ?_; clear hK K) | (refine wpF_load1 rfl rfl rfl (by kernel_rfl) (by assumption) (by simp) (fun K hK => ?_); go_simp; refine hK _ ?_; clear hK K) | (refine wpF_loadN rfl rfl rfl (by assumption) (by assumption) (by kernel_rfl) (by kernel_rfl) (by simp) (fun K hK => ?_); go_simp; refine hK _ ?_; clear hK K))
          obtain ⟨v0, hcell⟩ : ∃ v0, w3.cell? ⟨g, t, none⟩ = some v0 := ⟨_, (hb.cell t).trans (Array.getElem?_eq_getElem (by omega))⟩
          have hfz := hb.frozen t
          refine wpF_a3 (fun K hK => ?_); rw [if_pos (by rfl)]
          go_simp
          rw [sched_word x2 x7 x15 x16, ← hnx]
          have hb2 := hb.set t (W32 (schedNext l (schedN l t) t))
          have hF2 := hF.setCell (p := ⟨g, t, none⟩) (fun hh => by simp at hh; omega) (W32 (schedNext l (schedN l t) t))
          clear hw15 hw2 hw7 hw16 c7 c16 l15 l2 l7 l16
          have hc2 := sched_set hs hlt hc rfl
          clear hF hb hcell hfz hnx
          generalize schedNext l (schedN l t) t = x at *
          generalize w3.setCell ⟨g, t, none⟩ (W32 x) = w9 at *
          refine hK _ _ ?_
          clear hK K
          refine wpF_nil ?_
          go_wp2_with fail
          go_roundw
          case rel => exact ⟨t + 1, by go_num, by omega, by omega, ⟨_, hb2, by simpa using hs, hc2⟩, hF2⟩
          case measure => simp [intOf]; omega
          -- >B
        · obtain rfl : t = 64 := by omega
          have ho := own_of_blk (base := w.heap.size) hb hg hs (by simp [maxLen])
          have he : cs.toList = wds (schedN l 64) := by
            apply List.ext_getElem?
            intro j
            rw [Array.getElem?_toList]
            by_cases hj : j < 64
            · rw [hc j hj, ← wds_get (by rw [schedN_length]; exact hj), List.getElem?_toArray]
            · rw [Array.getElem?_eq_none (by omega), List.getElem?_eq_none (by rw [wds_length, schedN_length]; omega)]
          rw [he] at ho
          go_wp2_with fail
          go_ret
          exact ⟨_, rfl, ho, hF.below (Nat.le_refl _) (fun _ _ h => h)⟩
end Go.Proofs.YthocpbkgcpgpdaaDoor.Sha
