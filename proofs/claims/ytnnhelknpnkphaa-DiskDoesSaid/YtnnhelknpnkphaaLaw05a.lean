/- The chapter's example is met. -/
import Derived.Test.YtnnhelknpnkphaaDisk8
namespace Go.Proofs.Ytnnhelknpnkphaa
open Go.RowKit

theorem rep_cells {c : UInt8} (n : Nat) (cs : Array Value) (hs : cs.size = n) (hc : ∀ j, j < n → cs[j]? = some (.int .u8 (c.toNat : Int))) : cs = (bts (List.replicate n c)).toArray := by
  apply Array.ext_getElem?
  intro j
  by_cases hj : j < n
  · rw [hc j hj]; simp only [bts, List.getElem?_toArray, List.map_replicate, List.getElem?_replicate, if_pos hj]
  · rw [Array.getElem?_eq_none (by omega), Array.getElem?_eq_none (by simp [bts_length]; omega)]

set_option maxHeartbeats 1000000 in
set_option maxRecDepth 100000 in
theorem block_any (c : UInt8) (w : World) :
    Calls Try.prog 12 #[.int .u8 (c.toNat : Int)] w fun e w' => ∃ g, e = .returned (.slice (some ⟨g, 0, none⟩) 64 64) ∧ w.heap.size ≤ g ∧ Blk w' g (bts (List.replicate 64 c)).toArray 5 ∧ Below w.heap.size w w' := by
  obtain ⟨i0, hi, hz0, hz1, hz2⟩ := info_parts infoByte
  have hmk := fun w => run_make (P := Try.prog) w 29 5 i0 _ Try.underlying29 hi hz0 .i64 .i64 64 64 (by omega) (by omega) (by rw [hz2]; omega) (by omega)
  rw [hz1, show (64 : Int).toNat = 64 from rfl] at hmk
  generalize hK : madeCells (Value.int IntKind.u8 0).cells (64 * 1) = KC at *
  have hKs : KC.size = 64 := by rw [← hK]; exact size_madeCells _ _
  clear hK hz0 hz1 hz2 hi
  have hbel := (Below.refl w.heap.size w).alloc (Nat.le_refl _) (.cells KC 5)
  have hnew := Blk.new w KC 5
  go_enter Try.func12, Try.ntmps12
  go_wp2
  clear hmk
  generalize hw1 : w.alloc (.cells KC 5) = w1 at *
  clear hw1
  generalize hg : w.heap.size = g at *
  have HG := Lib.hid hg
  clear hg
  go_loopw [4] (fun i wr => ∃ k : Nat, i = .int .i64 k ∧ k ≤ 64 ∧ (∃ cs : Array Value, Blk wr g cs 5 ∧ cs.size = 64 ∧ ∀ j, j < k → cs[j]? = some (.int .u8 (c.toNat : Int))) ∧ Below g w wr) (fun i _ => 64 - (intOf i).toNat)
  case atStart => exact ⟨0, rfl, by omega, ⟨KC, hnew, hKs, fun j hj => by omega⟩, hbel⟩
  case round =>
    obtain ⟨k, rfl, hk, ⟨cs, hb, hs, hc⟩, hbw⟩ := hrel
    by_cases hlt : k < 64
    · have hltI : (k : Int) < 64 := by omega
      have hk0 : (0 : Int) ≤ (k : Int) := by omega
      obtain ⟨v0, hcell⟩ : ∃ v0, wr.cell? ⟨g, k, none⟩ = some v0 := ⟨_, (hb.cell k).trans (Array.getElem?_eq_getElem (by omega))⟩
      have hfz := hb.frozen k
      have hsz := hbw.size
      have hb2 := hb.set k (.int .u8 (c.toNat : Int))
      have hbw2 := hbw.setCell (p := ⟨g, k, none⟩) (by exact Nat.le_refl _) (.int .u8 (c.toNat : Int))
      go_wp2
      go_roundw
      case rel =>
        refine ⟨k + 1, by go_num, by omega, ⟨_, hb2, by simpa using hs, fun j hj => ?_⟩, hbw2⟩
        rw [Array.getElem?_setIfInBounds]
        by_cases e : k = j
        · subst e; simp [hs, hlt]
        · rw [if_neg e]; exact hc j (by omega)
      case measure => simp [intOf]; omega
    · obtain rfl : k = 64 := by omega
      go_wp2
      go_ret
      rw [rep_cells 64 cs hs hc] at hb
      exact ⟨_, rfl, Nat.le_of_eq HG.out, hb, by rw [HG.out]; exact hbw⟩

def b64 (c : UInt8) : List UInt8 := List.replicate 64 c
theorem b64_len (c : UInt8) : (b64 c).length = 64 := by simp [b64]
theorem block_rd (c : UInt8) (w : World) :
    Calls Try.prog 12 #[.int .u8 (c.toNat : Int)] w fun e w' => ∃ v, e = .returned v ∧ Rd w' v (b64 c) ∧ (∀ k, v.ownBlock = some k → w.heap.size ≤ k ∧ k < w'.heap.size) ∧ Below w.heap.size w w' := by
  refine (block_any c w).mono ?_
  rintro e w' ⟨g, rfl, hg, hb, hbel⟩
  exact ⟨_, rfl, Rd.blk hb (b64_len c) (Nat.le_refl _) (by simp [maxLen]), (fun k hk => by cases hk; exact ⟨hg, hb.lt⟩), hbel⟩

/-- The example's disk. -/
def awD : DSt := ((DSt.fresh 2).write 0 (b64 7)).2

set_option maxHeartbeats 4000000 in
set_option maxRecDepth 100000 in
theorem awake_any (w : World) : Calls Try.prog 9 #[] w fun e w' => e = .returned (.bool true) ∧ Below w.heap.size w w' := by
  go_enter Try.func9, Try.ntmps9
  go_wp2_with fail
  refine (new_s 2 w (by omega) (by omega)).mono ?_
  rintro e w1 ⟨p, rfl, hD, hb1⟩
  go_wp2_with fail
  refine (block_rd 7 w1).mono ?_
  rintro e w2 ⟨v, rfl, hv, -, hb2⟩
  replace hD := hD.below hb2
  replace hb1 := below_then hb1 hb2
  clear hb2
  go_wp2_with fail
  refine (write_s hD (fun k hk => Nat.le_trans hb1.size hk) (by decide) 0 v _ hv).mono ?_
  rintro e w3 ⟨rfl, hD3, hf⟩
  clear hD
  have hD : DiskS (fun k => w.heap.size ≤ k) w3 p awD := hD3
  have e1 : ((DSt.fresh 2).write 0 (b64 7)).1 = 0 := by decide
  rw [e1]
  replace hb1 := hb1.trans (hf.below hb1.size (fun k hk h => by omega))
  clear hf hv hD3
  go_wp2_with fail
  refine (read_s hD (by decide) 0).mono ?_
  rintro e w4 ⟨b, rfl, hrb, hro, hb2⟩
  replace hro := ReadPost.own hro
  have e2 : awD.read 0 = (b64 7, 0) := by decide
  rw [e2] at hrb
  rw [e2]
  replace hD := hD.past hb2 b (fun k hk => (hro k hk).1)
  replace hb1 := below_then hb1 hb2
  clear hb2
  go_wp2_with fail
  refine (image_s hD).mono ?_
  rintro e w5 ⟨x, rfl, hx, hb2⟩
  have hxo := hx.lt
  have hrx := Rd.of_own hx
  replace hD := hD.past hb2 x (fun k hk => (hxo k hk).1)
  replace hrb := hrb.below hb2
  have hbz := hb2.size
  replace hb1 := below_then hb1 hb2
  clear hb2 hx
  go_wp2_with fail
  have hal := (Below.refl w5.heap.size w5).alloc (Nat.le_refl _) (.cells #[.int .i64 1] 3)
  have hpk : RdI (w5.alloc (.cells #[.int .i64 1] 3)) (.slice (some ⟨w5.heap.size, 0, none⟩) 1 1) [1] :=
    ⟨by simp [maxLen], .inr ⟨_, 0, 1, rfl, by simp, (Blk.new w5 _ _).range' 0 _ (fun j v hv => by simpa [its] using hv)⟩⟩
  replace hD := hD.past hal (.slice (some ⟨w5.heap.size, 0, none⟩) 1 1) (fun k hk => by cases hk; exact Nat.le_refl _)
  replace hrb := hrb.below hal
  replace hrx := hrx.below hal
  replace hb1 := below_then hb1 hal
  have hws : w5.heap.size < (w5.alloc (.cells #[.int .i64 1] 3)).heap.size := by simp
  clear hal
  generalize w5.alloc (.cells #[.int .i64 1] 3) = w6 at *
  refine (crash_s hD (by decide) _ [1] hpk (fun _ k hk h => h.2 hk.symm)).mono ?_
  rintro e w7 ⟨rfl, hD7, hf⟩
  replace hrb := hrb.fr hf (fun _ k hk h => h.1.1.2 hk.symm)
  replace hrx := hrx.fr hf (fun _ k hk h => h.1.2 hk.symm)
  have hfs := hf.size
  replace hb1 := hb1.trans (hf.below hb1.size (fun k hk h => by have := h.1.1.1; omega))
  clear hD hpk hf
  go_wp2_with fail
  refine (image_s hD7).mono ?_
  rintro e w8 ⟨y, rfl, hy, hb2⟩
  have hry := Rd.of_own hy
  replace hrb := hrb.below hb2
  replace hrx := hrx.below hb2
  replace hb1 := below_then hb1 hb2
  clear hD7 hb2 hro hxo
  have ex : awD.image = List.replicate 128 0 := by decide
  have ey : (awD.crashed [1]).image = b64 7 ++ List.replicate 64 0 := by decide
  obtain ⟨B, bc, rfl⟩ := hrb.slice
  obtain ⟨X, xc, rfl⟩ := hrx.slice
  obtain ⟨Y, yc, rfl⟩ := hry.slice
  have lx : awD.image.length = 128 := by rw [ex]; simp
  have ly : (awD.crashed [1]).image.length = 128 := by rw [ey, List.length_append, b64_len]; simp
  rw [lx] at hrx
  rw [ly] at hry
  rw [lx, ly, b64_len]
  rw [b64_len] at hrb
  obtain ⟨bx, ox, rfl, hx0⟩ := hrx.at (j := 0) (by omega)
  obtain ⟨by_, oy, hYe, hy0⟩ := hry.at (j := 0) (by omega)
  obtain ⟨by2, oy2, hYe2, hy64⟩ := hry.at (j := 64) (by omega)
  subst hYe
  simp only [Option.some.injEq, Addr.mk.injEq, and_true] at hYe2
  obtain ⟨rfl, rfl⟩ := hYe2
  have vx : ∀ h : 0 < awD.image.length, (awD.image[0]'h).toNat = 0 := by decide
  have vy : ∀ h : 0 < (awD.crashed [1]).image.length, ((awD.crashed [1]).image[0]'h).toNat = 7 := by decide
  have vz : ∀ h : 64 < (awD.crashed [1]).image.length, ((awD.crashed [1]).image[64]'h).toNat = 0 := by decide
  rw [vx] at hx0
  rw [vy] at hy0
  rw [vz] at hy64
  rw [Nat.add_zero] at hx0 hy0
  clear hrx hry hy lx ly ex ey e1 e2 vx vy vz hbz hws hfs
  go_wp2
  refine wp_region_float (Fr (fun _ => False)) [(0, 0), (1, 0), (2, 0), (3, 0), (4, 0), (5, 0), (6, 0), (7, 0), (8, 1), (9, 2), (10, 1), (11, 0), (12, 0), (13, 0), (14, 0), (15, 0), (16, 0), (17, 0), (18, 0), (19, 0), (20, 0), (21, 1), (22, 0), (23, 0), (24, 0), (25, 0), (26, 0), (27, 0), (28, 0), (29, 0), (30, 0), (31, 0), (32, 1), (33, 0), (34, 0), (35, 0), (36, 0), (37, 0), (38, 1), (39, 0), (40, 0), (41, 0)] _ (by kernel_rfl) (by kernel_rfl) (by simp only [List.map_cons, List.map_nil, Array.getD_eq_getD_getElem?, List.getElem?_toArray, List.getElem?_cons_succ, List.getElem?_cons_zero, Option.getD_some]; rfl) rfl (by kernel_rfl) (fun _ _ d _ _ h => by cases d <;> exact h) (Fr.refl _) (fun _ _ _ => Fr.trans) ?_
  replace hb1 : Below w.heap.size w w8.drew := hb1.drew
  replace hrb := hrb.drew
  replace hx0 : w8.drew.cell? ⟨bx, ox, none⟩ = some (.int .u8 ((0 : Nat) : Int)) := hx0
  replace hy0 : w8.drew.cell? ⟨by_, oy, none⟩ = some (.int .u8 ((7 : Nat) : Int)) := hy0
  replace hy64 : w8.drew.cell? ⟨by_, oy + 64, none⟩ = some (.int .u8 ((0 : Nat) : Int)) := hy64
  generalize w8.drew = w9 at *
  repeat (first | (refine wpF_f0 (fun K hK => ?_); go_simp; refine hK _ ?_; clear hK K) | (refine wpF_load1 rfl rfl rfl (by kernel_rfl) (by assumption) (by simp) (fun K hK => ?_); go_simp; refine hK _ ?_; clear hK K) | (refine wpF_str rfl rfl rfl (by assumption) (by simp) (by kernel_rfl) (by kernel_rfl) (fun K hK => ?_); go_simp; refine hK _ ?_; clear hK K))
  refine wpF_a2 (fun K hK => ?_); rw [if_pos (by rfl)]
  go_simp
  refine (block_rd 7 w9).mono ?_
  rintro e w10 ⟨v2, rfl, hv2, -, hbb⟩
  refine hK _ _ (Fr.of_below hbb _) ?_
  clear hK K
  obtain ⟨B2, bc2, rfl⟩ := hv2.slice
  have hz := Fr.of_below hbb (fun _ => False)
  replace hx0 := hz.cell hx0 (fun h => h)
  replace hy0 := hz.cell hy0 (fun h => h)
  replace hy64 := hz.cell hy64 (fun h => h)
  replace hb1 := below_then hb1 hbb
  clear hz hbb hrb
  repeat (first | (refine wpF_f0 (fun K hK => ?_); go_simp; refine hK _ ?_; clear hK K) | (refine wpF_load1 rfl rfl rfl (by kernel_rfl) (by assumption) (by simp) (fun K hK => ?_); go_simp; refine hK _ ?_; clear hK K) | (refine wpF_str rfl rfl rfl (by assumption) (by simp) (by kernel_rfl) (by kernel_rfl) (fun K hK => ?_); go_simp; refine hK _ ?_; clear hK K))
  refine wpF_nil ?_
  go_wp2
  go_ret
  exact ⟨rfl, hb1⟩

end Go.Proofs.Ytnnhelknpnkphaa
