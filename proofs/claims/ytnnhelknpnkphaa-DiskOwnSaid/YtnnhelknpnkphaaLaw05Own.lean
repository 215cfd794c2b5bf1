/- DiskOwn: the walk. -/
import Derived.Test.YtnnhelknpnkphaaLaw05a
import Derived.Test.YtnnhelknpnkphaaK2
namespace Go.Proofs.Ytnnhelknpnkphaa
open Go.RowKit

def ow1 (l : List UInt8) : DSt := ((DSt.fresh 1).write 0 l).2
theorem ow_write {l : List UInt8} (h : l.length = 64) : ((DSt.fresh 1).write 0 l).1 = 0 := by simp [DSt.write, DSt.fresh, h]
theorem ow_eq {l : List UInt8} (h : l.length = 64) : ow1 l = ⟨[List.replicate 64 0], [(0, l)], false, false, 0, 1⟩ := by
  have : wrap64 1 = 1 := by unfold wrap64; omega
  simp [ow1, DSt.write, DSt.fresh, h, DSt.wrote, DSt.did, this]
theorem ow_read {l : List UInt8} (h : l.length = 64) : (ow1 l).read 0 = (l, 0) := by
  rw [ow_eq h]; simp [DSt.read, DSt.at, readN]
theorem ow_sync {l : List UInt8} (h : l.length = 64) : (ow1 l).sync = (0, ⟨[l], [], false, false, 0, 2⟩) := by
  have : wrap64 2 = 2 := by unfold wrap64; omega
  rw [ow_eq h]; simp [DSt.sync, DSt.syncd, keepN, DSt.did, this]
theorem ow_image {l : List UInt8} : (⟨[l], [], false, false, 0, 2⟩ : DSt).image = l := by simp [DSt.image]
theorem ow_read2 {l : List UInt8} : (⟨[l], [], false, false, 0, 2⟩ : DSt).read 0 = (l, 0) := by simp [DSt.read, DSt.at, readN]

set_option maxHeartbeats 4000000 in
set_option maxRecDepth 100000 in
theorem own_walk (v : Value) (l : List UInt8) (c : UInt8) (w : World) (hv : Rd w v l) (hvo : l ≠ [] → ∀ k, v.ownBlock = some k → k < w.heap.size) :
    Calls Try.prog 4 #[v, .int .u8 (c.toNat : Int)] w fun e w' => e = .returned (.bool true) ∧ Below w.heap.size w w' := by
  obtain ⟨A, cp, rfl⟩ := hv.slice
  have hmax := hv.max
  by_cases hl : l.length = 64
  · rw [hl]
    rw [hl] at hv hvo
    go_enter Try.func4, Try.ntmps4
    go_wp2_with fail
    refine (awake_any w).mono ?_
    rintro e w1 ⟨rfl, hb1⟩
    go_wp2_with fail
    refine (new_s 1 w1 (by omega) (by omega)).mono ?_
    rintro e w2 ⟨p, rfl, hD, hb2⟩
    have hB := hb1.size
    replace hb1 := below_then hb1 hb2
    replace hv := hv.below hb1
    replace hD := hD.but (S' := fun k => w.heap.size ≤ k) (fun k _ h => Nat.le_trans hB h)
    clear hb2 hB
    obtain ⟨ha1, ha2⟩ := hv.app
    have hz0 := hb1.size
    go_wp2_with (at_builtin; refine wpList_append_k rfl rfl w2.heap.size Try.underlying29 infoByte rfl (by decide) (v := .slice none 0 0) rfl (World.ownsRow_nil _ _ _ _) rfl ha2 ha1 (bts_one _) (by simp [maxLen]) (by omega) (Nat.le_refl _) ?_; intro v3 w3 ho hg hn)
    rw [List.nil_append, Nat.zero_add] at ho
    have hb2 := (Below.refl w2.heap.size w2).grown hg (Nat.le_refl _) (fun k hk => by cases hk)
    have hvl := ho.lt
    have hz3 := hb2.size
    replace hD := hD.past hb2 v3 (fun k hk => (hvl k hk).1)
    replace hb1 := below_then hb1 hb2
    replace hv := hv.below hb2
    obtain ⟨g3, c3, rfl⟩ := own_some ho (by omega)
    clear hb2 hg hn ha1 ha2
    have hr3 := Rd.of_own ho
    refine (write_s hD (fun k hk => ⟨Nat.le_trans hb1.size hk, fun e => by have := (hvl k e.symm).2; omega⟩) (by simp [DSt.fresh]) 0 _ l hr3).mono ?_
    rintro e w4 ⟨rfl, hD4, hf⟩
    rw [ow_write hl]
    replace hD4 : DiskS _ w4 p (ow1 l) := hD4
    replace ho := own_fr ho hf (fun k hk h => h.2 hk.symm)
    replace hv := hv.fr hf (fun hne k hk h => by have := hvo hne k hk; have := h.1; omega)
    have hsz := hf.size
    replace hb1 := hb1.trans (hf.below hb1.size (fun k hk h => by have := h.1; omega))
    clear hD hf hr3
    obtain ⟨⟨v0, hc0⟩, hf0⟩ := own_cell ho (j := 0) (by omega)
    go_wp2_with fail
    have hst : Fr (fun k => k = g3) w4 (w4.setCell ⟨g3, 0, none⟩ (.int .u8 (c.toNat : Int))) := (Fr.refl (fun k => k = g3) w4).setCell (p := ⟨g3, 0, none⟩) (fun _ => rfl) _
    replace hv := hv.fr hst (fun hne k hk e => by have := hvo hne k hk; have := (hvl g3 rfl).1; have := hb1.size; omega)
    replace hD4 := hD4.fr hst (fun k _ h e => h.2 (by rw [e]; rfl))
    replace hb1 := hb1.trans (hst.below hb1.size (fun k hk e => by have := (hvl g3 rfl).1; have := hb1.size; omega))
    have hsz2 := hst.size
    clear hst ho hc0 hf0
    generalize w4.setCell ⟨g3, 0, none⟩ (.int .u8 (c.toNat : Int)) = w5 at *
    refine (read_s hD4 (by rw [ow_eq hl]; simp) 0).mono ?_
    rintro e w6 ⟨x, rfl, hrx, hxx, hb2⟩
    rw [ow_read hl] at *
    have hxo := ReadPost.own hxx
    replace hD4 := hD4.past hb2 x (fun k hk => (hxo k hk).1)
    replace hv := hv.below hb2
    have hs6 := hb2.size
    replace hb1 := below_then hb1 hb2
    rcases hxx with ⟨_, hx0⟩ | ⟨g6, rfl, hbk, hg6, -⟩
    · simp only at hx0; rw [hx0] at hl; simp at hl
    clear hb2
    have hx1 : ∃ v, w6.cell? ⟨g6, 1, none⟩ = some v := ⟨_, (hbk.cell 1).trans (Array.getElem?_eq_getElem (by simp [bts_length, hl]))⟩
    obtain ⟨v1, hx1⟩ := hx1
    have hx2 := hbk.frozen 1
    have hg6' := hbk.lt
    simp only at hrx
    go_wp2_with (refine wpList_strg rfl rfl rfl (by assumption) (by kernel_rfl) (by kernel_rfl) ?_)
    have hst : Fr (fun k => k = g6) w6 (w6.setCell ⟨g6, 1, none⟩ (.int .u8 (c.toNat : Int))) := (Fr.refl (fun k => k = g6) w6).setCell (p := ⟨g6, 1, none⟩) (fun _ => rfl) _
    replace hv := hv.fr hst (fun hne k hk e => by have := hvo hne k hk; have := (hvl g3 rfl).1; omega)
    replace hD4 := hD4.fr hst (fun k _ h e => h.2 (by rw [e]; rfl))
    replace hb1 := hb1.trans (hst.below hb1.size (fun k hk e => by have := (hvl g3 rfl).1; omega))
    have hs7 := hst.size
    clear hst hbk hx1 hx2 hrx
    generalize w6.setCell ⟨g6, 1, none⟩ (.int .u8 (c.toNat : Int)) = w7 at *
    refine (sync_s hD4 (by rw [ow_eq hl]; simp)).mono ?_
    rintro e w8 ⟨rfl, hD8, hf⟩
    rw [ow_sync hl] at *
    simp only at hD8
    replace hv := hv.fr hf (fun hne k hk h => by have := hvo hne k hk; have := h.1.1; omega)
    replace hb1 := hb1.trans (hf.below hb1.size (fun k hk h => by have := h.1.1; omega))
    have hs8 := hf.size
    clear hf hD4
    go_wp2_with fail
    refine (image_s hD8).mono ?_
    rintro e w9 ⟨y, rfl, hy, hb2⟩
    rw [ow_image] at hy
    have hyo := hy.lt
    have hyr := Rd.of_own hy
    replace hv := hv.below hb2
    replace hD8 := hD8.past hb2 y (fun k hk => (hyo k hk).1)
    replace hb1 := below_then hb1 hb2
    have hs9 := hb2.size
    clear hb2
    obtain ⟨g9, c9, rfl⟩ := own_some hy (by simp)
    obtain ⟨⟨v2, hy1⟩, hy2⟩ := own_cell hy (j := 2) (by simp)
    rw [show (([l] : List (List UInt8)).length * 64) = 64 from rfl] at *
    go_wp2_with (refine wpList_strg rfl rfl rfl (by assumption) (by kernel_rfl) (by kernel_rfl) ?_)
    have hst : Fr (fun k => k = g9) w9 (w9.setCell ⟨g9, 2, none⟩ (.int .u8 (c.toNat : Int))) := (Fr.refl (fun k => k = g9) w9).setCell (p := ⟨g9, 2, none⟩) (fun _ => rfl) _
    have hg9 := hyo g9 rfl
    replace hv := hv.fr hst (fun hne k hk e => by have := hvo hne k hk; omega)
    replace hD8 := hD8.fr hst (fun k _ h e => h.2 (by rw [e]; rfl))
    replace hb1 := hb1.trans (hst.below hb1.size (fun k hk e => by omega))
    clear hst hy hyr hy1 hy2
    generalize w9.setCell ⟨g9, 2, none⟩ (.int .u8 (c.toNat : Int)) = w10 at *
    refine (read_s hD8 (by simp) 0).mono ?_
    rintro e w11 ⟨x, rfl, hrx, hxx, hb2⟩
    rw [ow_read2] at *
    simp only at hrx
    obtain ⟨X, xc, rfl⟩ := hrx.slice
    rw [hl] at hrx ⊢
    replace hv := hv.below hb2
    replace hb1 := below_then hb1 hb2
    clear hb2 hxx
    go_wp2_with (refine wpList_strg rfl rfl rfl (by assumption) (by kernel_rfl) (by kernel_rfl) ?_)
    go_ret
    exact ⟨rfl, hb1⟩
  · have hne : ((l.length : Int) != 64) = true := by rw [bne_iff_ne]; omega
    go_enter Try.func4, Try.ntmps4
    go_wp2_with fail
    refine (awake_any w).mono ?_
    rintro e w1 ⟨rfl, hb1⟩
    go_wp2_with fail
    refine (new_s 1 w1 (by omega) (by omega)).mono ?_
    rintro e w2 ⟨p, rfl, hD, hb2⟩
    replace hb1 := below_then hb1 hb2
    clear hb2 hD
    go_wp2
    go_ret
    exact ⟨rfl, hb1⟩

end Go.Proofs.Ytnnhelknpnkphaa
