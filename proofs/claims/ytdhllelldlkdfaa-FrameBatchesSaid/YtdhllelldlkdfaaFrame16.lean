/- frame's reader: put of what is none. -/
import Derived.Test.YtdhllelldlkdfaaFrame15
namespace Go.Proofs.Ytdhllelldlkdfaa
open Go.RowKit

set_option maxHeartbeats 3000000 in
set_option maxRecDepth 100000 in
theorem put_bad {B0 : Nat} {w : World} {rp : Nat} {b : List UInt8} (h : RdR B0 w rp b) (hm : b.length < 2 ^ 30) (hp : oneN b = none) :
    Calls Try.prog 40 #[.pointer (some ⟨rp, 0, none⟩)] w fun e w' => e = .panicked broke ∧ Fr (fun k => k = rp) w w' := by
  cases b with
  | nil =>
    have hf1 : Fr (fun k => k = rp) w (w.alloc (.cells #[.slice none 0 0, .slice none 0 0, .bool false] 45)) := (Fr.refl _ w).alloc _
    have h1 := h.fr ((Fr.refl (fun _ => False) w).alloc (.cells #[.slice none 0 0, .slice none 0 0, .bool false] 45)) (fun _ _ h => h) (fun h => h)
    clear h
    go_enter Try.func40, Try.ntmps40
    go_upto_region 1 with (refine wpList_allocZ rfl rfl (zs := #[.slice none 0 0, .slice none 0 0, .bool false]) (by kernel_rfl) ?_; generalize w.alloc (.cells #[.slice none 0 0, .slice none 0 0, .bool false] 45) = w1 at *)
    go_wp2_with fail
    refine (take_bad (n := 1) h1 (by simp) (by omega)).mono ?_
    rintro e w2 ⟨rfl, rfl⟩
    exact ⟨rfl, rfl, hf1⟩
  | cons g b1 =>
  rw [oneN_cons] at hp
  by_cases hg1 : 1 < g
  · obtain ⟨hrp, hBr0⟩ := h.lt
    generalize hB0 : w.heap.size = B at *
    have HB := Lib.hid hB0
    have hbw : Blk (w.alloc (.cells #[.slice none 0 0, .slice none 0 0, .bool false] 45)) w.heap.size #[.slice none 0 0, .slice none 0 0, .bool false] 45 := Blk.new w _ _
    have hf1 : Fr (fun k => k = rp) w (w.alloc (.cells #[.slice none 0 0, .slice none 0 0, .bool false] 45)) := (Fr.refl _ w).alloc _
    have h1 := h.fr ((Fr.refl (fun _ => False) w).alloc (.cells #[.slice none 0 0, .slice none 0 0, .bool false] 45)) (fun _ _ h => h) (fun h => h)
    rw [hB0] at hbw
    clear h hB0
    go_enter Try.func40, Try.ntmps40
    go_upto_region 1 with (refine wpList_allocZ rfl rfl (zs := #[.slice none 0 0, .slice none 0 0, .bool false]) (by kernel_rfl) ?_; rw [HB.out]; generalize w.alloc (.cells #[.slice none 0 0, .slice none 0 0, .bool false] 45) = w1 at *)
    go_wp2_with fail
    have hs1' : B < w1.heap.size := hbw.lt
    have hs1 : B ≤ w1.heap.size := by have := hf1.size; rw [HB.out] at this; omega
    refine (take_ok (n := 1) h1 (by simp) hm).mono ?_
    rintro e w2 ⟨v2, rfl, o2, h2, f2⟩
    replace o2 : w2.ownsRow w1.heap.size 5 1 v2 1 (bts [g]) := o2
    replace h2 : RdR B0 w2 rp b1 := h2
    obtain ⟨q, c, rfl⟩ := own_some o2 (by omega)
    have hq := o2.cells (g := q) rfl 0 _ rfl
    rw [Addr.add_mid, Nat.zero_add] at hq
    have hg2 : decide ((g.toNat : Int) ≤ 1) = false := decide_eq_false (by have := UInt8.lt_iff_toNat_lt.1 hg1; have h1 : (1 : UInt8).toNat = 1 := rfl; omega)
    have hg3 : decide (g.toNat ≤ 1) = false := decide_eq_false (by have := UInt8.lt_iff_toNat_lt.1 hg1; have h1 : (1 : UInt8).toNat = 1 := rfl; omega)
    have hf2 := hf1.step f2 (fun _ _ e => e)
    clear hp hbw hf1 f2 h1 hs1 hs1' o2
    go_wp2_with (go_at_call 41; refine (must_bad _).mono ?_; rintro e w3 ⟨rfl, rfl⟩)
    exact ⟨rfl, rfl, hf2⟩
  rw [if_neg hg1] at hp
  obtain ⟨hrp, hBr0⟩ := h.lt
  generalize hB0 : w.heap.size = B at *
  have HB := Lib.hid hB0
  have hbw : Blk (w.alloc (.cells #[.slice none 0 0, .slice none 0 0, .bool false] 45)) w.heap.size #[.slice none 0 0, .slice none 0 0, .bool false] 45 := Blk.new w _ _
  have hf1 : Fr (fun k => k = rp) w (w.alloc (.cells #[.slice none 0 0, .slice none 0 0, .bool false] 45)) := (Fr.refl _ w).alloc _
  have h1 := h.fr ((Fr.refl (fun _ => False) w).alloc (.cells #[.slice none 0 0, .slice none 0 0, .bool false] 45)) (fun _ _ h => h) (fun h => h)
  rw [hB0] at hbw
  clear h hB0
  go_enter Try.func40, Try.ntmps40
  go_upto_region 1 with (refine wpList_allocZ rfl rfl (zs := #[.slice none 0 0, .slice none 0 0, .bool false]) (by kernel_rfl) ?_; rw [HB.out]; generalize w.alloc (.cells #[.slice none 0 0, .slice none 0 0, .bool false] 45) = w1 at *)
  go_wp2_with fail
  have hs1' : B < w1.heap.size := hbw.lt
  have hs1 : B ≤ w1.heap.size := by have := hf1.size; rw [HB.out] at this; omega
  refine (take_ok (n := 1) h1 (by simp) hm).mono ?_
  rintro e w2 ⟨v2, rfl, o2, h2, f2⟩
  replace o2 : w2.ownsRow w1.heap.size 5 1 v2 1 (bts [g]) := o2
  replace h2 : RdR B0 w2 rp b1 := h2
  obtain ⟨q, c, rfl⟩ := own_some o2 (by omega)
  have hq := o2.cells (g := q) rfl 0 _ rfl
  rw [Addr.add_mid, Nat.zero_add] at hq
  have hg2 : (g.toNat : Int) ≤ 1 := by have := UInt8.le_iff_toNat_le.1 (UInt8.not_lt.1 hg1); have h1 : (1 : UInt8).toNat = 1 := rfl; omega
  have hbw2 := hbw.fr f2 (by intro e; omega)
  have hf2 := hf1.step f2 (fun _ _ e => e)
  have hs2 := Nat.le_trans hs1 f2.size
  have hs2' := Nat.lt_of_lt_of_le hs1' f2.size
  clear h1 hbw hf1 f2 o2
  obtain ⟨bg, hbg⟩ : ∃ bg, ((g.toNat : Int) == 1) = bg := ⟨_, rfl⟩
  have hbg2 : (g = 1) ↔ bg = true := by
    rw [← hbg]
    constructor
    · rintro rfl; rfl
    · intro h
      have : (g.toNat : Int) = 1 := by simpa using h
      exact UInt8.toNat_inj.1 (by have h1 : (1 : UInt8).toNat = 1 := rfl; omega)
  have hl3 : ([.slice none 0 0, .slice none 0 0, .bool bg] : List Value).length = 3 := rfl
  have h13 : ∀ v ∈ ([.slice none 0 0, .slice none 0 0, .bool bg] : List Value), v.oneCell' = true := by
    intro v hv
    simp only [List.mem_cons, List.mem_nil_iff, or_false] at hv
    rcases hv with rfl | rfl | rfl <;> rfl
  go_upto_region 4 with (first
    | (go_at_call 41; refine (must_ok _).mono ?_; rintro e w3 ⟨rfl, rfl⟩)
    | (refine wpList_value rfl (exec_build (build_put bg _) rfl (by simp [Act.eval])) ?_)
    | (refine wpList_alloc1 (e := 45) (n := 3) rfl rfl (by kernel_rfl) (fun zc hzc => ?_))
    | (refine wpList_store1 (cs := [.slice none 0 0, .slice none 0 0, .bool bg]) rfl rfl rfl rfl hl3 hzc (by kernel_rfl) h13 ?_))
  have b4 := Blk.new w3 [.slice none 0 0, .slice none 0 0, .bool bg].toArray 45
  have f4 : Fr (fun _ => False) w3 (w3.alloc (.cells [.slice none 0 0, .slice none 0 0, .bool bg].toArray 45)) := (Fr.refl _ w3).alloc _
  replace h2 := h2.fr f4 (fun _ _ h => h) (fun h => h)
  replace hbw2 := hbw2.fr f4 (fun h => h)
  replace hf2 := hf2.step f4 (fun _ _ h => h.elim)
  have hs4 := Nat.le_trans hs2 f4.size
  have hrp4 : rp ≠ w3.heap.size := by omega
  go_simp
  generalize w3.alloc (.cells [.slice none 0 0, .slice none 0 0, .bool bg].toArray 45) = w4 at *
  have hg4 : B < w3.heap.size := hs2'
  generalize w3.heap.size = g4 at *
  clear f4 hq hl3 h13 hs2 hs2' hs1' hs1
  replace b4 : Blk w4 g4 #[.slice none 0 0, .slice none 0 0, .bool bg] 45 := b4
  have hm1 : b1.length < 2 ^ 30 := by simp at hm; omega
  cases ht : textN b1 with
  | none =>
    go_wp2_with (go_at_call 39; refine (many_bad h2.to0 (textN_none ht)).mono ?_; rintro e w5 ⟨rfl, rfl⟩)
    exact ⟨rfl, rfl, hf2⟩
  | some kr =>
  obtain ⟨key, b2⟩ := kr
  rw [ht] at hp
  simp only at hp
  obtain ⟨nk, sk, hmk, hk1, hk2, hk3, hk4, hk5, hk6⟩ := textN_some ht
  clear ht
  go_upto_region 5 with (go_at_call 39; refine (many_ok h2.to0 hmk).mono ?_; rintro e w5 ⟨rfl, h5, f5⟩)
  have hgr : ¬ g4 = rp := fun e => hrp4 e.symm
  have hBr : ¬ B = rp := fun e => by omega
  have hs5 := Nat.le_trans hs4 f5.size
  go_upto_region 6 with (go_at_call 47; refine (take_ok h5 hk1 (by omega)).mono ?_; rintro e w6 ⟨vk, rfl, ok, h6, f6⟩; have b6 := (b4.fr f5 hgr).fr f6 hgr; have c0 := b6.cell 0; simp only [List.getElem?_toArray, List.getElem?_cons_zero] at c0; have f0 := b6.frozen 0; obtain ⟨Ak, ck, rfl⟩ := own_form ok)
  replace hf2 := (hf2.step f5 (fun _ _ e => e)).step f6 (fun _ _ e => e)
  replace hbw2 := (hbw2.fr f5 hBr).fr f6 hBr
  have hs6 := Nat.le_trans hs5 f6.size
  replace ok := own_base ok hs5
  rw [← hk2] at ok
  rw [← hk3] at h6
  have b7 := b6.set 0 (.slice Ak nk ck)
  have ok7 := own_set ok b6 (by decide) 0 (.slice Ak nk ck)
  have g7 : Fr (fun j => j = g4) w6 (w6.setCell ⟨g4, 0, none⟩ (.slice Ak nk ck)) := (Fr.refl (fun j => j = g4) w6).setCell (p := ⟨g4, 0, none⟩) (fun _ => rfl) _
  have h7 := h6.fr g7 (fun j hj (e : j = g4) => by omega) (fun (e : rp = g4) => hrp4 e)
  have hf7 := hf2.setCell (p := ⟨g4, 0, none⟩) (by intro e; rw [HB.out] at e; exact absurd (show g4 < B from e) (by omega)) (.slice Ak nk ck)
  have bw7 := hbw2.fr g7 (fun (e : B = g4) => by omega)
  have hs7 : B ≤ (w6.setCell ⟨g4, 0, none⟩ (.slice Ak nk ck)).heap.size := Nat.le_trans hs6 g7.size
  clear g7 hf2 hbw2 b6 h6 ok c0 f0 b4 h5 f5 f6
  generalize w6.setCell ⟨g4, 0, none⟩ (.slice Ak nk ck) = w7 at *
  replace b7 : Blk w7 g4 #[.slice Ak nk ck, .slice none 0 0, .bool bg] 45 := b7
  have c2 := b7.cell 2
  simp only [List.getElem?_toArray, List.getElem?_cons_zero, List.getElem?_cons_succ] at c2
  cases bg with
  | true =>
    rw [if_pos (hbg2.2 rfl)] at hp
    cases hp
  | false =>
    have hg0 : ¬ g = 1 := fun e => by have := hbg2.1 e; cases this
    rw [if_neg hg0] at hp
    cases ht2 : textN b2 with
    | some vr =>
      rw [ht2] at hp
      cases hp
    | none =>
      go_wp2_with (go_at_call 39; refine (many_bad h7.to0 (textN_none ht2)).mono ?_; rintro e w10 ⟨rfl, rfl⟩)
      exact ⟨rfl, rfl, hf7⟩
end Go.Proofs.Ytdhllelldlkdfaa
