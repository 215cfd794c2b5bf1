/- DiskNew: the walk. -/
import Derived.Test.YtnnhelknpnkphaaLaw05a
import Derived.Test.YtnnhelknpnkphaaDisk9
namespace Go.Proofs.Ytnnhelknpnkphaa
open Go.RowKit

/-- The second half: of an image. -/
def OfPost (w : World) (im : List UInt8) (e : Ending) (w' : World) : Prop :=
  ((OfOk im ∧ ∃ p, e = .returned (.tuple #[.pointer (some ⟨p, 0, none⟩), .int .i64 0]) ∧ DiskS (fun k => w.heap.size ≤ k) w' p (DSt.of im)) ∨ (¬ OfOk im ∧ e = .returned (.tuple #[.pointer none, .int .i64 1]))) ∧ Below w.heap.size w w'
theorem of_any (v : Value) (im : List UInt8) (w : World) (hv : Rd w v im) : Calls Try.prog 28 #[v] w (OfPost w im) := by
  by_cases h : OfOk im
  · refine (of_ok v im w hv h).mono ?_
    rintro e w' ⟨p, rfl, hD, hb⟩
    exact ⟨.inl ⟨h, p, rfl, hD⟩, hb⟩
  · refine (of_bad v im w hv h).mono ?_
    rintro e w' ⟨rfl, rfl⟩
    exact ⟨.inr ⟨h, rfl⟩, Below.refl _ _⟩

set_option maxHeartbeats 8000000 in
set_option maxRecDepth 100000 in
theorem dnew_walk (n : Int) (v : Value) (im : List UInt8) (w : World) (hv : Rd w v im) :
    Calls Try.prog 8 #[.int .i64 n, v] w fun e w' => e = .returned (.bool true) ∧ Below w.heap.size w w' := by
  obtain ⟨A, c, rfl⟩ := hv.slice
  have hmax := hv.max
  have hq : (im.length : Int).tdiv 64 = ((im.length / 64 : Nat) : Int) := by rw [Int.tdiv_eq_ediv_of_nonneg (by omega)]; omega
  have himg : ((im.length : Int) % 64 = 0 ∧ 1 ≤ (im.length : Int) / 64 ∧ (im.length : Int) / 64 ≤ 4096) ∨ (im.length : Int) % 64 ≠ 0 ∨ ((im.length : Int) % 64 = 0 ∧ (im.length : Int) / 64 < 1) ∨ ((im.length : Int) % 64 = 0 ∧ 1 ≤ (im.length : Int) / 64 ∧ 4096 < (im.length : Int) / 64 ∧ decide ((im.length : Int) / 64 ≤ 4096) = false) := by
    by_cases h3 : (im.length : Int) / 64 ≤ 4096
    · omega
    · have h4 : decide ((im.length : Int) / 64 ≤ 4096) = false := decide_eq_false h3
      rcases (show (im.length : Int) % 64 = 0 ∨ (im.length : Int) % 64 ≠ 0 by omega) with h | h
      · exact .inr (.inr (.inr ⟨h, by omega, by omega, h4⟩))
      · exact .inr (.inl h)
  go_enter Try.func8, Try.ntmps8
  go_wp2_with fail
  refine (awake_any w).mono ?_
  rintro e w1 ⟨rfl, hb1⟩
  by_cases hn : 1 ≤ n ∧ n ≤ 4096
  · obtain ⟨hn1, hn2⟩ := hn
    obtain ⟨N, rfl⟩ : ∃ N : Nat, n = N := ⟨n.toNat, by omega⟩
    go_wp2_with fail
    refine (new_s N w1 (by omega) (by omega)).mono ?_
    rintro e w2 ⟨p, rfl, hD, hb2⟩
    replace hb1 := below_then hb1 hb2
    clear hb2
    go_wp2_with fail
    refine (blocks_s hD).mono ?_
    rintro e w3 ⟨rfl, rfl⟩
    rw [show (DSt.fresh N).kept.length = N by simp [DSt.fresh]]
    go_wp2_with fail
    refine (on_s hD).mono ?_
    rintro e w4 ⟨rfl, rfl⟩
    rw [show (DSt.fresh N).out = false from rfl]
    go_wp2_with fail
    refine (calls_s hD).mono ?_
    rintro e w5 ⟨rfl, rfl⟩
    rw [show (DSt.fresh N).calls = 0 from rfl]
    replace hv := hv.below hb1
    clear hD
    rcases himg with ⟨i1, i2, i3⟩ | i1 | ⟨i1, i2⟩ | ⟨i1, i2, i3, i4⟩
    · go_wp2_with fail
      refine (of_any _ im _ hv).mono ?_
      rintro e w6 ⟨⟨hok, p2, rfl, hD2⟩ | ⟨hno, -⟩, hb⟩
      · replace hv := hv.below hb
        replace hb := below_then hb1 hb
        go_wp2
        refine wp_region_float (Fr (fun _ => False)) [(0, 0), (1, 0), (2, 0), (3, 0), (5, 0), (4, 2), (6, 0), (7, 0), (8, 0), (11, 0), (12, 1), (9, 2), (10, 1), (13, 0), (14, 0), (15, 0), (16, 0)] _ (by kernel_rfl) (by kernel_rfl) (by simp only [List.map_cons, List.map_nil, Array.getD_eq_getD_getElem?, List.getElem?_toArray, List.getElem?_cons_succ, List.getElem?_cons_zero, Option.getD_some]; rfl) rfl (by kernel_rfl) (fun _ _ d _ _ h => by cases d <;> exact h) (Fr.refl _) (fun _ _ _ => Fr.trans) ?_
        replace hb := hb.drew
        replace hv := hv.drew
        replace hD2 := hD2.below (Below.refl _ _).drew
        generalize w6.drew = w7 at *
        repeat (first | (refine wpF_f0 (fun K hK => ?_); go_simp; refine hK _ ?_; clear hK K) | (refine wpF_load1 rfl rfl rfl (by kernel_rfl) (by assumption) (by simp) (fun K hK => ?_); go_simp; refine hK _ ?_; clear hK K) | (refine wpF_str rfl rfl rfl (by assumption) (by simp) (by kernel_rfl) (by kernel_rfl) (fun K hK => ?_); go_simp; refine hK _ ?_; clear hK K))
        refine wpF_a2 (fun K hK => ?_); rw [if_pos (by rfl)]
        go_simp
        refine (blocks_s hD2).mono ?_
        rintro e w8 ⟨rfl, rfl⟩
        refine hK _ _ (Fr.refl _ _) ?_
        clear hK K
        rw [DSt.of_length]
        have hbq : (im.length : Int) / 64 = ((im.length / 64 : Nat) : Int) := by omega
        rw [← hbq]
        clear hbq
        repeat (first | (refine wpF_f0 (fun K hK => ?_); go_simp; refine hK _ ?_; clear hK K) | (refine wpF_load1 rfl rfl rfl (by kernel_rfl) (by assumption) (by simp) (fun K hK => ?_); go_simp; refine hK _ ?_; clear hK K) | (refine wpF_str rfl rfl rfl (by assumption) (by simp) (by kernel_rfl) (by kernel_rfl) (fun K hK => ?_); go_simp; refine hK _ ?_; clear hK K))
        refine wpF_a2 (fun K hK => ?_); rw [if_pos (by rfl)]
        go_simp
        refine (image_s hD2).mono ?_
        rintro e w9 ⟨y, rfl, hy, hbb⟩
        have hry := Rd.of_own hy
        refine hK _ _ (Fr.of_below hbb _) ?_
        clear hK K hy
        rw [DSt.of_image hok.1] at hry
        replace hb := below_then hb hbb
        obtain ⟨Y, yc, rfl⟩ := hry.slice
        repeat (first | (refine wpF_f0 (fun K hK => ?_); go_simp; refine hK _ ?_; clear hK K) | (refine wpF_load1 rfl rfl rfl (by kernel_rfl) (by assumption) (by simp) (fun K hK => ?_); go_simp; refine hK _ ?_; clear hK K) | (refine wpF_str rfl rfl rfl (by assumption) (by simp) (by kernel_rfl) (by kernel_rfl) (fun K hK => ?_); go_simp; refine hK _ ?_; clear hK K))
        refine wpF_nil ?_
        go_wp2
        go_ret
        exact ⟨rfl, hb⟩
      · exfalso; unfold OfOk at hno; omega
    · go_wp2_with fail
      refine (of_any _ im _ hv).mono ?_
      rintro e w6 ⟨⟨hok, -⟩ | ⟨hno, rfl⟩, hb⟩
      · exfalso; unfold OfOk at hok; omega
      · replace hb := below_then hb1 hb
        go_wp2
        refine wp_region_float (Fr (fun _ => False)) [(0, 0), (1, 0), (2, 0), (3, 0), (5, 0), (4, 2), (6, 0), (7, 0), (8, 0), (11, 0), (12, 1), (9, 2), (10, 1), (13, 0), (14, 0), (15, 0), (16, 0)] _ (by kernel_rfl) (by kernel_rfl) (by simp only [List.map_cons, List.map_nil, Array.getD_eq_getD_getElem?, List.getElem?_toArray, List.getElem?_cons_succ, List.getElem?_cons_zero, Option.getD_some]; rfl) rfl (by kernel_rfl) (fun _ _ d _ _ h => by cases d <;> exact h) (Fr.refl _) (fun _ _ _ => Fr.trans) ?_
        replace hb := hb.drew
        generalize w6.drew = w7 at *
        repeat (first | (refine wpF_f0 (fun K hK => ?_); go_simp; refine hK _ ?_; clear hK K) | refine wpF_skip (by rfl) ?_)
        refine wpF_nil ?_
        go_wp2
        go_ret
        exact ⟨rfl, hb⟩
    · go_wp2_with fail
      refine (of_any _ im _ hv).mono ?_
      rintro e w6 ⟨⟨hok, -⟩ | ⟨hno, rfl⟩, hb⟩
      · exfalso; unfold OfOk at hok; omega
      · replace hb := below_then hb1 hb
        go_wp2
        refine wp_region_float (Fr (fun _ => False)) [(0, 0), (1, 0), (2, 0), (3, 0), (5, 0), (4, 2), (6, 0), (7, 0), (8, 0), (11, 0), (12, 1), (9, 2), (10, 1), (13, 0), (14, 0), (15, 0), (16, 0)] _ (by kernel_rfl) (by kernel_rfl) (by simp only [List.map_cons, List.map_nil, Array.getD_eq_getD_getElem?, List.getElem?_toArray, List.getElem?_cons_succ, List.getElem?_cons_zero, Option.getD_some]; rfl) rfl (by kernel_rfl) (fun _ _ d _ _ h => by cases d <;> exact h) (Fr.refl _) (fun _ _ _ => Fr.trans) ?_
        replace hb := hb.drew
        generalize w6.drew = w7 at *
        repeat (first | (refine wpF_f0 (fun K hK => ?_); go_simp; refine hK _ ?_; clear hK K) | refine wpF_skip (by rfl) ?_)
        refine wpF_nil ?_
        go_wp2
        go_ret
        exact ⟨rfl, hb⟩
    · go_wp2_with fail
      refine (of_any _ im _ hv).mono ?_
      rintro e w6 ⟨⟨hok, -⟩ | ⟨hno, rfl⟩, hb⟩
      · exfalso; unfold OfOk at hok; omega
      · replace hb := below_then hb1 hb
        go_wp2
        refine wp_region_float (Fr (fun _ => False)) [(0, 0), (1, 0), (2, 0), (3, 0), (5, 0), (4, 2), (6, 0), (7, 0), (8, 0), (11, 0), (12, 1), (9, 2), (10, 1), (13, 0), (14, 0), (15, 0), (16, 0)] _ (by kernel_rfl) (by kernel_rfl) (by simp only [List.map_cons, List.map_nil, Array.getD_eq_getD_getElem?, List.getElem?_toArray, List.getElem?_cons_succ, List.getElem?_cons_zero, Option.getD_some]; rfl) rfl (by kernel_rfl) (fun _ _ d _ _ h => by cases d <;> exact h) (Fr.refl _) (fun _ _ _ => Fr.trans) ?_
        replace hb := hb.drew
        generalize w6.drew = w7 at *
        repeat (first | (refine wpF_f0 (fun K hK => ?_); go_simp; refine hK _ ?_; clear hK K) | refine wpF_skip (by rfl) ?_)
        refine wpF_nil ?_
        go_wp2
        go_ret
        exact ⟨rfl, hb⟩
  · rcases (show n < 1 ∨ 4096 < n by omega) with hn1 | hn1
    · go_wp2_with fail
      refine (new_bad n w1 (by omega)).mono ?_
      rintro e w2 ⟨rfl, rfl⟩
      replace hv := hv.below hb1
      rcases himg with ⟨i1, i2, i3⟩ | i1 | ⟨i1, i2⟩ | ⟨i1, i2, i3, i4⟩
      · go_wp2_with fail
        refine (of_any _ im _ hv).mono ?_
        rintro e w6 ⟨⟨hok, p2, rfl, hD2⟩ | ⟨hno, -⟩, hb⟩
        · replace hv := hv.below hb
          replace hb := below_then hb1 hb
          go_wp2
          refine wp_region_float (Fr (fun _ => False)) [(0, 0), (1, 0), (2, 0), (3, 0), (5, 0), (4, 2), (6, 0), (7, 0), (8, 0), (11, 0), (12, 1), (9, 2), (10, 1), (13, 0), (14, 0), (15, 0), (16, 0)] _ (by kernel_rfl) (by kernel_rfl) (by simp only [List.map_cons, List.map_nil, Array.getD_eq_getD_getElem?, List.getElem?_toArray, List.getElem?_cons_succ, List.getElem?_cons_zero, Option.getD_some]; rfl) rfl (by kernel_rfl) (fun _ _ d _ _ h => by cases d <;> exact h) (Fr.refl _) (fun _ _ _ => Fr.trans) ?_
          replace hb := hb.drew
          replace hv := hv.drew
          replace hD2 := hD2.below (Below.refl _ _).drew
          generalize w6.drew = w7 at *
          repeat (first | (refine wpF_f0 (fun K hK => ?_); go_simp; refine hK _ ?_; clear hK K) | (refine wpF_load1 rfl rfl rfl (by kernel_rfl) (by assumption) (by simp) (fun K hK => ?_); go_simp; refine hK _ ?_; clear hK K) | (refine wpF_str rfl rfl rfl (by assumption) (by simp) (by kernel_rfl) (by kernel_rfl) (fun K hK => ?_); go_simp; refine hK _ ?_; clear hK K))
          refine wpF_a2 (fun K hK => ?_); rw [if_pos (by rfl)]
          go_simp
          refine (blocks_s hD2).mono ?_
          rintro e w8 ⟨rfl, rfl⟩
          refine hK _ _ (Fr.refl _ _) ?_
          clear hK K
          rw [DSt.of_length]
          have hbq : (im.length : Int) / 64 = ((im.length / 64 : Nat) : Int) := by omega
          rw [← hbq]
          clear hbq
          repeat (first | (refine wpF_f0 (fun K hK => ?_); go_simp; refine hK _ ?_; clear hK K) | (refine wpF_load1 rfl rfl rfl (by kernel_rfl) (by assumption) (by simp) (fun K hK => ?_); go_simp; refine hK _ ?_; clear hK K) | (refine wpF_str rfl rfl rfl (by assumption) (by simp) (by kernel_rfl) (by kernel_rfl) (fun K hK => ?_); go_simp; refine hK _ ?_; clear hK K))
          refine wpF_a2 (fun K hK => ?_); rw [if_pos (by rfl)]
          go_simp
          refine (image_s hD2).mono ?_
          rintro e w9 ⟨y, rfl, hy, hbb⟩
          have hry := Rd.of_own hy
          refine hK _ _ (Fr.of_below hbb _) ?_
          clear hK K hy
          rw [DSt.of_image hok.1] at hry
          replace hb := below_then hb hbb
          obtain ⟨Y, yc, rfl⟩ := hry.slice
          repeat (first | (refine wpF_f0 (fun K hK => ?_); go_simp; refine hK _ ?_; clear hK K) | (refine wpF_load1 rfl rfl rfl (by kernel_rfl) (by assumption) (by simp) (fun K hK => ?_); go_simp; refine hK _ ?_; clear hK K) | (refine wpF_str rfl rfl rfl (by assumption) (by simp) (by kernel_rfl) (by kernel_rfl) (fun K hK => ?_); go_simp; refine hK _ ?_; clear hK K))
          refine wpF_nil ?_
          go_wp2
          go_ret
          exact ⟨rfl, hb⟩
        · exfalso; unfold OfOk at hno; omega
      · go_wp2_with fail
        refine (of_any _ im _ hv).mono ?_
        rintro e w6 ⟨⟨hok, -⟩ | ⟨hno, rfl⟩, hb⟩
        · exfalso; unfold OfOk at hok; omega
        · replace hb := below_then hb1 hb
          go_wp2
          refine wp_region_float (Fr (fun _ => False)) [(0, 0), (1, 0), (2, 0), (3, 0), (5, 0), (4, 2), (6, 0), (7, 0), (8, 0), (11, 0), (12, 1), (9, 2), (10, 1), (13, 0), (14, 0), (15, 0), (16, 0)] _ (by kernel_rfl) (by kernel_rfl) (by simp only [List.map_cons, List.map_nil, Array.getD_eq_getD_getElem?, List.getElem?_toArray, List.getElem?_cons_succ, List.getElem?_cons_zero, Option.getD_some]; rfl) rfl (by kernel_rfl) (fun _ _ d _ _ h => by cases d <;> exact h) (Fr.refl _) (fun _ _ _ => Fr.trans) ?_
          replace hb := hb.drew
          generalize w6.drew = w7 at *
          repeat (first | (refine wpF_f0 (fun K hK => ?_); go_simp; refine hK _ ?_; clear hK K) | refine wpF_skip (by rfl) ?_)
          refine wpF_nil ?_
          go_wp2
          go_ret
          exact ⟨rfl, hb⟩
      · go_wp2_with fail
        refine (of_any _ im _ hv).mono ?_
        rintro e w6 ⟨⟨hok, -⟩ | ⟨hno, rfl⟩, hb⟩
        · exfalso; unfold OfOk at hok; omega
        · replace hb := below_then hb1 hb
          go_wp2
          refine wp_region_float (Fr (fun _ => False)) [(0, 0), (1, 0), (2, 0), (3, 0), (5, 0), (4, 2), (6, 0), (7, 0), (8, 0), (11, 0), (12, 1), (9, 2), (10, 1), (13, 0), (14, 0), (15, 0), (16, 0)] _ (by kernel_rfl) (by kernel_rfl) (by simp only [List.map_cons, List.map_nil, Array.getD_eq_getD_getElem?, List.getElem?_toArray, List.getElem?_cons_succ, List.getElem?_cons_zero, Option.getD_some]; rfl) rfl (by kernel_rfl) (fun _ _ d _ _ h => by cases d <;> exact h) (Fr.refl _) (fun _ _ _ => Fr.trans) ?_
          replace hb := hb.drew
          generalize w6.drew = w7 at *
          repeat (first | (refine wpF_f0 (fun K hK => ?_); go_simp; refine hK _ ?_; clear hK K) | refine wpF_skip (by rfl) ?_)
          refine wpF_nil ?_
          go_wp2
          go_ret
          exact ⟨rfl, hb⟩
      · go_wp2_with fail
        refine (of_any _ im _ hv).mono ?_
        rintro e w6 ⟨⟨hok, -⟩ | ⟨hno, rfl⟩, hb⟩
        · exfalso; unfold OfOk at hok; omega
        · replace hb := below_then hb1 hb
          go_wp2
          refine wp_region_float (Fr (fun _ => False)) [(0, 0), (1, 0), (2, 0), (3, 0), (5, 0), (4, 2), (6, 0), (7, 0), (8, 0), (11, 0), (12, 1), (9, 2), (10, 1), (13, 0), (14, 0), (15, 0), (16, 0)] _ (by kernel_rfl) (by kernel_rfl) (by simp only [List.map_cons, List.map_nil, Array.getD_eq_getD_getElem?, List.getElem?_toArray, List.getElem?_cons_succ, List.getElem?_cons_zero, Option.getD_some]; rfl) rfl (by kernel_rfl) (fun _ _ d _ _ h => by cases d <;> exact h) (Fr.refl _) (fun _ _ _ => Fr.trans) ?_
          replace hb := hb.drew
          generalize w6.drew = w7 at *
          repeat (first | (refine wpF_f0 (fun K hK => ?_); go_simp; refine hK _ ?_; clear hK K) | refine wpF_skip (by rfl) ?_)
          refine wpF_nil ?_
          go_wp2
          go_ret
          exact ⟨rfl, hb⟩
    · have hn2 : 1 ≤ n := by omega
      go_wp2_with fail
      refine (new_bad n w1 (by omega)).mono ?_
      rintro e w2 ⟨rfl, rfl⟩
      replace hv := hv.below hb1
      rcases himg with ⟨i1, i2, i3⟩ | i1 | ⟨i1, i2⟩ | ⟨i1, i2, i3, i4⟩
      · go_wp2_with fail
        refine (of_any _ im _ hv).mono ?_
        rintro e w6 ⟨⟨hok, p2, rfl, hD2⟩ | ⟨hno, -⟩, hb⟩
        · replace hv := hv.below hb
          replace hb := below_then hb1 hb
          go_wp2
          refine wp_region_float (Fr (fun _ => False)) [(0, 0), (1, 0), (2, 0), (3, 0), (5, 0), (4, 2), (6, 0), (7, 0), (8, 0), (11, 0), (12, 1), (9, 2), (10, 1), (13, 0), (14, 0), (15, 0), (16, 0)] _ (by kernel_rfl) (by kernel_rfl) (by simp only [List.map_cons, List.map_nil, Array.getD_eq_getD_getElem?, List.getElem?_toArray, List.getElem?_cons_succ, List.getElem?_cons_zero, Option.getD_some]; rfl) rfl (by kernel_rfl) (fun _ _ d _ _ h => by cases d <;> exact h) (Fr.refl _) (fun _ _ _ => Fr.trans) ?_
          replace hb := hb.drew
          replace hv := hv.drew
          replace hD2 := hD2.below (Below.refl _ _).drew
          generalize w6.drew = w7 at *
          repeat (first | (refine wpF_f0 (fun K hK => ?_); go_simp; refine hK _ ?_; clear hK K) | (refine wpF_load1 rfl rfl rfl (by kernel_rfl) (by assumption) (by simp) (fun K hK => ?_); go_simp; refine hK _ ?_; clear hK K) | (refine wpF_str rfl rfl rfl (by assumption) (by simp) (by kernel_rfl) (by kernel_rfl) (fun K hK => ?_); go_simp; refine hK _ ?_; clear hK K))
          refine wpF_a2 (fun K hK => ?_); rw [if_pos (by rfl)]
          go_simp
          refine (blocks_s hD2).mono ?_
          rintro e w8 ⟨rfl, rfl⟩
          refine hK _ _ (Fr.refl _ _) ?_
          clear hK K
          rw [DSt.of_length]
          have hbq : (im.length : Int) / 64 = ((im.length / 64 : Nat) : Int) := by omega
          rw [← hbq]
          clear hbq
          repeat (first | (refine wpF_f0 (fun K hK => ?_); go_simp; refine hK _ ?_; clear hK K) | (refine wpF_load1 rfl rfl rfl (by kernel_rfl) (by assumption) (by simp) (fun K hK => ?_); go_simp; refine hK _ ?_; clear hK K) | (refine wpF_str rfl rfl rfl (by assumption) (by simp) (by kernel_rfl) (by kernel_rfl) (fun K hK => ?_); go_simp; refine hK _ ?_; clear hK K))
          refine wpF_a2 (fun K hK => ?_); rw [if_pos (by rfl)]
          go_simp
          refine (image_s hD2).mono ?_
          rintro e w9 ⟨y, rfl, hy, hbb⟩
          have hry := Rd.of_own hy
          refine hK _ _ (Fr.of_below hbb _) ?_
          clear hK K hy
          rw [DSt.of_image hok.1] at hry
          replace hb := below_then hb hbb
          obtain ⟨Y, yc, rfl⟩ := hry.slice
          repeat (first | (refine wpF_f0 (fun K hK => ?_); go_simp; refine hK _ ?_; clear hK K) | (refine wpF_load1 rfl rfl rfl (by kernel_rfl) (by assumption) (by simp) (fun K hK => ?_); go_simp; refine hK _ ?_; clear hK K) | (refine wpF_str rfl rfl rfl (by assumption) (by simp) (by kernel_rfl) (by kernel_rfl) (fun K hK => ?_); go_simp; refine hK _ ?_; clear hK K))
          refine wpF_nil ?_
          go_wp2
          go_ret
          exact ⟨rfl, hb⟩
        · exfalso; unfold OfOk at hno; omega
      · go_wp2_with fail
        refine (of_any _ im _ hv).mono ?_
        rintro e w6 ⟨⟨hok, -⟩ | ⟨hno, rfl⟩, hb⟩
        · exfalso; unfold OfOk at hok; omega
        · replace hb := below_then hb1 hb
          go_wp2
          refine wp_region_float (Fr (fun _ => False)) [(0, 0), (1, 0), (2, 0), (3, 0), (5, 0), (4, 2), (6, 0), (7, 0), (8, 0), (11, 0), (12, 1), (9, 2), (10, 1), (13, 0), (14, 0), (15, 0), (16, 0)] _ (by kernel_rfl) (by kernel_rfl) (by simp only [List.map_cons, List.map_nil, Array.getD_eq_getD_getElem?, List.getElem?_toArray, List.getElem?_cons_succ, List.getElem?_cons_zero, Option.getD_some]; rfl) rfl (by kernel_rfl) (fun _ _ d _ _ h => by cases d <;> exact h) (Fr.refl _) (fun _ _ _ => Fr.trans) ?_
          replace hb := hb.drew
          generalize w6.drew = w7 at *
          repeat (first | (refine wpF_f0 (fun K hK => ?_); go_simp; refine hK _ ?_; clear hK K) | refine wpF_skip (by rfl) ?_)
          refine wpF_nil ?_
          go_wp2
          go_ret
          exact ⟨rfl, hb⟩
      · go_wp2_with fail
        refine (of_any _ im _ hv).mono ?_
        rintro e w6 ⟨⟨hok, -⟩ | ⟨hno, rfl⟩, hb⟩
        · exfalso; unfold OfOk at hok; omega
        · replace hb := below_then hb1 hb
          go_wp2
          refine wp_region_float (Fr (fun _ => False)) [(0, 0), (1, 0), (2, 0), (3, 0), (5, 0), (4, 2), (6, 0), (7, 0), (8, 0), (11, 0), (12, 1), (9, 2), (10, 1), (13, 0), (14, 0), (15, 0), (16, 0)] _ (by kernel_rfl) (by kernel_rfl) (by simp only [List.map_cons, List.map_nil, Array.getD_eq_getD_getElem?, List.getElem?_toArray, List.getElem?_cons_succ, List.getElem?_cons_zero, Option.getD_some]; rfl) rfl (by kernel_rfl) (fun _ _ d _ _ h => by cases d <;> exact h) (Fr.refl _) (fun _ _ _ => Fr.trans) ?_
          replace hb := hb.drew
          generalize w6.drew = w7 at *
          repeat (first | (refine wpF_f0 (fun K hK => ?_); go_simp; refine hK _ ?_; clear hK K) | refine wpF_skip (by rfl) ?_)
          refine wpF_nil ?_
          go_wp2
          go_ret
          exact ⟨rfl, hb⟩
      · go_wp2_with fail
        refine (of_any _ im _ hv).mono ?_
        rintro e w6 ⟨⟨hok, -⟩ | ⟨hno, rfl⟩, hb⟩
        · exfalso; unfold OfOk at hok; omega
        · replace hb := below_then hb1 hb
          go_wp2
          refine wp_region_float (Fr (fun _ => False)) [(0, 0), (1, 0), (2, 0), (3, 0), (5, 0), (4, 2), (6, 0), (7, 0), (8, 0), (11, 0), (12, 1), (9, 2), (10, 1), (13, 0), (14, 0), (15, 0), (16, 0)] _ (by kernel_rfl) (by kernel_rfl) (by simp only [List.map_cons, List.map_nil, Array.getD_eq_getD_getElem?, List.getElem?_toArray, List.getElem?_cons_succ, List.getElem?_cons_zero, Option.getD_some]; rfl) rfl (by kernel_rfl) (fun _ _ d _ _ h => by cases d <;> exact h) (Fr.refl _) (fun _ _ _ => Fr.trans) ?_
          replace hb := hb.drew
          generalize w6.drew = w7 at *
          repeat (first | (refine wpF_f0 (fun K hK => ?_); go_simp; refine hK _ ?_; clear hK K) | refine wpF_skip (by rfl) ?_)
          refine wpF_nil ?_
          go_wp2
          go_ret
          exact ⟨rfl, hb⟩

end Go.Proofs.Ytnnhelknpnkphaa
