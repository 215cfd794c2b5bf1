/- DiskDoes: the walk. -/
import Derived.Test.YtnnhelknpnkphaaRDisk7
import Derived.Test.YtnnhelknpnkphaaOpen
namespace Go.Proofs.Ytnnhelknpnkphaa
open Go.RowKit

structure OpV where
  kind : Int
  i : Int
  b : List UInt8
  picks : List Int
instance : Inhabited OpV := ⟨⟨0, 0, [], []⟩⟩
/-- The cells of one call. -/
def RdOp (w : World) (cs : List Value) (o : OpV) : Prop :=
  ∃ vb vp, cs = [.int .i64 o.kind, .int .i64 o.i, vb, vp] ∧ Rd w vb o.b ∧ RdI w vp o.picks ∧ (-9223372036854775808 ≤ o.i ∧ o.i ≤ 9223372036854775807) ∧ (o.picks ≠ [] → ∀ k, vp.ownBlock = some k → k < w.heap.size)

set_option maxHeartbeats 2000000 in
set_option maxRecDepth 100000 in
theorem does_walk (n : Int) (va : Value) (la : List OpV) (w : World) (ha : RdA 4 RdOp w va la) :
    Calls Try.prog 6 #[.int .i64 n, va] w fun e w' => e = .returned (.bool true) ∧ Below w.heap.size w w' := by
  obtain ⟨A, ca, rfl⟩ := ha.slice
  have hmax := ha.max
  by_cases hok : la.length ≤ 100 ∧ 1 ≤ n ∧ n ≤ 20
  rotate_left
  · rcases Nat.lt_or_ge 100 la.length with h1 | h1
    · have hd1 : (100 : Int) < (la.length : Int) := by omega
      go_enter Try.func6, Try.ntmps6
      go_wp2_with fail
      refine (awake_any w).mono ?_
      rintro e w1 ⟨rfl, hb1⟩
      clear hok ha
      go_wp2_with fail
      go_ret
      exact ⟨rfl, hb1⟩
    have hd1 : decide ((100 : Int) < (la.length : Int)) = false := decide_eq_false (by omega)
    by_cases h2 : n < 1
    · go_enter Try.func6, Try.ntmps6
      go_wp2_with fail
      refine (awake_any w).mono ?_
      rintro e w1 ⟨rfl, hb1⟩
      clear hok ha
      go_wp2_with fail
      go_ret
      exact ⟨rfl, hb1⟩
    have hd2 : decide (n < 1) = false := decide_eq_false h2
    have h3 : 20 < n := by omega
    go_enter Try.func6, Try.ntmps6
    go_wp2_with fail
    refine (awake_any w).mono ?_
    rintro e w1 ⟨rfl, hb1⟩
    clear hok ha h2
    go_wp2_with fail
    go_ret
    exact ⟨rfl, hb1⟩
  obtain ⟨hl, hn1, hn2⟩ := hok
  obtain ⟨m, rfl⟩ := Int.eq_ofNat_of_zero_le (show 0 ≤ n by omega)
  have hd1 : decide ((100 : Int) < (la.length : Int)) = false := decide_eq_false (by omega)
  have hd2 : decide ((m : Int) < 1) = false := decide_eq_false (by omega)
  have hd3 : decide ((20 : Int) < (m : Int)) = false := decide_eq_false (by omega)
  go_enter Try.func6, Try.ntmps6
  go_wp2_with fail
  refine (awake_any w).mono ?_
  rintro e w1 ⟨rfl, hb1⟩
  go_wp2_with fail
  refine (new_s m w1 (by omega) (by omega)).mono ?_
  rintro e w2 ⟨p, rfl, hD, hb2⟩
  go_wp2_with fail
  refine (rnew_s m w2 (by omega)).mono ?_
  rintro e w3 ⟨q, rfl, hR, hb3⟩
  generalize hB0 : w.heap.size = B at *
  have HB := Lib.hid hB0
  have hs1 := hb1.size
  have hs2 := hb2.size
  have hs3 := hb3.size
  have h3 : Two (· < B) w3 p q (DSt.fresh m) (DSt.fresh m) := by
    refine ⟨fun k => w1.heap.size ≤ k ∧ k < w2.heap.size, fun k => w2.heap.size ≤ k ∧ k < w3.heap.size, (hD.but (fun k hk h => ⟨h, hk⟩)).below hb3, hR.but (fun k hk h => ⟨h, hk⟩), fun k h1 h2 => by omega, fun k h1 => ⟨fun h => by omega, by omega⟩, fun k h1 => ⟨fun h => by omega, by omega⟩, fun k h1 => by omega⟩
  have hbr : Below B w w3 := (hb1.trans (hb2.mono (by omega))).trans (hb3.mono (by omega))
  have HH := Lib.hid (And.intro h3 hbr)
  clear hD hR hb1 hb2 hb3 hs1 hs2 hs3 h3 hbr hB0
  go_wp2_with fail
  go_loopw [9] (fun i wr => ∃ (k : Nat) (D : DSt), i = .int .i64 k ∧ k ≤ la.length ∧ Two (· < B) wr p q D D ∧ D.kept.length = m ∧ D.mem.length ≤ k ∧ Below B w wr) (fun i _ => la.length - (intOf i).toNat)
  case atStart => exact ⟨0, _, rfl, Nat.zero_le _, HH.out.1, fresh_len m, Nat.zero_le _, HH.out.2⟩
  case round =>
    clear HH
    obtain ⟨k, D, rfl, hk, h3, hkl, hml, hbr⟩ := hrel
    by_cases hlt : k < la.length
    · have hltI : (k : Int) < (la.length : Int) := by omega
      have hk0 : (0 : Int) ≤ (k : Int) := by omega
      obtain ⟨b, o, cs, rfl, hcl, hra, vb, vp, rfl, rb, rp, hoi, hpo⟩ := ha.at hlt
      have hbB : b < w.heap.size := block_lt_of_cell (hra 0 _ rfl)
      have hvo := fun h => rb.lt h
      rw [HB.out] at hbB hvo hpo
      have hbr' : Below w.heap.size w wr := by rw [HB.out]; exact hbr
      replace hra := hra.fr (Fr.of_below hbr' (fun _ => False)) (fun h => h)
      replace rb := rb.below hbr'
      replace rp := rp.below hbr'
      have hsr := hbr.size
      rw [HB.out] at hsr
      generalize la[k] = ov at *
      obtain ⟨kd, oi, ob, op⟩ := ov
      simp only at hra rb rp hoi hpo hvo
      obtain ⟨Ab, cb, rfl⟩ := rb.slice
      obtain ⟨Ap, cp, rfl⟩ := rp.slice
      have h13 : ∀ v ∈ ([.int .i64 kd, .int .i64 oi, .slice Ab ob.length cb, .slice Ap op.length cp] : List Value), v.oneCell' = true := by
        intro v hv
        simp only [List.mem_cons, List.mem_nil_iff, or_false] at hv
        rcases hv with rfl | rfl | rfl | rfl <;> rfl
      have hl4 : ([.int .i64 kd, .int .i64 oi, .slice Ab ob.length cb, .slice Ap op.length cp] : List Value).length = 4 := rfl
      go_upto_region 12 with (first
        | (refine wpList_loadN (n := 4) rfl rfl rfl hra hl4 (by kernel_rfl) (by kernel_rfl) ?_)
        | (refine wpList_alloc1 (e := 43) (n := 4) rfl rfl (by kernel_rfl) (fun zc hzc => ?_))
        | (refine wpList_store1 (cs := [.int .i64 kd, .int .i64 oi, .slice Ab ob.length cb, .slice Ap op.length cp]) rfl rfl rfl rfl hl4 hzc (by kernel_rfl) h13 ?_))
      have b4 := Blk.new wr [.int .i64 kd, .int .i64 oi, .slice Ab ob.length cb, .slice Ap op.length cp].toArray 43
      have hb4 : Below wr.heap.size wr (wr.alloc (.cells [.int .i64 kd, .int .i64 oi, .slice Ab ob.length cb, .slice Ap op.length cp].toArray 43)) := (Below.refl _ _).alloc (Nat.le_refl _) _
      have h4 := h3.alloc (.cells [.int .i64 kd, .int .i64 oi, .slice Ab ob.length cb, .slice Ap op.length cp].toArray 43)
      replace rb := rb.below hb4
      replace rp := rp.below hb4
      replace hbr := hbr.trans (hb4.mono hsr)
      go_simp
      generalize wr.alloc (.cells [.int .i64 kd, .int .i64 oi, .slice Ab ob.length cb, .slice Ap op.length cp].toArray 43) = w4 at *
      have hs4 := hb4.size
      clear hb4 h3 hra h13 hl4 hbr'
      generalize wr.heap.size = po at *
      have hs4B : B ≤ w4.heap.size := by omega
      have c0 := b4.cell 0
      simp only [List.getElem?_toArray, List.getElem?_cons_zero, List.getElem?_cons_succ] at c0
      have c1 := b4.cell 1
      simp only [List.getElem?_toArray, List.getElem?_cons_zero, List.getElem?_cons_succ] at c1
      have c2 := b4.cell 2
      simp only [List.getElem?_toArray, List.getElem?_cons_zero, List.getElem?_cons_succ] at c2
      have c3 := b4.cell 3
      simp only [List.getElem?_toArray, List.getElem?_cons_zero, List.getElem?_cons_succ] at c3
      have hkl' := hkl
      clear hkl b4
      by_cases e0 : kd = 0
      · subst e0
        have hwl := DSt.write_len D oi ob
        have hwk : (D.write oi ob).2.kept.length = m := by rw [DSt.write_kept, hkl']
        go_upto_region 15 with fail
        refine wp_region_float (Fr (fun j => ¬ (j < B ∨ j = po))) [(0, 0), (1, 0), (2, 1), (3, 0), (4, 1), (6, 0), (7, 0), (8, 1), (9, 0), (10, 1), (5, 2), (11, 3), (12, 0), (13, 0)] _ (by kernel_rfl) (by kernel_rfl) (by simp only [List.map_cons, List.map_nil, Array.getD_eq_getD_getElem?, List.getElem?_toArray, List.getElem?_cons_succ, List.getElem?_cons_zero, Option.getD_some]; rfl) rfl (by kernel_rfl) (fun _ _ d _ _ h => by cases d <;> exact h) (Fr.refl _) (fun _ _ _ => Fr.trans) ?_
        replace h4 := h4.below (Below.refl _ _).drew
        replace hbr := hbr.drew
        replace rb := rb.drew
        replace c1 : w4.drew.cell? ⟨po, 1, none⟩ = _ := c1
        replace c2 : w4.drew.cell? ⟨po, 2, none⟩ = _ := c2
        replace hs4B : B ≤ w4.drew.heap.size := hs4B
        clear c0 rp hpo hs4 c3
        generalize w4.drew = w5 at *
        repeat (first | (refine wpF_f0 (fun K hK => ?_); go_simp; refine hK _ ?_; clear hK K) | (refine wpF_load1 rfl rfl rfl (by kernel_rfl) (by assumption) (by simp) (fun K hK => ?_); go_simp; refine hK _ ?_; clear hK K) | (refine wpF_str rfl rfl rfl (by assumption) (by simp) (by kernel_rfl) (by kernel_rfl) (fun K hK => ?_); go_simp; refine hK _ ?_; clear hK K))
        refine wpF_a2 (fun K hK => ?_); rw [if_pos (by rfl)]
        go_simp
        refine (h4.write_d (by omega) oi _ ob rb).mono ?_
        rintro e w6 ⟨rfl, h6, f6⟩
        refine hK _ _ f6 ?_
        clear hK K c1 c2
        replace rb := rb.fr f6 (fun hne j hj e => e (.inl (hvo hne j hj)))
        replace hbr := hbr.trans (f6.below hs4B (fun j hj e => e (.inl hj)))
        have hs6B := Nat.le_trans hs4B f6.size
        repeat (first | (refine wpF_f0 (fun K hK => ?_); go_simp; refine hK _ ?_; clear hK K) | (refine wpF_load1 rfl rfl rfl (by kernel_rfl) (by assumption) (by simp) (fun K hK => ?_); go_simp; refine hK _ ?_; clear hK K) | (refine wpF_str rfl rfl rfl (by assumption) (by simp) (by kernel_rfl) (by kernel_rfl) (fun K hK => ?_); go_simp; refine hK _ ?_; clear hK K))
        refine wpF_a3 (fun K hK => ?_); rw [if_pos (by rfl)]
        go_simp
        refine (h6.write_r (by omega) oi _ ob rb).mono ?_
        rintro e w7 ⟨rfl, h7, f7⟩
        refine hK _ _ ?_
        clear hK K
        replace hbr := hbr.trans (f7.below hs6B (fun j hj e => e (.inl hj)))
        have hl7 : (D.write oi ob).2.kept.length = m := hwk
        have hm7 : (D.write oi ob).2.mem.length ≤ k + 1 := by omega
        clear f6 f7 h6 h4 hwl hwk rb
        generalize (D.write oi ob).1 = cd7 at *
        generalize (D.write oi ob).2 = D7 at *
        repeat (first | (refine wpF_f0 (fun K hK => ?_); go_simp; refine hK _ ?_; clear hK K) | (refine wpF_load1 rfl rfl rfl (by kernel_rfl) (by assumption) (by simp) (fun K hK => ?_); go_simp; refine hK _ ?_; clear hK K) | (refine wpF_str rfl rfl rfl (by assumption) (by simp) (by kernel_rfl) (by kernel_rfl) (fun K hK => ?_); go_simp; refine hK _ ?_; clear hK K))
        refine wpF_nil ?_
        -- the tail
        go_upto_region 28 with fail
        refine wp_region_float (Fr (fun _ => False)) [(0, 0), (1, 0), (2, 0), (3, 0), (5, 0), (6, 0), (7, 0), (8, 1), (4, 2), (9, 0), (10, 0), (11, 0), (12, 0), (14, 0), (15, 0), (16, 0), (17, 1), (13, 2), (18, 0), (19, 0), (20, 0), (21, 0), (24, 0), (22, 2), (23, 1), (25, 2), (26, 1), (27, 0), (28, 0)] _ (by kernel_rfl) (by kernel_rfl) (by simp only [List.map_cons, List.map_nil, Array.getD_eq_getD_getElem?, List.getElem?_toArray, List.getElem?_cons_succ, List.getElem?_cons_zero, Option.getD_some]; rfl) rfl (by kernel_rfl) (fun _ _ d _ _ h => by cases d <;> exact h) (Fr.refl _) (fun _ _ _ => Fr.trans) ?_
        replace h7 := h7.below (Below.refl _ _).drew
        replace hbr := hbr.drew
        generalize w7.drew = w8 at *
        obtain ⟨SD, SR, hD8, hR8, -⟩ := id h7
        have hR9 := hR8
        obtain ⟨kv8, mv8, ks8, ms8, hr8⟩ := hR8
        obtain ⟨-, -, c2, -, -, c5, -⟩ := rcells_all hr8.blk
        have hne : (!D7.out == D7.out) = false := by cases D7.out <;> rfl
        have hne2 : (D7.out == !D7.out) = false := by cases D7.out <;> rfl
        clear hr8
        repeat (first | (refine wpF_f0 (fun K hK => ?_); go_simp; refine hK _ ?_; clear hK K) | (refine wpF_load1 rfl rfl rfl (by kernel_rfl) (by assumption) (by simp) (fun K hK => ?_); go_simp; refine hK _ ?_; clear hK K) | (refine wpF_str rfl rfl rfl (by assumption) (by simp) (by kernel_rfl) (by kernel_rfl) (fun K hK => ?_); go_simp; refine hK _ ?_; clear hK K))
        refine wpF_a2 (fun K hK => ?_); rw [if_pos (by rfl)]
        go_simp
        refine (on_s hD8).mono ?_
        rintro e w8' ⟨rfl, rfl⟩
        refine hK _ _ (Fr.refl _ _) ?_
        clear hK K
        repeat (first | (refine wpF_f0 (fun K hK => ?_); go_simp; refine hK _ ?_; clear hK K) | (refine wpF_load1 rfl rfl rfl (by kernel_rfl) (by assumption) (by simp) (fun K hK => ?_); go_simp; refine hK _ ?_; clear hK K) | (refine wpF_str rfl rfl rfl (by assumption) (by simp) (by kernel_rfl) (by kernel_rfl) (fun K hK => ?_); go_simp; refine hK _ ?_; clear hK K))
        refine wpF_a2 (fun K hK => ?_); rw [if_pos (by rfl)]
        go_simp
        refine (calls_s hD8).mono ?_
        rintro e w8' ⟨rfl, rfl⟩
        refine hK _ _ (Fr.refl _ _) ?_
        clear hK K
        repeat (first | (refine wpF_f0 (fun K hK => ?_); go_simp; refine hK _ ?_; clear hK K) | (refine wpF_load1 rfl rfl rfl (by kernel_rfl) (by assumption) (by simp) (fun K hK => ?_); go_simp; refine hK _ ?_; clear hK K) | (refine wpF_str rfl rfl rfl (by assumption) (by simp) (by kernel_rfl) (by kernel_rfl) (fun K hK => ?_); go_simp; refine hK _ ?_; clear hK K))
        refine wpF_a2 (fun K hK => ?_); rw [if_pos (by rfl)]
        go_simp
        refine (image_s hD8).mono ?_
        rintro e w9 ⟨x, rfl, hx, hbx⟩
        have hrx := Rd.of_own hx
        refine hK _ _ (Fr.of_below hbx _) ?_
        clear hK K hx
        obtain ⟨X, xc, rfl⟩ := hrx.slice
        have hlen := hD8.len
        replace h7 := h7.below hbx
        replace hR9 := hR9.below hbx
        replace hbr := hbr.trans (hbx.mono (by have := hbr.size; rw [HB.out] at this; exact this))
        repeat (first | (refine wpF_f0 (fun K hK => ?_); go_simp; refine hK _ ?_; clear hK K) | (refine wpF_load1 rfl rfl rfl (by kernel_rfl) (by assumption) (by simp) (fun K hK => ?_); go_simp; refine hK _ ?_; clear hK K) | (refine wpF_str rfl rfl rfl (by assumption) (by simp) (by kernel_rfl) (by kernel_rfl) (fun K hK => ?_); go_simp; refine hK _ ?_; clear hK K))
        refine wpF_a2 (fun K hK => ?_); rw [if_pos (by rfl)]
        go_simp
        refine (rimage_s hR9 hlen).mono ?_
        rintro e w10 ⟨y, rfl, hy, hby⟩
        have hry := Rd.of_own hy
        refine hK _ _ (Fr.of_below hby _) ?_
        clear hK K hy
        obtain ⟨Y, yc, rfl⟩ := hry.slice
        replace h7 := h7.below hby
        replace hbr := hbr.trans (hby.mono (by have := hbr.size; rw [HB.out] at this; exact this))
        repeat (first | (refine wpF_f0 (fun K hK => ?_); go_simp; refine hK _ ?_; clear hK K) | (refine wpF_load1 rfl rfl rfl (by kernel_rfl) (by assumption) (by simp) (fun K hK => ?_); go_simp; refine hK _ ?_; clear hK K) | (refine wpF_str rfl rfl rfl (by assumption) (by simp) (by kernel_rfl) (by kernel_rfl) (fun K hK => ?_); go_simp; refine hK _ ?_; clear hK K))
        refine wpF_nil ?_
        clear c2 c5 hrx hry hne hne2 hlen hR9 hD8
        go_wp2_with fail
        go_roundw
        case rel => exact ⟨k + 1, D7, by go_num, by omega, h7.mono (fun _ h => .inl h), hl7, hm7, hbr⟩
        case measure => simp [intOf]; omega
      replace e0 : (kd == 0) = false := beq_eq_false_iff_ne.2 e0
      by_cases e1 : kd = 1
      · subst e1
        go_upto_region 28 with (first
          | (go_at_call 16; refine (read_s (Two.d h4).choose_spec.1 (by omega) oi).mono ?_; rintro e w5 ⟨v5, rfl, r5, -, f5⟩; obtain ⟨A5, k5, rfl⟩ := r5.slice; have h5 := h4.below f5; have hbr5 := hbr.trans (f5.mono hs4B); have hs5B := Nat.le_trans hs4B f5.size; replace c1 := (Fr.of_below f5 (fun _ => False)).cell c1 (fun e => e))
          | (go_at_call 20; refine (rread_s (Two.r h5).choose_spec.1 (by omega) oi).mono ?_; rintro e w7 ⟨v6, rfl, r6, f6⟩; obtain ⟨A6, k6, rfl⟩ := r6.slice; have h7 := h5.below f6; have r5' := r5.below f6; replace hbr := hbr5.trans (f6.mono hs5B))
          | (refine wpList_strg rfl rfl rfl (by assumption) (by kernel_rfl) (by kernel_rfl) ?_))
        have hl7 := hkl'
        have hm7 : D.mem.length ≤ k + 1 := by omega
        clear f5 f6 h5 h4 hbr5 r5 r5' r6
        generalize D = D7 at *
        -- the tail
        go_upto_region 28 with fail
        refine wp_region_float (Fr (fun _ => False)) [(0, 0), (1, 0), (2, 0), (3, 0), (5, 0), (6, 0), (7, 0), (8, 1), (4, 2), (9, 0), (10, 0), (11, 0), (12, 0), (14, 0), (15, 0), (16, 0), (17, 1), (13, 2), (18, 0), (19, 0), (20, 0), (21, 0), (24, 0), (22, 2), (23, 1), (25, 2), (26, 1), (27, 0), (28, 0)] _ (by kernel_rfl) (by kernel_rfl) (by simp only [List.map_cons, List.map_nil, Array.getD_eq_getD_getElem?, List.getElem?_toArray, List.getElem?_cons_succ, List.getElem?_cons_zero, Option.getD_some]; rfl) rfl (by kernel_rfl) (fun _ _ d _ _ h => by cases d <;> exact h) (Fr.refl _) (fun _ _ _ => Fr.trans) ?_
        replace h7 := h7.below (Below.refl _ _).drew
        replace hbr := hbr.drew
        generalize w7.drew = w8 at *
        obtain ⟨SD, SR, hD8, hR8, -⟩ := id h7
        have hR9 := hR8
        obtain ⟨kv8, mv8, ks8, ms8, hr8⟩ := hR8
        obtain ⟨-, -, c2, -, -, c5, -⟩ := rcells_all hr8.blk
        have hne : (!D7.out == D7.out) = false := by cases D7.out <;> rfl
        have hne2 : (D7.out == !D7.out) = false := by cases D7.out <;> rfl
        clear hr8
        repeat (first | (refine wpF_f0 (fun K hK => ?_); go_simp; refine hK _ ?_; clear hK K) | (refine wpF_load1 rfl rfl rfl (by kernel_rfl) (by assumption) (by simp) (fun K hK => ?_); go_simp; refine hK _ ?_; clear hK K) | (refine wpF_str rfl rfl rfl (by assumption) (by simp) (by kernel_rfl) (by kernel_rfl) (fun K hK => ?_); go_simp; refine hK _ ?_; clear hK K))
        refine wpF_a2 (fun K hK => ?_); rw [if_pos (by rfl)]
        go_simp
        refine (on_s hD8).mono ?_
        rintro e w8' ⟨rfl, rfl⟩
        refine hK _ _ (Fr.refl _ _) ?_
        clear hK K
        repeat (first | (refine wpF_f0 (fun K hK => ?_); go_simp; refine hK _ ?_; clear hK K) | (refine wpF_load1 rfl rfl rfl (by kernel_rfl) (by assumption) (by simp) (fun K hK => ?_); go_simp; refine hK _ ?_; clear hK K) | (refine wpF_str rfl rfl rfl (by assumption) (by simp) (by kernel_rfl) (by kernel_rfl) (fun K hK => ?_); go_simp; refine hK _ ?_; clear hK K))
        refine wpF_a2 (fun K hK => ?_); rw [if_pos (by rfl)]
        go_simp
        refine (calls_s hD8).mono ?_
        rintro e w8' ⟨rfl, rfl⟩
        refine hK _ _ (Fr.refl _ _) ?_
        clear hK K
        repeat (first | (refine wpF_f0 (fun K hK => ?_); go_simp; refine hK _ ?_; clear hK K) | (refine wpF_load1 rfl rfl rfl (by kernel_rfl) (by assumption) (by simp) (fun K hK => ?_); go_simp; refine hK _ ?_; clear hK K) | (refine wpF_str rfl rfl rfl (by assumption) (by simp) (by kernel_rfl) (by kernel_rfl) (fun K hK => ?_); go_simp; refine hK _ ?_; clear hK K))
        refine wpF_a2 (fun K hK => ?_); rw [if_pos (by rfl)]
        go_simp
        refine (image_s hD8).mono ?_
        rintro e w9 ⟨x, rfl, hx, hbx⟩
        have hrx := Rd.of_own hx
        refine hK _ _ (Fr.of_below hbx _) ?_
        clear hK K hx
        obtain ⟨X, xc, rfl⟩ := hrx.slice
        have hlen := hD8.len
        replace h7 := h7.below hbx
        replace hR9 := hR9.below hbx
        replace hbr := hbr.trans (hbx.mono (by have := hbr.size; rw [HB.out] at this; exact this))
        repeat (first | (refine wpF_f0 (fun K hK => ?_); go_simp; refine hK _ ?_; clear hK K) | (refine wpF_load1 rfl rfl rfl (by kernel_rfl) (by assumption) (by simp) (fun K hK => ?_); go_simp; refine hK _ ?_; clear hK K) | (refine wpF_str rfl rfl rfl (by assumption) (by simp) (by kernel_rfl) (by kernel_rfl) (fun K hK => ?_); go_simp; refine hK _ ?_; clear hK K))
        refine wpF_a2 (fun K hK => ?_); rw [if_pos (by rfl)]
        go_simp
        refine (rimage_s hR9 hlen).mono ?_
        rintro e w10 ⟨y, rfl, hy, hby⟩
        have hry := Rd.of_own hy
        refine hK _ _ (Fr.of_below hby _) ?_
        clear hK K hy
        obtain ⟨Y, yc, rfl⟩ := hry.slice
        replace h7 := h7.below hby
        replace hbr := hbr.trans (hby.mono (by have := hbr.size; rw [HB.out] at this; exact this))
        repeat (first | (refine wpF_f0 (fun K hK => ?_); go_simp; refine hK _ ?_; clear hK K) | (refine wpF_load1 rfl rfl rfl (by kernel_rfl) (by assumption) (by simp) (fun K hK => ?_); go_simp; refine hK _ ?_; clear hK K) | (refine wpF_str rfl rfl rfl (by assumption) (by simp) (by kernel_rfl) (by kernel_rfl) (fun K hK => ?_); go_simp; refine hK _ ?_; clear hK K))
        refine wpF_nil ?_
        clear c2 c5 hrx hry hne hne2 hlen hR9 hD8
        go_wp2_with fail
        go_roundw
        case rel => exact ⟨k + 1, D7, by go_num, by omega, h7.mono (fun _ h => .inl h), hl7, hm7, hbr⟩
        case measure => simp [intOf]; omega
      replace e1 : (kd == 1) = false := beq_eq_false_iff_ne.2 e1
      by_cases e2 : kd = 2
      · subst e2
        have hsl := DSt.sync_len D
        have hsk := DSt.sync_kept D
        rw [hkl'] at hsk
        go_upto_region 28 with (first
          | (go_at_call 13; refine (h4.sync_d (by omega)).mono ?_; rintro e w5 ⟨rfl, h5, f5⟩; have hbr5 := hbr.trans (f5.below hs4B (fun j hj e => e (.inl hj))); have hs5B := Nat.le_trans hs4B f5.size)
          | (go_at_call 21; refine (h5.sync_r (by omega)).mono ?_; rintro e w7 ⟨rfl, h7, f7⟩; replace hbr := hbr5.trans (f7.below hs5B (fun j hj e => e (.inl hj)))))
        have hl7 : D.sync.2.kept.length = m := hsk
        have hm7 : D.sync.2.mem.length ≤ k + 1 := by omega
        clear f5 f7 h5 h4 hsl hsk hbr5
        generalize D.sync.1 = cd7 at *
        generalize D.sync.2 = D7 at *
        -- the tail
        go_upto_region 28 with fail
        refine wp_region_float (Fr (fun _ => False)) [(0, 0), (1, 0), (2, 0), (3, 0), (5, 0), (6, 0), (7, 0), (8, 1), (4, 2), (9, 0), (10, 0), (11, 0), (12, 0), (14, 0), (15, 0), (16, 0), (17, 1), (13, 2), (18, 0), (19, 0), (20, 0), (21, 0), (24, 0), (22, 2), (23, 1), (25, 2), (26, 1), (27, 0), (28, 0)] _ (by kernel_rfl) (by kernel_rfl) (by simp only [List.map_cons, List.map_nil, Array.getD_eq_getD_getElem?, List.getElem?_toArray, List.getElem?_cons_succ, List.getElem?_cons_zero, Option.getD_some]; rfl) rfl (by kernel_rfl) (fun _ _ d _ _ h => by cases d <;> exact h) (Fr.refl _) (fun _ _ _ => Fr.trans) ?_
        replace h7 := h7.below (Below.refl _ _).drew
        replace hbr := hbr.drew
        generalize w7.drew = w8 at *
        obtain ⟨SD, SR, hD8, hR8, -⟩ := id h7
        have hR9 := hR8
        obtain ⟨kv8, mv8, ks8, ms8, hr8⟩ := hR8
        obtain ⟨-, -, c2, -, -, c5, -⟩ := rcells_all hr8.blk
        have hne : (!D7.out == D7.out) = false := by cases D7.out <;> rfl
        have hne2 : (D7.out == !D7.out) = false := by cases D7.out <;> rfl
        clear hr8
        repeat (first | (refine wpF_f0 (fun K hK => ?_); go_simp; refine hK _ ?_; clear hK K) | (refine wpF_load1 rfl rfl rfl (by kernel_rfl) (by assumption) (by simp) (fun K hK => ?_); go_simp; refine hK _ ?_; clear hK K) | (refine wpF_str rfl rfl rfl (by assumption) (by simp) (by kernel_rfl) (by kernel_rfl) (fun K hK => ?_); go_simp; refine hK _ ?_; clear hK K))
        refine wpF_a2 (fun K hK => ?_); rw [if_pos (by rfl)]
        go_simp
        refine (on_s hD8).mono ?_
        rintro e w8' ⟨rfl, rfl⟩
        refine hK _ _ (Fr.refl _ _) ?_
        clear hK K
        repeat (first | (refine wpF_f0 (fun K hK => ?_); go_simp; refine hK _ ?_; clear hK K) | (refine wpF_load1 rfl rfl rfl (by kernel_rfl) (by assumption) (by simp) (fun K hK => ?_); go_simp; refine hK _ ?_; clear hK K) | (refine wpF_str rfl rfl rfl (by assumption) (by simp) (by kernel_rfl) (by kernel_rfl) (fun K hK => ?_); go_simp; refine hK _ ?_; clear hK K))
        refine wpF_a2 (fun K hK => ?_); rw [if_pos (by rfl)]
        go_simp
        refine (calls_s hD8).mono ?_
        rintro e w8' ⟨rfl, rfl⟩
        refine hK _ _ (Fr.refl _ _) ?_
        clear hK K
        repeat (first | (refine wpF_f0 (fun K hK => ?_); go_simp; refine hK _ ?_; clear hK K) | (refine wpF_load1 rfl rfl rfl (by kernel_rfl) (by assumption) (by simp) (fun K hK => ?_); go_simp; refine hK _ ?_; clear hK K) | (refine wpF_str rfl rfl rfl (by assumption) (by simp) (by kernel_rfl) (by kernel_rfl) (fun K hK => ?_); go_simp; refine hK _ ?_; clear hK K))
        refine wpF_a2 (fun K hK => ?_); rw [if_pos (by rfl)]
        go_simp
        refine (image_s hD8).mono ?_
        rintro e w9 ⟨x, rfl, hx, hbx⟩
        have hrx := Rd.of_own hx
        refine hK _ _ (Fr.of_below hbx _) ?_
        clear hK K hx
        obtain ⟨X, xc, rfl⟩ := hrx.slice
        have hlen := hD8.len
        replace h7 := h7.below hbx
        replace hR9 := hR9.below hbx
        replace hbr := hbr.trans (hbx.mono (by have := hbr.size; rw [HB.out] at this; exact this))
        repeat (first | (refine wpF_f0 (fun K hK => ?_); go_simp; refine hK _ ?_; clear hK K) | (refine wpF_load1 rfl rfl rfl (by kernel_rfl) (by assumption) (by simp) (fun K hK => ?_); go_simp; refine hK _ ?_; clear hK K) | (refine wpF_str rfl rfl rfl (by assumption) (by simp) (by kernel_rfl) (by kernel_rfl) (fun K hK => ?_); go_simp; refine hK _ ?_; clear hK K))
        refine wpF_a2 (fun K hK => ?_); rw [if_pos (by rfl)]
        go_simp
        refine (rimage_s hR9 hlen).mono ?_
        rintro e w10 ⟨y, rfl, hy, hby⟩
        have hry := Rd.of_own hy
        refine hK _ _ (Fr.of_below hby _) ?_
        clear hK K hy
        obtain ⟨Y, yc, rfl⟩ := hry.slice
        replace h7 := h7.below hby
        replace hbr := hbr.trans (hby.mono (by have := hbr.size; rw [HB.out] at this; exact this))
        repeat (first | (refine wpF_f0 (fun K hK => ?_); go_simp; refine hK _ ?_; clear hK K) | (refine wpF_load1 rfl rfl rfl (by kernel_rfl) (by assumption) (by simp) (fun K hK => ?_); go_simp; refine hK _ ?_; clear hK K) | (refine wpF_str rfl rfl rfl (by assumption) (by simp) (by kernel_rfl) (by kernel_rfl) (fun K hK => ?_); go_simp; refine hK _ ?_; clear hK K))
        refine wpF_nil ?_
        clear c2 c5 hrx hry hne hne2 hlen hR9 hD8
        go_wp2_with fail
        go_roundw
        case rel => exact ⟨k + 1, D7, by go_num, by omega, h7.mono (fun _ h => .inl h), hl7, hm7, hbr⟩
        case measure => simp [intOf]; omega
      replace e2 : (kd == 2) = false := beq_eq_false_iff_ne.2 e2
      by_cases e3 : kd = 3
      · subst e3
        go_upto_region 28 with (first
          | (go_at_call 22; refine (h4.arm_d oi).mono ?_; rintro e w5 ⟨rfl, h5, f5⟩; have hbr5 := hbr.trans (f5.below hs4B (fun j hj e => e (.inl hj))); have hs5B := Nat.le_trans hs4B f5.size; replace c1 := f5.cell c1 (fun e => e (.inr rfl)))
          | (go_at_call 23; refine (h5.arm_r oi hoi).mono ?_; rintro e w7 ⟨rfl, h7, f7⟩; replace hbr := hbr5.trans (f7.below hs5B (fun j hj e => e (.inl hj)))))
        have hl7 : (D.arm oi).kept.length = m := hkl'
        have hm7 : (D.arm oi).mem.length ≤ k + 1 := by show D.mem.length ≤ _; omega
        clear f5 f7 h5 h4 hbr5
        generalize D.arm oi = D7 at *
        -- the tail
        go_upto_region 28 with fail
        refine wp_region_float (Fr (fun _ => False)) [(0, 0), (1, 0), (2, 0), (3, 0), (5, 0), (6, 0), (7, 0), (8, 1), (4, 2), (9, 0), (10, 0), (11, 0), (12, 0), (14, 0), (15, 0), (16, 0), (17, 1), (13, 2), (18, 0), (19, 0), (20, 0), (21, 0), (24, 0), (22, 2), (23, 1), (25, 2), (26, 1), (27, 0), (28, 0)] _ (by kernel_rfl) (by kernel_rfl) (by simp only [List.map_cons, List.map_nil, Array.getD_eq_getD_getElem?, List.getElem?_toArray, List.getElem?_cons_succ, List.getElem?_cons_zero, Option.getD_some]; rfl) rfl (by kernel_rfl) (fun _ _ d _ _ h => by cases d <;> exact h) (Fr.refl _) (fun _ _ _ => Fr.trans) ?_
        replace h7 := h7.below (Below.refl _ _).drew
        replace hbr := hbr.drew
        generalize w7.drew = w8 at *
        obtain ⟨SD, SR, hD8, hR8, -⟩ := id h7
        have hR9 := hR8
        obtain ⟨kv8, mv8, ks8, ms8, hr8⟩ := hR8
        obtain ⟨-, -, c2, -, -, c5, -⟩ := rcells_all hr8.blk
        have hne : (!D7.out == D7.out) = false := by cases D7.out <;> rfl
        have hne2 : (D7.out == !D7.out) = false := by cases D7.out <;> rfl
        clear hr8
        repeat (first | (refine wpF_f0 (fun K hK => ?_); go_simp; refine hK _ ?_; clear hK K) | (refine wpF_load1 rfl rfl rfl (by kernel_rfl) (by assumption) (by simp) (fun K hK => ?_); go_simp; refine hK _ ?_; clear hK K) | (refine wpF_str rfl rfl rfl (by assumption) (by simp) (by kernel_rfl) (by kernel_rfl) (fun K hK => ?_); go_simp; refine hK _ ?_; clear hK K))
        refine wpF_a2 (fun K hK => ?_); rw [if_pos (by rfl)]
        go_simp
        refine (on_s hD8).mono ?_
        rintro e w8' ⟨rfl, rfl⟩
        refine hK _ _ (Fr.refl _ _) ?_
        clear hK K
        repeat (first | (refine wpF_f0 (fun K hK => ?_); go_simp; refine hK _ ?_; clear hK K) | (refine wpF_load1 rfl rfl rfl (by kernel_rfl) (by assumption) (by simp) (fun K hK => ?_); go_simp; refine hK _ ?_; clear hK K) | (refine wpF_str rfl rfl rfl (by assumption) (by simp) (by kernel_rfl) (by kernel_rfl) (fun K hK => ?_); go_simp; refine hK _ ?_; clear hK K))
        refine wpF_a2 (fun K hK => ?_); rw [if_pos (by rfl)]
        go_simp
        refine (calls_s hD8).mono ?_
        rintro e w8' ⟨rfl, rfl⟩
        refine hK _ _ (Fr.refl _ _) ?_
        clear hK K
        repeat (first | (refine wpF_f0 (fun K hK => ?_); go_simp; refine hK _ ?_; clear hK K) | (refine wpF_load1 rfl rfl rfl (by kernel_rfl) (by assumption) (by simp) (fun K hK => ?_); go_simp; refine hK _ ?_; clear hK K) | (refine wpF_str rfl rfl rfl (by assumption) (by simp) (by kernel_rfl) (by kernel_rfl) (fun K hK => ?_); go_simp; refine hK _ ?_; clear hK K))
        refine wpF_a2 (fun K hK => ?_); rw [if_pos (by rfl)]
        go_simp
        refine (image_s hD8).mono ?_
        rintro e w9 ⟨x, rfl, hx, hbx⟩
        have hrx := Rd.of_own hx
        refine hK _ _ (Fr.of_below hbx _) ?_
        clear hK K hx
        obtain ⟨X, xc, rfl⟩ := hrx.slice
        have hlen := hD8.len
        replace h7 := h7.below hbx
        replace hR9 := hR9.below hbx
        replace hbr := hbr.trans (hbx.mono (by have := hbr.size; rw [HB.out] at this; exact this))
        repeat (first | (refine wpF_f0 (fun K hK => ?_); go_simp; refine hK _ ?_; clear hK K) | (refine wpF_load1 rfl rfl rfl (by kernel_rfl) (by assumption) (by simp) (fun K hK => ?_); go_simp; refine hK _ ?_; clear hK K) | (refine wpF_str rfl rfl rfl (by assumption) (by simp) (by kernel_rfl) (by kernel_rfl) (fun K hK => ?_); go_simp; refine hK _ ?_; clear hK K))
        refine wpF_a2 (fun K hK => ?_); rw [if_pos (by rfl)]
        go_simp
        refine (rimage_s hR9 hlen).mono ?_
        rintro e w10 ⟨y, rfl, hy, hby⟩
        have hry := Rd.of_own hy
        refine hK _ _ (Fr.of_below hby _) ?_
        clear hK K hy
        obtain ⟨Y, yc, rfl⟩ := hry.slice
        replace h7 := h7.below hby
        replace hbr := hbr.trans (hby.mono (by have := hbr.size; rw [HB.out] at this; exact this))
        repeat (first | (refine wpF_f0 (fun K hK => ?_); go_simp; refine hK _ ?_; clear hK K) | (refine wpF_load1 rfl rfl rfl (by kernel_rfl) (by assumption) (by simp) (fun K hK => ?_); go_simp; refine hK _ ?_; clear hK K) | (refine wpF_str rfl rfl rfl (by assumption) (by simp) (by kernel_rfl) (by kernel_rfl) (fun K hK => ?_); go_simp; refine hK _ ?_; clear hK K))
        refine wpF_nil ?_
        clear c2 c5 hrx hry hne hne2 hlen hR9 hD8
        go_wp2_with fail
        go_roundw
        case rel => exact ⟨k + 1, D7, by go_num, by omega, h7.mono (fun _ h => .inl h), hl7, hm7, hbr⟩
        case measure => simp [intOf]; omega
      replace e3 : (kd == 3) = false := beq_eq_false_iff_ne.2 e3
      by_cases e4 : kd = 4
      · subst e4
        go_upto_region 28 with (first
          | (go_at_call 15; refine (h4.crash_d (by omega) _ op rp (fun hne j hj => .inl (hpo hne j hj))).mono ?_; rintro e w5 ⟨rfl, h5, f5⟩; have hbr5 := hbr.trans (f5.below hs4B (fun j hj e => e (.inl hj))); have hs5B := Nat.le_trans hs4B f5.size; replace c3 := f5.cell c3 (fun e => e (.inr rfl)); replace rp := rp.fr f5 (fun hne j hj e => e (.inl (hpo hne j hj))))
          | (go_at_call 24; refine (h5.crash_r (by omega) _ op rp (fun hne j hj => .inl (hpo hne j hj))).mono ?_; rintro e w7 ⟨rfl, h7, f7⟩; replace hbr := hbr5.trans (f7.below hs5B (fun j hj e => e (.inl hj)))))
        have hl7 : (D.crashed op).kept.length = m := by show (keepN _ _ _ _).length = m; rw [keepN_length, hkl']
        have hm7 : (D.crashed op).mem.length ≤ k + 1 := Nat.zero_le _
        clear f5 f7 h5 h4 hbr5
        generalize D.crashed op = D7 at *
        -- the tail
        go_upto_region 28 with fail
        refine wp_region_float (Fr (fun _ => False)) [(0, 0), (1, 0), (2, 0), (3, 0), (5, 0), (6, 0), (7, 0), (8, 1), (4, 2), (9, 0), (10, 0), (11, 0), (12, 0), (14, 0), (15, 0), (16, 0), (17, 1), (13, 2), (18, 0), (19, 0), (20, 0), (21, 0), (24, 0), (22, 2), (23, 1), (25, 2), (26, 1), (27, 0), (28, 0)] _ (by kernel_rfl) (by kernel_rfl) (by simp only [List.map_cons, List.map_nil, Array.getD_eq_getD_getElem?, List.getElem?_toArray, List.getElem?_cons_succ, List.getElem?_cons_zero, Option.getD_some]; rfl) rfl (by kernel_rfl) (fun _ _ d _ _ h => by cases d <;> exact h) (Fr.refl _) (fun _ _ _ => Fr.trans) ?_
        replace h7 := h7.below (Below.refl _ _).drew
        replace hbr := hbr.drew
        generalize w7.drew = w8 at *
        obtain ⟨SD, SR, hD8, hR8, -⟩ := id h7
        have hR9 := hR8
        obtain ⟨kv8, mv8, ks8, ms8, hr8⟩ := hR8
        obtain ⟨-, -, c2, -, -, c5, -⟩ := rcells_all hr8.blk
        have hne : (!D7.out == D7.out) = false := by cases D7.out <;> rfl
        have hne2 : (D7.out == !D7.out) = false := by cases D7.out <;> rfl
        clear hr8
        repeat (first | (refine wpF_f0 (fun K hK => ?_); go_simp; refine hK _ ?_; clear hK K) | (refine wpF_load1 rfl rfl rfl (by kernel_rfl) (by assumption) (by simp) (fun K hK => ?_); go_simp; refine hK _ ?_; clear hK K) | (refine wpF_str rfl rfl rfl (by assumption) (by simp) (by kernel_rfl) (by kernel_rfl) (fun K hK => ?_); go_simp; refine hK _ ?_; clear hK K))
        refine wpF_a2 (fun K hK => ?_); rw [if_pos (by rfl)]
        go_simp
        refine (on_s hD8).mono ?_
        rintro e w8' ⟨rfl, rfl⟩
        refine hK _ _ (Fr.refl _ _) ?_
        clear hK K
        repeat (first | (refine wpF_f0 (fun K hK => ?_); go_simp; refine hK _ ?_; clear hK K) | (refine wpF_load1 rfl rfl rfl (by kernel_rfl) (by assumption) (by simp) (fun K hK => ?_); go_simp; refine hK _ ?_; clear hK K) | (refine wpF_str rfl rfl rfl (by assumption) (by simp) (by kernel_rfl) (by kernel_rfl) (fun K hK => ?_); go_simp; refine hK _ ?_; clear hK K))
        refine wpF_a2 (fun K hK => ?_); rw [if_pos (by rfl)]
        go_simp
        refine (calls_s hD8).mono ?_
        rintro e w8' ⟨rfl, rfl⟩
        refine hK _ _ (Fr.refl _ _) ?_
        clear hK K
        repeat (first | (refine wpF_f0 (fun K hK => ?_); go_simp; refine hK _ ?_; clear hK K) | (refine wpF_load1 rfl rfl rfl (by kernel_rfl) (by assumption) (by simp) (fun K hK => ?_); go_simp; refine hK _ ?_; clear hK K) | (refine wpF_str rfl rfl rfl (by assumption) (by simp) (by kernel_rfl) (by kernel_rfl) (fun K hK => ?_); go_simp; refine hK _ ?_; clear hK K))
        refine wpF_a2 (fun K hK => ?_); rw [if_pos (by rfl)]
        go_simp
        refine (image_s hD8).mono ?_
        rintro e w9 ⟨x, rfl, hx, hbx⟩
        have hrx := Rd.of_own hx
        refine hK _ _ (Fr.of_below hbx _) ?_
        clear hK K hx
        obtain ⟨X, xc, rfl⟩ := hrx.slice
        have hlen := hD8.len
        replace h7 := h7.below hbx
        replace hR9 := hR9.below hbx
        replace hbr := hbr.trans (hbx.mono (by have := hbr.size; rw [HB.out] at this; exact this))
        repeat (first | (refine wpF_f0 (fun K hK => ?_); go_simp; refine hK _ ?_; clear hK K) | (refine wpF_load1 rfl rfl rfl (by kernel_rfl) (by assumption) (by simp) (fun K hK => ?_); go_simp; refine hK _ ?_; clear hK K) | (refine wpF_str rfl rfl rfl (by assumption) (by simp) (by kernel_rfl) (by kernel_rfl) (fun K hK => ?_); go_simp; refine hK _ ?_; clear hK K))
        refine wpF_a2 (fun K hK => ?_); rw [if_pos (by rfl)]
        go_simp
        refine (rimage_s hR9 hlen).mono ?_
        rintro e w10 ⟨y, rfl, hy, hby⟩
        have hry := Rd.of_own hy
        refine hK _ _ (Fr.of_below hby _) ?_
        clear hK K hy
        obtain ⟨Y, yc, rfl⟩ := hry.slice
        replace h7 := h7.below hby
        replace hbr := hbr.trans (hby.mono (by have := hbr.size; rw [HB.out] at this; exact this))
        repeat (first | (refine wpF_f0 (fun K hK => ?_); go_simp; refine hK _ ?_; clear hK K) | (refine wpF_load1 rfl rfl rfl (by kernel_rfl) (by assumption) (by simp) (fun K hK => ?_); go_simp; refine hK _ ?_; clear hK K) | (refine wpF_str rfl rfl rfl (by assumption) (by simp) (by kernel_rfl) (by kernel_rfl) (fun K hK => ?_); go_simp; refine hK _ ?_; clear hK K))
        refine wpF_nil ?_
        clear c2 c5 hrx hry hne hne2 hlen hR9 hD8
        go_wp2_with fail
        go_roundw
        case rel => exact ⟨k + 1, D7, by go_num, by omega, h7.mono (fun _ h => .inl h), hl7, hm7, hbr⟩
        case measure => simp [intOf]; omega
      replace e4 : (kd == 4) = false := beq_eq_false_iff_ne.2 e4
      · skip
        have h7 := h4
        have hl7 := hkl'
        have hm7 : D.mem.length ≤ k + 1 := by omega
        clear h4
        generalize D = D7 at *
        generalize w4 = w7 at *
        -- the tail
        go_upto_region 28 with fail
        refine wp_region_float (Fr (fun _ => False)) [(0, 0), (1, 0), (2, 0), (3, 0), (5, 0), (6, 0), (7, 0), (8, 1), (4, 2), (9, 0), (10, 0), (11, 0), (12, 0), (14, 0), (15, 0), (16, 0), (17, 1), (13, 2), (18, 0), (19, 0), (20, 0), (21, 0), (24, 0), (22, 2), (23, 1), (25, 2), (26, 1), (27, 0), (28, 0)] _ (by kernel_rfl) (by kernel_rfl) (by simp only [List.map_cons, List.map_nil, Array.getD_eq_getD_getElem?, List.getElem?_toArray, List.getElem?_cons_succ, List.getElem?_cons_zero, Option.getD_some]; rfl) rfl (by kernel_rfl) (fun _ _ d _ _ h => by cases d <;> exact h) (Fr.refl _) (fun _ _ _ => Fr.trans) ?_
        replace h7 := h7.below (Below.refl _ _).drew
        replace hbr := hbr.drew
        generalize w7.drew = w8 at *
        obtain ⟨SD, SR, hD8, hR8, -⟩ := id h7
        have hR9 := hR8
        obtain ⟨kv8, mv8, ks8, ms8, hr8⟩ := hR8
        obtain ⟨-, -, c2, -, -, c5, -⟩ := rcells_all hr8.blk
        have hne : (!D7.out == D7.out) = false := by cases D7.out <;> rfl
        have hne2 : (D7.out == !D7.out) = false := by cases D7.out <;> rfl
        clear hr8
        repeat (first | (refine wpF_f0 (fun K hK => ?_); go_simp; refine hK _ ?_; clear hK K) | (refine wpF_load1 rfl rfl rfl (by kernel_rfl) (by assumption) (by simp) (fun K hK => ?_); go_simp; refine hK _ ?_; clear hK K) | (refine wpF_str rfl rfl rfl (by assumption) (by simp) (by kernel_rfl) (by kernel_rfl) (fun K hK => ?_); go_simp; refine hK _ ?_; clear hK K))
        refine wpF_a2 (fun K hK => ?_); rw [if_pos (by rfl)]
        go_simp
        refine (on_s hD8).mono ?_
        rintro e w8' ⟨rfl, rfl⟩
        refine hK _ _ (Fr.refl _ _) ?_
        clear hK K
        repeat (first | (refine wpF_f0 (fun K hK => ?_); go_simp; refine hK _ ?_; clear hK K) | (refine wpF_load1 rfl rfl rfl (by kernel_rfl) (by assumption) (by simp) (fun K hK => ?_); go_simp; refine hK _ ?_; clear hK K) | (refine wpF_str rfl rfl rfl (by assumption) (by simp) (by kernel_rfl) (by kernel_rfl) (fun K hK => ?_); go_simp; refine hK _ ?_; clear hK K))
        refine wpF_a2 (fun K hK => ?_); rw [if_pos (by rfl)]
        go_simp
        refine (calls_s hD8).mono ?_
        rintro e w8' ⟨rfl, rfl⟩
        refine hK _ _ (Fr.refl _ _) ?_
        clear hK K
        repeat (first | (refine wpF_f0 (fun K hK => ?_); go_simp; refine hK _ ?_; clear hK K) | (refine wpF_load1 rfl rfl rfl (by kernel_rfl) (by assumption) (by simp) (fun K hK => ?_); go_simp; refine hK _ ?_; clear hK K) | (refine wpF_str rfl rfl rfl (by assumption) (by simp) (by kernel_rfl) (by kernel_rfl) (fun K hK => ?_); go_simp; refine hK _ ?_; clear hK K))
        refine wpF_a2 (fun K hK => ?_); rw [if_pos (by rfl)]
        go_simp
        refine (image_s hD8).mono ?_
        rintro e w9 ⟨x, rfl, hx, hbx⟩
        have hrx := Rd.of_own hx
        refine hK _ _ (Fr.of_below hbx _) ?_
        clear hK K hx
        obtain ⟨X, xc, rfl⟩ := hrx.slice
        have hlen := hD8.len
        replace h7 := h7.below hbx
        replace hR9 := hR9.below hbx
        replace hbr := hbr.trans (hbx.mono (by have := hbr.size; rw [HB.out] at this; exact this))
        repeat (first | (refine wpF_f0 (fun K hK => ?_); go_simp; refine hK _ ?_; clear hK K) | (refine wpF_load1 rfl rfl rfl (by kernel_rfl) (by assumption) (by simp) (fun K hK => ?_); go_simp; refine hK _ ?_; clear hK K) | (refine wpF_str rfl rfl rfl (by assumption) (by simp) (by kernel_rfl) (by kernel_rfl) (fun K hK => ?_); go_simp; refine hK _ ?_; clear hK K))
        refine wpF_a2 (fun K hK => ?_); rw [if_pos (by rfl)]
        go_simp
        refine (rimage_s hR9 hlen).mono ?_
        rintro e w10 ⟨y, rfl, hy, hby⟩
        have hry := Rd.of_own hy
        refine hK _ _ (Fr.of_below hby _) ?_
        clear hK K hy
        obtain ⟨Y, yc, rfl⟩ := hry.slice
        replace h7 := h7.below hby
        replace hbr := hbr.trans (hby.mono (by have := hbr.size; rw [HB.out] at this; exact this))
        repeat (first | (refine wpF_f0 (fun K hK => ?_); go_simp; refine hK _ ?_; clear hK K) | (refine wpF_load1 rfl rfl rfl (by kernel_rfl) (by assumption) (by simp) (fun K hK => ?_); go_simp; refine hK _ ?_; clear hK K) | (refine wpF_str rfl rfl rfl (by assumption) (by simp) (by kernel_rfl) (by kernel_rfl) (fun K hK => ?_); go_simp; refine hK _ ?_; clear hK K))
        refine wpF_nil ?_
        clear c2 c5 hrx hry hne hne2 hlen hR9 hD8
        go_wp2_with fail
        go_roundw
        case rel => exact ⟨k + 1, D7, by go_num, by omega, h7.mono (fun _ h => .inl h), hl7, hm7, hbr⟩
        case measure => simp [intOf]; omega
    · obtain rfl : k = la.length := by omega
      go_wp2_with fail
      go_ret
      exact ⟨rfl, by rw [HB.out]; exact hbr⟩
end Go.Proofs.Ytnnhelknpnkphaa
