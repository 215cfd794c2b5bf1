/- frame: Decode. -/
import Derived.Test.YthglnbkfmmchnaaFrame7
namespace Go.Proofs.Ythglnbkfmmchnaa
open Go.RowKit
set_option maxRecDepth 100000

theorem str_toList (a : List UInt8) : (str a).toList = a := by rw [ByteArray.toList_eq]; rfl
theorem getN_zero (l : List UInt8) (h : (getN l).2 = 0) : (getN l).1 = 0 := by
  rw [getN_getL] at h ⊢
  by_cases hp : (getL 9 l true).2 = 0
  · rw [if_pos hp]
  · rw [if_neg hp] at h; exact absurd h hp
theorem infoByte1 : (Try.prog.info? 5).map (·.size) = some 1 := by kernel_rfl
theorem equal_any {w : World} (va vb : Value) (a b : List UInt8) (ha : Rd w va a) (hb : Rd w vb b) :
    Calls Try.prog 69 #[va, vb] w fun e w' => e = .returned (.bool (a == b)) ∧ w' = w := by
  go_enter Try.func69, Try.ntmps69
  go_wp2_with ((refine wpList_strg rfl rfl rfl (by assumption) (by kernel_rfl) (by kernel_rfl) ?_))
  go_ret
  rw [str_toList, str_toList]
  exact ⟨rfl, rfl⟩

theorem fr3 (g s : Int) (A : Option Addr) (n c : Nat) (w : World) : (Instr.build 86 #[(0, .int .i64 g), (1, .int .i64 s), (2, .slice A n c)]).run Try.prog w = .ok (.agg #[.int .i64 g, .int .i64 s, .slice A n c]) w := by kernel_rfl
def DecPost (w : World) (r : Int × Int × List UInt8 × Int) (e : Ending) (w' : World) : Prop :=
  ∃ dv N, e = .returned (.tuple #[.agg #[.int .i64 r.1, .int .i64 r.2.1, dv], .int .i64 r.2.2.2]) ∧ w'.ownsRow w.heap.size 5 1 dv N (bts r.2.2.1) ∧ Below w.heap.size w w'
theorem DecPost.none {w w' : World} {e : Ending} {B : Nat} (he : e = .returned (.tuple #[.agg #[.int .i64 0, .int .i64 0, .slice none 0 0], .int .i64 0])) (hb : Below B w w') (h : w.heap.size = B) : DecPost w (0, 0, [], 0) e w' := by
  subst h
  exact ⟨_, _, he, World.ownsRow_nil _ _ _ _, hb⟩

set_option maxHeartbeats 3000000 in
set_option maxRecDepth 100000 in
theorem dec_any {w : World} (v : Value) (b : List UInt8) (hv : Rd w v b) (hm : b.length < 10000000) :
    Calls Try.prog 52 #[v] w (DecPost w (decN b)) := by
  have hvlt := fun h => hv.lt h
  generalize hR : decN b = R
  have HR := Lib.hid hR
  clear hR
  have hb2 := Blk.new w #[.int .i64 0, .int .i64 0, .slice none 0 0] 86
  have hB := (Below.refl w.heap.size w).alloc (Nat.le_refl _) (.cells #[.int .i64 0, .int .i64 0, .slice none 0 0] 86)
  replace hv := hv.below hB
  have hs1 := hB.size
  generalize hb0 : w.heap.size = B at *
  have HB := Lib.hid hb0
  have hl1 : B < (w.alloc (.cells #[.int .i64 0, .int .i64 0, .slice none 0 0] 86)).heap.size := hb2.lt
  obtain ⟨A, c, rfl⟩ := hv.slice
  go_enter Try.func52, Try.ntmps52
  go_upto_region 1 with (refine wpList_allocZ rfl rfl (zs := #[.int .i64 0, .int .i64 0, .slice none 0 0]) (by kernel_rfl) ?_; rw [hb0]; generalize w.alloc (.cells #[.int .i64 0, .int .i64 0, .slice none 0 0] 86) = w1 at *)
  have hb4 := Blk.new w1 #[.int .i64 0, .int .i64 0, .slice none 0 0] 86
  replace hb2 := hb2.alloc (.cells #[.int .i64 0, .int .i64 0, .slice none 0 0] 86)
  replace hv := hv.below ((Below.refl w1.heap.size w1).alloc (Nat.le_refl _) (.cells #[.int .i64 0, .int .i64 0, .slice none 0 0] 86))
  replace hB := hB.alloc hs1 (.cells #[.int .i64 0, .int .i64 0, .slice none 0 0] 86)
  generalize hg4 : w1.heap.size = g4 at *
  clear hb0
  go_upto_region 2 with (refine wpList_allocZ rfl rfl (zs := #[.int .i64 0, .int .i64 0, .slice none 0 0]) (by kernel_rfl) ?_; rw [hg4]; generalize w1.alloc (.cells #[.int .i64 0, .int .i64 0, .slice none 0 0] 86) = w2 at *)
  clear hg4
  have hbm := hv.max
  by_cases h21 : b.length < 21
  · have hdec := Lib.hid (show R = (0, 0, [], 0) by rw [← HR.out, decN, if_pos (.inl h21)])
    have h21I : (b.length : Int) < 21 := by omega
    go_wp2_with (first | (refine wpList_loadN (n := 3) rfl rfl rfl (hb4.range' 0 [.int .i64 0, .int .i64 0, .slice none 0 0] (fun j v hv => by rw [Nat.zero_add]; simpa using hv)) rfl (by kernel_rfl) (by kernel_rfl) ?_) | (refine wpList_storeN (n := 3) (cs := [.int .i64 0, .int .i64 0, .slice none 0 0]) rfl rfl rfl rfl rfl (hb2.there 0 3 (by simp)) (by kernel_rfl) (by simp [Value.oneCell']) ?_)); refine bodyPost_ret (results_cellN_tmp rfl _ (by rfl) (hb2.setCells [.int .i64 0, .int .i64 0, .slice none 0 0] 0 (by simp)) (by kernel_rfl) (by rfl)) rfl ?_; rw [hdec.out]; exact DecPost.none (by rfl) (hB.trans (((Fr.refl (fun i => i = B) w2).setCells _ 0 (fun _ => rfl)).below (B := B) (by have := hB.size; rw [HB.out] at this; exact this) (fun k hk e => by omega))) HB.out
  have h21I : decide ((b.length : Int) < 21) = false := decide_eq_false (by omega)
  obtain ⟨b', o', rfl, hc⟩ := hv.at (j := 0) (by omega)
  have e0 : b[0]'(by omega) = b.getD 0 0 := by rw [List.getD_eq_getElem?_getD, List.getElem?_eq_getElem (by omega)]; rfl
  rw [e0, Nat.add_zero] at hc
  have h0 : 0 < b.length := by omega
  by_cases hx : b.getD 0 0 = 245
  rotate_left
  · have hdec := Lib.hid (show R = (0, 0, [], 0) by rw [← HR.out, decN, if_pos (.inr hx)])
    have hxn : ((b.getD 0 0).toNat : Int) ≠ 245 := fun h => hx (UInt8.toNat_inj.1 (by show (b.getD 0 0).toNat = 245; omega))
    have hxb : (((b.getD 0 0).toNat : Int) != 245) = true := by rw [bne_iff_ne]; exact hxn
    have hxe : (((b.getD 0 0).toNat : Int) == 245) = false := by rw [beq_eq_false_iff_ne]; exact hxn
    clear hx e0
    generalize (b.getD 0 0).toNat = x at *
    go_wp2_with (first | (refine wpList_loadN (n := 3) rfl rfl rfl (hb4.range' 0 [.int .i64 0, .int .i64 0, .slice none 0 0] (fun j v hv => by rw [Nat.zero_add]; simpa using hv)) rfl (by kernel_rfl) (by kernel_rfl) ?_) | (refine wpList_storeN (n := 3) (cs := [.int .i64 0, .int .i64 0, .slice none 0 0]) rfl rfl rfl rfl rfl (hb2.there 0 3 (by simp)) (by kernel_rfl) (by simp [Value.oneCell']) ?_)); refine bodyPost_ret (results_cellN_tmp rfl _ (by rfl) (hb2.setCells [.int .i64 0, .int .i64 0, .slice none 0 0] 0 (by simp)) (by kernel_rfl) (by rfl)) rfl ?_; rw [hdec.out]; exact DecPost.none (by rfl) (hB.trans (((Fr.refl (fun i => i = B) w2).setCells _ 0 (fun _ => rfl)).below (B := B) (by have := hB.size; rw [HB.out] at this; exact this) (fun k hk e => by omega))) HB.out
  have hdec := Lib.hid (show R = decA b (getN (b.drop 1)).1 (getN (b.drop 1)).2 by rw [← HR.out, decN, if_neg (fun h => h.elim h21 (fun h => h hx))])
  rw [hx] at hc
  replace hc : w2.cell? ⟨b', o', none⟩ = some (.int .u8 245) := hc
  have hsp := getN_spec (b.drop 1)
  have hz0 := getN_zero (b.drop 1)
  clear hx e0
  go_wp2_with (refine wpList_rd_l rfl rfl rfl rfl hv (L := 1) rfl (by omega) Try.underlying32 infoByte1 (fun v1 r1 _ _ => ?_))
  refine (get_any v1 (b.drop 1) r1).mono ?_
  rintro e w3 ⟨rfl, rfl⟩
  clear hc r1
  generalize getN (b.drop 1) = nk at *
  obtain ⟨n, k⟩ := nk
  have hn0 : k = 0 → n = 0 := hz0
  have hn63 : n < 9223372036854775808 := by
    by_cases hk : k = 0
    · rw [hn0 hk]; omega
    · exact (hsp (Nat.pos_of_ne_zero hk)).2.2.1
  replace hdec := Lib.hid (show R = decA b n k from hdec.out)
  go_wp2_with fail
  refine (size_any (w := w3) (n : Int) (by omega)).mono ?_
  rintro e w4 ⟨rfl, hb3⟩
  have hs2 := hB.size
  rw [HB.out] at hs2
  replace hB := hB.trans (hb3.mono hs2)
  replace hv := hv.below hb3
  replace hb2 := hb2.fr (Fr.of_below hb3 (fun _ => False)) (fun h => h)
  replace hb4 := hb4.fr (Fr.of_below hb3 (fun _ => False)) (fun h => h)
  clear hb3 hs2
  by_cases hk : k = 0
  · replace hdec := Lib.hid (show R = (0, 0, [], 0) by rw [hdec.out, decA, if_pos (.inl hk)])
    have hkb : ((k : Int) == 0) = true := by rw [beq_iff_eq]; omega
    clear hsp hz0 hn0 hn63
    generalize sizeN (n : Int) = zz at *
    go_wp2_with (first | (refine wpList_loadN (n := 3) rfl rfl rfl (hb4.range' 0 [.int .i64 0, .int .i64 0, .slice none 0 0] (fun j v hv => by rw [Nat.zero_add]; simpa using hv)) rfl (by kernel_rfl) (by kernel_rfl) ?_) | (refine wpList_storeN (n := 3) (cs := [.int .i64 0, .int .i64 0, .slice none 0 0]) rfl rfl rfl rfl rfl (hb2.there 0 3 (by simp)) (by kernel_rfl) (by simp [Value.oneCell']) ?_)); refine bodyPost_ret (results_cellN_tmp rfl _ (by rfl) (hb2.setCells [.int .i64 0, .int .i64 0, .slice none 0 0] 0 (by simp)) (by kernel_rfl) (by rfl)) rfl ?_; rw [hdec.out]; exact DecPost.none (by rfl) (hB.trans (((Fr.refl (fun i => i = B) w4).setCells _ 0 (fun _ => rfl)).below (B := B) (by have := hB.size; rw [HB.out] at this; exact this) (fun k hk e => by omega))) HB.out
  have hkb : ((k : Int) == 0) = false := by rw [beq_eq_false_iff_ne]; omega
  obtain ⟨hk9, hkl, -, htk, hpk⟩ := hsp (Nat.pos_of_ne_zero hk)
  replace hk9 : k ≤ 9 := hk9
  replace hpk : (putN n).length = k := hpk
  rw [List.length_drop] at hkl
  replace hkl : k ≤ b.length - 1 := hkl
  by_cases hn : 65536 < n
  · replace hdec := Lib.hid (show R = (0, 0, [], 0) by rw [hdec.out, decA, if_pos (.inr (.inl hn))])
    have hz : sizeN (n : Int) = 0 := by rw [sizeN, if_neg (by omega)]
    rw [hz]
    clear hz0 hn0 hn63 hkl htk hk9
    go_wp2_with (first | (refine wpList_loadN (n := 3) rfl rfl rfl (hb4.range' 0 [.int .i64 0, .int .i64 0, .slice none 0 0] (fun j v hv => by rw [Nat.zero_add]; simpa using hv)) rfl (by kernel_rfl) (by kernel_rfl) ?_) | (refine wpList_storeN (n := 3) (cs := [.int .i64 0, .int .i64 0, .slice none 0 0]) rfl rfl rfl rfl rfl (hb2.there 0 3 (by simp)) (by kernel_rfl) (by simp [Value.oneCell']) ?_)); refine bodyPost_ret (results_cellN_tmp rfl _ (by rfl) (hb2.setCells [.int .i64 0, .int .i64 0, .slice none 0 0] 0 (by simp)) (by kernel_rfl) (by rfl)) rfl ?_; rw [hdec.out]; exact DecPost.none (by rfl) (hB.trans (((Fr.refl (fun i => i = B) w4).setCells _ 0 (fun _ => rfl)).below (B := B) (by have := hB.size; rw [HB.out] at this; exact this) (fun k hk e => by omega))) HB.out
  have hz : sizeN (n : Int) = ((21 + k + n : Nat) : Int) := by rw [sizeN, if_pos (by omega), Int.toNat_natCast, hpk]; omega
  replace hdec := Lib.hid (show R = if b.length < 21 + k + n then (0, 0, [], 0) else decB b k (21 + k + n) by
    rw [hdec.out, decA, hpk]
    by_cases h : b.length < 21 + k + n
    · rw [if_pos (.inr (.inr h)), if_pos h]
    · rw [if_neg (fun h2 => h2.elim hk (fun h2 => h2.elim hn h)), if_neg h])
  rw [hz]
  have hZ : 22 ≤ 21 + k + n := by omega
  have hbody : ((b.take (21 + k + n - 4)).drop (1 + k)).length = 16 + n ∨ b.length < 21 + k + n := by
    by_cases h : b.length < 21 + k + n
    · exact .inr h
    · left; rw [List.length_drop, List.length_take]; omega
  have hZ2 : 21 + k + n ≤ 70000 := by omega
  have hkZ : 1 + k ≤ 21 + k + n - 4 := by omega
  clear hz hz0 hn0 hn63 hkl htk hpk
  generalize 21 + k + n = Z at *
  have hZ0 : ((Z : Int) == 0) = false := by rw [beq_eq_false_iff_ne]; omega
  by_cases hZb : b.length < Z
  · replace hdec := Lib.hid (show R = (0, 0, [], 0) by rw [hdec.out, if_pos hZb])
    have hZbI : (b.length : Int) < (Z : Int) := by omega
    clear hbody hZ hZ2 hkZ
    go_wp2_with (first | (refine wpList_loadN (n := 3) rfl rfl rfl (hb4.range' 0 [.int .i64 0, .int .i64 0, .slice none 0 0] (fun j v hv => by rw [Nat.zero_add]; simpa using hv)) rfl (by kernel_rfl) (by kernel_rfl) ?_) | (refine wpList_storeN (n := 3) (cs := [.int .i64 0, .int .i64 0, .slice none 0 0]) rfl rfl rfl rfl rfl (hb2.there 0 3 (by simp)) (by kernel_rfl) (by simp [Value.oneCell']) ?_)); refine bodyPost_ret (results_cellN_tmp rfl _ (by rfl) (hb2.setCells [.int .i64 0, .int .i64 0, .slice none 0 0] 0 (by simp)) (by kernel_rfl) (by rfl)) rfl ?_; rw [hdec.out]; exact DecPost.none (by rfl) (hB.trans (((Fr.refl (fun i => i = B) w4).setCells _ 0 (fun _ => rfl)).below (B := B) (by have := hB.size; rw [HB.out] at this; exact this) (fun k hk e => by omega))) HB.out
  replace hdec := Lib.hid (show R = decB b k Z by rw [hdec.out, if_neg hZb])
  have hZbI : decide ((b.length : Int) < (Z : Int)) = false := decide_eq_false (by omega)
  obtain ⟨body, hbd⟩ : ∃ body, body = (b.take (Z - 4)).drop (1 + k) := ⟨_, rfl⟩
  rw [← hbd] at hbody
  replace hbody : body.length = 16 + n := hbody.resolve_right hZb
  have HBD := Lib.hid hbd
  clear hbd hsp h21I h0 h21
  go_upto_region 9 with (refine wpList_rd_lh rfl rfl rfl rfl rfl hv (L := 1 + k) (H := Z - 4) (by omega) (by omega) hkZ (by omega) Try.underlying32 infoByte1 (fun vb rb ob nb => ?_))
  rw [← HBD.out] at rb
  replace nb := nb (hv.notNil (by omega))
  clear hkb hZ0 hZbI ob hkZ
  go_upto_region 10 with (refine wpList_rd_h rfl rfl rfl rfl rb (H := 8) rfl (by omega) Try.underlying32 infoByte1 (fun v8 r8 _ _ => ?_))
  refine (narrow_any v8 _ r8 (by rw [List.length_take]; omega)).mono ?_
  rintro e w5 ⟨rfl, rfl⟩
  clear r8
  go_wp2_with (refine wpList_rd_lh rfl rfl rfl rfl rfl rb (L := 8) (H := 16) rfl rfl (by omega) (by omega) Try.underlying32 infoByte1 (fun v8 r8 _ _ => ?_))
  refine (narrow_any _ _ r8 (by rw [List.length_drop, List.length_take]; omega)).mono ?_
  rintro e w5 ⟨rfl, rfl⟩
  clear r8
  go_wp2_with fail
  have hdB := hdec.out
  rw [decB, ← HBD.out] at hdB
  by_cases hg : mayN (narZ (body.take 8)) = true
  rotate_left
  · rw [if_neg (fun h => hg h.1)] at hdB
    have hdec := Lib.hid hdB
    clear hdB
    rw [Bool.not_eq_true] at hg
    refine wp_region_float (Fr (fun _ => False)) [(0, 0), (1, 3), (2, 0), (3, 0), (4, 0), (5, 3), (6, 0), (7, 0), (8, 0), (9, 0), (10, 0), (11, 0), (12, 0), (15, 0), (16, 0), (17, 0), (13, 3), (14, 3), (18, 3), (19, 0), (20, 0)] _ (by kernel_rfl) (by kernel_rfl) (by simp only [List.map_cons, List.map_nil, Array.getD_eq_getD_getElem?, List.getElem?_toArray, List.getElem?_cons_succ, List.getElem?_cons_zero, Option.getD_some]; rfl) rfl (by kernel_rfl) (fun _ _ d _ _ h => by cases d <;> exact h) (Fr.refl _) (fun _ _ _ => Fr.trans) ?_; replace hv := hv.drew; replace hb2 : Blk w5.drew B #[.int .i64 0, .int .i64 0, .slice none 0 0] 86 := hb2; replace hb4 : Blk w5.drew g4 #[.int .i64 0, .int .i64 0, .slice none 0 0] 86 := hb4; replace hB := hB.drew; replace rb := rb.drew; generalize w5.drew = w6 at *; repeat (first | (refine wpF_f0 (fun K hK => ?_); go_simp; refine hK _ ?_; clear hK K) | (refine wpF_load1 rfl rfl rfl (by kernel_rfl) (by assumption) (by simp) (fun K hK => ?_); go_simp; refine hK _ ?_; clear hK K) | (refine wpF_str rfl rfl rfl (by assumption) (by simp) (by kernel_rfl) (by kernel_rfl) (fun K hK => ?_); go_simp; refine hK _ ?_; clear hK K)); refine wpF_a3 (fun K hK => ?_); rw [if_pos (by rfl)]; go_simp; refine (may_any (w := w6) (narZ (body.take 8))).mono ?_; rintro e w7 ⟨rfl, rfl⟩; rw [hg]; refine hK _ _ ?_; clear hK K
    repeat (first | (refine wpF_f0 (fun K hK => ?_); go_simp; refine hK _ ?_; clear hK K) | (refine wpF_skip (by rfl) ?_))
    refine wpF_nil ?_
    go_wp2_with (first | (refine wpList_loadN (n := 3) rfl rfl rfl (hb4.range' 0 [.int .i64 0, .int .i64 0, .slice none 0 0] (fun j v hv => by rw [Nat.zero_add]; simpa using hv)) rfl (by kernel_rfl) (by kernel_rfl) ?_) | (refine wpList_storeN (n := 3) (cs := [.int .i64 0, .int .i64 0, .slice none 0 0]) rfl rfl rfl rfl rfl (hb2.there 0 3 (by simp)) (by kernel_rfl) (by simp [Value.oneCell']) ?_)); refine bodyPost_ret (results_cellN_tmp rfl _ (by rfl) (hb2.setCells [.int .i64 0, .int .i64 0, .slice none 0 0] 0 (by simp)) (by kernel_rfl) (by rfl)) rfl ?_; rw [hdec.out]; exact DecPost.none (by rfl) (hB.trans (((Fr.refl (fun i => i = B) w7).setCells _ 0 (fun _ => rfl)).below (B := B) (by have := hB.size; rw [HB.out] at this; exact this) (fun k hk e => by omega))) HB.out
  by_cases hs : mayN (narZ ((body.take 16).drop 8)) = true
  rotate_left
  · rw [if_neg (fun h => hs h.2.1)] at hdB
    have hdec := Lib.hid hdB
    clear hdB
    rw [Bool.not_eq_true] at hs
    refine wp_region_float (Fr (fun _ => False)) [(0, 0), (1, 3), (2, 0), (3, 0), (4, 0), (5, 3), (6, 0), (7, 0), (8, 0), (9, 0), (10, 0), (11, 0), (12, 0), (15, 0), (16, 0), (17, 0), (13, 3), (14, 3), (18, 3), (19, 0), (20, 0)] _ (by kernel_rfl) (by kernel_rfl) (by simp only [List.map_cons, List.map_nil, Array.getD_eq_getD_getElem?, List.getElem?_toArray, List.getElem?_cons_succ, List.getElem?_cons_zero, Option.getD_some]; rfl) rfl (by kernel_rfl) (fun _ _ d _ _ h => by cases d <;> exact h) (Fr.refl _) (fun _ _ _ => Fr.trans) ?_; replace hv := hv.drew; replace hb2 : Blk w5.drew B #[.int .i64 0, .int .i64 0, .slice none 0 0] 86 := hb2; replace hb4 : Blk w5.drew g4 #[.int .i64 0, .int .i64 0, .slice none 0 0] 86 := hb4; replace hB := hB.drew; replace rb := rb.drew; generalize w5.drew = w6 at *; repeat (first | (refine wpF_f0 (fun K hK => ?_); go_simp; refine hK _ ?_; clear hK K) | (refine wpF_load1 rfl rfl rfl (by kernel_rfl) (by assumption) (by simp) (fun K hK => ?_); go_simp; refine hK _ ?_; clear hK K) | (refine wpF_str rfl rfl rfl (by assumption) (by simp) (by kernel_rfl) (by kernel_rfl) (fun K hK => ?_); go_simp; refine hK _ ?_; clear hK K)); refine wpF_a3 (fun K hK => ?_); rw [if_pos (by rfl)]; go_simp; refine (may_any (w := w6) (narZ (body.take 8))).mono ?_; rintro e w7 ⟨rfl, rfl⟩; rw [hg]; refine hK _ _ ?_; clear hK K
    repeat (first | (refine wpF_f0 (fun K hK => ?_); go_simp; refine hK _ ?_; clear hK K) | (refine wpF_skip (by rfl) ?_))
    refine wpF_a3 (fun K hK => ?_); rw [if_pos (by rfl)]
    go_simp
    refine (may_any (w := w7) (narZ ((body.take 16).drop 8))).mono ?_
    rintro e w8 ⟨rfl, rfl⟩
    rw [hs]
    refine hK _ _ ?_
    clear hK K
    repeat (first | (refine wpF_f0 (fun K hK => ?_); go_simp; refine hK _ ?_; clear hK K) | (refine wpF_skip (by rfl) ?_))
    refine wpF_nil ?_
    go_wp2_with (first | (refine wpList_loadN (n := 3) rfl rfl rfl (hb4.range' 0 [.int .i64 0, .int .i64 0, .slice none 0 0] (fun j v hv => by rw [Nat.zero_add]; simpa using hv)) rfl (by kernel_rfl) (by kernel_rfl) ?_) | (refine wpList_storeN (n := 3) (cs := [.int .i64 0, .int .i64 0, .slice none 0 0]) rfl rfl rfl rfl rfl (hb2.there 0 3 (by simp)) (by kernel_rfl) (by simp [Value.oneCell']) ?_)); refine bodyPost_ret (results_cellN_tmp rfl _ (by rfl) (hb2.setCells [.int .i64 0, .int .i64 0, .slice none 0 0] 0 (by simp)) (by kernel_rfl) (by rfl)) rfl ?_; rw [hdec.out]; exact DecPost.none (by rfl) (hB.trans (((Fr.refl (fun i => i = B) w8).setCells _ 0 (fun _ => rfl)).below (B := B) (by have := hB.size; rw [HB.out] at this; exact this) (fun k hk e => by omega))) HB.out
  have hgs : ∀ p : Prop, (mayN (narZ (body.take 8)) = true ∧ mayN (narZ ((body.take 16).drop 8)) = true ∧ p) ↔ p := fun p => ⟨fun h => h.2.2, fun h => ⟨hg, hs, h⟩⟩
  simp only [hgs] at hdB
  have HDB := Lib.hid hdB
  clear hgs hdB
  refine wp_region_float (Fr (fun _ => False)) [(0, 0), (1, 3), (2, 0), (3, 0), (4, 0), (5, 3), (6, 0), (7, 0), (8, 0), (9, 0), (10, 0), (11, 0), (12, 0), (15, 0), (16, 0), (17, 0), (13, 3), (14, 3), (18, 3), (19, 0), (20, 0)] _ (by kernel_rfl) (by kernel_rfl) (by simp only [List.map_cons, List.map_nil, Array.getD_eq_getD_getElem?, List.getElem?_toArray, List.getElem?_cons_succ, List.getElem?_cons_zero, Option.getD_some]; rfl) rfl (by kernel_rfl) (fun _ _ d _ _ h => by cases d <;> exact h) (Fr.refl _) (fun _ _ _ => Fr.trans) ?_; replace hv := hv.drew; replace hb2 : Blk w5.drew B #[.int .i64 0, .int .i64 0, .slice none 0 0] 86 := hb2; replace hb4 : Blk w5.drew g4 #[.int .i64 0, .int .i64 0, .slice none 0 0] 86 := hb4; replace hB := hB.drew; replace rb := rb.drew; generalize w5.drew = w6 at *; repeat (first | (refine wpF_f0 (fun K hK => ?_); go_simp; refine hK _ ?_; clear hK K) | (refine wpF_load1 rfl rfl rfl (by kernel_rfl) (by assumption) (by simp) (fun K hK => ?_); go_simp; refine hK _ ?_; clear hK K) | (refine wpF_str rfl rfl rfl (by assumption) (by simp) (by kernel_rfl) (by kernel_rfl) (fun K hK => ?_); go_simp; refine hK _ ?_; clear hK K)); refine wpF_a3 (fun K hK => ?_); rw [if_pos (by rfl)]; go_simp; refine (may_any (w := w6) (narZ (body.take 8))).mono ?_; rintro e w7 ⟨rfl, rfl⟩; rw [hg]; refine hK _ _ ?_; clear hK K
  repeat (first | (refine wpF_f0 (fun K hK => ?_); go_simp; refine hK _ ?_; clear hK K) | (refine wpF_skip (by rfl) ?_))
  refine wpF_a3 (fun K hK => ?_); rw [if_pos (by rfl)]
  go_simp
  refine (may_any (w := w7) (narZ ((body.take 16).drop 8))).mono ?_
  rintro e w8 ⟨rfl, rfl⟩
  rw [hs]
  refine hK _ _ ?_
  clear hK K
  have hbne : b ≠ [] := by intro h; subst h; simp at hZb; omega
  have hbdne : body ≠ [] := by intro h; subst h; simp at hbody; omega
  have hnn := hv.notNil (by omega)
  have hv8 := hv.lt hbne
  have hr8 := rb.lt hbdne
  have hs8 := hB.size
  rw [HB.out] at hs8
  repeat (first | (refine wpF_f0 (fun K hK => ?_); go_simp; refine hK _ ?_; clear hK K) | (refine wpF_load1 rfl rfl rfl (by kernel_rfl) (by assumption) (by simp) (fun K hK => ?_); go_simp; refine hK _ ?_; clear hK K) | (refine wpF_loadN rfl rfl rfl (by assumption) (by assumption) (by kernel_rfl) (by kernel_rfl) (by simp) (fun K hK => ?_); go_simp; refine hK _ ?_; clear hK K))
  refine wpF_rd_h rfl rfl rfl rfl hv (H := Z - 4) (by first | omega | (rw [IntKind.wrap_i64]; omega)) (by omega) Try.underlying32 infoByte1 (fun K va ra oa na hK => ?_)
  go_simp
  refine hK _ ?_
  clear hK K
  repeat (first | (refine wpF_f0 (fun K hK => ?_); go_simp; refine hK _ ?_; clear hK K) | (refine wpF_load1 rfl rfl rfl (by kernel_rfl) (by assumption) (by simp) (fun K hK => ?_); go_simp; refine hK _ ?_; clear hK K) | (refine wpF_loadN rfl rfl rfl (by assumption) (by assumption) (by kernel_rfl) (by kernel_rfl) (by simp) (fun K hK => ?_); go_simp; refine hK _ ?_; clear hK K))
  refine wpF_rd_h rfl rfl rfl rfl hv (H := Z) (by omega) (by omega) Try.underlying32 infoByte1 (fun K vz rz oz nz hK => ?_)
  go_simp
  refine hK _ ?_
  clear hK K
  refine wpF_a3 (fun K hK => ?_); rw [if_pos (by rfl)]
  go_simp
  refine (clone_any va _ ra (NotNil.pair (na hnn)) (by rw [List.length_take]; omega)).mono ?_
  rintro e w9 ⟨v9, rfl, o9, hb9⟩
  refine hK _ _ ?_
  clear hK K na nz
  replace hB := hB.trans (hb9.mono hs8)
  replace hv := hv.below hb9
  replace rb := rb.below hb9
  replace rz := rz.below hb9
  replace hb2 := hb2.fr (Fr.of_below hb9 (fun _ => False)) (fun h => h)
  replace hb4 := hb4.fr (Fr.of_below hb9 (fun _ => False)) (fun h => h)
  refine wpF_a3 (fun K hK => ?_); rw [if_pos (by rfl)]
  go_simp
  refine (summed_any v9 _ o9 hb9.size (by rw [List.length_take]; omega)).mono ?_
  rintro e w10 ⟨v10, rfl, o10, g10⟩
  refine hK _ _ ?_
  clear hK K
  replace hB := below_own hB o9 g10 hs8 (Nat.le_trans hs8 hb9.size)
  replace rb := rb.fr g10 (fun _ k hk e => by have := (o9.lt k e.symm).1; have := hr8 k hk; omega)
  replace rz := rz.fr g10 (fun _ k hk e => by rw [oz] at hk; have := (o9.lt k e.symm).1; have := hv8 k hk; omega)
  replace hb2 := hb2.fr g10 (fun e => own_blk_ne o9 hb2 (by decide) e)
  replace hb4 := hb4.fr g10 (fun e => own_blk_ne o9 hb4 (by decide) e)
  clear hv hv8 hr8 o9 g10 hb9 ra oa hs8
  repeat (first | (refine wpF_f0 (fun K hK => ?_); go_simp; refine hK _ ?_; clear hK K) | (refine wpF_load1 rfl rfl rfl (by kernel_rfl) (by assumption) (by simp) (fun K hK => ?_); go_simp; refine hK _ ?_; clear hK K) | (refine wpF_loadN rfl rfl rfl (by assumption) (by assumption) (by kernel_rfl) (by kernel_rfl) (by simp) (fun K hK => ?_); go_simp; refine hK _ ?_; clear hK K))
  refine wpF_a3 (fun K hK => ?_); rw [if_pos (by rfl)]
  go_simp
  refine (equal_any v10 vz _ _ (Rd.of_own o10) rz).mono ?_
  rintro e w11 ⟨rfl, rfl⟩
  refine hK _ _ ?_
  clear hK K rz oz o10
  have hdB := HDB.out
  by_cases hq : sumB (b.take (Z - 4)) = b.take Z
  rotate_left
  · rw [if_neg hq] at hdB
    have hdec := Lib.hid hdB
    clear hdB HDB
    have hqb : (sumB (b.take (Z - 4)) == b.take Z) = false := by rw [beq_eq_false_iff_ne]; exact hq
    rw [hqb]
    repeat (first | (refine wpF_f0 (fun K hK => ?_); go_simp; refine hK _ ?_; clear hK K) | (refine wpF_load1 rfl rfl rfl (by kernel_rfl) (by assumption) (by simp) (fun K hK => ?_); go_simp; refine hK _ ?_; clear hK K) | (refine wpF_loadN rfl rfl rfl (by assumption) (by assumption) (by kernel_rfl) (by kernel_rfl) (by simp) (fun K hK => ?_); go_simp; refine hK _ ?_; clear hK K))
    refine wpF_nil ?_
    go_wp2_with (first | (refine wpList_loadN (n := 3) rfl rfl rfl (hb4.range' 0 [.int .i64 0, .int .i64 0, .slice none 0 0] (fun j v hv => by rw [Nat.zero_add]; simpa using hv)) rfl (by kernel_rfl) (by kernel_rfl) ?_) | (refine wpList_storeN (n := 3) (cs := [.int .i64 0, .int .i64 0, .slice none 0 0]) rfl rfl rfl rfl rfl (hb2.there 0 3 (by simp)) (by kernel_rfl) (by simp [Value.oneCell']) ?_)); refine bodyPost_ret (results_cellN_tmp rfl _ (by rfl) (hb2.setCells [.int .i64 0, .int .i64 0, .slice none 0 0] 0 (by simp)) (by kernel_rfl) (by rfl)) rfl ?_; rw [hdec.out]; exact DecPost.none (by rfl) (hB.trans (((Fr.refl (fun i => i = B) w11).setCells _ 0 (fun _ => rfl)).below (B := B) (by have := hB.size; rw [HB.out] at this; exact this) (fun k hk e => by omega))) HB.out
  rw [if_pos hq] at hdB
  have hqb : (sumB (b.take (Z - 4)) == b.take Z) = true := by rw [beq_iff_eq]; exact hq
  rw [hqb]
  have HDB := Lib.hid hdB
  clear hdB hq hqb hdec
  repeat (first | (refine wpF_f0 (fun K hK => ?_); go_simp; refine hK _ ?_; clear hK K) | (refine wpF_load1 rfl rfl rfl (by kernel_rfl) (by assumption) (by simp) (fun K hK => ?_); go_simp; refine hK _ ?_; clear hK K) | (refine wpF_loadN rfl rfl rfl (by assumption) (by assumption) (by kernel_rfl) (by kernel_rfl) (by simp) (fun K hK => ?_); go_simp; refine hK _ ?_; clear hK K))
  refine wpF_nil ?_
  have hs11 := hB.size
  rw [HB.out] at hs11
  have hb11 := hb2.lt
  go_upto_region 13 with fail
  go_wp2_with (refine wpList_rd_l rfl rfl rfl rfl rb (L := 16) rfl (by omega) Try.underlying32 infoByte1 (fun vd rd od nd => ?_))
  refine (clone_any vd _ rd (NotNil.pair (nd nb)) (by rw [List.length_drop]; omega)).mono ?_
  rintro e w12 ⟨v12, rfl, o12, hb12⟩
  replace hB := hB.trans (hb12.mono hs11)
  replace hb2 := hb2.fr (Fr.of_below hb12 (fun _ => False)) (fun h => h)
  obtain ⟨A12, c12, rfl⟩ := own_form o12
  have hd16 : (body.drop 16).length = n := by rw [List.length_drop]; omega
  rw [hd16] at o12
  have o12 : w12.ownsRow w11.heap.size 5 1 (.slice A12 n c12) n (bts (body.drop 16)) := o12
  rw [hd16]
  go_simp
  refine (‹∀ (a : Act) (w : World), wpList _ _ _ _ a w → _›) _ _ ?_
  refine wpList_value rfl (exec_build (fr3 (narZ (body.take 8)) (narZ ((body.take 16).drop 8)) A12 n c12 _) rfl (by first | rfl | simp [Act.eval])) ?_
  go_wp2_with (refine wpList_storeN (n := 3) (cs := [.int .i64 (narZ (body.take 8)), .int .i64 (narZ ((body.take 16).drop 8)), .slice A12 n c12]) rfl rfl rfl rfl rfl (hb2.there 0 3 (by simp)) (by kernel_rfl) (by simp [Value.oneCell']) ?_)
  refine bodyPost_ret (results_cellN_tmp rfl _ (by rfl) (hb2.setCells [.int .i64 (narZ (body.take 8)), .int .i64 (narZ ((body.take 16).drop 8)), .slice A12 n c12] 0 (by simp)) (by kernel_rfl) (by rfl)) rfl ?_
  rw [HDB.out]
  refine ⟨.slice A12 n c12, n, by rfl, ?_, ?_⟩
  · rw [HB.out]
    have f := (Fr.refl (fun i => i = B) w12).setCells (b := B) [.int .i64 (narZ (body.take 8)), .int .i64 (narZ ((body.take 16).drop 8)), .slice A12 n c12] 0 (fun _ => rfl)
    exact own_fr (own_base o12 hs11) f (fun k hk e => by have := (o12.lt k hk).1; have := hb11; omega)
  · rw [HB.out]
    exact hB.trans (((Fr.refl (fun i => i = B) w12).setCells _ 0 (fun _ => rfl)).below (B := B) (by have := hB.size; rw [HB.out] at this; exact this) (fun k hk e => by omega))
end Go.Proofs.Ythglnbkfmmchnaa
