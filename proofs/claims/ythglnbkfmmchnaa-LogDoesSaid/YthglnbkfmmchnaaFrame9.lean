/- The document's frame Decode; frames. -/
import Derived.Test.YthglnbkfmmchnaaFrame8
namespace Go.Proofs.Ythglnbkfmmchnaa
open Go.RowKit
set_option maxRecDepth 100000

theorem decN_short {b : List UInt8} (h : b.length < 22 ∨ b.getD 0 0 ≠ 245) : decN b = (0, 0, [], 0) := by
  rw [decN]
  split
  · rfl
  · rename_i h2
    rw [decA, if_pos]
    have hp := putN_pos (getN (b.drop 1)).1
    rcases h with h | h
    · right; right; omega
    · exact absurd (.inr h) h2
/-- the same, as the document has it -/
theorem decB_eq {b : List UInt8} {k n : Nat} (_hZ : 21 + k + n ≤ b.length) (hn : n ≤ 65536) :
    decB b k (21 + k + n) = if mayF (narZ ((b.take (1 + k + 8)).drop (1 + k))) (narZ ((b.take (1 + k + 16)).drop (1 + k + 8))) n = true ∧ byte4 (crc (b.take (1 + k + 16 + n))) = (b.take (1 + k + 20 + n)).drop (1 + k + 16 + n)
      then (narZ ((b.take (1 + k + 8)).drop (1 + k)), narZ ((b.take (1 + k + 16)).drop (1 + k + 8)), (b.take (1 + k + 16 + n)).drop (1 + k + 16), ((21 + k + n : Nat) : Int)) else (0, 0, [], 0) := by
  have e1 : ((b.take (21 + k + n - 4)).drop (1 + k)).take 8 = (b.take (1 + k + 8)).drop (1 + k) := by
    rw [List.drop_take, List.drop_take, List.take_take, show min 8 (21 + k + n - 4 - (1 + k)) = 8 by omega, show 1 + k + 8 - (1 + k) = 8 by omega]
  have e2 : (((b.take (21 + k + n - 4)).drop (1 + k)).take 16).drop 8 = (b.take (1 + k + 16)).drop (1 + k + 8) := by
    apply List.ext_getElem?
    intro m
    simp only [List.getElem?_drop, List.getElem?_take]
    rw [show 1 + k + (8 + m) = 1 + k + 8 + m by omega]
    by_cases h : m < 8
    · rw [if_pos (by omega), if_pos (by omega), if_pos (by omega)]
    · rw [if_neg (by omega), if_neg (by omega)]
  have e3 : ((b.take (21 + k + n - 4)).drop (1 + k)).drop 16 = (b.take (1 + k + 16 + n)).drop (1 + k + 16) := by
    rw [List.drop_take, List.drop_take, List.drop_drop, List.drop_take, show 21 + k + n - 4 - (1 + k) - 16 = n by omega, show 1 + k + 16 + n - (1 + k + 16) = n by omega]
  have e4 : 21 + k + n - 4 = 1 + k + 16 + n := by omega
  have e5 : 21 + k + n = 1 + k + 20 + n := by omega
  rw [decB, e1, e2, e3, e4]
  have e6 : (sumB (b.take (1 + k + 16 + n)) = b.take (21 + k + n)) ↔ byte4 (crc (b.take (1 + k + 16 + n))) = (b.take (1 + k + 20 + n)).drop (1 + k + 16 + n) := by
    have h1 : b.take (21 + k + n) = b.take (1 + k + 16 + n) ++ (b.take (1 + k + 20 + n)).drop (1 + k + 16 + n) := by
      rw [e5, List.drop_take]
      have : 1 + k + 20 + n = (1 + k + 16 + n) + 4 := by omega
      rw [this, List.take_add, show 1 + k + 16 + n + 4 - (1 + k + 16 + n) = 4 by omega]
    rw [h1, sumB, List.append_cancel_left_eq]
  simp only [e6]
  have e7 : ∀ g s : Int, mayF g s n = (mayN g && mayN s) := fun g s => by
    rw [mayF, show decide ((n : Int) ≤ 65536) = true from decide_eq_true (by omega), Bool.and_true]
  simp only [e7]
  simp only [Bool.and_eq_true, and_assoc]

theorem fr0 (w : World) : (Instr.build 86 #[]).run Try.prog w = .ok (.agg #[.int .i64 0, .int .i64 0, .slice none 0 0]) w := by kernel_rfl

set_option maxHeartbeats 3000000 in
set_option maxRecDepth 100000 in
theorem rdec_any {w : World} (v : Value) (b : List UInt8) (hv : Rd w v b) (hm : b.length < 10000000) :
    Calls Try.prog 45 #[v] w (DecPost w (decN b)) := by
  have hvlt := fun h => hv.lt h
  have hsh := @decN_short b
  generalize hR : decN b = R at *
  have HR := Lib.hid hR
  clear hR
  have hb2 := Blk.new w #[.int .i64 0, .int .i64 0, .slice none 0 0] 86
  have hB := (Below.refl w.heap.size w).alloc (Nat.le_refl _) (.cells #[.int .i64 0, .int .i64 0, .slice none 0 0] 86)
  replace hv := hv.below hB
  have hs := hB.size
  generalize hb0 : w.heap.size = B at *
  have HB := Lib.hid hb0
  obtain ⟨A, c, rfl⟩ := hv.slice
  go_enter Try.func45, Try.ntmps45
  go_upto_region 1 with (refine wpList_allocZ rfl rfl (zs := #[.int .i64 0, .int .i64 0, .slice none 0 0]) (by kernel_rfl) ?_; rw [hb0]; generalize w.alloc (.cells #[.int .i64 0, .int .i64 0, .slice none 0 0] 86) = w1 at *)
  have hb4 := Blk.new w1 #[.int .i64 0, .int .i64 0, .slice none 0 0] 86
  replace hb2 := hb2.alloc (.cells #[.int .i64 0, .int .i64 0, .slice none 0 0] 86)
  replace hv := hv.below ((Below.refl w1.heap.size w1).alloc (Nat.le_refl _) (.cells #[.int .i64 0, .int .i64 0, .slice none 0 0] 86))
  replace hB := hB.alloc hs (.cells #[.int .i64 0, .int .i64 0, .slice none 0 0] 86)
  replace hs : B ≤ (w1.alloc (.cells #[.int .i64 0, .int .i64 0, .slice none 0 0] 86)).heap.size := (by have := hB.size; rw [HB.out] at this; exact this)
  generalize hg4 : w1.heap.size = g4 at *
  have HG4 := Lib.hid hg4
  clear hb0
  go_upto_region 2 with (first | (refine wpList_value rfl (exec_build (fr0 _) rfl (by simp [Act.eval])) ?_) | (refine wpList_newN (n := 3) (cs := [.int .i64 0, .int .i64 0, .slice none 0 0]) rfl rfl rfl rfl rfl rfl rfl (by simp) (by simp [Act.put]) rfl (by kernel_rfl) (by simp [Value.oneCell']) ?_; rw [hg4]; generalize w1.alloc (.cells #[.int .i64 0, .int .i64 0, .slice none 0 0] 86) = w2 at *))
  clear hg4 HG4
  have HSH := Lib.hid hsh
  clear hsh
  have hbm := hv.max
  by_cases h22 : b.length < 22
  · have hdec := Lib.hid (show R = (0, 0, [], 0) from HSH.out (.inl h22))
    have h22I : (b.length : Int) < 22 := by omega
    go_wp2_with (first | (refine wpList_loadN (n := 3) rfl rfl rfl (hb4.range' 0 [.int .i64 0, .int .i64 0, .slice none 0 0] (fun j v hv => by rw [Nat.zero_add]; simpa using hv)) rfl (by kernel_rfl) (by kernel_rfl) ?_) | (refine wpList_storeN (n := 3) (cs := [.int .i64 0, .int .i64 0, .slice none 0 0]) rfl rfl rfl rfl rfl (hb2.there 0 3 (by simp)) (by kernel_rfl) (by simp [Value.oneCell']) ?_)); refine bodyPost_ret (results_cellN_tmp rfl _ (by rfl) (hb2.setCells [.int .i64 0, .int .i64 0, .slice none 0 0] 0 (by simp)) (by kernel_rfl) (by rfl)) rfl ?_; rw [hdec.out]; exact DecPost.none (by rfl) (hB.trans (((Fr.refl (fun i => i = B) w2).setCells _ 0 (fun _ => rfl)).below (B := B) (by have := hB.size; rw [HB.out] at this; exact this) (fun k hk e => by omega))) HB.out
  have h22I : decide ((b.length : Int) < 22) = false := decide_eq_false (by omega)
  obtain ⟨b', o', rfl, hc⟩ := hv.at (j := 0) (by omega)
  have e0 : b[0]'(by omega) = b.getD 0 0 := by rw [List.getD_eq_getElem?_getD, List.getElem?_eq_getElem (by omega)]; rfl
  rw [e0, Nat.add_zero] at hc
  have h0 : 0 < b.length := by omega
  by_cases hx : b.getD 0 0 = 245
  rotate_left
  · have hdec := Lib.hid (show R = (0, 0, [], 0) from HSH.out (.inr hx))
    have hxn : ((b.getD 0 0).toNat : Int) ≠ 245 := fun h => hx (UInt8.toNat_inj.1 (by show (b.getD 0 0).toNat = 245; omega))
    have hxb : (((b.getD 0 0).toNat : Int) != 245) = true := by rw [bne_iff_ne]; exact hxn
    have hxe : (((b.getD 0 0).toNat : Int) == 245) = false := by rw [beq_eq_false_iff_ne]; exact hxn
    clear hx e0
    generalize (b.getD 0 0).toNat = x at *
    go_wp2_with (first | (refine wpList_loadN (n := 3) rfl rfl rfl (hb4.range' 0 [.int .i64 0, .int .i64 0, .slice none 0 0] (fun j v hv => by rw [Nat.zero_add]; simpa using hv)) rfl (by kernel_rfl) (by kernel_rfl) ?_) | (refine wpList_storeN (n := 3) (cs := [.int .i64 0, .int .i64 0, .slice none 0 0]) rfl rfl rfl rfl rfl (hb2.there 0 3 (by simp)) (by kernel_rfl) (by simp [Value.oneCell']) ?_)); refine bodyPost_ret (results_cellN_tmp rfl _ (by rfl) (hb2.setCells [.int .i64 0, .int .i64 0, .slice none 0 0] 0 (by simp)) (by kernel_rfl) (by rfl)) rfl ?_; rw [hdec.out]; exact DecPost.none (by rfl) (hB.trans (((Fr.refl (fun i => i = B) w2).setCells _ 0 (fun _ => rfl)).below (B := B) (by have := hB.size; rw [HB.out] at this; exact this) (fun k hk e => by omega))) HB.out
  have hdec := Lib.hid (show R = decA b (getN (b.drop 1)).1 (getN (b.drop 1)).2 by rw [← HR.out, decN, if_neg (fun h => h.elim (fun h => h22 (by omega)) (fun h => h hx))])
  rw [hx] at hc
  replace hc : w2.cell? ⟨b', o', none⟩ = some (.int .u8 245) := hc
  have hsp := getN_spec (b.drop 1)
  have hz0 := getN_zero (b.drop 1)
  clear hx e0
  go_wp2_with (refine wpList_rd_l rfl rfl rfl rfl hv (L := 1) rfl (by omega) Try.underlying32 infoByte1 (fun v1 r1 _ _ => ?_))
  refine (rget_any v1 (b.drop 1) r1).mono ?_
  rintro e w3 ⟨rfl, rfl⟩
  clear hc r1
  generalize getN (b.drop 1) = nk at *
  obtain ⟨n, k⟩ := nk
  have hn0 : k = 0 → n = 0 := hz0
  have hn63 : n < 9223372036854775808 := by
    by_cases hk : k = 0
    · rw [hn0 hk]; omega
    · exact (hsp (Nat.pos_of_ne_zero hk)).2.2.1
  replace hdec := Lib.hid (show R = decA b n k from hdec.out)
  clear HSH HR h22I
  by_cases hk : k = 0
  · replace hdec := Lib.hid (show R = (0, 0, [], 0) by rw [hdec.out, decA, if_pos (.inl hk)])
    have hkb : ((k : Int) == 0) = true := by rw [beq_iff_eq]; omega
    clear hsp hz0 hn0 hn63 hk
    go_wp2_with (first | (refine wpList_loadN (n := 3) rfl rfl rfl (hb4.range' 0 [.int .i64 0, .int .i64 0, .slice none 0 0] (fun j v hv => by rw [Nat.zero_add]; simpa using hv)) rfl (by kernel_rfl) (by kernel_rfl) ?_) | (refine wpList_storeN (n := 3) (cs := [.int .i64 0, .int .i64 0, .slice none 0 0]) rfl rfl rfl rfl rfl (hb2.there 0 3 (by simp)) (by kernel_rfl) (by simp [Value.oneCell']) ?_)); refine bodyPost_ret (results_cellN_tmp rfl _ (by rfl) (hb2.setCells [.int .i64 0, .int .i64 0, .slice none 0 0] 0 (by simp)) (by kernel_rfl) (by rfl)) rfl ?_; rw [hdec.out]; exact DecPost.none (by rfl) (hB.trans (((Fr.refl (fun i => i = B) w3).setCells _ 0 (fun _ => rfl)).below (B := B) (by have := hB.size; rw [HB.out] at this; exact this) (fun k hk e => by omega))) HB.out
  have hkb : ((k : Int) == 0) = false := by rw [beq_eq_false_iff_ne]; omega
  obtain ⟨hk9, hkl, -, -, hpk⟩ := hsp (Nat.pos_of_ne_zero hk)
  replace hk9 : k ≤ 9 := hk9
  replace hpk : (putN n).length = k := hpk
  clear hsp hz0 hn0 hkl
  by_cases hn : 65536 < n
  · replace hdec := Lib.hid (show R = (0, 0, [], 0) by rw [hdec.out, decA, if_pos (.inr (.inl hn))])
    have hnI : (65536 : Int) < (n : Int) := by omega
    clear hn63 hpk
    go_wp2_with (first | (refine wpList_loadN (n := 3) rfl rfl rfl (hb4.range' 0 [.int .i64 0, .int .i64 0, .slice none 0 0] (fun j v hv => by rw [Nat.zero_add]; simpa using hv)) rfl (by kernel_rfl) (by kernel_rfl) ?_) | (refine wpList_storeN (n := 3) (cs := [.int .i64 0, .int .i64 0, .slice none 0 0]) rfl rfl rfl rfl rfl (hb2.there 0 3 (by simp)) (by kernel_rfl) (by simp [Value.oneCell']) ?_)); refine bodyPost_ret (results_cellN_tmp rfl _ (by rfl) (hb2.setCells [.int .i64 0, .int .i64 0, .slice none 0 0] 0 (by simp)) (by kernel_rfl) (by rfl)) rfl ?_; rw [hdec.out]; exact DecPost.none (by rfl) (hB.trans (((Fr.refl (fun i => i = B) w3).setCells _ 0 (fun _ => rfl)).below (B := B) (by have := hB.size; rw [HB.out] at this; exact this) (fun k hk e => by omega))) HB.out
  have hnI : decide ((65536 : Int) < (n : Int)) = false := decide_eq_false (by omega)
  have hz : sizeN (n : Int) = ((21 + k + n : Nat) : Int) := by rw [sizeN, if_pos (by omega), Int.toNat_natCast, hpk]; omega
  replace hdec := Lib.hid (show R = if b.length < 21 + k + n then (0, 0, [], 0) else decB b k (21 + k + n) by
    rw [hdec.out, decA, hpk]
    by_cases h : b.length < 21 + k + n
    · rw [if_pos (.inr (.inr h)), if_pos h]
    · rw [if_neg (fun h2 => h2.elim hk (fun h2 => h2.elim hn h)), if_neg h])
  have HPK := Lib.hid hpk
  clear hn63 hpk
  obtain ⟨Z, hZ⟩ : ∃ Z, Z = 21 + k + n := ⟨_, rfl⟩
  rw [← hZ] at hz
  have HZ := Lib.hid hZ
  have hZ7 : (Z : Int) < 70000 := by omega
  have hZ0 : (0 : Int) ≤ (Z : Int) := by omega
  clear hZ
  go_wp2_with fail
  refine (rsize_any (w := w3) (n : Int) (by omega)).mono ?_
  rintro e w4 ⟨rfl, hb3⟩
  replace hv := hv.below hb3; replace hb2 := hb2.fr (Fr.of_below hb3 (fun _ => False)) (fun h => h); replace hb4 := hb4.fr (Fr.of_below hb3 (fun _ => False)) (fun h => h); skip; replace hB := hB.trans (hb3.mono hs); replace hs := Nat.le_trans hs hb3.size
  rw [hz]
  have Hz := Lib.hid hz
  clear hz hb3
  by_cases hZb : b.length < Z
  · replace hdec := Lib.hid (show R = (0, 0, [], 0) by rw [hdec.out, if_pos (by have := HZ.out; omega)])
    have hZbI : (b.length : Int) < (Z : Int) := by omega
    go_wp2_with (first | (refine wpList_loadN (n := 3) rfl rfl rfl (hb4.range' 0 [.int .i64 0, .int .i64 0, .slice none 0 0] (fun j v hv => by rw [Nat.zero_add]; simpa using hv)) rfl (by kernel_rfl) (by kernel_rfl) ?_) | (refine wpList_storeN (n := 3) (cs := [.int .i64 0, .int .i64 0, .slice none 0 0]) rfl rfl rfl rfl rfl (hb2.there 0 3 (by simp)) (by kernel_rfl) (by simp [Value.oneCell']) ?_)); refine bodyPost_ret (results_cellN_tmp rfl _ (by rfl) (hb2.setCells [.int .i64 0, .int .i64 0, .slice none 0 0] 0 (by simp)) (by kernel_rfl) (by rfl)) rfl ?_; rw [hdec.out]; exact DecPost.none (by rfl) (hB.trans (((Fr.refl (fun i => i = B) w4).setCells _ 0 (fun _ => rfl)).below (B := B) (by have := hB.size; rw [HB.out] at this; exact this) (fun k hk e => by omega))) HB.out
  have hZbI : decide ((b.length : Int) < (Z : Int)) = false := decide_eq_false (by omega)
  have hdB := hdec.out
  rw [if_neg (by have := HZ.out; omega), decB_eq (by have := HZ.out; omega) (by omega)] at hdB
  clear hdec
  obtain ⟨l8, hl8⟩ : ∃ l, l = (b.take (1 + k + 8)).drop (1 + k) := ⟨_, rfl⟩
  obtain ⟨l16, hl16⟩ : ∃ l, l = (b.take (1 + k + 16)).drop (1 + k + 8) := ⟨_, rfl⟩
  obtain ⟨D, hD⟩ : ∃ l, l = (b.take (1 + k + 16 + n)).drop (1 + k + 16) := ⟨_, rfl⟩
  obtain ⟨pre, hpre⟩ : ∃ l, l = b.take (1 + k + 16 + n) := ⟨_, rfl⟩
  obtain ⟨sm, hsm⟩ : ∃ l, l = (b.take (1 + k + 20 + n)).drop (1 + k + 16 + n) := ⟨_, rfl⟩
  rw [← hD, ← hsm, ← hpre, ← hl8, ← hl16] at hdB
  have h8 : l8.length = 8 := by rw [hl8, List.length_drop, List.length_take]; have := HZ.out; omega
  have h16 : l16.length = 8 := by rw [hl16, List.length_drop, List.length_take]; have := HZ.out; omega
  have hDn : D.length = n := by rw [hD, List.length_drop, List.length_take]; have := HZ.out; omega
  have hZl : 1 + k + 20 + n ≤ b.length := by have := HZ.out; omega
  have HD := Lib.hid hD
  have HS := Lib.hid hsm
  have HP := Lib.hid hpre
  have H8 := Lib.hid hl8
  have H16 := Lib.hid hl16
  have HDN := Lib.hid hDn
  clear hD hsm hpre hl8 hl16 hDn
  have hk0 : (0 : Int) ≤ (k : Int) := by omega
  have hn0 : (0 : Int) ≤ (n : Int) := by omega
  have hnI2 : (n : Int) ≤ 65536 := by omega
  have hkI : (k : Int) ≤ 9 := by omega
  have HDB := Lib.hid hdB
  clear hdB
  go_upto_region 8 with fail
  go_wp2_with (refine wpList_rd_lh rfl rfl rfl rfl rfl hv (L := 1 + k) (H := 1 + k + 8) (by omega) (by omega) (by omega) (by omega) Try.underlying32 infoByte1 (fun v8 r8 _ _ => ?_))
  rw [← H8.out] at r8
  refine (rnarrow_any v8 _ r8 h8).mono ?_
  rintro e w5 ⟨rfl, rfl⟩
  clear r8 h8
  go_wp2_with (refine wpList_rd_lh rfl rfl rfl rfl rfl hv (L := 1 + k + 8) (H := 1 + k + 16) (by omega) (by omega) (by omega) (by omega) Try.underlying32 infoByte1 (fun v8 r8 _ _ => ?_))
  rw [← H16.out] at r8
  refine (rnarrow_any v8 _ r8 h16).mono ?_
  rintro e w5 ⟨rfl, rfl⟩
  clear r8 h16
  generalize narZ l8 = G at *
  generalize narZ l16 = S at *
  have hvo : ∀ j, (Value.slice (some ⟨b', o', none⟩) b.length c).ownBlock = some j → j < w5.heap.size := hv.lt (by intro h; subst h; simp at h0)
  go_upto_region 10 with fail
  clear hnI hZbI hkb hZ7 hZ0 hk hZb h22
  go_upto_region 11 with (first
    | (refine wpList_rd_lh rfl rfl rfl rfl rfl hv (L := 1 + k + 16) (H := 1 + k + 16 + n) (by omega) (by omega) (by omega) (by omega) Try.underlying32 infoByte1 (fun vd rd _ _ => ?_); rw [← HD.out] at rd)
    | (refine wpList_appRd (base := B) (l := []) (n := 0) rfl rfl Try.underlying32 infoByte rfl rfl rfl (World.ownsRow_nil _ _ _ _) rd (by rw [HDN.out]; omega) hs (fun v6 w6 o6 g6 _ => ?_); rw [List.nil_append, HDN.out, Nat.zero_add] at o6; obtain ⟨A6, c6, rfl⟩ := own_form o6)
    | (refine wpList_value rfl (exec_build (fr3 G S A6 n c6 _) rfl (by simp [Act.eval, Act.put])) ?_)
    | (refine wpList_newN (n := 3) (cs := [.int .i64 G, .int .i64 S, .slice A6 n c6]) rfl rfl rfl rfl rfl rfl rfl (by simp) (by simp [Act.put]) rfl (by kernel_rfl) (by simp [Value.oneCell']) ?_))
  have hvb : w5.heap.size ≤ w6.heap.size := g6.size
  replace hv := hv.fr g6 (fun _ k hk e => by cases e)
  replace hb2 := hb2.fr g6 (fun e => by cases e)
  replace hb4 := hb4.fr g6 (fun e => by cases e)
  replace hB := hB.trans (g6.below (B := B) hs (fun k _ e => by cases e))
  replace hs := Nat.le_trans hs g6.size
  clear g6 hvb rd hvo
  have ho6 := fun k hk => (o6.lt k hk).2
  have hb12 := Blk.new w6 #[.int .i64 G, .int .i64 S, .slice A6 n c6] 86
  have f := (Fr.refl (fun _ => False) w6).alloc (.cells #[.int .i64 G, .int .i64 S, .slice A6 n c6] 86)
  replace hv := hv.fr f (fun _ _ _ h => h)
  replace hb2 := hb2.fr f (fun h => h); replace hb4 := hb4.fr f (fun h => h)
  replace o6 := own_fr o6 f (fun _ _ h => h)
  replace hB := hB.trans (f.below (B := B) hs (fun k _ e => e))
  replace hs := Nat.le_trans hs f.size
  clear f
  generalize w6.heap.size = g12 at *
  generalize w6.alloc (.cells #[.int .i64 G, .int .i64 S, .slice A6 n c6] 86) = w7 at *
  go_wp2_with (refine wpList_rd_h rfl rfl rfl rfl hv (H := 1 + k + 16 + n) (by omega) (by omega) Try.underlying32 infoByte1 (fun v8 r8 _ _ => ?_))
  rw [← HP.out] at r8
  refine (rsum_any v8 _ r8).mono ?_
  rintro e w8 ⟨v9, rfl, o9, hb8⟩
  clear r8
  have r9 := Rd.of_own o9
  clear o9
  replace hv := hv.below hb8; replace hb2 := hb2.fr (Fr.of_below hb8 (fun _ => False)) (fun h => h); replace hb4 := hb4.fr (Fr.of_below hb8 (fun _ => False)) (fun h => h); replace hb12 := hb12.fr (Fr.of_below hb8 (fun _ => False)) (fun h => h); replace o6 := own_fr o6 (Fr.of_below hb8 (fun _ => False)) (fun _ _ h => h); replace hB := hB.trans (hb8.mono hs); replace hs := Nat.le_trans hs hb8.size
  clear hb8
  generalize byte4 (crc pre) = X at *
  have hra : w8.rangeAt g12 0 [.int .i64 G, .int .i64 S, .slice A6 n c6] := hb12.range' 0 _ (fun j v hv => by rw [Nat.zero_add]; simpa using hv)
  have hl3 : ([.int .i64 G, .int .i64 S, .slice A6 n c6] : List Value).length = 3 := rfl
  have rD := Rd.of_own o6
  go_wp2_with (refine wpList_loadN (n := 3) rfl rfl rfl hra hl3 (by kernel_rfl) (by kernel_rfl) ?_)
  refine (rmay_any G S _ D rD).mono ?_
  rintro e w9 ⟨rfl, hb9⟩
  replace hv := hv.below hb9; replace r9 := r9.below hb9; replace hb2 := hb2.fr (Fr.of_below hb9 (fun _ => False)) (fun h => h); replace hb4 := hb4.fr (Fr.of_below hb9 (fun _ => False)) (fun h => h); replace hb12 := hb12.fr (Fr.of_below hb9 (fun _ => False)) (fun h => h); replace o6 := own_fr o6 (Fr.of_below hb9 (fun _ => False)) (fun _ _ h => h); replace hB := hB.trans (hb9.mono hs); replace hs := Nat.le_trans hs hb9.size
  clear hb9 rD hra
  rw [HDN.out]
  have hdB := HDB.out
  by_cases hmay : mayF G S n = true
  rotate_left
  · rw [if_neg (fun h => hmay h.1)] at hdB
    have hdec := Lib.hid hdB
    clear hdB
    rw [Bool.not_eq_true] at hmay
    rw [hmay]
    go_wp2_with fail
    refine wp_region_float (Fr (fun _ => False)) [(0, 0), (1, 0), (2, 0), (3, 0), (4, 1), (5, 0), (6, 0), (7, 0), (8, 0), (9, 0), (10, 0), (11, 0), (12, 0), (13, 0), (14, 0), (15, 1), (16, 0), (17, 0)] _ (by kernel_rfl) (by kernel_rfl) (by simp only [List.map_cons, List.map_nil, Array.getD_eq_getD_getElem?, List.getElem?_toArray, List.getElem?_cons_succ, List.getElem?_cons_zero, Option.getD_some]; rfl) rfl (by kernel_rfl) (fun _ _ d _ _ h => by cases d <;> exact h) (Fr.refl _) (fun _ _ _ => Fr.trans) ?_
    replace hv := hv.drew; replace r9 := r9.drew; replace hb2 := hb2.drew; replace hb4 := hb4.drew; replace hb12 := hb12.drew; skip; replace hB := hB.drew
    generalize w9.drew = w10 at *
    repeat (first | (refine wpF_f0 (fun K hK => ?_); go_simp; refine hK _ ?_; clear hK K) | (refine wpF_skip (by rfl) ?_))
    refine wpF_nil ?_
    go_wp2_with (first | (refine wpList_loadN (n := 3) rfl rfl rfl (hb4.range' 0 [.int .i64 0, .int .i64 0, .slice none 0 0] (fun j v hv => by rw [Nat.zero_add]; simpa using hv)) rfl (by kernel_rfl) (by kernel_rfl) ?_) | (refine wpList_storeN (n := 3) (cs := [.int .i64 0, .int .i64 0, .slice none 0 0]) rfl rfl rfl rfl rfl (hb2.there 0 3 (by simp)) (by kernel_rfl) (by simp [Value.oneCell']) ?_)); refine bodyPost_ret (results_cellN_tmp rfl _ (by rfl) (hb2.setCells [.int .i64 0, .int .i64 0, .slice none 0 0] 0 (by simp)) (by kernel_rfl) (by rfl)) rfl ?_; rw [hdec.out]; exact DecPost.none (by rfl) (hB.trans (((Fr.refl (fun i => i = B) w10).setCells _ 0 (fun _ => rfl)).below (B := B) (by have := hB.size; rw [HB.out] at this; exact this) (fun k hk e => by omega))) HB.out
  rw [hmay]
  go_wp2_with fail
  refine wp_region_float (Fr (fun _ => False)) [(0, 0), (1, 0), (2, 0), (3, 0), (4, 1), (5, 0), (6, 0), (7, 0), (8, 0), (9, 0), (10, 0), (11, 0), (12, 0), (13, 0), (14, 0), (15, 1), (16, 0), (17, 0)] _ (by kernel_rfl) (by kernel_rfl) (by simp only [List.map_cons, List.map_nil, Array.getD_eq_getD_getElem?, List.getElem?_toArray, List.getElem?_cons_succ, List.getElem?_cons_zero, Option.getD_some]; rfl) rfl (by kernel_rfl) (fun _ _ d _ _ h => by cases d <;> exact h) (Fr.refl _) (fun _ _ _ => Fr.trans) ?_
  replace hv := hv.drew; replace r9 := r9.drew; replace hb2 := hb2.drew; replace hb4 := hb4.drew; replace hb12 := hb12.drew; skip; replace hB := hB.drew
  replace o6 : w9.drew.ownsRow B 5 1 (.slice A6 n c6) n (bts D) := own_fr o6 ((Fr.refl (fun _ => False) w9).drew) (fun _ _ h => h)
  replace hs : B ≤ w9.drew.heap.size := hs
  generalize w9.drew = w10 at *
  repeat (first | (refine wpF_f0 (fun K hK => ?_); go_simp; refine hK _ ?_; clear hK K) | (refine wpF_load1 rfl rfl rfl (by kernel_rfl) (by assumption) (by simp) (fun K hK => ?_); go_simp; refine hK _ ?_; clear hK K) | (refine wpF_str rfl rfl rfl (by assumption) (by simp) (by kernel_rfl) (by kernel_rfl) (fun K hK => ?_); go_simp; refine hK _ ?_; clear hK K))
  refine wpF_rd_lh rfl rfl rfl rfl rfl hv (L := 1 + k + 16 + n) (H := 1 + k + 20 + n) (by simp only [IntKind.wrap_i64]; omega) (by simp only [IntKind.wrap_i64]; omega) (by omega) (by omega) Try.underlying32 infoByte1 (fun K va ra oa na hK => ?_)
  rw [← HS.out] at ra
  go_simp
  refine hK _ ?_
  clear hK K
  repeat (first | (refine wpF_f0 (fun K hK => ?_); go_simp; refine hK _ ?_; clear hK K) | (refine wpF_load1 rfl rfl rfl (by kernel_rfl) (by assumption) (by simp) (fun K hK => ?_); go_simp; refine hK _ ?_; clear hK K) | (refine wpF_str rfl rfl rfl (by assumption) (by simp) (by kernel_rfl) (by kernel_rfl) (fun K hK => ?_); go_simp; refine hK _ ?_; clear hK K))
  refine wpF_nil ?_
  rw [str_toList, str_toList]
  by_cases hq : X = sm
  rotate_left
  · rw [if_neg (fun h => hq h.2)] at hdB
    have hdec := Lib.hid hdB
    clear hdB
    have hqb : (!(X == sm)) = true := by rw [Bool.not_eq_true', beq_eq_false_iff_ne]; exact hq
    rw [hqb]
    clear hq
    go_wp2_with (first | (refine wpList_loadN (n := 3) rfl rfl rfl (hb4.range' 0 [.int .i64 0, .int .i64 0, .slice none 0 0] (fun j v hv => by rw [Nat.zero_add]; simpa using hv)) rfl (by kernel_rfl) (by kernel_rfl) ?_) | (refine wpList_storeN (n := 3) (cs := [.int .i64 0, .int .i64 0, .slice none 0 0]) rfl rfl rfl rfl rfl (hb2.there 0 3 (by simp)) (by kernel_rfl) (by simp [Value.oneCell']) ?_)); refine bodyPost_ret (results_cellN_tmp rfl _ (by rfl) (hb2.setCells [.int .i64 0, .int .i64 0, .slice none 0 0] 0 (by simp)) (by kernel_rfl) (by rfl)) rfl ?_; rw [hdec.out]; exact DecPost.none (by rfl) (hB.trans (((Fr.refl (fun i => i = B) w10).setCells _ 0 (fun _ => rfl)).below (B := B) (by have := hB.size; rw [HB.out] at this; exact this) (fun k hk e => by omega))) HB.out
  rw [if_pos ⟨hmay, hq⟩] at hdB
  have hdec := Lib.hid hdB
  clear hdB HDB
  have hqb : (!(X == sm)) = false := by rw [Bool.not_eq_false', beq_iff_eq]; exact hq
  rw [hqb]
  clear hq ra r9 hv hb4
  go_wp2_with fail
  refine wp_region_float (Fr (fun _ => False)) [(0, 1), (1, 0), (2, 2), (3, 3), (4, 0)] _ (by kernel_rfl) (by kernel_rfl) (by simp only [List.map_cons, List.map_nil, Array.getD_eq_getD_getElem?, List.getElem?_toArray, List.getElem?_cons_succ, List.getElem?_cons_zero, Option.getD_some]; rfl) rfl (by kernel_rfl) (fun _ _ d _ _ h => by cases d <;> exact h) (Fr.refl _) (fun _ _ _ => Fr.trans) ?_
  skip; replace hb2 := hb2.drew; replace hb12 := hb12.drew; skip; replace hB := hB.drew
  replace o6 : w10.drew.ownsRow B 5 1 (.slice A6 n c6) n (bts D) := own_fr o6 ((Fr.refl (fun _ => False) w10).drew) (fun _ _ h => h)
  replace hs : B ≤ w10.drew.heap.size := hs
  generalize w10.drew = w11 at *
  have hra : w11.rangeAt g12 0 [.int .i64 G, .int .i64 S, .slice A6 n c6] := hb12.range' 0 _ (fun j v hv => by rw [Nat.zero_add]; simpa using hv)
  repeat (first | (refine wpF_f0 (fun K hK => ?_); go_simp; refine hK _ ?_; clear hK K) | (refine wpF_load1 rfl rfl rfl (by kernel_rfl) (by assumption) (by simp) (fun K hK => ?_); go_simp; refine hK _ ?_; clear hK K) | (refine wpF_loadN rfl rfl rfl (by assumption) (by assumption) (by kernel_rfl) (by kernel_rfl) (by simp) (fun K hK => ?_); go_simp; refine hK _ ?_; clear hK K))
  refine wpF_a2 (fun K hK => ?_); rw [if_pos (by rfl)]
  go_simp
  refine (rsize_any (w := w11) (n : Int) (by omega)).mono ?_
  rintro e w12 ⟨rfl, hb11⟩
  skip; replace hb2 := hb2.fr (Fr.of_below hb11 (fun _ => False)) (fun h => h); replace hb12 := hb12.fr (Fr.of_below hb11 (fun _ => False)) (fun h => h); replace o6 := own_fr o6 (Fr.of_below hb11 (fun _ => False)) (fun _ _ h => h); replace hB := hB.trans (hb11.mono hs); replace hs := Nat.le_trans hs hb11.size
  refine hK _ _ (Fr.of_below hb11 _) ?_
  clear hK K hb11 hra
  repeat (first | (refine wpF_f0 (fun K hK => ?_); go_simp; refine hK _ ?_; clear hK K) | (refine wpF_load1 rfl rfl rfl (by kernel_rfl) (by assumption) (by simp) (fun K hK => ?_); go_simp; refine hK _ ?_; clear hK K) | (refine wpF_loadN rfl rfl rfl (by assumption) (by assumption) (by kernel_rfl) (by kernel_rfl) (by simp) (fun K hK => ?_); go_simp; refine hK _ ?_; clear hK K))
  refine wpF_a3 (fun K hK => ?_); rw [if_pos (by rfl)]
  refine wp_storeN (n := 3) (cs := [.int .i64 G, .int .i64 S, .slice A6 n c6]) rfl rfl rfl rfl (hb2.there 0 3 (by simp)) (by kernel_rfl) (by simp [Value.oneCell']) ?_
  refine hK _ _ ?_
  clear hK K
  repeat (first | (refine wpF_f0 (fun K hK => ?_); go_simp; refine hK _ ?_; clear hK K) | (refine wpF_load1 rfl rfl rfl (by kernel_rfl) (by assumption) (by simp) (fun K hK => ?_); go_simp; refine hK _ ?_; clear hK K) | (refine wpF_loadN rfl rfl rfl (by assumption) (by assumption) (by kernel_rfl) (by kernel_rfl) (by simp) (fun K hK => ?_); go_simp; refine hK _ ?_; clear hK K))
  refine wpF_nil ?_
  go_wp2_with fail
  rw [Hz.out]
  refine bodyPost_ret (results_cellN_tmp rfl _ (by rfl) (hb2.setCells [.int .i64 G, .int .i64 S, .slice A6 n c6] 0 (by simp)) (by kernel_rfl) (by rfl)) rfl ?_
  rw [hdec.out, ← HZ.out]
  refine ⟨.slice A6 n c6, n, by rfl, ?_, ?_⟩
  · rw [HB.out]
    have f := (Fr.refl (fun i => i = B) w12).setCells (b := B) [.int .i64 G, .int .i64 S, .slice A6 n c6] 0 (fun _ => rfl)
    exact own_fr o6 f (fun k hk e => own_blk_ne o6 hb2 (by decide) (by rw [hk, e]))
  · rw [HB.out]
    exact hB.trans (((Fr.refl (fun i => i = B) w12).setCells _ 0 (fun _ => rfl)).below (B := B) hs (fun k hk e => by omega))
end Go.Proofs.Ythglnbkfmmchnaa
