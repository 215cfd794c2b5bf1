/- frame: Encode. -/
import Derived.Test.YthglnbkfmmchnaaFrame2
namespace Go.Proofs.Ythglnbkfmmchnaa
open Go.RowKit
set_option maxRecDepth 100000

def bodyN (g s : Nat) (d : List UInt8) : List UInt8 := ((([] ++ ([245] ++ putN d.length)) ++ be8 g) ++ be8 s) ++ d
def encN (g s : Nat) (d : List UInt8) : List UInt8 := sumB (bodyN g s d)
theorem bodyN_length (g s : Nat) (d : List UInt8) : (bodyN g s d).length ≤ 27 + d.length := by
  have : (putN d.length).length ≤ 10 := putF_length 9 _
  simp only [bodyN, List.length_append, List.length_nil, List.length_cons]
  have h8 : ∀ x, (be8 x).length = 8 := fun x => rfl
  rw [h8, h8]; omega
theorem build4s (A0 A1 A2 A3 : Option Addr) (n0 c0 n1 c1 n2 c2 n3 c3 : Nat) (w : World) : (Instr.buildSlice 22 4 #[(0, .slice A0 n0 c0), (1, .slice A1 n1 c1), (2, .slice A2 n2 c2), (3, .slice A3 n3 c3)]).run Try.prog w =
    .ok (.slice (some ⟨w.heap.size, 0, none⟩) 4 4) (w.alloc (.cells #[.slice A0 n0 c0, .slice A1 n1 c1, .slice A2 n2 c2, .slice A3 n3 c3] 32)) := by kernel_rfl
theorem rdl4 {w : World} {v0 v1 v2 v3 : Value} {l0 l1 l2 l3 : List UInt8} {t : TypeId} (h0 : Rd w v0 l0) (h1 : Rd w v1 l1) (h2 : Rd w v2 l2) (h3 : Rd w v3 l3) :
    RdL (w.alloc (.cells #[v0, v1, v2, v3] t)) (.slice (some ⟨w.heap.size, 0, none⟩) 4 4) [l0, l1, l2, l3] := by
  have f : Fr (fun _ => False) w (w.alloc (.cells #[v0, v1, v2, v3] t)) := (Fr.refl _ w).alloc _
  have hb := Blk.new w #[v0, v1, v2, v3] t
  refine ⟨_, 4, 4, rfl, rfl, by simp [maxLen], fun j hj => ?_⟩
  have hj4 : j < 4 := hj
  match j, hj4 with
  | 0, _ => exact ⟨_, 0, v0, rfl, hb.cell 0, h0.fr f (fun _ _ _ h => h)⟩
  | 1, _ => exact ⟨_, 0, v1, rfl, hb.cell 1, h1.fr f (fun _ _ _ h => h)⟩
  | 2, _ => exact ⟨_, 0, v2, rfl, hb.cell 2, h2.fr f (fun _ _ _ h => h)⟩
  | 3, _ => exact ⟨_, 0, v3, rfl, hb.cell 3, h3.fr f (fun _ _ _ h => h)⟩

set_option maxHeartbeats 3000000 in
set_option maxRecDepth 100000 in
theorem enc_any {w : World} (g s : Nat) (v : Value) (d : List UInt8) (hv : Rd w v d) (hg : mayN g = true) (hs : mayN s = true) (hd : d.length ≤ 65536) :
    Calls Try.prog 48 #[.agg #[.int .i64 g, .int .i64 s, v]] w fun e w' => ∃ v' n, e = .returned v' ∧ w'.ownsRow w.heap.size 5 1 v' n (bts (encN g s d)) ∧ Below w.heap.size w w' := by
  obtain ⟨A, c, rfl⟩ := hv.slice
  have hm := hv.max
  have hbl := bodyN_length g s d
  have hen : encN g s d = sumB (bodyN g s d) := rfl
  have hcat : catN [[245] ++ putN d.length, be8 g, be8 s, d] 4 = bodyN g s d := rfl
  have hgn : g < 9223372036854775808 := by simp [mayN] at hg; omega
  have hsn : s < 9223372036854775808 := by simp [mayN] at hs; omega
  have hsz : sizeN (d.length : Int) = 21 + (putN d.length).length + (d.length : Int) := by rw [sizeN, if_pos (by omega), Int.toNat_natCast]
  have hB := (Below.refl w.heap.size w).alloc (Nat.le_refl _) (.cells #[.int .i64 g, .int .i64 s, .slice A d.length c] 86)
  have hb := Blk.new w #[.int .i64 g, .int .i64 s, .slice A d.length c] 86
  have hv := hv.below hB
  go_enter Try.func48, Try.ntmps48
  go_upto_region 1 with fail
  generalize w.alloc (.cells #[.int .i64 g, .int .i64 s, .slice A d.length c] 86) = w1 at *
  generalize hb0 : w.heap.size = B at *
  have HB := Lib.hid hb0
  clear hb0
  have c0 := hb.cell 0
  have c1 := hb.cell 1
  have c2 := hb.cell 2
  simp only [List.getElem?_toArray, List.getElem?_cons_zero, List.getElem?_cons_succ] at c0 c1 c2
  go_wp2_with fail
  refine (may_any (w := w1) (g : Int)).mono ?_
  rintro e w2 ⟨rfl, rfl⟩
  rw [hg]
  go_wp2_with fail
  refine (may_any (w := w2) (s : Int)).mono ?_
  rintro e w3 ⟨rfl, rfl⟩
  rw [hs]
  go_wp2_with fail
  refine (size_any (w := w3) (d.length : Int) (by omega)).mono ?_
  rintro e w4 ⟨rfl, hb4⟩
  rw [hsz]
  have hb := hb.fr (Fr.of_below hb4 (fun _ => False)) (fun h => h)
  have hv := hv.below hb4
  have hB := hB.trans (hb4.mono (by have := hB.size; rw [HB.out] at this; exact this))
  clear c0 c1 c2 hb4
  generalize hkp : (putN d.length).length = kp at *
  have hne : ((21 + (kp : Int) + (d.length : Int)) == 0) = false := by rw [beq_eq_false_iff_ne]; omega
  go_wp2_with fail
  refine wp_region_float (Fr (fun _ => False)) [(1, 0), (2, 1), (3, 0), (5, 0), (6, 1), (8, 0), (9, 1), (11, 0), (12, 1), (0, 2), (4, 2), (7, 2), (10, 2), (13, 3), (14, 3), (15, 3), (16, 0)] _ (by kernel_rfl) (by kernel_rfl) (by simp only [List.map_cons, List.map_nil, Array.getD_eq_getD_getElem?, List.getElem?_toArray, List.getElem?_cons_succ, List.getElem?_cons_zero, Option.getD_some]; rfl) rfl (by kernel_rfl) (fun _ _ d _ _ h => by cases d <;> exact h) (Fr.refl _) (fun _ _ _ => Fr.trans) ?_
  replace hb : Blk w4.drew B #[.int .i64 g, .int .i64 s, .slice A d.length c] 86 := hb
  replace hv := hv.drew
  replace hB := hB.drew
  generalize w4.drew = w5 at *
  have c0 := hb.cell 0
  have c1 := hb.cell 1
  have c2 := hb.cell 2
  simp only [List.getElem?_toArray, List.getElem?_cons_zero, List.getElem?_cons_succ] at c0 c1 c2
  have hs5 := hB.size
  rw [HB.out] at hs5
  repeat (first | (refine wpF_f0 (fun K hK => ?_); go_simp; refine hK _ ?_; clear hK K) | (refine wpF_load1 rfl rfl rfl (by kernel_rfl) (by assumption) (by simp) (fun K hK => ?_); go_simp; refine hK _ ?_; clear hK K) | (refine wpF_loadN rfl rfl rfl (by assumption) (by assumption) (by kernel_rfl) (by kernel_rfl) (by simp) (fun K hK => ?_); go_simp; refine hK _ ?_; clear hK K))
  clear c0 c1 c2 hb
  refine wpF_a2 (fun K hK => ?_); rw [if_pos (by rfl)]
  refine wp_value (exec_buildSlice (build1 245 _) rfl (by simp [Act.eval])) ?_
  have g1 : Fr (fun _ => False) w5 (w5.alloc (.cells (bts [245]).toArray 5)) := (Fr.refl _ w5).alloc _
  have r1 := Rd.blk (n := 1) (c := 1) (l := [245]) (Blk.new w5 (bts [245]).toArray 5) rfl (by omega) (by simp [maxLen])
  have hB := hB.alloc hs5 (.cells (bts [245]).toArray 5)
  have hv := hv.fr g1 (fun _ _ _ h => h)
  go_simp
  generalize w5.alloc (.cells (bts [245]).toArray 5) = w6 at *
  refine hK _ _ g1 ?_
  clear hK K g1
  repeat (first | (refine wpF_f0 (fun K hK => ?_); go_simp; refine hK _ ?_; clear hK K) | (refine wpF_load1 rfl rfl rfl (by kernel_rfl) (by assumption) (by simp) (fun K hK => ?_); go_simp; refine hK _ ?_; clear hK K) | (refine wpF_loadN rfl rfl rfl (by assumption) (by assumption) (by kernel_rfl) (by kernel_rfl) (by simp) (fun K hK => ?_); go_simp; refine hK _ ?_; clear hK K))
  refine wpF_a2 (fun K hK => ?_); rw [if_pos (by rfl)]
  go_simp
  refine (put_any _ [245] d.length r1 (fun n c h => by cases h) (by simp) (by omega)).mono ?_
  rintro e w7 ⟨v7, rfl, o7, hb7⟩
  generalize ([245] : List UInt8).length + (putN d.length).length = n7 at *
  have r7 := Rd.of_own o7
  have hv := hv.below hb7
  have hB := hB.trans (hb7.mono (by have := hB.size; rw [HB.out] at this; exact this))
  refine hK _ _ (Fr.of_below hb7 _) ?_
  clear hK K hb7
  repeat (first | (refine wpF_f0 (fun K hK => ?_); go_simp; refine hK _ ?_; clear hK K) | (refine wpF_load1 rfl rfl rfl (by kernel_rfl) (by assumption) (by simp) (fun K hK => ?_); go_simp; refine hK _ ?_; clear hK K) | (refine wpF_loadN rfl rfl rfl (by assumption) (by assumption) (by kernel_rfl) (by kernel_rfl) (by simp) (fun K hK => ?_); go_simp; refine hK _ ?_; clear hK K))
  refine wpF_a2 (fun K hK => ?_); rw [if_pos (by rfl)]
  go_simp
  refine (wide_any (w := w7) g hgn).mono ?_
  rintro e w8 ⟨v8, rfl, o8, hb8⟩
  have r8 := Rd.of_own o8
  have r7 := r7.below hb8
  have hv := hv.below hb8
  have hB := hB.trans (hb8.mono (by have := hB.size; rw [HB.out] at this; exact this))
  refine hK _ _ (Fr.of_below hb8 _) ?_
  clear hK K hb8
  repeat (first | (refine wpF_f0 (fun K hK => ?_); go_simp; refine hK _ ?_; clear hK K) | (refine wpF_load1 rfl rfl rfl (by kernel_rfl) (by assumption) (by simp) (fun K hK => ?_); go_simp; refine hK _ ?_; clear hK K) | (refine wpF_loadN rfl rfl rfl (by assumption) (by assumption) (by kernel_rfl) (by kernel_rfl) (by simp) (fun K hK => ?_); go_simp; refine hK _ ?_; clear hK K))
  refine wpF_a2 (fun K hK => ?_); rw [if_pos (by rfl)]
  go_simp
  refine (wide_any (w := w8) s hsn).mono ?_
  rintro e w9 ⟨v9, rfl, o9, hb9⟩
  have r9 := Rd.of_own o9
  have r7 := r7.below hb9
  have r8 := r8.below hb9
  have hv := hv.below hb9
  have hB := hB.trans (hb9.mono (by have := hB.size; rw [HB.out] at this; exact this))
  refine hK _ _ (Fr.of_below hb9 _) ?_
  clear hK K hb9
  repeat (first | (refine wpF_f0 (fun K hK => ?_); go_simp; refine hK _ ?_; clear hK K) | (refine wpF_load1 rfl rfl rfl (by kernel_rfl) (by assumption) (by simp) (fun K hK => ?_); go_simp; refine hK _ ?_; clear hK K) | (refine wpF_loadN rfl rfl rfl (by assumption) (by assumption) (by kernel_rfl) (by kernel_rfl) (by simp) (fun K hK => ?_); go_simp; refine hK _ ?_; clear hK K))
  obtain ⟨A7, c7, rfl⟩ := own_form o7
  obtain ⟨A8, c8, rfl⟩ := own_form o8
  obtain ⟨A9, c9, rfl⟩ := own_form o9
  have hL := rdl4 (t := 32) r7 r8 r9 hv
  have hs9 := hB.size
  rw [HB.out] at hs9
  have hB := hB.alloc hs9 (.cells #[.slice A7 n7 c7, .slice A8 8 c8, .slice A9 8 c9, .slice A d.length c] 32)
  refine wpF_a3 (fun K hK => ?_); rw [if_pos (by rfl)]
  refine wp_value (exec_buildSlice (build4s A7 A8 A9 A n7 c7 8 c8 8 c9 d.length c w9) rfl (by simp [Act.eval])) ?_
  go_simp
  refine hK _ _ ?_
  clear hK K r7 r8 r9 o7 o8 o9 hv
  generalize w9.alloc (.cells #[.slice A7 n7 c7, .slice A8 8 c8, .slice A9 8 c9, .slice A d.length c] 32) = w10 at *
  repeat (first | (refine wpF_f0 (fun K hK => ?_); go_simp; refine hK _ ?_; clear hK K) | (refine wpF_load1 rfl rfl rfl (by kernel_rfl) (by assumption) (by simp) (fun K hK => ?_); go_simp; refine hK _ ?_; clear hK K) | (refine wpF_loadN rfl rfl rfl (by assumption) (by assumption) (by kernel_rfl) (by kernel_rfl) (by simp) (fun K hK => ?_); go_simp; refine hK _ ?_; clear hK K))
  refine wpF_a3 (fun K hK => ?_); rw [if_pos (by rfl)]
  go_simp
  refine (concat_any _ _ hL (by rw [show ([[245] ++ putN d.length, be8 g, be8 s, d] : List (List UInt8)).length = 4 from rfl, hcat]; omega)).mono ?_
  rintro e w11 ⟨v11, rfl, o11, hb11⟩
  rw [show ([[245] ++ putN d.length, be8 g, be8 s, d] : List (List UInt8)).length = 4 from rfl, hcat] at o11
  have hs10 := hB.size
  rw [HB.out] at hs10
  have o11 := own_base o11 hs10
  have hB := hB.trans (hb11.mono hs10)
  have hs11 := hB.size
  rw [HB.out] at hs11
  refine hK _ _ ?_
  clear hK K hb11 hL
  repeat (first | (refine wpF_f0 (fun K hK => ?_); go_simp; refine hK _ ?_; clear hK K) | (refine wpF_load1 rfl rfl rfl (by kernel_rfl) (by assumption) (by simp) (fun K hK => ?_); go_simp; refine hK _ ?_; clear hK K) | (refine wpF_loadN rfl rfl rfl (by assumption) (by assumption) (by kernel_rfl) (by kernel_rfl) (by simp) (fun K hK => ?_); go_simp; refine hK _ ?_; clear hK K))
  refine wpF_a3 (fun K hK => ?_); rw [if_pos (by rfl)]
  go_simp
  refine (summed_any v11 (bodyN g s d) o11 hs11 (by omega)).mono ?_
  rintro e w12 ⟨v12, rfl, o12, f12⟩
  have hB := below_own hB o11 f12 (Nat.le_refl _) hs11
  refine hK _ _ ?_
  clear hK K
  repeat (first | (refine wpF_f0 (fun K hK => ?_); go_simp; refine hK _ ?_; clear hK K) | (refine wpF_load1 rfl rfl rfl (by kernel_rfl) (by assumption) (by simp) (fun K hK => ?_); go_simp; refine hK _ ?_; clear hK K) | (refine wpF_loadN rfl rfl rfl (by assumption) (by assumption) (by kernel_rfl) (by kernel_rfl) (by simp) (fun K hK => ?_); go_simp; refine hK _ ?_; clear hK K))
  refine wpF_nil ?_
  go_wp2_with fail
  go_ret
  rw [← hen] at o12
  exact ⟨_, _, rfl, by rw [HB.out]; exact o12, by rw [HB.out]; exact hB⟩
end Go.Proofs.Ythglnbkfmmchnaa
