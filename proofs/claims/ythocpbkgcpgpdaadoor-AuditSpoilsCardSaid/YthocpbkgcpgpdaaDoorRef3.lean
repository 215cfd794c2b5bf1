/- The document's sha: block. -/
import Derived.Test.YthocpbkgcpgpdaaDoorRef2
namespace Go.Proofs.YthocpbkgcpgpdaaDoor.Sha
open Go.RowKit

theorem y_word' (V : V8) : IntKind.u32.wrap (bits BinOp.xor IntKind.u32 (bits BinOp.xor IntKind.u32 ((rotr V.a 2).toNat : Int) ((rotr V.a 13).toNat : Int)) ((rotr V.a 22).toNat : Int) +
    bits BinOp.xor IntKind.u32 (bits BinOp.xor IntKind.u32 (bits BinOp.and IntKind.u32 (V.a.toNat : Int) (V.b.toNat : Int)) (bits BinOp.and IntKind.u32 (V.a.toNat : Int) (V.c.toNat : Int))) (bits BinOp.and IntKind.u32 (V.b.toNat : Int) (V.c.toNat : Int))) = (V.y.toNat : Int) := by
  rw [IntKind.wrap_u32', y_word]
theorem rbuild_v (x0 x1 x2 x3 x4 x5 x6 x7 : UInt32) (w : World) : (Instr.buildSlice 67 8 #[(0, W32 x0), (1, W32 x1), (2, W32 x2), (3, W32 x3), (4, W32 x4), (5, W32 x5), (6, W32 x6), (7, W32 x7)]).run Tryd.prog w =
    .ok (.slice (some ⟨w.heap.size, 0, none⟩) 8 8) (w.alloc (.cells [W32 x0, W32 x1, W32 x2, W32 x3, W32 x4, W32 x5, W32 x6, W32 x7].toArray 70)) := by kernel_rfl
theorem addN_swap {v s : List UInt32} (hv : v.length = 8) (hs : s.length = 8) : addN v s 8 = addN s v 8 := by
  match v, hv, s, hs with
  | [v0, v1, v2, v3, v4, v5, v6, v7], _, [s0, s1, s2, s3, s4, s5, s6, s7], _ =>
    have h1 : addN [v0, v1, v2, v3, v4, v5, v6, v7] [s0, s1, s2, s3, s4, s5, s6, s7] 8 = [v0 + s0, v1 + s1, v2 + s2, v3 + s3, v4 + s4, v5 + s5, v6 + s6, v7 + s7] := rfl
    have h2 : addN [s0, s1, s2, s3, s4, s5, s6, s7] [v0, v1, v2, v3, v4, v5, v6, v7] 8 = [s0 + v0, s1 + v1, s2 + v2, s3 + v3, s4 + v4, s5 + v5, s6 + v6, s7 + v7] := rfl
    rw [h1, h2, UInt32.add_comm v0, UInt32.add_comm v1, UInt32.add_comm v2, UInt32.add_comm v3, UInt32.add_comm v4, UInt32.add_comm v5, UInt32.add_comm v6, UInt32.add_comm v7]
theorem addN_length (h v : List UInt32) : ∀ t, (addN h v t).length = h.length
  | 0 => rfl
  | t + 1 => by rw [addN, List.length_set, addN_length h v t]

set_option maxHeartbeats 8000000 in
set_option maxRecDepth 100000 in
theorem rblock_any {w : World} (vs : Value) (s : List UInt32) {b0 : Nat} (hs : w.ownsRow b0 70 1 vs 8 (wds s)) (v : Value) (l : List UInt8) (hv : Rd w v l) (hl : l.length = 64) :
    Calls Tryd.prog 50 #[vs, v] w fun e w' => ∃ v', e = .returned v' ∧ w'.ownsRow w.heap.size 70 1 v' 8 (wds (blockN s l)) ∧ Below w.heap.size w w' := by
  have hsl : s.length = 8 := by have := hs.1; rw [wds_length] at this; omega
  have hs0 : ∀ k, vs.ownBlock = some k → k < w.heap.size := fun k e => (hs.lt k e).2
  go_enter Tryd.func50, Tryd.ntmps50
  go_wp2_with fail
  refine (rwords_any v l hv hl).mono ?_
  rintro e w1 ⟨vw, rfl, hw, hb1⟩
  replace hs := own_fr hs (Fr.of_below hb1 (fun _ => False)) (fun _ _ h => h)
  go_wp2_with fail
  refine (rconstants_any w1).mono ?_
  rintro e w2 ⟨vk, rfl, hk, hb2⟩
  replace hs := own_fr hs (Fr.of_below hb2 (fun _ => False)) (fun _ _ h => h)
  replace hw := own_fr hw (Fr.of_below hb2 (fun _ => False)) (fun _ _ h => h)
  have hsz1 := hb1.size
  replace hk := own_base hk hsz1
  have hb := hb1.trans (hb2.mono hsz1)
  clear hb1 hb2 hv
  have hsz := hb.size
  go_wp2_with (refine wpList_appRow (base := w.heap.size) (v := .slice none 0 0) (xs := []) rfl rfl Tryd.underlying67 infoWord rfl rfl rfl (World.ownsRow_nil _ _ _ _) hs (wds_one s) (by simp [maxLen]) (by omega) hsz (fun x1 w3 o1 g1 n1 => ?_))
  have t1 : ∀ i, ¬ some i = (Value.slice none 0 0).ownBlock := fun i e => by cases e
  replace hs := own_fr hs g1 (fun k _ => t1 k)
  replace hw := own_fr hw g1 (fun k _ => t1 k)
  replace hk := own_fr hk g1 (fun k _ => t1 k)
  replace hb := hb.trans (g1.below (B := w.heap.size) hsz (fun k _ => t1 k))
  rw [Nat.zero_add, List.nil_append] at o1
  clear g1 n1 t1
  obtain ⟨gs, cs', ss, rfl, hgs, hcs, -, bs, hss, hsc⟩ := own_blk hs (by omega)
  obtain ⟨gk, ck, ks, rfl, hgk, hck, -, bk, hks, hkc⟩ := own_blk hk (by omega)
  obtain ⟨gw, cw, ws, rfl, hgw, hcw, -, bw, hws, hwc⟩ := own_blk hw (by omega)
  have hgsl : gs < w.heap.size := hs0 gs rfl
  clear hs hk hw
  go_loopw [7, 8, 9, 10, 11, 12] (fun v i _ _ _ _ wr => ∃ t : Nat, i = .int .i64 t ∧ t ≤ 64 ∧ wr.ownsRow w.heap.size 70 1 v 8 (wds (roundsN (V8.of s) (schedN l 64) t).list) ∧ Blk wr gs ss 70 ∧ Blk wr gk ks 70 ∧ Blk wr gw ws 70 ∧ Below w.heap.size w wr) (fun _ i _ _ _ _ _ => 64 - (intOf i).toNat)
  case atStart => exact ⟨0, rfl, Nat.zero_le _, by rw [roundsN, V8.of_list hsl]; exact o1, bs, bk, bw, hb⟩
  case round =>
    clear o1 bs bk bw hb hsz
    obtain ⟨t, rfl, ht, o1, bs, bk, bw, hb⟩ := hrel
    have hsz := hb.size
    by_cases hlt : t < 64
    ·
      -- <A
      obtain ⟨gv, cv, vv, rfl, hgv, hcv, -, bv, hvs, hvc⟩ := own_blk o1 (by omega)
      have hltI : (t : Int) < 64 := by omega
      have ht0 : (0 : Int) ≤ (t : Int) := by omega
      have ck1 : wr.drew.cell? ⟨gk, t, none⟩ = some (W32 (kW.getD t 0)) := (bk.cell t).trans ((hkc t hlt).trans (by rw [← List.getElem?_toArray]; exact wds_get (by rw [kW_len]; exact hlt)))
      have cw1 : wr.drew.cell? ⟨gw, t, none⟩ = some (W32 ((schedN l 64).getD t 0)) := (bw.cell t).trans ((hwc t hlt).trans (by rw [← List.getElem?_toArray]; exact wds_get (by rw [schedN_length]; exact hlt)))
      have hrn : roundsN (V8.of s) (schedN l 64) (t + 1) = (roundsN (V8.of s) (schedN l 64) t).round (kW.getD t 0) ((schedN l 64).getD t 0) := rfl
      generalize roundsN (V8.of s) (schedN l 64) t = V at *
      generalize kW.getD t 0 = kt at *
      generalize (schedN l 64).getD t 0 = wt at *
      have c0 : wr.cell? ⟨gv, 0, none⟩ = some (W32 V.a) := (bv.cell 0).trans (hvc 0 (by omega))
      have c1 : wr.drew.cell? ⟨gv, 1, none⟩ = some (W32 V.b) := (bv.cell 1).trans (hvc 1 (by omega))
      have c2 : wr.drew.cell? ⟨gv, 2, none⟩ = some (W32 V.c) := (bv.cell 2).trans (hvc 2 (by omega))
      have c3 : wr.drew.cell? ⟨gv, 3, none⟩ = some (W32 V.d) := (bv.cell 3).trans (hvc 3 (by omega))
      have c4 : wr.cell? ⟨gv, 4, none⟩ = some (W32 V.e) := (bv.cell 4).trans (hvc 4 (by omega))
      have c5 : wr.drew.cell? ⟨gv, 5, none⟩ = some (W32 V.f) := (bv.cell 5).trans (hvc 5 (by omega))
      have c6 : wr.drew.cell? ⟨gv, 6, none⟩ = some (W32 V.g) := (bv.cell 6).trans (hvc 6 (by omega))
      have c7 : wr.drew.cell? ⟨gv, 7, none⟩ = some (W32 V.h) := (bv.cell 7).trans (hvc 7 (by omega))
      clear bv hvs hvc o1
      go_wp2_with fail
      refine wp_region_float (Fr (fun _ => False)) [(0, 0), (1, 0), (2, 1), (3, 0), (5, 0), (8, 0), (12, 0), (13, 0), (14, 0), (15, 1), (16, 0), (17, 0), (18, 0), (19, 0), (20, 0), (21, 1), (22, 0), (23, 0), (25, 0), (26, 0), (27, 0), (28, 1), (30, 0), (31, 0), (32, 0), (33, 1), (4, 2), (6, 2), (7, 0), (9, 2), (10, 0), (11, 0), (24, 0), (29, 0), (34, 0), (35, 0)] _ (by kernel_rfl) (by kernel_rfl) (by simp only [List.map_cons, List.map_nil, Array.getD_eq_getD_getElem?, List.getElem?_toArray, List.getElem?_cons_succ, List.getElem?_cons_zero, Option.getD_some]; rfl) rfl (by kernel_rfl) (fun _ _ d _ _ h => by cases d <;> exact h) (Fr.refl _) (fun _ _ _ => Fr.trans) ?_
      replace bs : Blk wr.drew gs ss 70 := bs
      replace bk : Blk wr.drew gk ks 70 := bk
      replace bw : Blk wr.drew gw ws 70 := bw
      replace hb := hb.drew
      have hszd : w.heap.size ≤ wr.drew.heap.size := hsz
      clear c0 c4 hsz
      generalize wr.drew = w4 at *
      repeat (first | (refine wpF_f0 (fun K hK => ?_); go_simp; refine hK _ ?_; clear hK K) | (refine wpF_load1 rfl rfl rfl (by kernel_rfl) (by assumption) (by simp) (fun K hK => ?_); go_simp; refine hK _ ?_; clear hK K) | (refine wpF_loadN rfl rfl rfl (by assumption) (by assumption) (by kernel_rfl) (by kernel_rfl) (by simp) (fun K hK => ?_); go_simp; refine hK _ ?_; clear hK K))
      refine wpF_a2 (fun K hK => ?_); rw [if_pos (by rfl)]
      go_simp
      refine (turned_any V.e 6 (by omega) (by omega) w4).mono ?_
      rintro e w5 ⟨rfl, rfl⟩
      refine hK _ _ (Fr.refl _ _) ?_
      clear hK K
      repeat (first | (refine wpF_f0 (fun K hK => ?_); go_simp; refine hK _ ?_; clear hK K) | (refine wpF_load1 rfl rfl rfl (by kernel_rfl) (by assumption) (by simp) (fun K hK => ?_); go_simp; refine hK _ ?_; clear hK K) | (refine wpF_loadN rfl rfl rfl (by assumption) (by assumption) (by kernel_rfl) (by kernel_rfl) (by simp) (fun K hK => ?_); go_simp; refine hK _ ?_; clear hK K))
      refine wpF_a2 (fun K hK => ?_); rw [if_pos (by rfl)]
      go_simp
      refine (turned_any V.e 11 (by omega) (by omega) w5).mono ?_
      rintro e w6 ⟨rfl, rfl⟩
      refine hK _ _ (Fr.refl _ _) ?_
      clear hK K
      repeat (first | (refine wpF_f0 (fun K hK => ?_); go_simp; refine hK _ ?_; clear hK K) | (refine wpF_load1 rfl rfl rfl (by kernel_rfl) (by assumption) (by simp) (fun K hK => ?_); go_simp; refine hK _ ?_; clear hK K) | (refine wpF_loadN rfl rfl rfl (by assumption) (by assumption) (by kernel_rfl) (by kernel_rfl) (by simp) (fun K hK => ?_); go_simp; refine hK _ ?_; clear hK K))
      refine wpF_a2 (fun K hK => ?_); rw [if_pos (by rfl)]
      go_simp
      refine (turned_any V.e 25 (by omega) (by omega) w6).mono ?_
      rintro e w7 ⟨rfl, rfl⟩
      refine hK _ _ (Fr.refl _ _) ?_
      clear hK K
      repeat (first | (refine wpF_f0 (fun K hK => ?_); go_simp; refine hK _ ?_; clear hK K) | (refine wpF_load1 rfl rfl rfl (by kernel_rfl) (by assumption) (by simp) (fun K hK => ?_); go_simp; refine hK _ ?_; clear hK K) | (refine wpF_loadN rfl rfl rfl (by assumption) (by assumption) (by kernel_rfl) (by kernel_rfl) (by simp) (fun K hK => ?_); go_simp; refine hK _ ?_; clear hK K))
      rw [x_word V kt wt]
      generalize hX : V.x kt wt = X at *
      refine wpF_nil ?_
      go_wp2_with fail
      replace c1 : w7.drew.cell? ⟨gv, 1, none⟩ = some (W32 V.b) := c1
      replace c2 : w7.drew.cell? ⟨gv, 2, none⟩ = some (W32 V.c) := c2
      replace c3 : w7.drew.cell? ⟨gv, 3, none⟩ = some (W32 V.d) := c3
      replace c5 : w7.drew.cell? ⟨gv, 5, none⟩ = some (W32 V.f) := c5
      replace c6 : w7.drew.cell? ⟨gv, 6, none⟩ = some (W32 V.g) := c6
      refine wp_region_float (Fr (fun _ => False)) [(0, 0), (2, 0), (5, 0), (8, 0), (9, 0), (10, 0), (11, 1), (12, 0), (13, 0), (14, 0), (15, 0), (16, 1), (17, 0), (18, 0), (19, 0), (20, 0), (21, 1), (22, 0), (23, 0), (24, 1), (25, 0), (26, 0), (1, 2), (3, 2), (4, 0), (6, 2), (7, 0), (27, 0), (28, 0)] _ (by kernel_rfl) (by kernel_rfl) (by simp only [List.map_cons, List.map_nil, Array.getD_eq_getD_getElem?, List.getElem?_toArray, List.getElem?_cons_succ, List.getElem?_cons_zero, Option.getD_some]; rfl) rfl (by kernel_rfl) (fun _ _ d _ _ h => by cases d <;> exact h) (Fr.refl _) (fun _ _ _ => Fr.trans) ?_
      replace bs : Blk w7.drew gs ss 70 := bs
      replace bk : Blk w7.drew gk ks 70 := bk
      replace bw : Blk w7.drew gw ws 70 := bw
      replace hb := hb.drew
      replace hszd : w.heap.size ≤ w7.drew.heap.size := hszd
      clear c7 ck1 cw1
      generalize w7.drew = w8 at *
      repeat (first | (refine wpF_f0 (fun K hK => ?_); go_simp; refine hK _ ?_; clear hK K) | (refine wpF_load1 rfl rfl rfl (by kernel_rfl) (by assumption) (by simp) (fun K hK => ?_); go_simp; refine hK _ ?_; clear hK K) | (refine wpF_loadN rfl rfl rfl (by assumption) (by assumption) (by kernel_rfl) (by kernel_rfl) (by simp) (fun K hK => ?_); go_simp; refine hK _ ?_; clear hK K))
      refine wpF_a2 (fun K hK => ?_); rw [if_pos (by rfl)]
      go_simp
      refine (turned_any V.a 2 (by omega) (by omega) w8).mono ?_
      rintro e w9 ⟨rfl, rfl⟩
      refine hK _ _ (Fr.refl _ _) ?_
      clear hK K
      repeat (first | (refine wpF_f0 (fun K hK => ?_); go_simp; refine hK _ ?_; clear hK K) | (refine wpF_load1 rfl rfl rfl (by kernel_rfl) (by assumption) (by simp) (fun K hK => ?_); go_simp; refine hK _ ?_; clear hK K) | (refine wpF_loadN rfl rfl rfl (by assumption) (by assumption) (by kernel_rfl) (by kernel_rfl) (by simp) (fun K hK => ?_); go_simp; refine hK _ ?_; clear hK K))
      refine wpF_a2 (fun K hK => ?_); rw [if_pos (by rfl)]
      go_simp
      refine (turned_any V.a 13 (by omega) (by omega) w9).mono ?_
      rintro e w10 ⟨rfl, rfl⟩
      refine hK _ _ (Fr.refl _ _) ?_
      clear hK K
      repeat (first | (refine wpF_f0 (fun K hK => ?_); go_simp; refine hK _ ?_; clear hK K) | (refine wpF_load1 rfl rfl rfl (by kernel_rfl) (by assumption) (by simp) (fun K hK => ?_); go_simp; refine hK _ ?_; clear hK K) | (refine wpF_loadN rfl rfl rfl (by assumption) (by assumption) (by kernel_rfl) (by kernel_rfl) (by simp) (fun K hK => ?_); go_simp; refine hK _ ?_; clear hK K))
      refine wpF_a2 (fun K hK => ?_); rw [if_pos (by rfl)]
      go_simp
      refine (turned_any V.a 22 (by omega) (by omega) w10).mono ?_
      rintro e w11 ⟨rfl, rfl⟩
      refine hK _ _ (Fr.refl _ _) ?_
      clear hK K
      repeat (first | (refine wpF_f0 (fun K hK => ?_); go_simp; refine hK _ ?_; clear hK K) | (refine wpF_load1 rfl rfl rfl (by kernel_rfl) (by assumption) (by simp) (fun K hK => ?_); go_simp; refine hK _ ?_; clear hK K) | (refine wpF_loadN rfl rfl rfl (by assumption) (by assumption) (by kernel_rfl) (by kernel_rfl) (by simp) (fun K hK => ?_); go_simp; refine hK _ ?_; clear hK K))
      rw [y_word' V]
      generalize hY : V.y = Y at *
      refine wpF_nil ?_
      go_wp2_with fail
      replace c1 : w11.drew.cell? ⟨gv, 1, none⟩ = some (W32 V.b) := c1
      replace c2 : w11.drew.cell? ⟨gv, 2, none⟩ = some (W32 V.c) := c2
      replace c3 : w11.drew.cell? ⟨gv, 3, none⟩ = some (W32 V.d) := c3
      replace c5 : w11.drew.cell? ⟨gv, 5, none⟩ = some (W32 V.f) := c5
      replace c6 : w11.drew.cell? ⟨gv, 6, none⟩ = some (W32 V.g) := c6
      refine wp_region_float (Fr (fun _ => False)) [(0, 0), (1, 0), (2, 0), (3, 0), (4, 0), (5, 0), (6, 1), (7, 0), (8, 0), (9, 1), (10, 0), (11, 0), (12, 1), (13, 0), (14, 0), (15, 0), (16, 0), (17, 0), (18, 1), (19, 0), (20, 0), (21, 1), (22, 3), (23, 0)] _ (by kernel_rfl) (by kernel_rfl) (by simp only [List.map_cons, List.map_nil, Array.getD_eq_getD_getElem?, List.getElem?_toArray, List.getElem?_cons_succ, List.getElem?_cons_zero, Option.getD_some]; rfl) rfl (by kernel_rfl) (fun _ _ d _ _ h => by cases d <;> exact h) (Fr.refl _) (fun _ _ _ => Fr.trans) ?_
      replace bs : Blk w11.drew gs ss 70 := bs
      replace bk : Blk w11.drew gk ks 70 := bk
      replace bw : Blk w11.drew gw ws 70 := bw
      replace hb := hb.drew
      replace hszd : w.heap.size ≤ w11.drew.heap.size := hszd
      generalize w11.drew = w12 at *
      repeat (first | (refine wpF_f0 (fun K hK => ?_); go_simp; refine hK _ ?_; clear hK K) | (refine wpF_load1 rfl rfl rfl (by kernel_rfl) (by assumption) (by simp) (fun K hK => ?_); go_simp; refine hK _ ?_; clear hK K) | (refine wpF_loadN rfl rfl rfl (by assumption) (by assumption) (by kernel_rfl) (by kernel_rfl) (by simp) (fun K hK => ?_); go_simp; refine hK _ ?_; clear hK K))
      rw [wadd_u32, wadd_u32]
      refine wpF_a3 (fun K hK => ?_); rw [if_pos (by rfl)]
      refine wp_value (exec_buildSlice (rbuild_v (X + Y) V.a V.b V.c (V.d + X) V.e V.f V.g w12) rfl (by simp [Act.eval])) ?_
      go_simp
      have e8 := V8.round_list V kt wt
      rw [hX, hY] at e8
      rw [← e8]
      have o2 := own_new w12 w.heap.size 70 8 8 (wds (V.round kt wt).list).toArray (wds (V.round kt wt).list) hszd rfl (by omega) (by simp [maxLen]) rfl
      replace bs := bs.alloc (.cells (wds (V.round kt wt).list).toArray 70)
      replace bk := bk.alloc (.cells (wds (V.round kt wt).list).toArray 70)
      replace bw := bw.alloc (.cells (wds (V.round kt wt).list).toArray 70)
      replace hb := hb.alloc hszd (.cells (wds (V.round kt wt).list).toArray 70)
      generalize hwa : w12.alloc (.cells (wds (V.round kt wt).list).toArray 70) = w13 at *
      clear hwa e8
      rw [← hrn] at o2
      refine hK _ _ ?_
      clear hK K
      repeat (first | (refine wpF_f0 (fun K hK => ?_); go_simp; refine hK _ ?_; clear hK K) | (refine wpF_load1 rfl rfl rfl (by kernel_rfl) (by assumption) (by simp) (fun K hK => ?_); go_simp; refine hK _ ?_; clear hK K) | (refine wpF_loadN rfl rfl rfl (by assumption) (by assumption) (by kernel_rfl) (by kernel_rfl) (by simp) (fun K hK => ?_); go_simp; refine hK _ ?_; clear hK K))
      refine wpF_nil ?_
      go_wp2_with fail
      go_roundw
      case rel => exact ⟨t + 1, by go_num, by omega, o2, bs, bk, bw, hb⟩
      case measure => simp [intOf]; omega
      -- >A
    · obtain rfl : t = 64 := by omega
      -- <B
      have hvl : (roundsN (V8.of s) (schedN l 64) 64).list.length = 8 := rfl
      have hbl : addN (roundsN (V8.of s) (schedN l 64) 64).list s 8 = blockN s l := addN_swap hvl hsl
      generalize (roundsN (V8.of s) (schedN l 64) 64).list = vl at *
      obtain ⟨gv, cv, vv, rfl, hgv, hcv, hcm, bv, hvs, hvc⟩ := own_blk o1 (by omega)
      have hBl := Lib.hid hbl
      clear o1 hbl bk bw
      have hgs2 : gs ≠ gv := by omega
      go_wp2_with fail
      try rw [show ((64 : Nat) : Int) = 64 from rfl]
      have hcvI : (8 : Int) ≤ (cv : Int) := by omega
      go_loopw [13] (fun i wr => ∃ t : Nat, i = .int .i64 t ∧ t ≤ 8 ∧ (∃ vv : Array Value, Blk wr gv vv 70 ∧ vv.size = cv ∧ ∀ j, j < 8 → vv[j]? = (wds (addN vl s t))[j]?) ∧ Blk wr gs ss 70 ∧ Below w.heap.size w wr) (fun i _ => 8 - (intOf i).toNat)
      case atStart => exact ⟨0, rfl, Nat.zero_le _, ⟨vv, bv, hvs, hvc⟩, bs, hb⟩
      case round =>
        clear bv hvs hvc bs hb hsz
        obtain ⟨t, rfl, ht, ⟨vv, bv, hvs, hvc⟩, bs, hb⟩ := hrel
        have hal := addN_length vl s t
        rw [hvl] at hal
        by_cases hlt : t < 8
        · have hltI : (t : Int) < 8 := by omega
          have ht0 : (0 : Int) ≤ (t : Int) := by omega
          have cv1 : wr.drew.cell? ⟨gv, t, none⟩ = some (W32 ((addN vl s t).getD t 0)) := (bv.cell t).trans ((hvc t hlt).trans (by rw [← List.getElem?_toArray]; exact wds_get (by omega)))
          have cs1 : wr.drew.cell? ⟨gs, t, none⟩ = some (W32 (s.getD t 0)) := (bs.cell t).trans ((hsc t hlt).trans (by rw [← List.getElem?_toArray]; exact wds_get (by omega)))
          have hst : addN vl s (t + 1) = (addN vl s t).set t ((addN vl s t).getD t 0 + s.getD t 0) := rfl
          generalize (addN vl s t).getD t 0 = y1 at *
          generalize s.getD t 0 = y2 at *
          go_wp2_with fail
          refine wp_region_float (Fr (fun _ => False)) [(0, 0), (1, 0), (2, 0), (3, 0), (4, 0), (5, 1), (6, 0), (7, 0), (8, 0), (9, 1), (10, 0), (11, 0), (12, 3)] _ (by kernel_rfl) (by kernel_rfl) (by simp only [List.map_cons, List.map_nil, Array.getD_eq_getD_getElem?, List.getElem?_toArray, List.getElem?_cons_succ, List.getElem?_cons_zero, Option.getD_some]; rfl) rfl (by kernel_rfl) (fun _ _ d _ _ h => by cases d <;> exact h) (Fr.refl _) (fun _ _ _ => Fr.trans) ?_
          replace bv : Blk wr.drew gv vv 70 := bv
          replace bs : Blk wr.drew gs ss 70 := bs
          replace hb := hb.drew
          have hszd := hb.size
          generalize wr.drew = w4 at *
          repeat (first | (refine wpF_f0 (fun K hK => ?_); go_simp; refine hK _ ?_; clear hK K) | (refine wpF_load1 rfl rfl rfl (by kernel_rfl) (by assumption) (by simp) (fun K hK => ?_); go_simp; refine hK _ ?_; clear hK K) | (refine wpF_loadN rfl rfl rfl (by assumption) (by assumption) (by kernel_rfl) (by kernel_rfl) (by simp) (fun K hK => ?_); go_simp; refine hK _ ?_; clear hK K))
          have hfz := bv.frozen t
          refine wpF_a3 (fun K hK => ?_); rw [if_pos (by rfl)]
          go_simp
          rw [wadd_u32]
          have bv2 := bv.set t (W32 (y1 + y2))
          have bs2 := bs.far (p := ⟨gv, t, none⟩) hgs2 (W32 (y1 + y2))
          have hb2 := hb.trans (((Fr.refl (fun k => k = gv) w4).setCell (p := ⟨gv, t, none⟩) (fun _ => rfl) (W32 (y1 + y2))).below (B := w.heap.size) hszd (fun k hk e => by omega))
          have hvc2 : ∀ j, j < 8 → (vv.setIfInBounds t (W32 (y1 + y2)))[j]? = (wds (addN vl s (t + 1)))[j]? := by
            intro j hj
            rw [hst, Array.getElem?_setIfInBounds, wds, List.getElem?_map, List.getElem?_set]
            by_cases e : t = j
            · subst e
              rw [if_pos rfl, if_pos rfl, if_pos (by omega), if_pos (by omega)]
              rfl
            · rw [if_neg e, if_neg e, hvc j hj, wds, List.getElem?_map]
          clear bv bs hb hszd cv1 cs1 hfz hvc
          generalize w4.setCell ⟨gv, t, none⟩ (W32 (y1 + y2)) = w5 at *
          refine hK _ _ ?_
          clear hK K
          refine wpF_nil ?_
          go_wp2_with fail
          go_roundw
          case rel => exact ⟨t + 1, by go_num, by omega, ⟨_, bv2, by simpa using hvs, hvc2⟩, bs2, hb2⟩
          case measure => simp [intOf]; omega
        · obtain rfl : t = 8 := by omega
          have ho := own_of_cells (base := w.heap.size) (xs := wds (addN vl s 8)) bv hgv hvs hcv hcm (by rw [wds_length]; exact hal) hvc
          rw [hBl.out] at ho
          go_wp2_with fail
          go_ret
          exact ⟨_, rfl, ho, hb⟩
      -- >B
end Go.Proofs.YthocpbkgcpgpdaaDoor.Sha
