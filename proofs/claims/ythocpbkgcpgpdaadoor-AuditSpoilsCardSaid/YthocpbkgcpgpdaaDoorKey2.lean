/- bytes.Replace of noughts by a nought and 255. -/
import Derived.Test.YthocpbkgcpgpdaaDoorKey1
import Derived.Deep.CutBlock
import Derived.Deep.CutRange
namespace Go.Proofs.YthocpbkgcpgpdaaDoor
open Go.RowKit

/-- One round, in lists. -/
theorem esc_step {l : List UInt8} {st k : Nat} (hk : (l.drop st)[k]? = some 0) (h0 : ((l.drop st).take k).count 0 = 0) :
    l.take (st + k + 1) = l.take st ++ (l.drop st).take k ++ [0] ∧ esc (l.take (st + k + 1)) = esc (l.take st) ++ (l.drop st).take k ++ [0, 255] ∧ (l.take (st + k + 1)).count 0 = (l.take st).count 0 + 1 := by
  have h1 : l.take (st + k + 1) = l.take st ++ (l.drop st).take k ++ [0] := by
    rw [Nat.add_assoc, List.take_add, List.take_add_one, hk, List.append_assoc]; rfl
  refine ⟨h1, ?_, ?_⟩
  · rw [h1, esc_append, esc_append, esc_none h0]; rfl
  · rw [h1, List.count_append, List.count_append, h0]; rfl

theorem splice_fst {cs : List Value} {a b : List Value} {L : Nat} (h : cs.take L = a) (hL : a.length = L) : (cs.take L ++ b ++ cs.drop (L + b.length)).take (L + b.length) = a ++ b := by
  subst h
  rw [List.take_append_of_le_length (by rw [List.length_append, hL]; omega), List.take_of_length_le (by rw [List.length_append, hL]; omega)]

set_option maxHeartbeats 3000000 in
set_option maxRecDepth 100000 in
theorem replace_any {w : World} (v vo vn : Value) (l : List UInt8) (hv : Rd w v l) (ho : Rd w vo [0]) (hn : Rd w vn [0, 255]) (hm : l.length < 1000000) :
    Calls Tryd.prog 61 #[v, vo, vn, .int .i64 (-1)] w fun e w' => ∃ v', e = .returned v' ∧ w'.ownsRow w.heap.size 5 1 v' (esc l).length (bts (esc l)) ∧ Below w.heap.size w w' := by
  obtain ⟨A, c, rfl⟩ := hv.slice
  obtain ⟨Ao, co, rfl⟩ := ho.slice
  obtain ⟨An, cn, rfl⟩ := hn.slice
  rw [show ([0] : List UInt8).length = 1 from rfl] at ho ⊢
  rw [show ([0, 255] : List UInt8).length = 2 from rfl] at hn ⊢
  have hel := esc_length l
  have hcl : l.count 0 ≤ l.length := List.count_le_length
  go_enter Tryd.func61, Tryd.ntmps61
  go_wp2_with fail
  refine (count1_any _ _ l 0 hv ho).mono ?_
  rintro e w1 ⟨rfl, rfl⟩
  by_cases h0 : l.count 0 = 0
  · rw [h0] at hel ⊢
    have hen := Lib.hid (esc_none h0)
    clear h0 hcl hel
    go_wp2_with (refine wpList_appRd (base := w1.heap.size) (l := []) (n := 0) rfl rfl Tryd.underlying28 infoByte rfl rfl rfl (World.ownsRow_nil _ _ _ _) hv (by omega) (Nat.le_refl _) (fun v6 w6 o6 g6 _ => ?_))
    rw [List.nil_append, Nat.zero_add] at o6
    have hB := g6.below (B := w1.heap.size) (Nat.le_refl _) (fun k _ e => by cases e)
    go_ret
    rw [hen.out]
    exact ⟨_, rfl, o6, hB⟩
  have hcn : ((l.count 0 : Nat) : Int) ≠ 0 := by omega
  have hcb : (((l.count 0 : Nat) : Int) == 0) = false := beq_eq_false_iff_ne.2 hcn
  obtain ⟨m, hm0⟩ : ∃ m, m = l.count 0 := ⟨_, rfl⟩
  rw [← hm0] at hel hcl h0 hcn hcb ⊢
  have HM := Lib.hid hm0
  have HEL := Lib.hid hel
  have hmI : (m : Int) < 1000000 := by omega
  have hm0I : (0 : Int) ≤ (m : Int) := by omega
  have Hm1 : Hid (0 < m) := Lib.hid (Nat.pos_of_ne_zero h0)
  have hlI : (l.length : Int) < 1000000 := by omega
  clear hm0 hel
  go_upto_region 8 with fail
  obtain ⟨N, hN⟩ : ∃ N, N = l.length + m := ⟨_, rfl⟩
  have HN := Lib.hid hN
  have hNI : (N : Int) < 2000000 := by omega
  clear hN
  go_upto_region 9 with (refine wpList_makeN (c := N) rfl rfl rfl rfl (by have := HN.out; omega) (by have := HN.out; omega) Tryd.underlying28 infoByte (by omega) (by simp only [maxLen]; omega) (fun g w2 zc hzc hb hg f => ?_))
  have hB := f.below (B := w1.heap.size) (Nat.le_refl _) (fun k _ e => e)
  have hvl := hv.lt
  have hol := ho.lt (by simp)
  have hnl := hn.lt (by simp)
  replace hv := hv.fr f (fun _ _ _ h => h)
  replace ho := ho.fr f (fun _ _ _ h => h)
  replace hn := hn.fr f (fun _ _ _ h => h)
  have Hvl : Hid (l ≠ [] → ∀ k, (Value.slice A l.length c).ownBlock = some k → ¬ k = g) := Lib.hid fun hl k hk e => by have := hvl hl k hk; omega
  have Hol : Hid (∀ k, (Value.slice Ao 1 co).ownBlock = some k → ¬ k = g) := Lib.hid fun k hk e => by have := hol k hk; omega
  have Hnl : Hid (∀ k, (Value.slice An 2 cn).ownBlock = some k → ¬ k = g) := Lib.hid fun k hk e => by have := hnl k hk; omega
  have f9 := Fr.refl (fun k => k = g) w2
  clear hvl hol hnl h0 hcn hcb
  go_wp2_with fail
  go_loopw [11, 12, 13, 49] (fun wv stv _ rv wr => ∃ (r st W : Nat) (cs : Array Value), rv = .int .i64 r ∧ r ≤ m ∧ stv = .int .i64 st ∧ st ≤ l.length ∧ (l.take st).count 0 = r ∧ wv = .int .i64 W ∧ W = st + r ∧ Blk wr g cs 5 ∧ cs.size = N ∧ cs.toList.take W = bts (esc (l.take st)) ∧ Fr (fun k => k = g) w2 wr) (fun _ _ _ rv _ => m - (intOf rv).toNat)
  case atStart => exact ⟨0, 0, 0, zc, rfl, Nat.zero_le _, rfl, Nat.zero_le _, rfl, rfl, rfl, hb, hzc, rfl, f9⟩
  case round =>
    obtain ⟨r, st, W, cs, rfl, hr, rfl, hst, hcr, rfl, hW, hbr, hcs, hpre, fr⟩ := hrel
    have hcnt : (l.take st).count 0 + (l.drop st).count 0 = m := by rw [← List.count_append, List.take_append_drop]; exact HM.out.symm
    have hvr := hv.fr fr Hvl.out
    have hor := ho.fr fr (fun _ => Hol.out)
    have hnr := hn.fr fr (fun _ => Hnl.out)
    have hstI : (st : Int) < 1000000 := by omega
    have hWI : (W : Int) < 2000000 := by have := HN.out; omega
    by_cases hlt : r < m
    · have hltI : (r : Int) < (m : Int) := by omega
      obtain ⟨k, hk1, hk2, hk3, hk4⟩ := indexByte_some (l := l.drop st) (c := 0) (by omega)
      obtain ⟨e1, e2, e3⟩ := esc_step hk3 hk4
      rw [List.length_drop] at hk2
      obtain ⟨pc, hpc⟩ : ∃ pc, pc = (l.take (st + k)).drop st := ⟨_, rfl⟩
      have hpk : pc.length = k := by rw [hpc, List.length_drop, List.length_take]; omega
      have hpe : (l.drop st).take k = pc := by rw [hpc, List.drop_take]; congr 1; omega
      rw [hpe] at e1 e2
      have HK1 := Lib.hid hk1
      have HPC := Lib.hid hpc
      have HPK := Lib.hid hpk
      have E1 := Lib.hid e1
      have E2 := Lib.hid e2
      have E3 := Lib.hid e3
      have HCR := Lib.hid hcr
      have HW := Lib.hid hW
      have HPRE := Lib.hid hpre
      have HCS := Lib.hid hcs
      have hkI : (k : Int) < 1000000 := by omega
      have hle : W + k + 2 ≤ N := by
        have := HN.out
        have h2 : (l.drop (st + k + 1)).count 0 ≤ (l.drop (st + k + 1)).length := List.count_le_length
        have h3 : (l.take (st + k + 1)).count 0 + (l.drop (st + k + 1)).count 0 = m := by rw [← List.count_append, List.take_append_drop]; exact HM.out.symm
        omega
      clear hk1 hk3 hk4 e1 e2 e3 hpc hpk hpe hcr hW hpre hcs hcnt hb ho hn hv
      go_wp2_with (refine wpList_rd_l rfl rfl rfl rfl hvr (L := st) rfl (by omega) Tryd.underlying28 infoByte1 (fun v1 r1 _ _ => ?_))
      refine (index1_any v1 _ (l.drop st) 0 r1 hor).mono ?_
      rintro e w3 ⟨rfl, rfl⟩
      rw [HK1.out]
      clear r1
      go_wp2_with fail
      refine wp_region_float (Fr (fun _ => False)) [(0, 0), (1, 0), (2, 0), (3, 0), (4, 0), (5, 0), (6, 0), (7, 0), (8, 3), (9, 0), (10, 0)] _ (by kernel_rfl) (by kernel_rfl) (by simp only [List.map_cons, List.map_nil, Array.getD_eq_getD_getElem?, List.getElem?_toArray, List.getElem?_cons_succ, List.getElem?_cons_zero, Option.getD_some]; rfl) rfl (by kernel_rfl) (fun _ _ d _ _ h => by cases d <;> exact h) (Fr.refl _) (fun _ _ _ => Fr.trans) ?_
      replace hbr := hbr.drew
      replace hvr := hvr.drew
      replace hnr := hnr.drew
      replace fr := fr.drew
      generalize w3.drew = w4 at *
      repeat (first | (refine wpF_f0 (fun K hK => ?_); go_simp; refine hK _ ?_; clear hK K) | (refine wpF_load1 rfl rfl rfl (by kernel_rfl) (by assumption) (by simp) (fun K hK => ?_); go_simp; refine hK _ ?_; clear hK K) | (refine wpF_loadN rfl rfl rfl (by assumption) (by assumption) (by kernel_rfl) (by kernel_rfl) (by simp) (fun K hK => ?_); go_simp; refine hK _ ?_; clear hK K))
      refine wpF_f0v (exec_tail (g := g) (N := N) (L := W) rfl rfl rfl rfl (by omega) Tryd.underlying28 infoByte1) rfl (fun K hK => ?_)
      go_simp
      refine hK _ ?_
      clear hK K
      repeat (first | (refine wpF_f0 (fun K hK => ?_); go_simp; refine hK _ ?_; clear hK K) | (refine wpF_load1 rfl rfl rfl (by kernel_rfl) (by assumption) (by simp) (fun K hK => ?_); go_simp; refine hK _ ?_; clear hK K) | (refine wpF_loadN rfl rfl rfl (by assumption) (by assumption) (by kernel_rfl) (by kernel_rfl) (by simp) (fun K hK => ?_); go_simp; refine hK _ ?_; clear hK K))
      refine wpF_rd_lh rfl rfl rfl rfl rfl hvr (L := st) (H := st + k) rfl (by omega) (by omega) (by omega) Tryd.underlying28 infoByte1 (fun K va ra oa na hK => ?_)
      rw [← HPC.out] at ra
      go_simp
      refine hK _ ?_
      clear hK K
      refine wpF_a3 (fun K hK => ?_); rw [if_pos (by rfl)]
      refine wp_copy_tailn (g := g) (N := N) (L := W) (n := k) rfl Tryd.underlying28 infoByte1 rfl rfl ra HPK.out (by omega) hbr HCS.out (fun w5 cs5 b5 s5 p5 f5 => ?_)
      go_simp
      refine hK _ _ ?_
      clear hK K
      rw [HPRE.out] at p5
      repeat (first | (refine wpF_f0 (fun K hK => ?_); go_simp; refine hK _ ?_; clear hK K) | (refine wpF_load1 rfl rfl rfl (by kernel_rfl) (by assumption) (by simp) (fun K hK => ?_); go_simp; refine hK _ ?_; clear hK K) | (refine wpF_loadN rfl rfl rfl (by assumption) (by assumption) (by kernel_rfl) (by kernel_rfl) (by simp) (fun K hK => ?_); go_simp; refine hK _ ?_; clear hK K))
      refine wpF_nil ?_
      have hw1 : IntKind.i64.wrap ((W : Int) + (k : Int)) = ((W + k : Nat) : Int) := wrap_nat (by omega) (by omega)
      rw [hw1]
      replace hnr := hnr.fr f5 (fun _ => Hnl.out)
      have HP5 := Lib.hid p5
      have HS5 := Lib.hid s5
      obtain ⟨W2, hW2⟩ : ∃ W2, W2 = W + k := ⟨_, rfl⟩
      rw [← hW2]
      have HW2 := Lib.hid hW2
      have hle2 : W2 + 2 ≤ N := by omega
      have hW2I : (W2 : Int) < 2000000 := by omega
      clear hw1 p5 s5 hW2 ra oa na hbr hvr
      go_wp2_with (first
        | (refine wpList_value rfl (exec_tail (g := g) (N := N) (L := W2) rfl rfl rfl rfl (by omega) Tryd.underlying28 infoByte1 _) ?_)
        | (refine wpList_copy_tailn (g := g) (N := N) (L := W2) (n := 2) rfl rfl Tryd.underlying28 infoByte1 rfl rfl hnr rfl (by omega) b5 HS5.out (fun w6 cs6 b6 s6 p6 f6 => ?_); have HS6 := Lib.hid s6; have HP6 := Lib.hid p6; clear s6 p6 b5 hnr))
      go_roundw
      case rel =>
        refine ⟨r + 1, st + k + 1, W2 + 2, cs6, by go_num, hlt, by go_num, by omega, by rw [E3.out, HCR.out], by go_num, by have := HW2.out; have := HW.out; omega, b6, HS6.out, ?_, (fr.trans f5).trans f6⟩
        rw [HP6.out, E2.out, bts_append, bts_append, HW2.out, HP5.out]
      case measure => simp [intOf]; omega
    · obtain rfl : r = m := by omega
      have hz : (l.drop st).count 0 = 0 := by omega
      have hes : esc l = esc (l.take st) ++ l.drop st := by
        have h1 := esc_append (l.take st) (l.drop st)
        rw [List.take_append_drop, esc_none hz] at h1
        exact h1
      have hll : (l.drop st).length = l.length - st := List.length_drop
      have HES := Lib.hid hes
      have HLL := Lib.hid hll
      have HPRE := Lib.hid hpre
      have HCS := Lib.hid hcs
      have hWN : W + (l.length - st) = N := by have := HN.out; omega
      have HWN := Lib.hid hWN
      have hg1 : w1.heap.size ≤ g := hg
      have hfB := fr.below (B := w1.heap.size) f.size (fun k hk e => by omega)
      clear hz hes hll hpre hcs hcr hW hlt hcnt hWN hor hnr hv ho hn
      go_wp2_with fail
      refine wp_region_float (Fr (fun _ => False)) [(0, 0), (1, 0), (2, 0), (3, 0), (4, 0), (5, 0), (6, 0), (7, 3), (8, 0), (9, 0)] _ (by kernel_rfl) (by kernel_rfl) (by simp only [List.map_cons, List.map_nil, Array.getD_eq_getD_getElem?, List.getElem?_toArray, List.getElem?_cons_succ, List.getElem?_cons_zero, Option.getD_some]; rfl) rfl (by kernel_rfl) (fun _ _ d _ _ h => by cases d <;> exact h) (Fr.refl _) (fun _ _ _ => Fr.trans) ?_
      replace hbr := hbr.drew
      replace hvr := hvr.drew
      replace hfB := hfB.drew
      generalize wr.drew = w4 at *
      repeat (first | (refine wpF_f0 (fun K hK => ?_); go_simp; refine hK _ ?_; clear hK K) | (refine wpF_load1 rfl rfl rfl (by kernel_rfl) (by assumption) (by simp) (fun K hK => ?_); go_simp; refine hK _ ?_; clear hK K) | (refine wpF_loadN rfl rfl rfl (by assumption) (by assumption) (by kernel_rfl) (by kernel_rfl) (by simp) (fun K hK => ?_); go_simp; refine hK _ ?_; clear hK K))
      refine wpF_f0v (exec_tail (g := g) (N := N) (L := W) rfl rfl rfl rfl (by have := HWN.out; omega) Tryd.underlying28 infoByte1) rfl (fun K hK => ?_)
      go_simp
      refine hK _ ?_
      clear hK K
      (refine wpF_f0 (fun K hK => ?_); go_simp; refine hK _ ?_; clear hK K)
      (refine wpF_f0 (fun K hK => ?_); go_simp; refine hK _ ?_; clear hK K)
      refine wpF_rd_l rfl rfl rfl rfl hvr (L := st) rfl (by omega) Tryd.underlying28 infoByte1 (fun K va ra oa na hK => ?_)
      go_simp
      refine hK _ ?_
      clear hK K
      refine wpF_a3 (fun K hK => ?_); rw [if_pos (by rfl)]
      refine wp_copy_tailn (g := g) (N := N) (L := W) (n := l.length - st) rfl Tryd.underlying28 infoByte1 rfl rfl ra HLL.out (by have := HWN.out; omega) hbr HCS.out (fun w5 cs5 b5 s5 p5 f5 => ?_)
      go_simp
      refine hK _ _ ?_
      clear hK K
      rw [HPRE.out] at p5
      repeat (first | (refine wpF_f0 (fun K hK => ?_); go_simp; refine hK _ ?_; clear hK K) | (refine wpF_load1 rfl rfl rfl (by kernel_rfl) (by assumption) (by simp) (fun K hK => ?_); go_simp; refine hK _ ?_; clear hK K) | (refine wpF_loadN rfl rfl rfl (by assumption) (by assumption) (by kernel_rfl) (by kernel_rfl) (by simp) (fun K hK => ?_); go_simp; refine hK _ ?_; clear hK K))
      refine wpF_nil ?_
      have hw1 : IntKind.i64.wrap ((W : Int) + ((l.length - st : Nat) : Int)) = (N : Int) := wrap_nat (by have := HWN.out; omega) (by omega)
      rw [hw1]
      have HP5 := Lib.hid p5
      have HS5 := Lib.hid s5
      have hN0 : 0 < N := by have := HN.out; have := Hm1.out; omega
      replace hfB := hfB.trans (f5.below (B := w1.heap.size) (by have := hfB.size; have := hB.size; omega) (fun k hk e => by omega))
      clear hw1 p5 s5 ra oa na hbr hvr
      go_wp2_with (refine wpList_value rfl (exec_slice_lh (L := 0) (H := N) rfl rfl rfl rfl rfl rfl (Nat.zero_le _) (Nat.le_refl _) hN0 Tryd.underlying28 infoByte1 _) ?_)
      go_ret
      have hlen : (esc l).length = N := by rw [HEL.out, HN.out]
      rw [hlen]
      refine ⟨_, rfl, own_of_cells (g := g) b5 hg1 HS5.out (Nat.le_refl _) (by simp only [maxLen]; omega) (by rw [bts_length, hlen]) (fun j hj => ?_), hB.trans hfB⟩
      have h1 : cs5.toList.take N = bts (esc l) := by rw [HES.out, bts_append, ← HP5.out, HWN.out]
      rw [← h1, List.getElem?_take, if_pos hj, Array.getElem?_toList]
end Go.Proofs.YthocpbkgcpgpdaaDoor
