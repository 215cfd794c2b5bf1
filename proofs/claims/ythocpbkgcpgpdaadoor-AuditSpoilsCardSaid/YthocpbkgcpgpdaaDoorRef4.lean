/- The document's sha: Sum. -/
import Derived.Test.YthocpbkgcpgpdaaDoorRef3
namespace Go.Proofs.YthocpbkgcpgpdaaDoor.Sha
open Go.RowKit

theorem add64 (u : Nat) : (u : Int) + 64 = ((u + 64 : Nat) : Int) := by omega
theorem pad_mult (l : List UInt8) : ∃ M, (l ++ endN l.length).length = 64 * M := by
  refine ⟨(l.length + 9 + zN l.length) / 64, ?_⟩
  rw [List.length_append, endN_length]
  unfold zN
  omega

set_option maxHeartbeats 3000000 in
set_option maxRecDepth 100000 in
theorem rsum_any {w : World} (v : Value) (l : List UInt8) (hv : Rd w v l) (hm : l.length < 100000000000) :
    Calls Tryd.prog 33 #[v] w fun e w' => ∃ v', e = .returned v' ∧ w'.ownsRow w.heap.size 5 1 v' 32 (bts (digest l)) ∧ Below w.heap.size w w' := by
  go_enter Tryd.func33, Tryd.ntmps33
  go_wp2_with fail
  refine (rstart_any w).mono ?_
  rintro e w1 ⟨vs, rfl, hs, hb⟩
  replace hv := hv.below hb
  go_wp2_with fail
  refine (filled_any v l hv (by omega)).mono ?_
  rintro e w2 ⟨vf, rfl, hf, hb2⟩
  replace hs := own_fr hs (Fr.of_below hb2 (fun _ => False)) (fun _ _ h => h)
  replace hf := own_base hf hb.size
  replace hb := hb.trans (hb2.mono hb.size)
  obtain ⟨M, hM⟩ := pad_mult l
  have hdg : digest l = bytesN (hashN (l ++ endN l.length) ((l ++ endN l.length).length / 64)) 8 := rfl
  have hEl := endN_length l.length
  have hz := zN_le l.length
  rw [← List.length_append] at hf
  have hFm : (l ++ endN l.length).length < 200000000000 := by rw [List.length_append]; omega
  have hFp : 0 < (l ++ endN l.length).length := by rw [List.length_append]; omega
  generalize l ++ endN l.length = F at *
  have HDG := Lib.hid hdg
  have HM := Lib.hid hM
  clear hdg hEl hz hb2 hv hM
  obtain ⟨A, cf, rfl⟩ := own_form hf
  have hF := Rd.of_own hf
  clear hf
  obtain ⟨bf, of, rfl, -⟩ := hF.at (j := 0) hFp
  have hfc := rd_cap hF hFp
  have hfcI : (F.length : Int) ≤ (cf : Int) := by omega
  go_wp2_with fail
  go_loopw [3, 5] (fun sv i wr => ∃ k : Nat, i = .int .i64 (64 * k : Nat) ∧ k ≤ M ∧ wr.ownsRow w.heap.size 70 1 sv 8 (wds (hashN F k)) ∧ Rd wr (.slice (some ⟨bf, of, none⟩) F.length cf) F ∧ Below w.heap.size w wr) (fun _ i _ => F.length - (intOf i).toNat)
  case atStart => exact ⟨0, rfl, Nat.zero_le _, hs, hF, hb⟩
  case round =>
    clear hs hF hb
    obtain ⟨k, rfl, hk, hs, hF, hb⟩ := hrel
    have hsz := hb.size
    have hM := HM.out
    by_cases hlt : k < M
    · have hdr : Rd wr (.slice (some ⟨bf, of + 64 * k, none⟩) 64 (cf - 64 * k)) ((F.drop (64 * k)).take 64) := by
        have hl64 : ((F.drop (64 * k)).take 64).length = 64 := by rw [List.length_take, List.length_drop]; omega
        have := rd_part (s := (F.drop (64 * k)).take 64) hF (k := 64 * k) (by omega) (fun j hj => by rw [List.getElem?_take, if_pos (by omega), List.getElem?_drop]) (by omega)
        rwa [hl64] at this
      have hl64 : ((F.drop (64 * k)).take 64).length = 64 := by rw [List.length_take, List.length_drop]; omega
      have hnx : hashN F (k + 1) = blockN (hashN F k) ((F.drop (64 * k)).take 64) := rfl
      have hu1 : 64 * k + 64 = 64 * (k + 1) := by omega
      have huF : 64 * k + 64 ≤ F.length := by omega
      have huc : 64 * k + 64 ≤ cf := by omega
      generalize (F.drop (64 * k)).take 64 = blk at *
      generalize hu : 64 * k = u at *
      have huI : (u : Int) < (F.length : Int) := by omega
      have hu0 : (0 : Int) ≤ (u : Int) := by omega
      have HU := Lib.hid hu
      have HU1 := Lib.hid hu1
      clear hu hu1 hM
      have hul : u ≤ u + 64 := by omega
      have huc2 : u < cf := by omega
      have huB : u < 200000000000 := by omega
      have HA := Lib.hid hul
      have HB := Lib.hid huc
      have HC := Lib.hid huF
      have HN := Lib.hid hnx
      have HLT := Lib.hid hlt
      have HL := Lib.hid hl64
      clear hul huc huF hnx hl64 hfc hFp hFm hlt
      go_wp2_with (refine wpList_value rfl (exec_slice_lh (L := u) (H := u + 64) rfl rfl rfl rfl rfl (add64 u) HA.out HB.out huc2 Tryd.underlying28 sizeByte _) ?_)
      refine (rblock_any _ _ hs _ _ hdr HL.out).mono ?_
      rintro e w3 ⟨v3, rfl, hs3, hb3⟩
      rw [← HN.out] at hs3
      have hs3 := own_base hs3 hsz
      have hF3 := hF.below hb3
      have hb4 := hb.trans (hb3.mono hsz)
      clear hs hF hb hb3 hdr
      go_wp2_with fail
      go_roundw
      case rel => exact ⟨k + 1, by rw [← HU1.out, Int.natCast_add]; rfl, by have := HLT.out; omega, hs3, hF3, hb4⟩
      case measure => simp [intOf]; omega
    · obtain rfl : k = M := by omega
      have hkd : F.length / 64 = k := by omega
      rw [hkd] at HDG
      have huI : decide (((64 * k : Nat) : Int) < (F.length : Int)) = false := decide_eq_false (by omega)
      rw [← hM]
      clear hM hkd huI
      generalize hashN F k = hs' at *
      obtain ⟨gs, cs, ss, rfl, hgs, hcs, -, bs, hss, hsc⟩ := own_blk hs (by omega)
      have hsl : hs'.length = 8 := by have := hs.1; rw [wds_length] at this; omega
      clear hs hF
      go_wp2_with fail
      go_loopw [6, 7] (fun o i wr => ∃ t : Nat, i = .int .i64 t ∧ t ≤ 8 ∧ wr.ownsRow w.heap.size 5 1 o (4 * t) (bts (bytesN hs' t)) ∧ Blk wr gs ss 70 ∧ Below w.heap.size w wr) (fun _ i _ => 8 - (intOf i).toNat)
      case atStart => exact ⟨0, rfl, Nat.zero_le _, World.ownsRow_nil _ _ _ _, bs, hb⟩
      case round =>
        clear bs hb hsz
        obtain ⟨t, rfl, ht, ho, bs, hb⟩ := hrel
        have hsz := hb.size
        by_cases hlt : t < 8
        · have hltI : (t : Int) < 8 := by omega
          have ht0 : (0 : Int) ≤ (t : Int) := by omega
          have hcsI : (8 : Int) ≤ (cs : Int) := by omega
          have c0 : wr.cell? ⟨gs, t, none⟩ = some (W32 (hs'.getD t 0)) := (bs.cell t).trans ((hsc t hlt).trans (by rw [← List.getElem?_toArray]; exact wds_get (by omega)))
          have hbn : bytesN hs' (t + 1) = bytesN hs' t ++ byte4 (hs'.getD t 0) := rfl
          generalize hs'.getD t 0 = x at *
          obtain ⟨a, b, c, d, e1, e2, e3, e4, h4⟩ := byte4_of x
          rw [h4] at hbn
          have hbn2 : bytesN hs' (t + 1) = bytesN hs' t ++ [a] ++ [b] ++ [c] ++ [d] := by rw [hbn]; simp
          clear hbn h4
          go_wp2_with (first
            | (refine wpList_push (x := [a]) (l := bytesN hs' t) (base := w.heap.size) rfl rfl rfl (by simp [Act.eval, e1]) (build1 a _) rfl rfl (by simp) (by simp) Tryd.underlying28 infoByte rfl rfl rfl ho (by omega) hsz (fun v1 w1 o1 f hno => ?_)
               have c1 := f.cell c0 (fun e => own_blk_ne ho bs (by decide) e)
               replace bs := bs.fr f (fun e => own_blk_ne ho bs (by decide) e)
               replace hb := below_own hb ho f (Nat.le_refl _) hsz
               replace hsz := hb.size
               clear f hno)
            | (refine wpList_push (x := [b]) (l := bytesN hs' t ++ [a]) (base := w.heap.size) rfl rfl rfl (by simp [Act.eval, e2]) (build1 b _) rfl rfl (by simp) (by simp) Tryd.underlying28 infoByte rfl rfl rfl o1 (by omega) hsz (fun v2 w2 o2 f hno => ?_)
               have c2 := f.cell c1 (fun e => own_blk_ne o1 bs (by decide) e)
               replace bs := bs.fr f (fun e => own_blk_ne o1 bs (by decide) e)
               replace hb := below_own hb o1 f (Nat.le_refl _) hsz
               replace hsz := hb.size
               clear f hno)
            | (refine wpList_push (x := [c]) (l := bytesN hs' t ++ [a] ++ [b]) (base := w.heap.size) rfl rfl rfl (by simp [Act.eval, e3]) (build1 c _) rfl rfl (by simp) (by simp) Tryd.underlying28 infoByte rfl rfl rfl o2 (by omega) hsz (fun v3 w3 o3 f hno => ?_)
               have c3 := f.cell c2 (fun e => own_blk_ne o2 bs (by decide) e)
               replace bs := bs.fr f (fun e => own_blk_ne o2 bs (by decide) e)
               replace hb := below_own hb o2 f (Nat.le_refl _) hsz
               replace hsz := hb.size
               clear f hno)
            | (refine wpList_push (x := [d]) (l := bytesN hs' t ++ [a] ++ [b] ++ [c]) (base := w.heap.size) rfl rfl rfl (by simp [Act.eval, e4]) (build1 d _) rfl rfl (by simp) (by simp) Tryd.underlying28 infoByte rfl rfl rfl o3 (by omega) hsz (fun v4 w4 o4 f hno => ?_)
               have c4 := f.cell c3 (fun e => own_blk_ne o3 bs (by decide) e)
               replace bs := bs.fr f (fun e => own_blk_ne o3 bs (by decide) e)
               replace hb := below_own hb o3 f (Nat.le_refl _) hsz
               replace hsz := hb.size
               clear f hno))
          go_roundw
          case rel =>
            refine ⟨t + 1, by go_num, by omega, ?_, bs, hb⟩
            rw [hbn2]
            exact o4
          case measure => simp [intOf]; omega
        · obtain rfl : t = 8 := by omega
          rw [← HDG.out] at ho
          go_wp2_with fail
          go_ret
          exact ⟨_, rfl, ho, hb⟩
end Go.Proofs.YthocpbkgcpgpdaaDoor.Sha
