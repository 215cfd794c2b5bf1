/- key: part, Decode. -/
import Derived.Test.YthocpbkgcpgpdaaDoorKey5
namespace Go.Proofs.YthocpbkgcpgpdaaDoor
open Go.RowKit

theorem build_row (A : Option Addr) (n c : Nat) (w : World) : (Instr.buildSlice 56 1 #[(0, .slice A n c)]).run Tryd.prog w = .ok (.slice (some ⟨w.heap.size, 0, none⟩) 1 1) (w.alloc (.cells #[.slice A n c] 28)) := by kernel_rfl
theorem infoRow : (Tryd.prog.info? 28).map (fun i => (i.zero, i.size, i.bytes)) = some (some (.slice none 0 0), 1, 24) := by kernel_rfl
def PartPost (B : Nat) (w : World) (v : Value) (r : Option (List UInt8 × List UInt8)) (e : Ending) (w' : World) : Prop :=
  match r with
  | none => e = .returned (.tuple #[.slice none 0 0, .slice none 0 0, .bool false]) ∧ Below B w w'
  | some (p, r) => ∃ vp vr, e = .returned (.tuple #[vp, vr, .bool true]) ∧ w'.ownsRow B 5 1 vp p.length (bts p) ∧ Rd w' vr r ∧ vr.ownBlock = v.ownBlock ∧ Below B w w'

set_option maxHeartbeats 3000000 in
set_option maxRecDepth 100000 in
theorem part_any {w : World} (v : Value) (b : List UInt8) (hv : Rd w v b) (hm : b.length < 1000000) :
    Calls Tryd.prog 53 #[v] w (PartPost w.heap.size w v (partM [] b)) := by
  have hvl := hv.lt
  generalize hR : partM [] b = R
  have HR := Lib.hid hR
  clear hR
  generalize hB0 : w.heap.size = B at *
  have HB := Lib.hid hB0
  clear hB0
  generalize hO : v.ownBlock = O at *
  have HO := Lib.hid hO
  clear hO
  have hpp : PartPost B w v R = PartPost B w v R := rfl
  go_enter Tryd.func53, Tryd.ntmps53
  go_wp2_with fail
  go_loopw [0, 5, 6] (fun bv o _ wr => ∃ (b' acc : List UInt8), Rd wr bv b' ∧ bv.ownBlock = O ∧ b'.length ≤ b.length ∧ partM acc b' = R ∧ wr.ownsRow B 5 1 o acc.length (bts acc) ∧ acc.length + b'.length ≤ b.length ∧ Below B w wr ∧ (b' ≠ [] → ∀ k, O = some k → k < B)) (fun bv _ _ _ => slen bv)
  case atStart => exact ⟨b, [], hv, HO.out, Nat.le_refl _, HR.out, World.ownsRow_nil _ _ _ _, by simp, Below.refl _ _, hvl⟩
  case round =>
    obtain ⟨b', acc, hb', hO', hbl, hp, ho, hal, hB, hlt⟩ := hrel
    have hs := hB.size
    rw [HB.out] at hs
    obtain ⟨A, c, rfl⟩ := hb'.slice
    have hmx := hb'.max
    have HP := Lib.hid hp
    have HO' := Lib.hid hO'
    have HLT := Lib.hid hlt
    obtain ⟨Ao, co, rfl⟩ := own_form ho
    clear hp hO' hlt
    go_wp2_with fail
    refine (indexByte_any _ b' 0 hb').mono ?_
    rintro e w1 ⟨rfl, rfl⟩
    by_cases h0 : b'.count 0 = 0
    · have hn := indexByte_none h0
      have hR2 : R = none := by rw [← HP.out]; exact partM_none b' acc h0
      rw [hn]
      clear h0 hn
      go_wp2_with fail
      refine bodyPost_ret (v := .tuple #[.slice none 0 0, .slice none 0 0, .bool false]) (by simp [results, Tryd.results53, go_sem]) rfl ?_
      subst hR2
      exact ⟨rfl, hB⟩
    obtain ⟨k, hk1, hk2, hk3, hk4⟩ := indexByte_some (l := b') (c := 0) (by omega)
    rw [hk1]
    have hsplit : b' = b'.take k ++ b'.drop k := (List.take_append_drop k b').symm
    have hdk : b'.drop k = 0 :: b'.drop (k + 1) := by
      have h1 : b'[k]'hk2 = 0 := by rw [List.getElem?_eq_getElem hk2] at hk3; exact Option.some.inj hk3
      rw [List.drop_eq_getElem_cons hk2, h1]
    have hpk : R = partM (acc ++ b'.take k) (0 :: b'.drop (k + 1)) := by rw [← HP.out, ← hdk, ← partM_pre _ _ _ hk4, ← hsplit]
    have hkI : (k : Int) < (b'.length : Int) := by omega
    have hk0 : (0 : Int) ≤ (k : Int) := by omega
    have hklen : (b'.take k).length = k := by rw [List.length_take]; omega
    have HPK := Lib.hid hpk
    have HKL := Lib.hid hklen
    clear hk1 hk3 hk4 hsplit hdk hpk h0 hklen
    by_cases he : k + 1 = b'.length
    · have hR2 : R = none := by rw [HPK.out, he, List.drop_length]; rfl
      have heb : ((k : Int) + 1 == (b'.length : Int)) = true := by rw [beq_iff_eq]; omega
      clear he
      go_wp2_with fail
      refine bodyPost_ret (v := .tuple #[.slice none 0 0, .slice none 0 0, .bool false]) (by simp [results, Tryd.results53, go_sem]) rfl ?_
      subst hR2
      exact ⟨rfl, hB⟩
    have heb : ((k : Int) + 1 == (b'.length : Int)) = false := by rw [beq_eq_false_iff_ne]; omega
    have hk1 : k + 1 < b'.length := by omega
    have hk1I : (k : Int) + 1 < (b'.length : Int) := by omega
    clear he
    go_upto_region 6 with (first
      | (refine wpList_rd_h rfl rfl rfl rfl hb' (H := k) rfl (by omega) Tryd.underlying28 infoByte1 (fun vp rp _ _ => ?_))
      | (refine wpList_appRd (base := B) rfl rfl Tryd.underlying28 infoByte rfl rfl rfl ho rp (by rw [HKL.out]; omega) hs (fun v4 w4 o4 g4 _ => ?_)))
    have hne : b' ≠ [] := by intro e; subst e; simp at hk2
    replace hb' := hb'.fr g4 (fun h j hj e => by have := (ho.lt j e.symm).1; have h3 := HLT.out h j (by rw [← HO'.out]; exact hj); omega)
    replace hB := below_own hB ho g4 (Nat.le_refl _) hs
    replace hs := Nat.le_trans hs g4.size
    rw [HKL.out] at o4
    have hval : (acc ++ b'.take k).length = acc.length + k := by rw [List.length_append, HKL.out]
    generalize acc ++ b'.take k = acc2 at *
    obtain ⟨A4, c4, rfl⟩ := own_form o4
    have HV := Lib.hid hval
    have hvl2 : acc2.length + (b'.length - k) ≤ b.length := by omega
    clear ho g4 rp hval
    obtain ⟨bp, op, rfl, hcp⟩ := hb'.at (j := k + 1) hk1
    have hdr : b'.drop (k + 1) = b'[k + 1] :: b'.drop (k + 2) := List.drop_eq_getElem_cons hk1
    obtain ⟨y, hy⟩ : ∃ y, y = b'[k + 1] := ⟨_, rfl⟩
    rw [← hy] at hcp hdr
    have hpk := HPK.out
    rw [hdr] at hpk
    clear hy hdr HPK
    have hcp' : w4.cell? ⟨bp, op + (k + 1), none⟩ = some (.int .u8 (y.toNat : Int)) := hcp
    clear hcp
    have hkd : decide ((k : Int) < 0) = false := decide_eq_false (by omega)
    by_cases hy1 : y = 1
    · subst hy1
      replace hcp' : w4.cell? ⟨bp, op + (k + 1), none⟩ = some (.int .u8 1) := hcp'
      rw [partM_one] at hpk
      have HPK := Lib.hid hpk
      clear hpk
      go_upto_region 9 with fail
      refine wp_region_float (Fr (fun _ => False)) [(0, 0), (1, 0), (2, 0), (3, 0), (4, 0), (5, 0), (6, 0), (7, 0)] _ (by kernel_rfl) (by kernel_rfl) (by simp only [List.map_cons, List.map_nil, Array.getD_eq_getD_getElem?, List.getElem?_toArray, List.getElem?_cons_succ, List.getElem?_cons_zero, Option.getD_some]; rfl) rfl (by kernel_rfl) (fun _ _ d _ _ h => by cases d <;> exact h) (Fr.refl _) (fun _ _ _ => Fr.trans) ?_
      replace hb' := hb'.drew
      replace hB := hB.drew
      replace o4 := own_drew o4
      generalize w4.drew = w5 at *
      (refine wpF_f0 (fun K hK => ?_); go_simp; refine hK _ ?_; clear hK K)
      (refine wpF_f0 (fun K hK => ?_); go_simp; refine hK _ ?_; clear hK K)
      (refine wpF_f0 (fun K hK => ?_); go_simp; refine hK _ ?_; clear hK K)
      (refine wpF_f0 (fun K hK => ?_); go_simp; refine hK _ ?_; clear hK K)
      refine wpF_rd_l rfl rfl rfl rfl hb' (L := k + 2) (by rw [IntKind.wrap_i64]; omega) (by omega) Tryd.underlying28 infoByte1 (fun K va ra oa na hK => ?_)
      go_simp
      refine hK _ ?_
      clear hK K
      repeat (first | (refine wpF_f0 (fun K hK => ?_); go_simp; refine hK _ ?_; clear hK K) | (refine wpF_load1 rfl rfl rfl (by kernel_rfl) (by assumption) (by simp) (fun K hK => ?_); go_simp; refine hK _ ?_; clear hK K) | (refine wpF_loadN rfl rfl rfl (by assumption) (by assumption) (by kernel_rfl) (by kernel_rfl) (by simp) (fun K hK => ?_); go_simp; refine hK _ ?_; clear hK K))
      refine wpF_nil ?_
      go_wp2_with fail
      refine bodyPost_ret (v := .tuple #[.slice A4 (acc.length + k) c4, va, .bool true]) (by simp [results, Tryd.results53, go_sem]) rfl ?_
      have hR2 := HPK.out
      subst hR2
      refine ⟨_, _, rfl, ?_, ra, by rw [oa]; exact HO'.out.trans HO.out.symm, hB⟩
      rw [HV.out]; exact o4
    by_cases hy2 : y = 255
    · subst hy2
      replace hcp' : w4.cell? ⟨bp, op + (k + 1), none⟩ = some (.int .u8 255) := hcp'
      rw [partM_255] at hpk
      have HPK := Lib.hid hpk
      clear hpk hy1
      go_upto_region 12 with (refine wpList_push (x := [0]) (l := acc2) (base := B) rfl rfl rfl (by first | rfl | (simp [Act.eval]; done) | (simp [Act.eval]; rfl)) (build1 0 _) rfl rfl (by simp) (by simp) Tryd.underlying28 infoByte rfl rfl rfl o4 (by omega) hs (fun v6 w6 o6 g6 no6 => ?_); replace hb' := hb'.fr g6 (fun h j hj e => by have := (o4.lt j e.symm).1; have h3 := HLT.out h j (by rw [← HO'.out]; exact hj); omega); replace hB := below_own hB o4 g6 (Nat.le_refl _) hs; replace hs := Nat.le_trans hs g6.size; clear o4 g6 no6)
      go_wp2_with (refine wpList_rd_l rfl rfl rfl rfl hb' (L := k + 2) (by omega) (by omega) Tryd.underlying28 infoByte1 (fun va ra oa na => ?_))
      have hlen2 : (b'.drop (k + 2)).length = b'.length - (k + 2) := List.length_drop
      go_roundw
      case rel =>
        refine ⟨b'.drop (k + 2), acc2 ++ [0], ra, oa.trans HO'.out, by omega, HPK.out.symm, by rw [List.length_append, HV.out]; exact o6, by rw [List.length_append, List.length_singleton]; omega, hB, fun _ => HLT.out hne⟩
      case measure =>
        obtain ⟨Ax, cx, rfl⟩ := ra.slice
        show (b'.drop (k + 2)).length < b'.length
        omega
    · have hR2 : R = none := by rw [hpk]; exact partM_bad hy1 hy2
      have hyb1 : ((y.toNat : Int) == 1) = false := beq_eq_false_iff_ne.2 (fun h => hy1 (UInt8.toNat_inj.1 (by show y.toNat = 1; omega)))
      have hyb2 : ((y.toNat : Int) == 255) = false := beq_eq_false_iff_ne.2 (fun h => hy2 (UInt8.toNat_inj.1 (by show y.toNat = 255; omega)))
      clear hpk hy1 hy2
      go_wp2_with fail
      refine bodyPost_ret (v := .tuple #[.slice none 0 0, .slice none 0 0, .bool false]) (by simp [results, Tryd.results53, go_sem]) rfl ?_
      subst hR2
      exact ⟨rfl, hB⟩
end Go.Proofs.YthocpbkgcpgpdaaDoor
