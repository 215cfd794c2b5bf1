/- Read and Image. -/
import Derived.Test.YthglnbkfmmchnaaDisk5
namespace Go.Proofs.Ythglnbkfmmchnaa.Dsk
open Go.RowKit
set_option maxRecDepth 100000

theorem infoByte : (Try.prog.info? 5).map (fun i => (i.zero, i.size, i.bytes)) = some (some (.int .u8 0), 1, 1) := by kernel_rfl

def DSt.image (D : DSt) : List UInt8 := D.kept.flatten
theorem bts_flatten (l : List (List UInt8)) : bts l.flatten = kcells l := by simp only [bts, kcells, List.map_flatten, List.flatMap_def]; rfl
theorem kcells_take (l : List (List UInt8)) (k : Nat) (hk : k < l.length) : kcells (l.take (k + 1)) = kcells (l.take k) ++ bts l[k] := by
  rw [List.take_succ_eq_append_getElem hk, kcells, List.flatMap_append]
  simp [kcells]

set_option maxHeartbeats 1000000 in
set_option maxRecDepth 100000 in
theorem image_any {w : World} {p kb : Nat} {mv : Value} {D : DSt} (h : DiskAt w p kb mv D) :
    Calls Try.prog 32 #[.pointer (some ⟨p, 0, none⟩)] w fun e w' => ∃ v, e = .returned v ∧ w'.ownsRow w.heap.size 5 1 v (D.kept.length * 64) (bts D.image) ∧ Below w.heap.size w w' := by
  obtain ⟨c0, c1, c2, c3, c4, c5, f0, f1, f2, f3, f4, f5⟩ := dcells_all h.blk
  clear c1 c2 c3 c4 c5 f0 f1 f2 f3 f4 f5
  obtain ⟨i0, hi, hz0, hz1, hz2⟩ := info_parts infoByte
  have hfew := h.few
  have hn : (D.kept.length : Int) ≤ 4096 := by omega
  have hn0 : (0 : Int) ≤ (D.kept.length : Int) := by omega
  have hmk := fun w => run_make (P := Try.prog) w 32 5 i0 _ Try.underlying32 hi hz0 .i64 .i64 0 ((D.kept.length : Int) * 64) (by omega) (by omega) (by rw [hz2]; omega) (by omega)
  rw [hz1, show ((D.kept.length : Int) * 64).toNat = D.kept.length * 64 from by omega, Int.toNat_zero] at hmk
  generalize hK : madeCells (Value.int IntKind.u8 0).cells (D.kept.length * 64 * 1) = KC at *
  have hKs : KC.size = D.kept.length * 64 * 1 := by rw [← hK]; exact size_madeCells _ _
  have hkl := h.len
  have hkb := h.kept
  have hkc := kcells_length D.kept h.len
  have hbel := (Below.refl w.heap.size w).alloc (Nat.le_refl _) (.cells KC 5)
  have hown := World.ownsRow_made (e := 5) (base := w.heap.size) (size := 1) w KC (D.kept.length * 64) (Nat.le_refl _) (by simp only [maxLen]; omega) hKs
  have d0 := (Fr.of_below hbel (fun _ => False)).cell c0 (fun h => h)
  clear hK hKs hz0 hz1 hz2 hi h
  go_enter Try.func32, Try.ntmps32
  go_wp2
  have hsz : w.heap.size ≤ (w.alloc (.cells KC 5)).heap.size := hbel.size
  clear hmk d0 c0
  generalize w.alloc (.cells KC 5) = w1 at *
  go_loopw [3, 18] (fun v i wr => ∃ k : Nat, i = .int .i64 k ∧ k ≤ D.kept.length ∧ wr.ownsRow w.heap.size 5 1 v (k * 64) (kcells (D.kept.take k)) ∧ Below w.heap.size w wr) (fun _ i _ => D.kept.length - (intOf i).toNat)
  case atStart => exact ⟨0, rfl, Nat.zero_le _, by simpa [kcells] using hown, hbel⟩
  case round =>
    obtain ⟨k, rfl, hk, ho, hb⟩ := hrel
    obtain ⟨A, c, rfl⟩ := own_form ho
    by_cases hlt : k < D.kept.length
    · have hltI : (k : Int) < (D.kept.length : Int) := by omega
      have hk0 : (0 : Int) ≤ (k : Int) := by omega
      have hbl : (bts D.kept[k]).length = 64 := by rw [bts_length, hkl _ (List.getElem_mem hlt)]
      have hkr := hkb.fr (Fr.of_below hb (fun _ => False)) (fun h => h)
      have hr : wr.rangeAt kb (k * 64) (bts D.kept[k]) := hkr.range' _ _ (fun j u hu => by
        have hj : j < 64 := by have := (List.getElem?_eq_some_iff.1 hu).1; omega
        simp only [List.getElem?_toArray]
        rw [kcells, flatMap_get bts 64 D.kept (fun y hy => by rw [bts_length, hkl y hy]) k hlt j hj]
        exact hu)
      have h1 := bts_one D.kept[k]
      have hcells0 : ∀ j u, (bts D.kept[k])[j]? = some u → (wr.alloc (.cells (bts D.kept[k]).toArray 81)).cell? ((⟨wr.heap.size, 0, none⟩ : Addr).add j) = some u := fun j u hu => by
        rw [Addr.add_mid, Nat.zero_add, (Blk.new wr _ _).cell j]; simpa using hu
      have ho2 := ho.alloc (.cells (bts D.kept[k]).toArray 81)
      have hb2 := hb.alloc hb.size (.cells (bts D.kept[k]).toArray 81)
      go_wp2_with (first | (refine wpList_loadN rfl rfl rfl (by assumption) (by assumption) (by kernel_rfl) (by kernel_rfl) ?_) | (refine wpList_alloc1 (e := 81) (n := 64) rfl rfl (by kernel_rfl) (fun zc hzc => ?_)) | (refine wpList_store1 rfl rfl rfl rfl (by assumption) (by assumption) (by kernel_rfl) (by assumption) ?_))
      have hsz2 := hb2.size
      clear hr hkr hb hkb h1 ho
      refine wp_append_k rfl w.heap.size Try.underlying32 infoByte rfl (by decide) (v := .slice A (k * 64) c) rfl ho2 rfl (by rw [hbl]) (.inr ⟨_, rfl, hcells0⟩) (bts_one _) (by simp only [maxLen]; omega) (by omega) (by omega) ?_
      intro v' w2 ho3 hg3 _
      replace hb2 := hb2.grown hg3 hsz2 (fun q hq => (ho2.lt q hq).1)
      go_wp2
      go_roundw
      case rel => exact ⟨k + 1, by go_num, by omega, by rw [kcells_take _ _ hlt, Nat.add_mul, Nat.one_mul]; exact ho3, hb2⟩
      case measure => simp [intOf]; omega
    · have hge : decide ((k : Int) < (D.kept.length : Int)) = false := decide_eq_false (by omega)
      obtain rfl : k = D.kept.length := by omega
      go_wp2
      go_ret
      refine ⟨_, rfl, ?_, ?_⟩
      · rw [List.take_length] at ho
        rw [DSt.image, bts_flatten]
        exact ho
      · exact hb

end Go.Proofs.Ythglnbkfmmchnaa.Dsk
