/- Read. -/
import Derived.Test.YthglnbkfmmchnaaDisk5
import Derived.Deep.CutBlock
namespace Go.Proofs.Ythglnbkfmmchnaa.Dsk
open Go.RowKit
set_option maxRecDepth 100000

/-- What block i holds, the first k of the memory laid over it. -/
def readN (kept : List (List UInt8)) (mem : List (Nat × List UInt8)) (i : Nat) : Nat → List UInt8
  | 0 => kept.getD i []
  | k + 1 => match mem[k]? with
    | some x => if x.1 = i then x.2 else readN kept mem i k
    | none => readN kept mem i k
def DSt.at (D : DSt) (i : Nat) : List UInt8 := readN D.kept D.mem i D.mem.length
theorem readN_len {kept : List (List UInt8)} {mem : List (Nat × List UInt8)} {i : Nat} (hi : i < kept.length) (h : ∀ b ∈ kept, b.length = 64) (hm : ∀ x ∈ mem, x.2.length = 64) : ∀ k, (readN kept mem i k).length = 64
  | 0 => by
    rw [readN, List.getD_eq_getElem?_getD, List.getElem?_eq_getElem hi]
    exact h _ (List.getElem_mem hi)
  | k + 1 => by
    have ih := readN_len hi h hm k
    unfold readN
    split
    · rename_i x hx
      split
      · exact hm x (List.mem_of_getElem? hx)
      · exact ih
    · exact ih

set_option maxHeartbeats 2000000 in
set_option maxRecDepth 100000 in
theorem read_ok {w : World} {p kb : Nat} {mv : Value} {D : DSt} (h : DiskAt w p kb mv D) (hm : D.mem.length < 2 ^ 30) (i : Nat) (hi : i < D.kept.length) (ho : D.out = false) :
    Calls Try.prog 40 #[.pointer (some ⟨p, 0, none⟩), .int .i64 i] w fun e w' => ∃ g, e = .returned (.tuple #[.slice (some ⟨g, 0, none⟩) 64 64, .int .i64 0]) ∧ Blk w' g (bts (D.at i)).toArray 81 ∧ w.heap.size ≤ g ∧ Below w.heap.size w w' := by
  obtain ⟨A0, C0, rfl⟩ := own_form h.mem
  obtain ⟨c0, c1, c2, c3, c4, c5, f0, f1, f2, f3, f4, f5⟩ := dcells_all h.blk
  rw [ho] at c2
  clear c3 c4 c5 f0 f1 f2 f3 f4 f5
  have hi0 : (0 : Int) ≤ (i : Int) := by omega
  have hi1 : (i : Int) < (D.kept.length : Int) := by omega
  have hml : (D.mem.length : Int) < 2 ^ 30 := by omega
  have hl := readN_len hi h.len (fun x hx => (h.idx x hx).2)
  have hr : w.rangeAt kb (i * 64) (bts (D.kept.getD i [])) := h.kept.range' _ _ (fun j u hu => by
    have hj : j < 64 := by have := (List.getElem?_eq_some_iff.1 hu).1; rw [bts_length] at this; have h0 := hl 0; simp only [readN] at h0; omega
    simp only [List.getElem?_toArray]
    rw [kcells, flatMap_get bts 64 D.kept (fun y hy => by rw [bts_length, h.len y hy]) i hi j hj]
    rw [List.getD_eq_getElem?_getD, List.getElem?_eq_getElem hi] at hu
    exact hu)
  obtain ⟨b0, hb0⟩ : ∃ b0, b0 = readN D.kept D.mem i 0 := ⟨_, rfl⟩
  have e0 : D.kept.getD i [] = b0 := hb0.symm
  rw [e0] at hr
  have hbl : (bts b0).length = 64 := by rw [bts_length, hb0]; exact hl 0
  have HB0 := Lib.hid hb0
  have HL := Lib.hid hl
  clear e0 hb0 hl
  have h1 := bts_one b0
  have d1 := (Fr.of_below ((Below.refl w.heap.size w).alloc (Nat.le_refl _) (.cells (bts b0).toArray 81)) (fun _ => False)).cell c1 (fun h => h)
  go_enter Try.func40, Try.ntmps40
  go_wp2_with (first | (refine wpList_loadN rfl rfl rfl (by assumption) (by assumption) (by kernel_rfl) (by kernel_rfl) ?_) | (refine wpList_alloc1 (e := 81) (n := 64) rfl rfl (by kernel_rfl) (fun zc hzc => ?_)) | (refine wpList_store1 rfl rfl rfl rfl (by assumption) (by assumption) (by kernel_rfl) (by assumption) ?_) | go_in)
  have hnew := Blk.new w (bts (b0)).toArray 81
  have hbel := (Below.refl w.heap.size w).alloc (Nat.le_refl _) (.cells (bts (b0)).toArray 81)
  clear d1 hr c0 c2
  generalize w.alloc (.cells (bts (b0)).toArray 81) = w1 at *
  generalize hgq : w.heap.size = gq at *
  have HG := Lib.hid hgq
  clear hgq
  go_loopw [31] (fun i' wr => ∃ k : Nat, i' = .int .i64 k ∧ k ≤ D.mem.length ∧ Blk wr gq (bts (readN D.kept D.mem i k)).toArray 81 ∧ Below gq w wr) (fun i' _ => D.mem.length - (intOf i').toNat)
  case atStart => exact ⟨0, rfl, Nat.zero_le _, by rw [← HB0.out]; exact hnew, hbel⟩
  case round =>
    obtain ⟨k, rfl, hk, hb, hbw⟩ := hrel
    by_cases hlt : k < D.mem.length
    · have hltI : (k : Int) < (D.mem.length : Int) := by omega
      have hk0 : (0 : Int) ≤ (k : Int) := by omega
      obtain ⟨x, hx⟩ : ∃ x, D.mem[k]? = some x := ⟨D.mem[k], List.getElem?_eq_getElem hlt⟩
      have hxm : x ∈ D.mem := List.mem_of_getElem? hx
      have hx1 := h.idx x hxm
      have hwl : (wcell x).length = 65 := mcells_length D.mem (fun y hy => (h.idx y hy).2) x hxm
      have hwo : ∀ v ∈ wcell x, v.oneCell' = true := by intro v hv; rcases List.mem_cons.1 hv with rfl | hv; exact rfl; exact bts_one _ v hv
      obtain ⟨g, c, hgc⟩ : ∃ g c, (Value.slice A0 D.mem.length C0) = .slice (some ⟨g, 0, none⟩) D.mem.length c := by
        rcases h.mem.2 with ⟨_, h0⟩ | ⟨g, cap, cur, hv, _⟩
        · omega
        · exact ⟨g, cap, hv⟩
      simp only [Value.slice.injEq, true_and] at hgc
      obtain ⟨rfl, rfl⟩ := hgc
      have hmr := own_fr (T := fun _ => False) h.mem (Fr.of_below (by rw [HG.out]; exact hbw) _) (fun _ _ h => h)
      have hxr : wr.rangeAt g (k * 65) (wcell x) := own_range hmr (k * 65) (wcell x) (fun j u hu => by
        have hj : j < 65 := by have := (List.getElem?_eq_some_iff.1 hu).1; omega
        rw [mcells, flatMap_get wcell 65 D.mem (mcells_length D.mem (fun y hy => (h.idx y hy).2)) k hlt j hj]
        have : D.mem[k] = x := by have := List.getElem?_eq_getElem hlt; rw [hx] at this; exact (Option.some.inj this).symm
        rw [this]; exact hu)
      have hkk : readN D.kept D.mem i (k + 1) = if x.1 = i then x.2 else readN D.kept D.mem i k := by rw [readN, hx]
      have HK := Lib.hid hkk
      clear hkk hx
      have hgk : gq ≠ wr.heap.size := by have := hb.lt; omega
      have hbs := hbw.size
      go_upto_region 9 with (first | (refine wpList_loadN rfl rfl rfl (by assumption) (by assumption) (by kernel_rfl) (by kernel_rfl) ?_) | (refine wpList_alloc1 (e := 95) (n := 65) rfl rfl (by kernel_rfl) (fun zc hzc => ?_)) | (refine wpList_store1 rfl rfl rfl rfl (by assumption) (by assumption) (by kernel_rfl) (by assumption) ?_))
      have hnw := Blk.new wr (wcell x).toArray 95
      have hb1 := hb.alloc (.cells (wcell x).toArray 95)
      have hbw1 := hbw.alloc (by rw [← HG.out]; exact hbs) (.cells (wcell x).toArray 95)
      clear hxr hb hbw hmr hwl hwo hbs
      generalize wr.alloc (.cells (wcell x).toArray 95) = w2 at *
      generalize wr.heap.size = gw at *
      have x0 : w2.cell? ⟨gw, 0, none⟩ = some (.int .i64 x.1) := hnw.cell 0
      have x1 : w2.rangeAt gw 1 (bts x.2) := hnw.range' 1 _ (fun j v hv => by rw [Nat.add_comm]; simpa [wcell] using hv)
      have hxl : (bts x.2).length = 64 := by rw [bts_length, hx1.2]
      by_cases hxi : x.1 = i
      · have hbx : ((x.1 : Int) == (i : Int)) = true := by simp [hxi]
        have HXI := Lib.hid hxi
        have hth : w2.there gq 0 64 := hb1.there 0 64 (by have := HL.out k; simp [bts_length, this])
        clear hxi h c1
        go_wp2_with (first | (refine wpList_loadN rfl rfl rfl (by assumption) (by assumption) (by kernel_rfl) (by kernel_rfl) ?_) | (refine wpList_storeN rfl rfl rfl rfl (by assumption) (by assumption) (by kernel_rfl) (bts_one _) ?_))
        have hb2 := Blk.setCells (bts x.2) 0 hb1 (by have := HL.out k; simp [bts_length, this, hx1.2])
        have hbw2 := (Fr.setCells (T := fun j => j = gq) (b := gq) (bts x.2) 0 (Fr.refl _ w2) (fun _ => rfl)).below (B := gq) (by have := hb1.lt; omega) (fun j hj e => by omega)
        replace hbw2 := hbw1.trans hbw2
        rw [List.take_zero, List.nil_append, List.drop_eq_nil_of_le (by have := HL.out k; simp [bts_length, this, hx1.2]), List.append_nil] at hb2
        clear hb1 hbw1 hth x1
        generalize w2.setCells gq 0 (bts x.2) = w3 at *
        go_wp2
        go_roundw
        case rel => exact ⟨k + 1, by go_num, by omega, by rw [HK.out, if_pos HXI.out]; exact hb2, hbw2⟩
        case measure => simp [intOf]; omega
      · have hbx : ((x.1 : Int) == (i : Int)) = false := by simp; omega
        have HXI := Lib.hid hxi
        clear hxi h c1
        go_wp2
        go_roundw
        case rel => exact ⟨k + 1, by go_num, by omega, by rw [HK.out, if_neg HXI.out]; exact hb1, hbw1⟩
        case measure => simp [intOf]; omega
    · have hge : decide ((k : Int) < (D.mem.length : Int)) = false := decide_eq_false (by omega)
      obtain rfl : k = D.mem.length := by omega
      go_wp2
      go_ret2
      exact ⟨_, rfl, hb, Nat.le_of_eq HG.out, by rw [HG.out]; exact hbw⟩

end Go.Proofs.Ythglnbkfmmchnaa.Dsk
