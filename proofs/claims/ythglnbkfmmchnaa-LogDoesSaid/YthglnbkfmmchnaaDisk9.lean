/- A disk of an image. -/
import Derived.Test.YthglnbkfmmchnaaDisk8
import Derived.Test.YthglnbkfmmchnaaK4
namespace Go.Proofs.Ythglnbkfmmchnaa.Dsk
open Go.RowKit
set_option maxRecDepth 100000

def chunk (im : List UInt8) (k : Nat) : List UInt8 := (im.drop (k * 64)).take 64
theorem chunk_len {im : List UInt8} {k : Nat} (h : k * 64 + 64 ≤ im.length) : (chunk im k).length = 64 := by simp [chunk]; omega
/-- The blocks behind k of the copies. -/
def ofK (im : List UInt8) (n : Nat) : Nat → List (List UInt8)
  | 0 => List.replicate n (List.replicate 64 0)
  | k + 1 => (ofK im n k).set k (chunk im k)
theorem ofK_length (im : List UInt8) (n : Nat) : ∀ k, (ofK im n k).length = n
  | 0 => by simp [ofK]
  | k + 1 => by simp [ofK, ofK_length im n k]
theorem ofK_len (im : List UInt8) (n : Nat) (h : n * 64 ≤ im.length) : ∀ k, k ≤ n → ∀ b ∈ ofK im n k, b.length = 64
  | 0, _ => fun b hb => by rw [(List.mem_replicate.1 hb).2]; simp
  | k + 1, hk => fun b hb => by
    rcases List.mem_or_eq_of_mem_set hb with hb | hb
    · exact ofK_len im n h k (by omega) b hb
    · rw [hb]; exact chunk_len (by omega)
theorem ofK_eq (im : List UInt8) (n : Nat) : ∀ k, k ≤ n → ofK im n k = (List.range k).map (chunk im) ++ List.replicate (n - k) (List.replicate 64 0)
  | 0, _ => by simp [ofK]
  | k + 1, hk => by
    rw [ofK, ofK_eq im n k (by omega), List.set_append_right _ _ (by simp), show n - k = (n - (k + 1)) + 1 by omega, List.replicate_succ, List.length_map, List.length_range, Nat.sub_self, List.set_cons_zero, List.range_succ, List.map_append]
    simp
theorem chunks_flatten (im : List UInt8) : ∀ k, k * 64 ≤ im.length → ((List.range k).map (chunk im)).flatten = im.take (k * 64)
  | 0, _ => by simp
  | k + 1, h => by
    rw [List.range_succ, List.map_append, List.flatten_append, chunks_flatten im k (by omega)]
    simp only [List.map_cons, List.map_nil, List.flatten_cons, List.flatten_nil, List.append_nil, chunk]
    rw [show (k + 1) * 64 = k * 64 + 64 by omega, List.take_add]
def DSt.ofK (im : List UInt8) (k : Nat) : DSt := ⟨Go.Proofs.Ythglnbkfmmchnaa.Dsk.ofK im (im.length / 64) k, [], false, false, 0, 0⟩
def DSt.of (im : List UInt8) : DSt := DSt.ofK im (im.length / 64)
theorem DSt.of_image {im : List UInt8} (h : im.length % 64 = 0) : (DSt.of im).image = im := by
  unfold DSt.image DSt.of DSt.ofK
  simp only
  rw [ofK_eq _ _ _ (Nat.le_refl _), Nat.sub_self, List.replicate_zero, List.append_nil, chunks_flatten _ _ (by omega), List.take_of_length_le (by omega)]
theorem DSt.of_length (im : List UInt8) : (DSt.of im).kept.length = im.length / 64 := ofK_length im _ _
theorem sizeByte : (Try.prog.info? 5).map (·.size) = some 1 := by kernel_rfl
def OfOk (im : List UInt8) : Prop := im.length % 64 = 0 ∧ 1 ≤ im.length / 64 ∧ im.length / 64 ≤ 4096

set_option maxHeartbeats 4000000 in
set_option maxRecDepth 100000 in
theorem of_bad (v : Value) (im : List UInt8) (w : World) (hv : Rd w v im) (h : ¬ OfOk im) :
    Calls Try.prog 24 #[v] w fun e w' => e = .returned (.tuple #[.pointer none, .int .i64 1]) ∧ w' = w := by
  obtain ⟨A, c, rfl⟩ := hv.slice
  have hmax := hv.max
  by_cases h0 : im.length % 64 = 0
  · have hI : (im.length : Int).tmod 64 = 0 := by rw [Int.tmod_eq_emod_of_nonneg (by omega)]; omega
    have hq : (im.length : Int).tdiv 64 = ((im.length / 64 : Nat) : Int) := by rw [Int.tdiv_eq_ediv_of_nonneg (by omega)]; omega
    go_enter Try.func24, Try.ntmps24
    go_wp2_with fail
    refine (new_bad ((im.length : Int) / 64) w (by unfold OfOk at h; omega)).mono ?_
    rintro e w1 ⟨rfl, rfl⟩
    go_wp2
    go_ret2
    exact ⟨rfl, rfl⟩
  · have hI : (im.length : Int).tmod 64 ≠ 0 := by rw [Int.tmod_eq_emod_of_nonneg (by omega)]; omega
    go_enter Try.func24, Try.ntmps24
    go_wp2
    go_ret2
    exact ⟨rfl, rfl⟩

set_option maxHeartbeats 4000000 in
set_option maxRecDepth 100000 in
theorem of_ok (v : Value) (im : List UInt8) (w : World) (hv : Rd w v im) (h : OfOk im) :
    Calls Try.prog 24 #[v] w fun e w' => ∃ p, e = .returned (.tuple #[.pointer (some ⟨p, 0, none⟩), .int .i64 0]) ∧ DiskS (fun k => w.heap.size ≤ k) w' p (DSt.of im) ∧ Below w.heap.size w w' := by
  obtain ⟨A, c, rfl⟩ := hv.slice
  have hmax := hv.max
  obtain ⟨h0, h1, h2⟩ := h
  have hI : (im.length : Int).tmod 64 = 0 := by rw [Int.tmod_eq_emod_of_nonneg (by omega)]; omega
  have hq : (im.length : Int).tdiv 64 = ((im.length / 64 : Nat) : Int) := by rw [Int.tdiv_eq_ediv_of_nonneg (by omega)]; omega
  go_enter Try.func24, Try.ntmps24
  go_wp2_with fail
  generalize hN : im.length / 64 = n at *
  rw [show (im.length : Int) / 64 = (n : Int) by omega]
  have hne : im ≠ [] := by intro e; rw [e] at hN; simp at hN; omega
  have hvl := hv.lt hne
  have hcap := rd_cap hv (by cases im with | nil => exact absurd rfl hne | cons _ _ => simp)
  refine (new_ok n w h1 h2).mono ?_
  rintro e w1 ⟨rfl, hD, hb1⟩
  replace hv := hv.below hb1
  generalize hp : w.heap.size + 1 = p at *
  generalize hk : w.heap.size = kb at *
  have HP := Lib.hid hp
  have HK := Lib.hid hk
  clear hp hk
  obtain ⟨b, o, rfl, hv0⟩ := hv.at (j := 0) (by omega)
  clear hv0
  have c0 := (dcells_all hD.blk).1
  have hD : DiskAt w1 p kb (.slice none 0 0) (DSt.ofK im 0) := by
    unfold DSt.ofK; rw [hN]; exact hD
  have hkl : ∀ k, k ≤ n → (DSt.ofK im k).kept.length = n := fun k _ => by unfold DSt.ofK; rw [ofK_length, hN]
  rw [show (DSt.fresh n).kept.length = n by simp [DSt.fresh]] at c0
  go_wp2_with fail
  go_loopw [6, 26] (fun _ i wr => ∃ k : Nat, i = .int .i64 k ∧ k ≤ n ∧ DiskAt wr p kb (.slice none 0 0) (DSt.ofK im k) ∧ Rd wr (.slice (some ⟨b, o, none⟩) im.length c) im ∧ Below kb w wr) (fun _ i _ => n - (intOf i).toNat)
  case atStart => exact ⟨0, rfl, Nat.zero_le _, hD, hv, hb1⟩
  case round =>
    obtain ⟨k, rfl, hk, hDr, hvr, hbr⟩ := hrel
    by_cases hlt : k < n
    · have hltI : (k : Int) < (n : Int) := by omega
      have hk0 : (0 : Int) ≤ (k : Int) := by omega
      have d0 := (dcells_all hDr.blk).1
      rw [hkl k hk] at d0
      go_wp2
      refine wp_region_float (Fr (fun _ => False)) [(0, 0), (1, 0), (2, 0), (3, 1), (4, 0), (5, 0), (6, 0), (7, 0), (8, 0), (9, 0), (10, 0), (11, 3)] _ (by kernel_rfl) (by kernel_rfl) (by simp only [List.map_cons, List.map_nil, Array.getD_eq_getD_getElem?, List.getElem?_toArray, List.getElem?_cons_succ, List.getElem?_cons_zero, Option.getD_some]; rfl) rfl (by kernel_rfl) (fun _ _ d _ _ h => by cases d <;> exact h) (Fr.refl _) (fun _ _ _ => Fr.trans) ?_
      replace d0 : wr.drew.cell? ⟨p, 0, none⟩ = some (.slice (some ⟨kb, 0, none⟩) n n) := d0
      replace hDr := hDr.below (Below.refl _ _).drew
      replace hbr := hbr.drew
      replace hvr := hvr.drew
      generalize wr.drew = w3 at *
      repeat (first | (refine wpF_f0 (fun K hK => ?_); go_simp; refine hK _ ?_; clear hK K) | (refine wpF_load1 rfl rfl rfl (by kernel_rfl) (by assumption) (by simp) (fun K hK => ?_); go_simp; refine hK _ ?_; clear hK K) | (refine wpF_loadN rfl rfl rfl (by assumption) (by assumption) (by kernel_rfl) (by kernel_rfl) (by simp) (fun K hK => ?_); go_simp; refine hK _ ?_; clear hK K))
      have hw1 : IntKind.i64.wrap ((k : Int) * 64) = ((k * 64 : Nat) : Int) := wrap_nat (by omega) (by omega)
      refine wpF_f0v (exec_slice_l rfl rfl rfl hw1 (by omega) (by omega) Try.underlying32 sizeByte) (by rfl) (fun K hK => ?_)
      go_simp; refine hK _ ?_; clear hK K
      refine wpF_a3 (fun K hK => ?_); rw [if_pos (by rfl)]
      have hkl2 := ofK_len im n (by omega) k hk
      have hks : (kcells (ofK im n k)).length = n * 64 := by rw [kcells_length _ hkl2, ofK_length]
      have hcl : (bts (chunk im k)).length = 64 := by rw [bts_length, chunk_len (by omega)]
      have hbk : Blk w3 kb (kcells (ofK im n k)).toArray 81 := by
        have := hDr.kept
        unfold DSt.ofK at this
        rw [hN] at this
        exact this
      have hth : w3.there kb (k * 64) (bts (chunk im k)).length := hbk.there _ _ (by simp [hks, hcl]; omega)
      have hsrc : w3.rangeAt b (o + k * 64) (bts (chunk im k)) := rd_range hvr (by rw [chunk_len (by omega)]; omega) (fun j hj => by
        unfold chunk
        rw [chunk_len (by omega)] at hj
        rw [List.getElem?_take, if_pos hj, List.getElem?_drop])
      refine wp_copy_k rfl Try.underlying32 sizeByte (b := kb) (o := k * 64) (dLen := 64) (dCap := 64) rfl rfl (by rw [hcl]; exact (Nat.min_eq_right (show 64 ≤ im.length - k * 64 by omega)).symm) hsrc hth (bts_one _) ?_
      have hbk2 := Blk.setCells (bts (chunk im k)) (k * 64) hbk (by simp [hks, hcl]; omega)
      have hf2 := Fr.setCells (T := (· = kb)) (b := kb) (bts (chunk im k)) (k * 64) (Fr.refl _ w3) (by exact fun _ => rfl)
      have he : ((kcells (ofK im n k)).toArray.toList.take (k * 64) ++ bts (chunk im k) ++ (kcells (ofK im n k)).toArray.toList.drop (k * 64 + (bts (chunk im k)).length)).toArray = (kcells (ofK im n (k + 1))).toArray := by
        rw [hcl]
        exact congrArg List.toArray (flatMap_set bts 64 (chunk im k) (ofK im n k) (fun y hy => by rw [bts_length, hkl2 y hy]) k (by rw [ofK_length]; exact hlt) hcl)
      rw [he] at hbk2
      replace hvr := hvr.fr hf2 (fun _ q hq e => by have := hvl q hq; omega)
      replace hbr := hbr.trans (hf2.below (by have := hbr.size; have := HK.out; omega) (fun q hq e => by omega))
      have hblk2 : Blk (w3.setCells kb (k * 64) (bts (chunk im k))) p (dcells kb n (.slice none 0 0) false false 0 0) 68 := by
        have := hDr.blk
        rw [hkl k hk] at this
        exact this.fr hf2 (fun e => by have := HP.out; omega)
      have hD2 : DiskAt (w3.setCells kb (k * 64) (bts (chunk im k))) p kb (.slice none 0 0) (DSt.ofK im (k + 1)) := by
        refine ⟨by rw [hkl (k + 1) (by omega)]; exact hblk2, ?_, World.ownsRow_nil _ _ _ _, ?_, (fun x hx => by cases hx), by rw [hkl (k + 1) (by omega)]; exact h2⟩
        · unfold DSt.ofK; rw [hN]; exact hbk2
        · unfold DSt.ofK; rw [hN]; exact ofK_len im n (by omega) (k + 1) (by omega)
      clear he hbk hbk2 hf2 hth hsrc hDr d0 hblk2
      generalize w3.setCells kb (k * 64) (bts (chunk im k)) = w4 at *
      go_simp
      refine hK _ _ ?_
      clear hK K
      refine wpF_nil ?_
      go_wp2
      go_roundw
      case rel => exact ⟨k + 1, by go_num, by omega, hD2, hvr, hbr⟩
      case measure => simp [intOf]; omega
    · have hge : decide ((k : Int) < (n : Int)) = false := decide_eq_false (by omega)
      obtain rfl : k = n := by omega
      go_wp2
      go_ret2
      refine ⟨p, rfl, ⟨kb, .slice none 0 0, ?_, ?_⟩, ?_⟩
      · unfold DSt.of; rw [hN]; exact hDr
      · rintro q (hq | hq | hq)
        · have := HP.out; have := HK.out; omega
        · have := HK.out; omega
        · simp [Value.ownBlock] at hq
      · rw [HK.out]; exact hbr

end Go.Proofs.Ythglnbkfmmchnaa.Dsk
