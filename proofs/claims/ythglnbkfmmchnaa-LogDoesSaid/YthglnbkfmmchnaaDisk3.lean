/- What of the memory is picked is kept. -/
import Derived.Test.YthglnbkfmmchnaaDisk2
namespace Go.Proofs.Ythglnbkfmmchnaa.Dsk
open Go.RowKit
set_option maxRecDepth 100000

def kcells (l : List (List UInt8)) : List Value := l.flatMap bts
theorem kcells_length (l : List (List UInt8)) (h : ∀ b ∈ l, b.length = 64) : (kcells l).length = l.length * 64 := flatMap_length bts 64 l (fun b hb => by rw [bts_length, h b hb])
theorem mcells_length (l : List (Nat × List UInt8)) (h : ∀ x ∈ l, x.2.length = 64) : ∀ x ∈ l, (wcell x).length = 65 := fun x hx => by simp [wcell, bts_length, h x hx]
/-- The first k of the memory, those that are picked, laid down. -/
def keepN (pk : Nat → Bool) (kept : List (List UInt8)) (mem : List (Nat × List UInt8)) : Nat → List (List UInt8)
  | 0 => kept
  | k + 1 => match mem[k]? with
    | some x => if pk k then (keepN pk kept mem k).set x.1 x.2 else keepN pk kept mem k
    | none => keepN pk kept mem k
theorem keepN_length (pk : Nat → Bool) (kept : List (List UInt8)) (mem : List (Nat × List UInt8)) : ∀ k, (keepN pk kept mem k).length = kept.length
  | 0 => rfl
  | k + 1 => by
    have ih := keepN_length pk kept mem k
    unfold keepN
    split
    · split
      · rw [List.length_set, ih]
      · exact ih
    · exact ih
theorem keepN_len (pk : Nat → Bool) (kept : List (List UInt8)) (mem : List (Nat × List UInt8)) (h : ∀ b ∈ kept, b.length = 64) (hm : ∀ x ∈ mem, x.2.length = 64) : ∀ k, ∀ b ∈ keepN pk kept mem k, b.length = 64
  | 0 => h
  | k + 1 => by
    have ih := keepN_len pk kept mem h hm k
    unfold keepN
    split
    · rename_i x hx
      split
      · intro b hb
        rcases List.mem_or_eq_of_mem_set hb with hb | rfl
        · exact ih b hb
        · exact hm x (List.mem_of_getElem? hx)
      · exact ih
    · exact ih
theorem cell_of_range {w : World} {b o : Nat} {cs : List Value} (h : w.rangeAt b o cs) (j : Nat) (v : Value) (hv : cs[j]? = some v) : w.cell? ⟨b, o + j, none⟩ = some v := h j v hv

set_option maxHeartbeats 2000000 in
set_option maxRecDepth 100000 in
theorem keep_sync {w : World} {p kb : Nat} {mv : Value} {D : DSt}  (pk : Nat → Bool)
    (hb : Blk w p (dcells kb D.kept.length mv D.out D.armed D.left D.calls) 68) (hk : Blk w kb (kcells D.kept).toArray 81) (hm : w.ownsRow 0 95 65 mv D.mem.length (mcells D.mem))
    (hlen : ∀ b ∈ D.kept, b.length = 64) (hidx : ∀ x ∈ D.mem, x.1 < D.kept.length ∧ x.2.length = 64) (hn : D.kept.length ≤ 4096) (hml : D.mem.length < 2 ^ 30)
    (hpick : ∀ (k : Nat) wr, k < D.mem.length → Fr (fun b => b = kb) w wr → Calls Try.prog 78 #[.int .i64 k] wr fun e w' => e = .returned (.bool (pk k)) ∧ Below wr.heap.size wr w') :
    Calls Try.prog 38 #[.pointer (some ⟨p, 0, none⟩), .func (.func 78) #[] #[]] w fun e w' => e = .returned (.tuple #[]) ∧
      Blk w' p (dcells kb D.kept.length (.slice none 0 0) D.out D.armed D.left D.calls) 68 ∧ Blk w' kb (kcells (keepN pk D.kept D.mem D.mem.length)).toArray 81 ∧ Fr (fun b => b = p ∨ b = kb) w w' := by
  obtain ⟨kept, mem, out, armed, left, calls⟩ := D
  dsimp only at *
  obtain ⟨A0, C0, rfl⟩ := own_form hm
  have hpkb : p ≠ kb := hb.ne hk (by decide)
  have hml2 : (mem.length : Int) < 2 ^ 30 := by omega
  obtain ⟨c0, c1, c2, c3, c4, c5, f0, f1, f2, f3, f4, f5⟩ := dcells_all hb
  clear c2 c3 c4 c5 f0 f2 f3 f4 f5
  go_enter Try.func38, Try.ntmps38
  go_wp2
  go_loopw [11] (fun i wr => ∃ k : Nat, i = .int .i64 k ∧ k ≤ mem.length ∧ Fr (fun b => b = kb) w wr ∧ Blk wr kb (kcells (keepN pk kept mem k)).toArray 81) (fun i _ => mem.length - (intOf i).toNat)
  case atStart => exact ⟨0, rfl, Nat.zero_le _, Fr.refl _ _, hk⟩
  case round =>
    obtain ⟨k, rfl, hkm, hfr, hbk⟩ := hrel
    by_cases hlt : k < mem.length
    · have hltI : (k : Int) < (mem.length : Int) := by omega
      have hk0 : (0 : Int) ≤ (k : Int) := by omega
      obtain ⟨x, hx⟩ : ∃ x, mem[k]? = some x := ⟨mem[k], List.getElem?_eq_getElem hlt⟩
      have hxm : x ∈ mem := List.mem_of_getElem? hx
      have hx1 := hidx x hxm
      have hwl : (wcell x).length = 65 := mcells_length mem (fun y hy => (hidx y hy).2) x hxm
      have hwo : ∀ v ∈ wcell x, v.oneCell' = true := by intro v hv; rcases List.mem_cons.1 hv with rfl | hv; exact rfl; exact bts_one _ v hv
      obtain ⟨g, c, hgc⟩ : ∃ g c, (Value.slice A0 mem.length C0) = .slice (some ⟨g, 0, none⟩) mem.length c := by
        rcases hm.2 with ⟨_, h0⟩ | ⟨g, cap, cur, hv, _⟩
        · omega
        · exact ⟨g, cap, hv⟩
      simp only [Value.slice.injEq, true_and] at hgc
      obtain ⟨rfl, rfl⟩ := hgc
      have hmb : some kb ≠ (Value.slice (some ⟨g, 0, none⟩) mem.length C0).ownBlock := own_blk_ne hm hk (by decide)
      have hmr := own_fr (T := fun b => b = kb) hm hfr (fun b hb e => hmb (by rw [hb, e]))
      have hxr : wr.rangeAt g (k * 65) (wcell x) := own_range hmr (k * 65) (wcell x) (fun j u hu => by
        have hj : j < 65 := by have := (List.getElem?_eq_some_iff.1 hu).1; omega
        rw [mcells, flatMap_get wcell 65 mem (mcells_length mem (fun y hy => (hidx y hy).2)) k hlt j hj]
        have : mem[k] = x := by have := List.getElem?_eq_getElem hlt; rw [hx] at this; exact (Option.some.inj this).symm
        rw [this]; exact hu)
      have hpk := hpick k
      have hb' := hb.fr hfr hpkb
      clear hpick hm hmr hmb hb hk
      go_wp2_with (first | (refine wpList_loadN rfl rfl rfl (by assumption) (by assumption) (by kernel_rfl) (by kernel_rfl) ?_) | (refine wpList_alloc1 (e := 95) (n := 65) rfl rfl (by kernel_rfl) (fun zc hzc => ?_)) | (refine wpList_store1 rfl rfl rfl rfl (by assumption) (by assumption) (by kernel_rfl) (by assumption) ?_))
      have hnew := Blk.new wr (wcell x).toArray 95
      have hgk : kb ≠ wr.heap.size := by have := hbk.lt; omega
      have hgp : p ≠ wr.heap.size := by have := hb'.lt; omega
      have hf1 := hfr.alloc (.cells (wcell x).toArray 95)
      have hbk1 := hbk.alloc (.cells (wcell x).toArray 95)
      have hb1 := hb'.alloc (.cells (wcell x).toArray 95)
      generalize wr.alloc (.cells (wcell x).toArray 95) = w1 at *
      generalize wr.heap.size = gw at *
      clear hxr hwo hwl hb' hbk hfr c1 c0 f1
      refine (hpk _ hlt hf1).mono ?_
      rintro e w2 ⟨rfl, hbel⟩
      clear hpk
      have hz := Fr.of_below hbel (fun _ => False)
      replace hb1 := hb1.fr hz (fun h => h)
      replace hbk1 := hbk1.fr hz (fun h => h)
      replace hnew := hnew.fr hz (fun h => h)
      replace hf1 : Fr (fun b => b = kb) w w2 := hf1.step hz (fun _ _ h => h.elim)
      clear hz hbel
      have hkk : keepN pk kept mem (k + 1) = if pk k then (keepN pk kept mem k).set x.1 x.2 else keepN pk kept mem k := by rw [keepN, hx]
      cases hpk : pk k with
      | false =>
        rw [hpk] at hkk
        go_wp2
        go_roundw
        case rel => exact ⟨k + 1, by go_num, by omega, hf1, by rw [hkk]; exact hbk1⟩
        case measure => simp [intOf]; omega
      | true =>
        rw [hpk] at hkk
        obtain ⟨c0, -⟩ := dcells_all hb1
        have x0 : w2.cell? ⟨gw, 0, none⟩ = some (.int .i64 x.1) := hnew.cell 0
        have x1 : w2.rangeAt gw 1 (bts x.2) := hnew.range' 1 _ (fun j v hv => by rw [Nat.add_comm]; simpa [wcell] using hv)
        have hxl : (bts x.2).length = 64 := by rw [bts_length, hx1.2]
        go_wp2
        refine wp_region_float (Fr (fun _ => False)) [(0, 0), (1, 0), (2, 0), (3, 1), (4, 0), (5, 1), (6, 0), (7, 1), (8, 0), (9, 3)] _ (by kernel_rfl) (by kernel_rfl) (by simp only [List.map_cons, List.map_nil, Array.getD_eq_getD_getElem?, List.getElem?_toArray, List.getElem?_cons_succ, List.getElem?_cons_zero, Option.getD_some]; rfl) rfl (by kernel_rfl) (fun _ _ d _ _ h => by cases d <;> exact h) (Fr.refl _) (fun _ _ _ => Fr.trans) ?_
        replace hf1 := hf1.drew
        replace hbk1 := hbk1.drew
        have y0 : w2.drew.cell? ⟨p, 0, none⟩ = some (.slice (some ⟨kb, 0, none⟩) kept.length kept.length) := c0
        have y1 : w2.drew.cell? ⟨gw, 0, none⟩ = some (.int .i64 x.1) := x0
        have y2 : w2.drew.rangeAt gw 1 (bts x.2) := x1.drew
        clear c0 x0 x1 hb1 hnew
        generalize w2.drew = w3 at *
        have hi0 : (0 : Int) ≤ (x.1 : Int) := by omega
        have hi1 : (x.1 : Int) < (kept.length : Int) := by omega
        repeat (first | (refine wpF_f0 (fun K hK => ?_); go_simp; refine hK _ ?_; clear hK K) | (refine wpF_load1 rfl rfl rfl (by kernel_rfl) (by assumption) (by simp) (fun K hK => ?_); go_simp; refine hK _ ?_; clear hK K) | (refine wpF_loadN rfl rfl rfl (by assumption) (by assumption) (by kernel_rfl) (by kernel_rfl) (by simp) (fun K hK => ?_); go_simp; refine hK _ ?_; clear hK K))
        refine wpF_a3 (fun K hK => ?_); rw [if_pos (by rfl)]
        have hkl := keepN_len pk kept mem hlen (fun y hy => (hidx y hy).2) k
        have hks : (kcells (keepN pk kept mem k)).length = kept.length * 64 := by rw [kcells_length _ hkl, keepN_length]
        have hth : w3.there kb (x.1 * 64) 64 := hbk1.there _ _ (by have := hx1.1; simp [hks]; omega)
        refine wp_storeN (o := x.1 * 64) rfl rfl rfl hxl hth (by kernel_rfl) (bts_one _) ?_
        have hbk2 := Blk.setCells (bts x.2) (x.1 * 64) hbk1 (by have := hx1.1; simp [hks, hxl]; omega)
        have hf2 := Fr.setCells (b := kb) (bts x.2) (x.1 * 64) hf1 (by exact fun _ => rfl)
        have he : ((kcells (keepN pk kept mem k)).toArray.toList.take (x.1 * 64) ++ bts x.2 ++ (kcells (keepN pk kept mem k)).toArray.toList.drop (x.1 * 64 + (bts x.2).length)).toArray = (kcells (keepN pk kept mem (k + 1))).toArray := by
          rw [hkk, hxl]; simp only [if_true]
          exact congrArg List.toArray (flatMap_set bts 64 x.2 (keepN pk kept mem k) (fun y hy => by rw [bts_length, hkl y hy]) x.1 (by rw [keepN_length]; exact hx1.1) hxl)
        rw [he] at hbk2
        clear he hbk1 hf1 hth y0 y1 y2
        generalize w3.setCells kb (x.1 * 64) (bts x.2) = w4 at *
        go_simp
        refine hK _ _ ?_
        clear hK K
        refine wpF_nil ?_
        go_wp2
        go_roundw
        case rel => exact ⟨k + 1, by go_num, by omega, hf2, hbk2⟩
        case measure => simp [intOf]; omega
    · have hge : decide ((k : Int) < (mem.length : Int)) = false := by simp; omega
      obtain rfl : k = mem.length := by omega
      have hb' := hb.fr hfr hpkb
      obtain ⟨d0, d1, d2, d3, d4, d5, e0, e1, e2, e3, e4, e5⟩ := dcells_all hb'
      clear d0 d2 d3 d4 d5 e0 e2 e3 e4 e5
      go_wp2
      go_end0
      have hf5 := (hfr.mono (T' := fun b => b = p ∨ b = kb) (fun _ _ h => .inr h)).setCell (p := ⟨p, 1, none⟩) (by exact fun _ => .inl rfl) (.slice none 0 0)
      exact ⟨rfl, hb'.set 1 _, hbk.far (Ne.symm hpkb) _, hf5⟩



set_option maxHeartbeats 2000000 in
set_option maxRecDepth 100000 in
theorem keep_crash {w : World} {p kb : Nat} {mv : Value} {D : DSt} (pb : Nat) (pk : Nat → Bool)
    (hb : Blk w p (dcells kb D.kept.length mv D.out D.armed D.left D.calls) 68) (hk : Blk w kb (kcells D.kept).toArray 81) (hm : w.ownsRow 0 95 65 mv D.mem.length (mcells D.mem))
    (hlen : ∀ b ∈ D.kept, b.length = 64) (hidx : ∀ x ∈ D.mem, x.1 < D.kept.length ∧ x.2.length = 64) (hn : D.kept.length ≤ 4096) (hml : D.mem.length < 2 ^ 30)
    (hpick : ∀ (k : Nat) wr, k < D.mem.length → Fr (fun b => b = kb) w wr → Calls Try.prog 39 #[.int .i64 k, .pointer (some ⟨pb, 0, none⟩)] wr fun e w' => e = .returned (.bool (pk k)) ∧ Below wr.heap.size wr w') :
    Calls Try.prog 38 #[.pointer (some ⟨p, 0, none⟩), .func (.func 39) #[] #[.pointer (some ⟨pb, 0, none⟩)]] w fun e w' => e = .returned (.tuple #[]) ∧
      Blk w' p (dcells kb D.kept.length (.slice none 0 0) D.out D.armed D.left D.calls) 68 ∧ Blk w' kb (kcells (keepN pk D.kept D.mem D.mem.length)).toArray 81 ∧ Fr (fun b => b = p ∨ b = kb) w w' := by
  obtain ⟨kept, mem, out, armed, left, calls⟩ := D
  dsimp only at *
  obtain ⟨A0, C0, rfl⟩ := own_form hm
  have hpkb : p ≠ kb := hb.ne hk (by decide)
  have hml2 : (mem.length : Int) < 2 ^ 30 := by omega
  obtain ⟨c0, c1, c2, c3, c4, c5, f0, f1, f2, f3, f4, f5⟩ := dcells_all hb
  clear c2 c3 c4 c5 f0 f2 f3 f4 f5
  go_enter Try.func38, Try.ntmps38
  go_wp2
  go_loopw [11] (fun i wr => ∃ k : Nat, i = .int .i64 k ∧ k ≤ mem.length ∧ Fr (fun b => b = kb) w wr ∧ Blk wr kb (kcells (keepN pk kept mem k)).toArray 81) (fun i _ => mem.length - (intOf i).toNat)
  case atStart => exact ⟨0, rfl, Nat.zero_le _, Fr.refl _ _, hk⟩
  case round =>
    obtain ⟨k, rfl, hkm, hfr, hbk⟩ := hrel
    by_cases hlt : k < mem.length
    · have hltI : (k : Int) < (mem.length : Int) := by omega
      have hk0 : (0 : Int) ≤ (k : Int) := by omega
      obtain ⟨x, hx⟩ : ∃ x, mem[k]? = some x := ⟨mem[k], List.getElem?_eq_getElem hlt⟩
      have hxm : x ∈ mem := List.mem_of_getElem? hx
      have hx1 := hidx x hxm
      have hwl : (wcell x).length = 65 := mcells_length mem (fun y hy => (hidx y hy).2) x hxm
      have hwo : ∀ v ∈ wcell x, v.oneCell' = true := by intro v hv; rcases List.mem_cons.1 hv with rfl | hv; exact rfl; exact bts_one _ v hv
      obtain ⟨g, c, hgc⟩ : ∃ g c, (Value.slice A0 mem.length C0) = .slice (some ⟨g, 0, none⟩) mem.length c := by
        rcases hm.2 with ⟨_, h0⟩ | ⟨g, cap, cur, hv, _⟩
        · omega
        · exact ⟨g, cap, hv⟩
      simp only [Value.slice.injEq, true_and] at hgc
      obtain ⟨rfl, rfl⟩ := hgc
      have hmb : some kb ≠ (Value.slice (some ⟨g, 0, none⟩) mem.length C0).ownBlock := own_blk_ne hm hk (by decide)
      have hmr := own_fr (T := fun b => b = kb) hm hfr (fun b hb e => hmb (by rw [hb, e]))
      have hxr : wr.rangeAt g (k * 65) (wcell x) := own_range hmr (k * 65) (wcell x) (fun j u hu => by
        have hj : j < 65 := by have := (List.getElem?_eq_some_iff.1 hu).1; omega
        rw [mcells, flatMap_get wcell 65 mem (mcells_length mem (fun y hy => (hidx y hy).2)) k hlt j hj]
        have : mem[k] = x := by have := List.getElem?_eq_getElem hlt; rw [hx] at this; exact (Option.some.inj this).symm
        rw [this]; exact hu)
      have hpk := hpick k
      have hb' := hb.fr hfr hpkb
      clear hpick hm hmr hmb hb hk
      go_wp2_with (first | (refine wpList_loadN rfl rfl rfl (by assumption) (by assumption) (by kernel_rfl) (by kernel_rfl) ?_) | (refine wpList_alloc1 (e := 95) (n := 65) rfl rfl (by kernel_rfl) (fun zc hzc => ?_)) | (refine wpList_store1 rfl rfl rfl rfl (by assumption) (by assumption) (by kernel_rfl) (by assumption) ?_))
      have hnew := Blk.new wr (wcell x).toArray 95
      have hgk : kb ≠ wr.heap.size := by have := hbk.lt; omega
      have hgp : p ≠ wr.heap.size := by have := hb'.lt; omega
      have hf1 := hfr.alloc (.cells (wcell x).toArray 95)
      have hbk1 := hbk.alloc (.cells (wcell x).toArray 95)
      have hb1 := hb'.alloc (.cells (wcell x).toArray 95)
      generalize wr.alloc (.cells (wcell x).toArray 95) = w1 at *
      generalize wr.heap.size = gw at *
      clear hxr hwo hwl hb' hbk hfr c1 c0 f1
      refine (hpk _ hlt hf1).mono ?_
      rintro e w2 ⟨rfl, hbel⟩
      clear hpk
      have hz := Fr.of_below hbel (fun _ => False)
      replace hb1 := hb1.fr hz (fun h => h)
      replace hbk1 := hbk1.fr hz (fun h => h)
      replace hnew := hnew.fr hz (fun h => h)
      replace hf1 : Fr (fun b => b = kb) w w2 := hf1.step hz (fun _ _ h => h.elim)
      clear hz hbel
      have hkk : keepN pk kept mem (k + 1) = if pk k then (keepN pk kept mem k).set x.1 x.2 else keepN pk kept mem k := by rw [keepN, hx]
      cases hpk : pk k with
      | false =>
        rw [hpk] at hkk
        go_wp2
        go_roundw
        case rel => exact ⟨k + 1, by go_num, by omega, hf1, by rw [hkk]; exact hbk1⟩
        case measure => simp [intOf]; omega
      | true =>
        rw [hpk] at hkk
        obtain ⟨c0, -⟩ := dcells_all hb1
        have x0 : w2.cell? ⟨gw, 0, none⟩ = some (.int .i64 x.1) := hnew.cell 0
        have x1 : w2.rangeAt gw 1 (bts x.2) := hnew.range' 1 _ (fun j v hv => by rw [Nat.add_comm]; simpa [wcell] using hv)
        have hxl : (bts x.2).length = 64 := by rw [bts_length, hx1.2]
        go_wp2
        refine wp_region_float (Fr (fun _ => False)) [(0, 0), (1, 0), (2, 0), (3, 1), (4, 0), (5, 1), (6, 0), (7, 1), (8, 0), (9, 3)] _ (by kernel_rfl) (by kernel_rfl) (by simp only [List.map_cons, List.map_nil, Array.getD_eq_getD_getElem?, List.getElem?_toArray, List.getElem?_cons_succ, List.getElem?_cons_zero, Option.getD_some]; rfl) rfl (by kernel_rfl) (fun _ _ d _ _ h => by cases d <;> exact h) (Fr.refl _) (fun _ _ _ => Fr.trans) ?_
        replace hf1 := hf1.drew
        replace hbk1 := hbk1.drew
        have y0 : w2.drew.cell? ⟨p, 0, none⟩ = some (.slice (some ⟨kb, 0, none⟩) kept.length kept.length) := c0
        have y1 : w2.drew.cell? ⟨gw, 0, none⟩ = some (.int .i64 x.1) := x0
        have y2 : w2.drew.rangeAt gw 1 (bts x.2) := x1.drew
        clear c0 x0 x1 hb1 hnew
        generalize w2.drew = w3 at *
        have hi0 : (0 : Int) ≤ (x.1 : Int) := by omega
        have hi1 : (x.1 : Int) < (kept.length : Int) := by omega
        repeat (first | (refine wpF_f0 (fun K hK => ?_); go_simp; refine hK _ ?_; clear hK K) | (refine wpF_load1 rfl rfl rfl (by kernel_rfl) (by assumption) (by simp) (fun K hK => ?_); go_simp; refine hK _ ?_; clear hK K) | (refine wpF_loadN rfl rfl rfl (by assumption) (by assumption) (by kernel_rfl) (by kernel_rfl) (by simp) (fun K hK => ?_); go_simp; refine hK _ ?_; clear hK K))
        refine wpF_a3 (fun K hK => ?_); rw [if_pos (by rfl)]
        have hkl := keepN_len pk kept mem hlen (fun y hy => (hidx y hy).2) k
        have hks : (kcells (keepN pk kept mem k)).length = kept.length * 64 := by rw [kcells_length _ hkl, keepN_length]
        have hth : w3.there kb (x.1 * 64) 64 := hbk1.there _ _ (by have := hx1.1; simp [hks]; omega)
        refine wp_storeN (o := x.1 * 64) rfl rfl rfl hxl hth (by kernel_rfl) (bts_one _) ?_
        have hbk2 := Blk.setCells (bts x.2) (x.1 * 64) hbk1 (by have := hx1.1; simp [hks, hxl]; omega)
        have hf2 := Fr.setCells (b := kb) (bts x.2) (x.1 * 64) hf1 (by exact fun _ => rfl)
        have he : ((kcells (keepN pk kept mem k)).toArray.toList.take (x.1 * 64) ++ bts x.2 ++ (kcells (keepN pk kept mem k)).toArray.toList.drop (x.1 * 64 + (bts x.2).length)).toArray = (kcells (keepN pk kept mem (k + 1))).toArray := by
          rw [hkk, hxl]; simp only [if_true]
          exact congrArg List.toArray (flatMap_set bts 64 x.2 (keepN pk kept mem k) (fun y hy => by rw [bts_length, hkl y hy]) x.1 (by rw [keepN_length]; exact hx1.1) hxl)
        rw [he] at hbk2
        clear he hbk1 hf1 hth y0 y1 y2
        generalize w3.setCells kb (x.1 * 64) (bts x.2) = w4 at *
        go_simp
        refine hK _ _ ?_
        clear hK K
        refine wpF_nil ?_
        go_wp2
        go_roundw
        case rel => exact ⟨k + 1, by go_num, by omega, hf2, hbk2⟩
        case measure => simp [intOf]; omega
    · have hge : decide ((k : Int) < (mem.length : Int)) = false := by simp; omega
      obtain rfl : k = mem.length := by omega
      have hb' := hb.fr hfr hpkb
      obtain ⟨d0, d1, d2, d3, d4, d5, e0, e1, e2, e3, e4, e5⟩ := dcells_all hb'
      clear d0 d2 d3 d4 d5 e0 e2 e3 e4 e5
      go_wp2
      go_end0
      have hf5 := (hfr.mono (T' := fun b => b = p ∨ b = kb) (fun _ _ h => .inr h)).setCell (p := ⟨p, 1, none⟩) (by exact fun _ => .inl rfl) (.slice none 0 0)
      exact ⟨rfl, hb'.set 1 _, hbk.far (Ne.symm hpkb) _, hf5⟩



end Go.Proofs.Ythglnbkfmmchnaa.Dsk
