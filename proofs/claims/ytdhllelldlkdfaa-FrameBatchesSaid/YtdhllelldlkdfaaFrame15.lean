/- frame's reader: put. -/
import Derived.Test.YtdhllelldlkdfaaFrame14
namespace Go.Proofs.Ytdhllelldlkdfaa
open Go.RowKit

def textN (b : List UInt8) : Option (List UInt8 × List UInt8) := match manyN b with
  | some (n, r) => some (r.take n, r.drop n)
  | none => none
def oneN : List UInt8 → Option (PutL × List UInt8)
  | [] => none
  | g :: r => if 1 < g then none else match textN r with
    | none => none
    | some (k, r2) => if g = 1 then some (⟨k, [], true⟩, r2) else match textN r2 with
      | none => none
      | some (v, r3) => some (⟨k, v, false⟩, r3)
theorem oneN_cons (g : UInt8) (r : List UInt8) : oneN (g :: r) = if 1 < g then none else match textN r with
    | none => none
    | some (k, r2) => if g = 1 then some (⟨k, [], true⟩, r2) else match textN r2 with
      | none => none
      | some (v, r3) => some (⟨k, v, false⟩, r3) := rfl
theorem manyN_some {b r : List UInt8} {n : Nat} (h : manyN b = some (n, r)) : n ≤ r.length ∧ r.length ≤ b.length ∧ n < 2 ^ 63 := by
  unfold manyN at h
  split at h
  · rename_i hk
    simp only [Option.some.injEq, Prod.mk.injEq] at h
    obtain ⟨rfl, rfl⟩ := h
    have h1 := (getN_le b).2
    have : (128 : Nat) ^ 9 = 2 ^ 63 := by decide
    rw [List.length_drop]
    exact ⟨hk.2, Nat.sub_le _ _, by omega⟩
  · cases h
theorem textN_some {b k r : List UInt8} (h : textN b = some (k, r)) : ∃ n s, manyN b = some (n, s) ∧ n ≤ s.length ∧ k = s.take n ∧ r = s.drop n ∧ k.length = n ∧ s.length ≤ b.length ∧ n < 2 ^ 63 := by
  unfold textN at h
  split at h
  · rename_i n s hs
    simp only [Option.some.injEq, Prod.mk.injEq] at h
    obtain ⟨rfl, rfl⟩ := h
    obtain ⟨h1, h2, h3⟩ := manyN_some hs
    exact ⟨n, s, hs, h1, rfl, rfl, by rw [List.length_take]; omega, h2, h3⟩
  · cases h
theorem textN_none {b : List UInt8} (h : textN b = none) : manyN b = none := by
  unfold textN at h
  split at h
  · cases h
  · assumption
theorem results_cellN {P : Program} {fn : Func} {p : Tmp} {ty : TypeId} (h : fn.results = #[.cell p ty]) (tmps : Array Value) {w : World} {g : Nat} {t : TypeId} {cs : Array Value}
    (hp : tmps.getD p undef = .pointer (some ⟨g, 0, none⟩)) (hg : Blk w g cs t)
    (hu : (P.underlying ty).map TypeDesc.isRow = some true) (hi : (P.info? ty).map (·.size) = some cs.size) :
    (results fn tmps).run P w = .ok (.agg cs) w := by
  obtain ⟨d, hd, hd2⟩ := Option.map_eq_some_iff.1 hu
  have hp' : tmps[p]?.getD undef = .pointer (some ⟨g, 0, none⟩) := by simpa using hp
  have hr := run_loadVar_row (P := P) w g t ty cs (0, 0) d hg hd (by cases d <;> simp_all [TypeDesc.isRow]) hi
  simp [results, h, hp', asAddr, hr]
theorem build_put (b : Bool) (w : World) : (Instr.build 45 #[(2, .bool b)]).run Try.prog w = .ok (.agg #[.slice none 0 0, .slice none 0 0, .bool b]) w := by kernel_rfl
theorem RdR.fr {B0 : Nat} {w w' : World} {rp : Nat} {b : List UInt8} (h : RdR B0 w rp b) {T : Nat → Prop} (f : Fr T w w') (ht : ∀ k, k < B0 → ¬ T k) (hr : ¬ T rp) : RdR B0 w' rp b := by
  obtain ⟨v, h1, h2, h3, h4, h5⟩ := h
  exact ⟨v, h1.fr f hr, h2.fr f (fun hl k hk => ht k (h3 hl k hk)), h3, h4, h5⟩
theorem RdR.lt {B0 : Nat} {w : World} {rp : Nat} {b : List UInt8} (h : RdR B0 w rp b) : rp < w.heap.size ∧ B0 ≤ rp := by
  obtain ⟨v, h1, _, _, h4, -⟩ := h
  exact ⟨h1.lt, h4⟩

set_option maxHeartbeats 3000000 in
set_option maxRecDepth 100000 in
theorem put_ok {B0 : Nat} {w : World} {rp : Nat} {b r : List UInt8} {p : PutL} (h : RdR B0 w rp b) (hm : b.length < 2 ^ 30) (hp : oneN b = some (p, r)) :
    Calls Try.prog 40 #[.pointer (some ⟨rp, 0, none⟩)] w fun e w' => ∃ vk vv, e = .returned (.agg #[vk, vv, .bool p.gone]) ∧ w'.ownsRow w.heap.size 5 1 vk p.key.length (bts p.key) ∧
      w'.ownsRow w.heap.size 5 1 vv p.val.length (bts p.val) ∧ RdR B0 w' rp r ∧ Fr (fun k => k = rp) w w' := by
  cases b with
  | nil => cases hp
  | cons g b1 =>
  rw [oneN_cons] at hp
  by_cases hg1 : 1 < g
  · rw [if_pos hg1] at hp; cases hp
  rw [if_neg hg1] at hp
  cases ht : textN b1 with
  | none => rw [ht] at hp; cases hp
  | some kr =>
  obtain ⟨key, b2⟩ := kr
  rw [ht] at hp
  simp only at hp
  obtain ⟨nk, sk, hmk, hk1, hk2, hk3, hk4, hk5, hk6⟩ := textN_some ht
  obtain ⟨hrp, hBr0⟩ := h.lt
  generalize hB0 : w.heap.size = B at *
  have HB := Lib.hid hB0
  have hbw : Blk (w.alloc (.cells #[.slice none 0 0, .slice none 0 0, .bool false] 45)) w.heap.size #[.slice none 0 0, .slice none 0 0, .bool false] 45 := Blk.new w _ _
  have hf1 : Fr (fun k => k = rp) w (w.alloc (.cells #[.slice none 0 0, .slice none 0 0, .bool false] 45)) := (Fr.refl _ w).alloc _
  have h1 := h.fr ((Fr.refl (fun _ => False) w).alloc (.cells #[.slice none 0 0, .slice none 0 0, .bool false] 45)) (fun _ _ h => h) (fun h => h)
  rw [hB0] at hbw
  clear h ht hB0
  go_enter Try.func40, Try.ntmps40
  go_upto_region 1 with (refine wpList_allocZ rfl rfl (zs := #[.slice none 0 0, .slice none 0 0, .bool false]) (by kernel_rfl) ?_; rw [HB.out]; generalize w.alloc (.cells #[.slice none 0 0, .slice none 0 0, .bool false] 45) = w1 at *)
  go_wp2_with fail
  have hs1' : B < w1.heap.size := hbw.lt
  have hs1 : B ≤ w1.heap.size := by have := hf1.size; rw [HB.out] at this; omega
  refine (take_ok (n := 1) h1 (by simp) hm).mono ?_
  rintro e w2 ⟨v2, rfl, o2, h2, f2⟩
  replace o2 : w2.ownsRow w1.heap.size 5 1 v2 1 (bts [g]) := o2
  replace h2 : RdR B0 w2 rp b1 := h2
  obtain ⟨q, c, rfl⟩ := own_some o2 (by omega)
  have hq := o2.cells (g := q) rfl 0 _ rfl
  rw [Addr.add_mid, Nat.zero_add] at hq
  have hg2 : (g.toNat : Int) ≤ 1 := by have := UInt8.le_iff_toNat_le.1 (UInt8.not_lt.1 hg1); have h1 : (1 : UInt8).toNat = 1 := rfl; omega
  have hbw2 := hbw.fr f2 (by intro e; omega)
  have hf2 := hf1.step f2 (fun _ _ e => e)
  have hs2 := Nat.le_trans hs1 f2.size
  have hs2' := Nat.lt_of_lt_of_le hs1' f2.size
  clear h1 hbw hf1 f2 o2
  obtain ⟨bg, hbg⟩ : ∃ bg, ((g.toNat : Int) == 1) = bg := ⟨_, rfl⟩
  have hbg2 : (g = 1) ↔ bg = true := by
    rw [← hbg]
    constructor
    · rintro rfl; rfl
    · intro h
      have : (g.toNat : Int) = 1 := by simpa using h
      exact UInt8.toNat_inj.1 (by have h1 : (1 : UInt8).toNat = 1 := rfl; omega)
  have hl3 : ([.slice none 0 0, .slice none 0 0, .bool bg] : List Value).length = 3 := rfl
  have h13 : ∀ v ∈ ([.slice none 0 0, .slice none 0 0, .bool bg] : List Value), v.oneCell' = true := by
    intro v hv
    simp only [List.mem_cons, List.mem_nil_iff, or_false] at hv
    rcases hv with rfl | rfl | rfl <;> rfl
  have HP := Lib.hid hp
  clear hp
  go_upto_region 4 with (first
    | (go_at_call 41; refine (must_ok _).mono ?_; rintro e w3 ⟨rfl, rfl⟩)
    | (refine wpList_value rfl (exec_build (build_put bg _) rfl (by simp [Act.eval])) ?_)
    | (refine wpList_alloc1 (e := 45) (n := 3) rfl rfl (by kernel_rfl) (fun zc hzc => ?_))
    | (refine wpList_store1 (cs := [.slice none 0 0, .slice none 0 0, .bool bg]) rfl rfl rfl rfl hl3 hzc (by kernel_rfl) h13 ?_))
  have b4 := Blk.new w3 [.slice none 0 0, .slice none 0 0, .bool bg].toArray 45
  have f4 : Fr (fun _ => False) w3 (w3.alloc (.cells [.slice none 0 0, .slice none 0 0, .bool bg].toArray 45)) := (Fr.refl _ w3).alloc _
  replace h2 := h2.fr f4 (fun _ _ h => h) (fun h => h)
  replace hbw2 := hbw2.fr f4 (fun h => h)
  replace hf2 := hf2.step f4 (fun _ _ h => h.elim)
  have hs4 := Nat.le_trans hs2 f4.size
  have hrp4 : rp ≠ w3.heap.size := by omega
  go_simp
  generalize w3.alloc (.cells [.slice none 0 0, .slice none 0 0, .bool bg].toArray 45) = w4 at *
  have hg4 : B < w3.heap.size := hs2'
  generalize w3.heap.size = g4 at *
  clear f4 hq hl3 h13 hs2 hs2' hs1' hs1
  replace b4 : Blk w4 g4 #[.slice none 0 0, .slice none 0 0, .bool bg] 45 := b4
  have hm1 : b1.length < 2 ^ 30 := by simp at hm; omega
  go_upto_region 5 with (go_at_call 39; refine (many_ok h2.to0 hmk).mono ?_; rintro e w5 ⟨rfl, h5, f5⟩)
  have hgr : ¬ g4 = rp := fun e => hrp4 e.symm
  have hBr : ¬ B = rp := fun e => by omega
  have hs5 := Nat.le_trans hs4 f5.size
  go_upto_region 6 with (go_at_call 47; refine (take_ok h5 hk1 (by omega)).mono ?_; rintro e w6 ⟨vk, rfl, ok, h6, f6⟩; have b6 := (b4.fr f5 hgr).fr f6 hgr; have c0 := b6.cell 0; simp only [List.getElem?_toArray, List.getElem?_cons_zero] at c0; have f0 := b6.frozen 0; obtain ⟨Ak, ck, rfl⟩ := own_form ok)
  replace hf2 := (hf2.step f5 (fun _ _ e => e)).step f6 (fun _ _ e => e)
  replace hbw2 := (hbw2.fr f5 hBr).fr f6 hBr
  have hs6 := Nat.le_trans hs5 f6.size
  replace ok := own_base ok hs5
  rw [← hk2] at ok
  rw [← hk3] at h6
  have b7 := b6.set 0 (.slice Ak nk ck)
  have ok7 := own_set ok b6 (by decide) 0 (.slice Ak nk ck)
  have g7 : Fr (fun j => j = g4) w6 (w6.setCell ⟨g4, 0, none⟩ (.slice Ak nk ck)) := (Fr.refl (fun j => j = g4) w6).setCell (p := ⟨g4, 0, none⟩) (fun _ => rfl) _
  have h7 := h6.fr g7 (fun j hj (e : j = g4) => by omega) (fun (e : rp = g4) => hrp4 e)
  have hf7 := hf2.setCell (p := ⟨g4, 0, none⟩) (by intro e; rw [HB.out] at e; exact absurd (show g4 < B from e) (by omega)) (.slice Ak nk ck)
  have bw7 := hbw2.fr g7 (fun (e : B = g4) => by omega)
  have hs7 : B ≤ (w6.setCell ⟨g4, 0, none⟩ (.slice Ak nk ck)).heap.size := Nat.le_trans hs6 g7.size
  clear g7 hf2 hbw2 b6 h6 ok c0 f0 b4 h5 f5 f6
  generalize w6.setCell ⟨g4, 0, none⟩ (.slice Ak nk ck) = w7 at *
  replace b7 : Blk w7 g4 #[.slice Ak nk ck, .slice none 0 0, .bool bg] 45 := b7
  have c2 := b7.cell 2
  simp only [List.getElem?_toArray, List.getElem?_cons_zero, List.getElem?_cons_succ] at c2
  cases bg with
  | true =>
    obtain rfl := hbg2.2 rfl
    have hp' : p = ⟨key, [], true⟩ ∧ r = b2 := by
      have := HP.out
      rw [if_pos rfl] at this
      simp only [Option.some.injEq, Prod.mk.injEq] at this
      exact ⟨this.1.symm, this.2.symm⟩
    obtain ⟨rfl, rfl⟩ := hp'
    obtain ⟨Av, nv, cv, hav, hcv, hnv⟩ : ∃ (Av : Option Addr) (nv cv : Nat), Av = none ∧ cv = 0 ∧ nv = 0 := ⟨_, _, _, rfl, rfl, rfl⟩
    have b8 : Blk w7 g4 #[.slice Ak nk ck, .slice Av nv cv, .bool true] 45 := by subst hav hcv hnv; exact b7
    have ov8 : w7.ownsRow B 5 1 (.slice Av nv cv) ([] : List UInt8).length (bts []) := by subst hav hcv hnv; exact World.ownsRow_nil _ _ _ _
    have bw8 := bw7
    have ok8 := ok7
    have h8 := h7
    have hf8 := hf7
    clear hav hcv hnv b7 bw7 ok7 h7 hf7
    generalize w7 = w8 at *
    go_wp2_with (first
      | (refine wpList_loadN (n := 3) rfl rfl rfl (b8.range' 0 [.slice Ak nk ck, .slice Av nv cv, .bool true] (by intro j v hj; rw [Nat.zero_add]; simpa using hj)) rfl (by kernel_rfl) (by kernel_rfl) ?_)
      | (refine wpList_storeN (n := 3) (cs := [.slice Ak nk ck, .slice Av nv cv, .bool true]) rfl rfl rfl rfl rfl (bw8.there 0 3 (by simp)) (by kernel_rfl) (by simp [Value.oneCell']) ?_))
    have b9 := bw8.setCells [.slice Ak nk ck, .slice Av nv cv, .bool true] 0 (by simp)
    have f9 := (Fr.refl (fun j => j = B) w8).setCells (b := B) [.slice Ak nk ck, .slice Av nv cv, .bool true] 0 (fun _ => rfl)
    have ok9 := own_fr ok8 f9 (fun j hj e => own_blk_ne ok8 bw8 (by decide) (e ▸ hj.symm))
    have ov9 := own_fr ov8 f9 (fun j hj e => own_blk_ne ov8 bw8 (by decide) (e ▸ hj.symm))
    have h9 := h8.fr f9 (fun j hj (e : j = B) => by omega) (fun (e : rp = B) => by omega)
    have hf9 := hf8.setCells [.slice Ak nk ck, .slice Av nv cv, .bool true] 0 (b := B) (by intro e; rw [HB.out] at e; omega)
    refine bodyPost_ret (results_cellN Try.results40 _ rfl b9 (by kernel_rfl) (by kernel_rfl)) rfl ?_
    refine ⟨.slice Ak nk ck, .slice Av nv cv, rfl, ?_, ov9, ?_, hf9⟩
    · rw [← hk2]; exact ok9
    · rw [← hk3]; exact h9
  | false =>
    have hg0 : ¬ g = 1 := fun e => by have := hbg2.1 e; cases this
    cases ht2 : textN b2 with
    | none =>
      have := HP.out
      rw [if_neg hg0, ht2] at this
      cases this
    | some vr =>
    obtain ⟨val, b3⟩ := vr
    have hp' : p = ⟨key, val, false⟩ ∧ r = b3 := by
      have := HP.out
      rw [if_neg hg0, ht2] at this
      simp only [Option.some.injEq, Prod.mk.injEq] at this
      exact ⟨this.1.symm, this.2.symm⟩
    obtain ⟨rfl, rfl⟩ := hp'
    obtain ⟨nv, sv, hmv, hv1, hv2, hv3, hv4, hv5, hv6⟩ := textN_some ht2
    have hb2l : b2.length ≤ sk.length := by rw [hk3, List.length_drop]; omega
    clear HP ht2 hbg2 hg0
    go_upto_region 8 with (go_at_call 39; refine (many_ok h7.to0 hmv).mono ?_; rintro e w10 ⟨rfl, h10, f10⟩)
    have hs10 := Nat.le_trans hs7 f10.size
    go_upto_region 9 with (go_at_call 47; refine (take_ok h10 hv1 (by omega)).mono ?_; rintro e w11 ⟨vv, rfl, ov, h11, f11⟩; have b11 := (b7.fr f10 hgr).fr f11 hgr; have c1 := b11.cell 1; simp only [List.getElem?_toArray, List.getElem?_cons_zero, List.getElem?_cons_succ] at c1; have f1 := b11.frozen 1; obtain ⟨Av, cv, rfl⟩ := own_form ov)
    replace ov := own_base ov hs10
    rw [← hv2] at ov
    rw [← hv3] at h11
    have ok11 := own_fr (own_fr ok7 f10 (fun j hj (e : j = rp) => by have := (ok7.lt j hj).1; omega)) f11 (fun j hj (e : j = rp) => by have := (ok7.lt j hj).1; omega)
    have hf11 := (hf7.step f10 (fun _ _ e => e)).step f11 (fun _ _ e => e)
    have bw11 := (bw7.fr f10 hBr).fr f11 hBr
    have g8 : Fr (fun j => j = g4) w11 (w11.setCell ⟨g4, 1, none⟩ (.slice Av nv cv)) := (Fr.refl (fun j => j = g4) w11).setCell (p := ⟨g4, 1, none⟩) (fun _ => rfl) _
    have b8 := b11.set 1 (.slice Av nv cv)
    have ov8 := own_set ov b11 (by decide) 1 (.slice Av nv cv)
    have ok8 := own_set ok11 b11 (by decide) 1 (.slice Av nv cv)
    have h8 := h11.fr g8 (fun j hj (e : j = g4) => by omega) (fun (e : rp = g4) => hrp4 e)
    have hf8 := hf11.setCell (p := ⟨g4, 1, none⟩) (by intro e; rw [HB.out] at e; exact absurd (show g4 < B from e) (by omega)) (.slice Av nv cv)
    have bw8 := bw11.fr g8 (fun (e : B = g4) => by omega)
    clear g8 hf11 bw11 b11 h11 ov c1 f1 b7 h10 f10 f11 ok11 h7 hf7 ok7 bw7 c2
    generalize w11.setCell ⟨g4, 1, none⟩ (.slice Av nv cv) = w8 at *
    replace b8 : Blk w8 g4 #[.slice Ak nk ck, .slice Av nv cv, .bool false] 45 := b8
    go_wp2_with (first
      | (refine wpList_loadN (n := 3) rfl rfl rfl (b8.range' 0 [.slice Ak nk ck, .slice Av nv cv, .bool false] (by intro j v hj; rw [Nat.zero_add]; simpa using hj)) rfl (by kernel_rfl) (by kernel_rfl) ?_)
      | (refine wpList_storeN (n := 3) (cs := [.slice Ak nk ck, .slice Av nv cv, .bool false]) rfl rfl rfl rfl rfl (bw8.there 0 3 (by simp)) (by kernel_rfl) (by simp [Value.oneCell']) ?_))
    have b9 := bw8.setCells [.slice Ak nk ck, .slice Av nv cv, .bool false] 0 (by simp)
    have f9 := (Fr.refl (fun j => j = B) w8).setCells (b := B) [.slice Ak nk ck, .slice Av nv cv, .bool false] 0 (fun _ => rfl)
    have ok9 := own_fr ok8 f9 (fun j hj e => own_blk_ne ok8 bw8 (by decide) (e ▸ hj.symm))
    have ov9 := own_fr ov8 f9 (fun j hj e => own_blk_ne ov8 bw8 (by decide) (e ▸ hj.symm))
    have h9 := h8.fr f9 (fun j hj (e : j = B) => by omega) (fun (e : rp = B) => by omega)
    have hf9 := hf8.setCells [.slice Ak nk ck, .slice Av nv cv, .bool false] 0 (b := B) (by intro e; rw [HB.out] at e; omega)
    refine bodyPost_ret (results_cellN Try.results40 _ rfl b9 (by kernel_rfl) (by kernel_rfl)) rfl ?_
    refine ⟨.slice Ak nk ck, .slice Av nv cv, rfl, ?_, ?_, ?_, hf9⟩
    · first | exact ok9 | (rw [← hk2]; exact ok9)
    · first | exact ov9 | (rw [← hv2]; exact ov9)
    · rw [← hv3]; exact h9
end Go.Proofs.Ytdhllelldlkdfaa
