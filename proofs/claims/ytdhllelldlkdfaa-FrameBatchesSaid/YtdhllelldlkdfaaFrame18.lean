/- frame.Puts. -/
import Derived.Test.YtdhllelldlkdfaaFrame17
import Derived.Test.YtdhllelldlkdfaaFR3
namespace Go.Proofs.Ytdhllelldlkdfaa
open Go.RowKit

def pvals (ps : List (Value × Value × Bool)) : List Value := ps.flatMap fun x => [x.1, x.2.1, .bool x.2.2]
theorem pvals_append (a b : List (Value × Value × Bool)) : pvals (a ++ b) = pvals a ++ pvals b := by simp [pvals]
/-- The row v holds these puts, its own; their bytes too. -/
structure OwP (B : Nat) (w : World) (v : Value) (ps : List (Value × Value × Bool)) (l : List PutL) : Prop where
  row : w.ownsRow B 45 3 v l.length (pvals ps)
  len : ps.length = l.length
  each : ∀ j, j < l.length → (ps.getD j (undef, undef, false)).2.2 = (l.getD j ⟨[], [], false⟩).gone ∧
    w.ownsRow B 5 1 (ps.getD j (undef, undef, false)).1 (l.getD j ⟨[], [], false⟩).key.length (bts (l.getD j ⟨[], [], false⟩).key) ∧
    w.ownsRow B 5 1 (ps.getD j (undef, undef, false)).2.1 (l.getD j ⟨[], [], false⟩).val.length (bts (l.getD j ⟨[], [], false⟩).val)
theorem OwP.fr {B : Nat} {w w' : World} {v : Value} {ps : List (Value × Value × Bool)} {l : List PutL} (h : OwP B w v ps l) {T : Nat → Prop} (f : Fr T w w') (h1 : ∀ k, v.ownBlock = some k → ¬ T k)
    (h2 : ∀ v' n xs, w.ownsRow B 5 1 v' n xs → ∀ k, v'.ownBlock = some k → ¬ T k) : OwP B w' v ps l where
  row := own_fr h.row f h1
  len := h.len
  each := fun j hj => ⟨(h.each j hj).1, own_fr (h.each j hj).2.1 f (h2 _ _ _ (h.each j hj).2.1), own_fr (h.each j hj).2.2 f (h2 _ _ _ (h.each j hj).2.2)⟩
theorem infoPut : (Try.prog.info? 45).map (fun i => (i.zero, i.size, i.bytes)) = some (some (.agg #[.slice none 0 0, .slice none 0 0, .bool false]), 3, 56) := by kernel_rfl
theorem getD_left {α : Type} {l : List α} {x d : α} {j : Nat} (h : j < l.length) : (l ++ [x]).getD j d = l.getD j d := by simp [List.getD, List.getElem?_append_left h]
theorem getD_last {α : Type} {l : List α} {x d : α} {j : Nat} (h : j = l.length) : (l ++ [x]).getD j d = x := by subst h; simp [List.getD]
theorem run_makeFunc (fn : Fn) (first cap : Array Value) (w : World) : (Instr.makeFunc fn first cap).run Try.prog w = .ok (.func fn first cap) w := rfl
theorem manyP_add (n k : Nat) (b : List UInt8) (h : manyP k b = none) : k ≤ n → manyP n b = none := by
  induction n with
  | zero => intro hk; obtain rfl : k = 0 := by omega
            exact h
  | succ n ih =>
    intro hk
    rcases Nat.lt_or_eq_of_le hk with hlt | rfl
    · rw [manyP, ih (by omega)]
    · exact h

theorem own_ne {w : World} {b1 b2 n1 n2 s1 s2 : Nat} {e1 e2 : TypeId} {v1 v2 : Value} {x1 x2 : List Value} (h1 : w.ownsRow b1 e1 s1 v1 n1 x1) (h2 : w.ownsRow b2 e2 s2 v2 n2 x2) (he : e1 ≠ e2) : ∀ k, v1.ownBlock = some k → v2.ownBlock ≠ some k := by
  intro k hk
  rcases h1.2 with ⟨rfl, _⟩ | ⟨g, cap, cur, rfl, hb, hg, _⟩
  · cases hk
  · cases hk
    exact fun e => own_blk_ne h2 (show Blk w g cur e1 from hg) (fun h => he h.symm) e.symm
theorem oneN_len {b r : List UInt8} {p : PutL} (h : oneN b = some (p, r)) : r.length ≤ b.length := by
  cases b with
  | nil => cases h
  | cons g t =>
    rw [oneN_cons] at h
    split at h
    · cases h
    · split at h
      · cases h
      · rename_i k r2 ht
        obtain ⟨n, s, h1, h2, h3, h4, h5, h6, h7⟩ := textN_some ht
        split at h
        · simp only [Option.some.injEq, Prod.mk.injEq] at h
          obtain ⟨-, rfl⟩ := h
          rw [h4, List.length_drop, List.length_cons]
          omega
        · split at h
          · cases h
          · rename_i v r3 ht2
            obtain ⟨n', s', h1', h2', h3', h4', h5', h6', h7'⟩ := textN_some ht2
            simp only [Option.some.injEq, Prod.mk.injEq] at h
            obtain ⟨-, rfl⟩ := h
            rw [h4', List.length_drop, List.length_cons]
            rw [h4, List.length_drop] at h6'
            omega
theorem res_same (t : Array Value) (d : Nat) (v : Value) (h2 : d ≠ 2) (h3 : d ≠ 3) : results Try.f19 (t.setIfInBounds d v) = results Try.f19 t := by
  simp [results, Try.results19, Array.getElem?_setIfInBounds, h2, h3]
theorem dst_ok {ops : Array Oper} (h : (ops.all fun o => o.dst != some 2 && o.dst != some 3) = true) {i : Nat} {o : Oper} (ho : ops[i]? = some o) : o.dst ≠ some 2 ∧ o.dst ≠ some 3 := by
  have := Array.all_eq_true'.1 h o (Array.mem_of_getElem? ho)
  simpa using this
theorem put_door {a : Act} {d : Option Tmp} {v : Value} (hd : d ≠ some 2 ∧ d ≠ some 3) {R : Ending → World → Prop} {u : FrameMode} {w : World} (h : Leaves Try.prog Try.f19 (a.put d v).tmps R (a.put d v).defers u w) :
    Leaves Try.prog Try.f19 a.tmps R a.defers u w := by
  cases d with
  | none => exact h
  | some d => exact leaves_congr (res_same a.tmps d v (fun e => hd.1 (by rw [e])) (fun e => hd.2 (by rw [e]))) _ _ _ h
theorem build_puts (A1 A2 : Option Addr) (n1 c1 n2 c2 : Nat) (g : Bool) (w : World) : (Instr.buildSlice 36 1 #[(0, .agg #[.slice A1 n1 c1, .slice A2 n2 c2, .bool g])]).run Try.prog w = .ok (.slice (some ⟨w.heap.size, 0, none⟩) 1 1) (w.alloc (.cells #[.slice A1 n1 c1, .slice A2 n2 c2, .bool g] 45)) := by kernel_rfl
def PutsPost (B : Nat) (w : World) (o : Option (List PutL)) (e : Ending) (w' : World) : Prop := Below B w w' ∧ match o with
  | some l => ∃ v' ps, e = .returned (.tuple #[v', .int .i64 0]) ∧ OwP B w' v' ps l
  | none => e = .returned (.tuple #[.slice none 0 0, .int .i64 3])
set_option maxHeartbeats 3000000 in
set_option maxRecDepth 100000 in
theorem puts_any {w : World} (v : Value) (b : List UInt8) (hv : Rd w v b) (hm : b.length < 2 ^ 30) :
    Calls Try.prog 19 #[v] w (PutsPost w.heap.size w (putsN b)) := by
  have hmf := run_makeFunc
  have hvl := hv.lt
  obtain ⟨A, c, rfl⟩ := hv.slice
  have hf1 : Fr (fun _ => False) w (((w.alloc (.cells #[.slice none 0 0] 36)).alloc (.cells #[.int .i64 0] 38)).alloc (.cells #[.slice A b.length c] 61)) := (((Fr.refl _ w).alloc _).alloc _).alloc _
  have hs1 : (((w.alloc (.cells #[.slice none 0 0] 36)).alloc (.cells #[.int .i64 0] 38)).alloc (.cells #[.slice A b.length c] 61)).heap.size = w.heap.size + 3 := by
    show (((w.heap.push _).push _).push _).size = _
    rw [Array.size_push, Array.size_push, Array.size_push]
  have e1 : (w.alloc (.cells #[.slice none 0 0] 36)).heap.size = w.heap.size + 1 := Array.size_push _
  have e2 : ((w.alloc (.cells #[.slice none 0 0] 36)).alloc (.cells #[.int .i64 0] 38)).heap.size = w.heap.size + 2 := by
    show ((w.heap.push _).push _).size = _
    rw [Array.size_push, Array.size_push]
  have bl := ((Blk.new w #[.slice none 0 0] 36).alloc (.cells #[.int .i64 0] 38)).alloc (.cells #[.slice A b.length c] 61)
  have be := (Blk.new (w.alloc (.cells #[.slice none 0 0] 36)) #[.int .i64 0] 38).alloc (.cells #[.slice A b.length c] 61)
  have br := Blk.new ((w.alloc (.cells #[.slice none 0 0] 36)).alloc (.cells #[.int .i64 0] 38)) #[.slice A b.length c] 61
  rw [e1] at be
  rw [e2] at br
  clear e1 e2
  have hr0 := hv.fr hf1 (fun _ _ _ h => h)
  generalize hB0 : w.heap.size = B at *
  have HB := Lib.hid hB0
  have hr : RdR0 B (((w.alloc (.cells #[.slice none 0 0] 36)).alloc (.cells #[.int .i64 0] 38)).alloc (.cells #[.slice A b.length c] 61)) (B + 2) b := ⟨_, br, hr0, hvl, by omega⟩
  have HX := Lib.hid (show _ ∧ _ ∧ _ ∧ _ ∧ _ from ⟨hf1, hs1, bl, be, hr⟩)
  clear hB0 hf1 hs1 bl be br hr hr0 hv
  go_enter_defers Try.func19, Try.ntmps19
  go_wp2_with fail
  rw [HB.out]
  obtain ⟨hf1, hs1, bl, be, hr⟩ := HX.out
  clear HX
  generalize ((w.alloc (.cells #[.slice none 0 0] 36)).alloc (.cells #[.int .i64 0] 38)).alloc (.cells #[.slice A b.length c] 61) = w1 at *
  have hbel1 : Below w.heap.size w w1 := hf1.below (Nat.le_refl _) (fun _ _ h => h)
  cases hmn : manyN b with
  | none =>
    have hpn : putsN b = none := by rw [putsN, hmn]
    refine (many_bad hr hmn).mono ?_
    rintro e w2 ⟨rfl, rfl⟩
    refine leaves_cons (f := 38) (args := #[.pointer (some ⟨B, 0, none⟩), .pointer (some ⟨B + 1, 0, none⟩)]) (by simp) (by simp [go_sem]) ?_
    refine (catch_panicking bl be rfl (by omega)).mono ?_
    rintro e u' w3 ⟨rfl, rfl, b2, b3, f3⟩
    have c2 := b2.cell 0
    have c3 := b3.cell 0
    simp only [List.getElem?_toArray, List.getElem?_cons_zero] at c2 c3
    simp [Leaves, settle, results, Try.results19, go_sem, c2, c3]
    rw [hpn]
    refine ⟨?_, rfl⟩
    rw [HB.out] at hbel1
    exact hbel1.trans (f3.below (by omega) (fun k hk e => by rcases e with e | e <;> omega))
  | some nr =>
    obtain ⟨n, r⟩ := nr
    obtain ⟨hn1, hn2, hn3⟩ := manyN_some hmn
    refine (many_ok hr hmn).mono ?_
    rintro e w2 ⟨rfl, hr2, f2⟩
    have bl2 := bl.fr f2 (fun (e : B = B + 2) => by omega)
    have be2 := be.fr f2 (fun (e : B + 1 = B + 2) => by omega)
    have hs2 := f2.size
    rw [HB.out] at hbel1
    have hb2 : Below B w w2 := hbel1.trans (f2.below (by omega) (fun k hk (e : k = B + 2) => by omega))
    have HY := Lib.hid (show _ ∧ _ ∧ _ ∧ _ from ⟨hr2, bl2, be2, hb2⟩)
    clear hr bl be hf1 hbel1 hr2 bl2 be2 hb2 f2
    go_wp2_with fail
    go_loopw [11] (fun i wr => ∃ (k : Nat) (l : List PutL) (ps : List (Value × Value × Bool)) (rk : List UInt8) (v : Value), i = .int .i64 k ∧ k ≤ n ∧ manyP k r = some (l, rk) ∧ l.length = k ∧ rk.length ≤ r.length ∧ RdR B wr (B + 2) rk ∧ Blk wr B #[v] 36 ∧ Blk wr (B + 1) #[.int .i64 0] 38 ∧ OwP B wr v ps l ∧ Below B w wr ∧ B + 3 ≤ wr.heap.size) (fun i _ => n - (intOf i).toNat)
    case atStart => exact ⟨0, [], [], r, .slice none 0 0, rfl, Nat.zero_le _, rfl, rfl, Nat.le_refl _, HY.out.1, HY.out.2.1, HY.out.2.2.1, ⟨World.ownsRow_nil _ _ _ _, rfl, fun j hj => by cases hj⟩, HY.out.2.2.2, by omega⟩
    case round =>
      clear HY
      obtain ⟨k, l, ps, rk, v, rfl, hk, hkl, hll, hrl, hrd, bl, be, ow, hbw, hsw⟩ := hrel
      have c0 := bl.cell 0
      simp only [List.getElem?_toArray, List.getElem?_cons_zero] at c0
      by_cases hlt : k < n
      · have hltI : (k : Int) < (n : Int) := by omega
        cases hon : oneN rk with
        | none =>
          have hpn : putsN b = none := by
            have h1 : manyP (k + 1) r = none := by rw [manyP, hkl]; simp only; rw [hon]
            rw [putsN, hmn]
            simp only
            rw [manyP_add n (k + 1) r h1 (by omega)]
          go_wp2_with fail
          refine wp_region_floatD (Fr (fun j => j = B + 2)) [(0, 1), (1, 0), (2, 2), (3, 2), (4, 3), (5, 3)] _ (by kernel_rfl) (by kernel_rfl) (by simp only [List.map_cons, List.map_nil, Array.getD_eq_getD_getElem?, List.getElem?_toArray, List.getElem?_cons_succ, List.getElem?_cons_zero, Option.getD_some]; rfl) rfl (by kernel_rfl) (fun i o ho c a v w h => put_door (dst_ok (by kernel_rfl) ho) h) (Fr.refl _) (fun _ _ _ => Fr.trans) ?_
          replace hrd := hrd.fr ((Fr.refl (fun _ => False) wr).drew) (fun _ _ h => h) (fun h => h)
          replace bl := bl.drew
          replace be := be.drew
          replace c0 : wr.drew.cell? ⟨B, 0, none⟩ = some v := c0
          replace hbw := hbw.drew
          replace hsw : B + 3 ≤ wr.drew.heap.size := hsw
          generalize wr.drew = w3 at *
          repeat (first | (refine wpF_f0 (fun K hK => ?_); go_simp; refine hK _ ?_; clear hK K) | (refine wpF_load1 rfl rfl rfl (by kernel_rfl) (by assumption) (by simp) (fun K hK => ?_); go_simp; refine hK _ ?_; clear hK K) | (refine wpF_loadN rfl rfl rfl (by assumption) (by assumption) (by kernel_rfl) (by kernel_rfl) (by simp) (fun K hK => ?_); go_simp; refine hK _ ?_; clear hK K))
          refine wpF_a2 (fun K hK => ?_); rw [if_pos (by rfl)]
          go_simp
          have hbwS := hbw.size
          rw [HB.out] at hbwS
          refine (put_bad hrd (by omega) hon).mono ?_
          rintro e w4 ⟨rfl, f4⟩
          have bl4 := bl.fr f4 (fun (e : B = B + 2) => by omega)
          have be4 := be.fr f4 (fun (e : B + 1 = B + 2) => by omega)
          have hb4 := hbw.trans (f4.below (B := B) hbwS (fun k hk (e : k = B + 2) => by omega))
          have hs4 := f4.size
          refine leaves_cons (f := 38) (args := #[.pointer (some ⟨B, 0, none⟩), .pointer (some ⟨B + 1, 0, none⟩)]) (by simp) (by simp [go_sem]) ?_
          refine (catch_panicking bl4 be4 (by obtain ⟨A9, c9, rfl⟩ := own_form ow.row; rfl) (by omega)).mono ?_
          rintro e u' w5 ⟨rfl, rfl, b2, b3, f5⟩
          have d2 := b2.cell 0
          have d3 := b3.cell 0
          simp only [List.getElem?_toArray, List.getElem?_cons_zero] at d2 d3
          simp [Leaves, settle, results, Try.results19, go_sem, d2, d3]
          rw [hpn]
          exact ⟨hb4.trans (f5.below (by omega) (fun k hk e => by rcases e with e | e <;> omega)), rfl⟩
        | some pr =>
          obtain ⟨pt, r2⟩ := pr
          have hk1 : manyP (k + 1) r = some (l ++ [pt], r2) := by rw [manyP, hkl]; simp only; rw [hon]
          obtain ⟨Av, cv, rfl⟩ := own_form ow.row
          go_wp2_with fail
          refine wp_region_floatD (Fr (fun j => j = B + 2)) [(0, 1), (1, 0), (2, 2), (3, 2), (4, 3), (5, 3)] _ (by kernel_rfl) (by kernel_rfl) (by simp only [List.map_cons, List.map_nil, Array.getD_eq_getD_getElem?, List.getElem?_toArray, List.getElem?_cons_succ, List.getElem?_cons_zero, Option.getD_some]; rfl) rfl (by kernel_rfl) (fun i o ho c a v w h => put_door (dst_ok (by kernel_rfl) ho) h) (Fr.refl _) (fun _ _ _ => Fr.trans) ?_
          replace hrd := hrd.fr ((Fr.refl (fun _ => False) wr).drew) (fun _ _ h => h) (fun h => h)
          replace bl := bl.drew
          replace be := be.drew
          replace ow := ow.fr ((Fr.refl (fun _ => False) wr).drew) (fun _ _ h => h) (fun _ _ _ _ _ _ h => h)
          replace c0 : wr.drew.cell? ⟨B, 0, none⟩ = some (.slice Av l.length cv) := c0
          replace hbw := hbw.drew
          replace hsw : B + 3 ≤ wr.drew.heap.size := hsw
          generalize wr.drew = w3 at *
          repeat (first | (refine wpF_f0 (fun K hK => ?_); go_simp; refine hK _ ?_; clear hK K) | (refine wpF_load1 rfl rfl rfl (by kernel_rfl) (by assumption) (by simp) (fun K hK => ?_); go_simp; refine hK _ ?_; clear hK K) | (refine wpF_loadN rfl rfl rfl (by assumption) (by assumption) (by kernel_rfl) (by kernel_rfl) (by simp) (fun K hK => ?_); go_simp; refine hK _ ?_; clear hK K))
          refine wpF_a2 (fun K hK => ?_); rw [if_pos (by rfl)]
          go_simp
          refine (put_ok hrd (by omega) hon).mono ?_
          rintro e w4 ⟨vk, vv, rfl, ok, ov, hr4, f4⟩
          refine hK _ _ f4 ?_
          clear hK K
          have hbwS := hbw.size
          rw [HB.out] at hbwS
          have bl4 := bl.fr f4 (fun (e : B = B + 2) => by omega)
          have be4 := be.fr f4 (fun (e : B + 1 = B + 2) => by omega)
          have hrb := hrd
          obtain ⟨vr, hrblk, -⟩ := hrb
          have ow4 := ow.fr f4 (fun j hj (e : j = B + 2) => own_blk_ne ow.row hrblk (by decide) (e ▸ hj.symm)) (fun v' n' xs h' j hj (e : j = B + 2) => own_blk_ne h' hrblk (by decide) (e ▸ hj.symm))
          have hb4 := hbw.trans (f4.below (B := B) hbwS (fun k hk (e : k = B + 2) => by omega))
          have hs4 := f4.size
          replace ok := own_base ok hbwS
          replace ov := own_base ov hbwS
          have hol := oneN_len hon
          clear bl be ow hbw hrd hrblk f4 c0
          obtain ⟨Ak, ck, rfl⟩ := own_form ok
          obtain ⟨Aw, cw, rfl⟩ := own_form ov
          have HK := Lib.hid (show _ ∧ _ from ⟨hk1, hon⟩)
          clear hk1 hon
          obtain ⟨pkey, pval, pgone⟩ := pt
          simp only at ok ov
          repeat (first | (refine wpF_f0 (fun K hK => ?_); go_simp; refine hK _ ?_; clear hK K) | (refine wpF_load1 rfl rfl rfl (by kernel_rfl) (by assumption) (by simp) (fun K hK => ?_); go_simp; refine hK _ ?_; clear hK K) | (refine wpF_loadN rfl rfl rfl (by assumption) (by assumption) (by kernel_rfl) (by kernel_rfl) (by simp) (fun K hK => ?_); go_simp; refine hK _ ?_; clear hK K))
          refine wpF_a2 (fun K hK => ?_); rw [if_pos (by rfl)]
          refine wp_value (exec_buildSlice (build_puts Ak Aw pkey.length ck pval.length cw pgone w4) rfl (by simp [Act.eval])) ?_
          have f5 : Fr (fun _ => False) w4 (w4.alloc (.cells #[.slice Ak pkey.length ck, .slice Aw pval.length cw, .bool pgone] 45)) := (Fr.refl _ w4).alloc _
          have b5 := Blk.new w4 #[.slice Ak pkey.length ck, .slice Aw pval.length cw, .bool pgone] 45
          refine hK _ _ (f5.mono (fun _ _ h => h.elim)) ?_
          clear hK K
          have hcell : ∀ q u, [Value.slice Ak pkey.length ck, .slice Aw pval.length cw, .bool pgone][q]? = some u → (w4.alloc (.cells #[.slice Ak pkey.length ck, .slice Aw pval.length cw, .bool pgone] 45)).cell? ((⟨w4.heap.size, 0, none⟩ : Addr).add q) = some u := fun q u hu => by
            rw [Addr.add_mid, Nat.zero_add, b5.cell q]; simpa using hu
          have ow5 := ow4.fr f5 (fun _ _ h => h) (fun _ _ _ _ _ _ h => h)
          have bl5 := bl4.fr f5 (fun h => h)
          have be5 := be4.fr f5 (fun h => h)
          have hr5 := hr4.fr f5 (fun _ _ h => h) (fun h => h)
          have ok5 := own_fr ok f5 (fun _ _ h => h)
          have ov5 := own_fr ov f5 (fun _ _ h => h)
          have hs5 := f5.size
          have hb5 := hb4.trans (f5.below (B := B) (by omega) (fun _ _ h => h))
          have hrow := ow5.row
          rw [hll] at hrow
          clear ow4 bl4 be4 hr4 ok ov b5 hb4 f5
          generalize w4.alloc (.cells #[.slice Ak pkey.length ck, .slice Aw pval.length cw, .bool pgone] 45) = w5 at *
          generalize w4.heap.size = g5 at *
          have hkn : k + 1 ≤ 1073741824 := by omega
          refine wpF_a3 (fun K hK => ?_); rw [if_pos (by rfl)]
          refine wp_append_k rfl B Try.underlying36 infoPut (by simp [Value.cells]) (by decide) (v := .slice Av k cv) rfl hrow (news := [.slice Ak pkey.length ck, .slice Aw pval.length cw, .bool pgone]) rfl (by simp) (.inr ⟨_, rfl, hcell⟩) (by intro v hv; simp at hv; rcases hv with rfl | rfl | rfl <;> rfl) (by unfold maxLen; omega) (by omega) (by omega) ?_
          intro v' w6 o6 g6 n6
          obtain ⟨A6, c6, rfl⟩ := own_form o6
          have bl6 := bl5.grown g6 (own_blk_ne hrow bl5 (by decide))
          have be6 := be5.grown g6 (own_blk_ne hrow be5 (by decide))
          obtain ⟨vr5, hrb5, -⟩ := id hr5
          have f6 := Fr.of_grown g6
          have hr6 := hr5.fr f6 (fun j hj e => by have := (hrow.lt j e.symm).1; omega) (fun e => own_blk_ne hrow hrb5 (by decide) e)
          have ok6 := own_fr ok5 f6 (fun j hj e => own_ne ok5 hrow (by decide) j hj e.symm)
          have ov6 := own_fr ov5 f6 (fun j hj e => own_ne ov5 hrow (by decide) j hj e.symm)
          have each6 : ∀ j, j < l.length → (ps.getD j (undef, undef, false)).2.2 = (l.getD j ⟨[], [], false⟩).gone ∧
              w6.ownsRow B 5 1 (ps.getD j (undef, undef, false)).1 (l.getD j ⟨[], [], false⟩).key.length (bts (l.getD j ⟨[], [], false⟩).key) ∧
              w6.ownsRow B 5 1 (ps.getD j (undef, undef, false)).2.1 (l.getD j ⟨[], [], false⟩).val.length (bts (l.getD j ⟨[], [], false⟩).val) := fun j hj =>
            ⟨(ow5.each j hj).1, own_fr (ow5.each j hj).2.1 f6 (fun i hi e => own_ne (ow5.each j hj).2.1 hrow (by decide) i hi e.symm), own_fr (ow5.each j hj).2.2 f6 (fun i hi e => own_ne (ow5.each j hj).2.2 hrow (by decide) i hi e.symm)⟩
          have hb6 := hb5.trans (f6.below (B := B) (by omega) (fun j hj e => by have := (hrow.lt j e.symm).1; omega))
          have hs6 := f6.size
          have hpl := ow5.len
          clear g6 f6 hrb5 hr5 bl5 be5 ok5 ov5 ow5 hrow hb5
          go_simp
          refine hK _ _ ?_
          clear hK K hcell
          repeat (first | (refine wpF_f0 (fun K hK => ?_); go_simp; refine hK _ ?_; clear hK K) | (refine wpF_load1 rfl rfl rfl (by kernel_rfl) (by assumption) (by simp) (fun K hK => ?_); go_simp; refine hK _ ?_; clear hK K) | (refine wpF_loadN rfl rfl rfl (by assumption) (by assumption) (by kernel_rfl) (by kernel_rfl) (by simp) (fun K hK => ?_); go_simp; refine hK _ ?_; clear hK K))
          have fb := bl6.frozen 0
          have d0 := bl6.cell 0
          simp only [List.getElem?_toArray, List.getElem?_cons_zero] at d0
          refine wpF_a3 (fun K hK => ?_); rw [if_pos (by rfl)]
          go_simp
          refine hK _ _ ?_
          clear hK K fb d0
          refine wpF_nil ?_
          have b7 := bl6.set 0 (.slice A6 (k + 1) c6)
          have f7 : Fr (fun j => j = B) w6 (w6.setCell ⟨B, 0, none⟩ (.slice A6 (k + 1) c6)) := (Fr.refl (fun j => j = B) w6).setCell (p := ⟨B, 0, none⟩) (fun _ => rfl) _
          have e7 := be6.fr f7 (fun (e : B + 1 = B) => by omega)
          have h7 := hr6.fr f7 (fun j hj (e : j = B) => by omega) (fun (e : B + 2 = B) => by omega)
          have o7 := own_set o6 bl6 (by decide) 0 (.slice A6 (k + 1) c6)
          have k7 := own_set ok6 bl6 (by decide) 0 (.slice A6 (k + 1) c6)
          have v7 := own_set ov6 bl6 (by decide) 0 (.slice A6 (k + 1) c6)
          have each7 : ∀ j, j < l.length → (ps.getD j (undef, undef, false)).2.2 = (l.getD j ⟨[], [], false⟩).gone ∧
              (w6.setCell ⟨B, 0, none⟩ (.slice A6 (k + 1) c6)).ownsRow B 5 1 (ps.getD j (undef, undef, false)).1 (l.getD j ⟨[], [], false⟩).key.length (bts (l.getD j ⟨[], [], false⟩).key) ∧
              (w6.setCell ⟨B, 0, none⟩ (.slice A6 (k + 1) c6)).ownsRow B 5 1 (ps.getD j (undef, undef, false)).2.1 (l.getD j ⟨[], [], false⟩).val.length (bts (l.getD j ⟨[], [], false⟩).val) := fun j hj =>
            ⟨(each6 j hj).1, own_set (each6 j hj).2.1 bl6 (by decide) 0 _, own_set (each6 j hj).2.2 bl6 (by decide) 0 _⟩
          have hb7 := hb6.trans (f7.below (B := B) (by omega) (fun j hj (e : j = B) => by omega))
          have hs7 := f7.size
          clear f7 bl6 be6 hr6 o6 ok6 ov6 each6 hb6
          go_wp2_with fail
          go_roundw
          case rel =>
            refine ⟨k + 1, l ++ [⟨pkey, pval, pgone⟩], ps ++ [(.slice Ak pkey.length ck, .slice Aw pval.length cw, pgone)], r2, _, by go_num, by omega, HK.out.1, by simp [hll], by omega, h7, b7, e7, ⟨?_, by simp [hpl], fun j hj => ?_⟩, hb7, by omega⟩
            · rw [pvals_append, List.length_append, hll]
              exact o7
            · rw [List.length_append, List.length_singleton] at hj
              rcases Nat.lt_or_ge j l.length with hj2 | hj2
              · rw [getD_left hj2, getD_left (by omega)]
                exact each7 j hj2
              · rw [getD_last (by omega), getD_last (by omega)]
                exact ⟨rfl, k7, v7⟩
          case measure => simp [intOf]; omega
      · obtain rfl : k = n := by omega
        obtain ⟨vr, hrb, hrv, hr3, hr4, -⟩ := hrd
        obtain ⟨Ar, cr, rfl⟩ := hrv.slice
        have cr0 : wr.cell? ⟨B + 1 + 1, 0, none⟩ = some (.slice Ar rk.length cr) := by
          have := hrb.cell 0
          simpa using this
        obtain ⟨Av, cv, rfl⟩ := own_form ow.row
        have fl0 := bl.frozen 0
        have fe0 := be.frozen 0
        have ce0 := be.cell 0
        simp only [List.getElem?_toArray, List.getElem?_cons_zero] at ce0
        have hpn : putsN b = if rk = [] then some l else none := by
          rw [putsN, hmn]; simp only; rw [hkl]
        by_cases hz : rk = []
        · subst hz
          rw [if_pos rfl] at hpn
          go_wp2_with (go_at_call 41; refine (must_ok _).mono ?_; rintro e w1 ⟨rfl, rfl⟩)
          have b7 := (bl.set 0 (.slice Av k cv)).far (p := ⟨B + 1, 0, none⟩) (show B ≠ B + 1 by omega) (.int .i64 0)
          have f7 : Fr (fun j => j = B ∨ j = B + 1) w1 ((w1.setCell ⟨B, 0, none⟩ (.slice Av k cv)).setCell ⟨B + 1, 0, none⟩ (.int .i64 0)) := ((Fr.refl (fun j => j = B ∨ j = B + 1) w1).setCell (p := ⟨B, 0, none⟩) (fun _ => .inl rfl) _).setCell (p := ⟨B + 1, 0, none⟩) (fun _ => .inr rfl) _
          have e7 := (be.far (p := ⟨B, 0, none⟩) (show B + 1 ≠ B by omega) (.slice Av k cv)).set 0 (.int .i64 0)
          have ow7 := ow.fr f7 (fun j hj e => by
            rcases e with e | e
            · exact own_blk_ne ow.row bl (by decide) (by rw [hj, e])
            · exact own_blk_ne ow.row be (by decide) (by rw [hj, e])) (fun v' m xs hx j hj e => by
            rcases e with e | e
            · exact own_blk_ne hx bl (by decide) (by rw [hj, e])
            · exact own_blk_ne hx be (by decide) (by rw [hj, e]))
          have hb7 := hbw.trans (f7.below (B := B) (by omega) (fun j hj e => by rcases e with e | e <;> omega))
          generalize (w1.setCell ⟨B, 0, none⟩ (.slice Av k cv)).setCell ⟨B + 1, 0, none⟩ (.int .i64 0) = w8 at *
          have d2 := b7.cell 0
          have d3 := e7.cell 0
          refine leaves_cons (f := 38) (args := #[.pointer (some ⟨B, 0, none⟩), .pointer (some ⟨B + 1, 0, none⟩)]) (by simp) (by simp [go_sem]) ?_
          refine (catch_idle (w := w8)).mono ?_
          rintro e u' w9 ⟨rfl, rfl, rfl⟩
          simp at d2 d3
          simp [Leaves, settle, results, Try.results19, go_sem, d2, d3]
          rw [hpn]
          exact ⟨hb7, _, ps, rfl, by rw [← hll]; exact ow7⟩
        · rw [if_neg hz] at hpn
          have hl0 : (rk.length == 0) = false := by rw [beq_eq_false_iff_ne]; exact fun h => hz (List.eq_nil_of_length_eq_zero h)
          have hl1 : ((rk.length : Int) == 0) = false := by rw [beq_eq_false_iff_ne]; have := beq_eq_false_iff_ne.1 hl0; omega
          go_wp2_with (go_at_call 41; refine (must_bad _).mono ?_; rintro e w1 ⟨rfl, rfl⟩)
          refine leaves_cons (f := 38) (args := #[.pointer (some ⟨B, 0, none⟩), .pointer (some ⟨B + 1, 0, none⟩)]) (by simp) (by simp [go_sem]) ?_
          refine (catch_panicking bl be rfl (by omega)).mono ?_
          rintro e u' w5 ⟨rfl, rfl, b2, b3, f5⟩
          have d2 := b2.cell 0
          have d3 := b3.cell 0
          simp only [List.getElem?_toArray, List.getElem?_cons_zero] at d2 d3
          simp [Leaves, settle, results, Try.results19, go_sem, d2, d3]
          exact ⟨hbw.trans (f5.below (by omega) (fun k hk e => by rcases e with e | e <;> omega)), rfl⟩
end Go.Proofs.Ytdhllelldlkdfaa
