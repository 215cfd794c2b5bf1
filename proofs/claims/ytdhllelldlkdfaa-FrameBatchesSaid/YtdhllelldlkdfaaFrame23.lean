/- The document's one. -/
import Derived.Test.YtdhllelldlkdfaaFrame19
namespace Go.Proofs.Ytdhllelldlkdfaa
open Go.RowKit

theorem results_cellN_tmp2 {P : Program} {fn : Func} {p u x : Tmp} {ty : TypeId} (h : fn.results = #[.cell p ty, .tmp u, .tmp x]) (tmps : Array Value) {w : World} {g : Nat} {t : TypeId} {cs : Array Value}
    (hp : tmps.getD p undef = .pointer (some ⟨g, 0, none⟩)) (hg : Blk w g cs t)
    (hu : (P.underlying ty).map TypeDesc.isRow = some true) (hi : (P.info? ty).map (·.size) = some cs.size) :
    (results fn tmps).run P w = .ok (.tuple #[.agg cs, tmps.getD u undef, tmps.getD x undef]) w := by
  obtain ⟨d, hd, hd2⟩ := Option.map_eq_some_iff.1 hu
  have hp' : tmps[p]?.getD undef = .pointer (some ⟨g, 0, none⟩) := by simpa using hp
  have hr := run_loadVar_row (P := P) w g t ty cs (0, 0) d hg hd (by cases d <;> simp_all [TypeDesc.isRow]) hi
  simp [results, h, hp', asAddr, hr]
theorem build_put0 (w : World) : (Instr.build 45 #[]).run Try.prog w = .ok (.agg #[.slice none 0 0, .slice none 0 0, .bool false]) w := by kernel_rfl
def OneP (B : Nat) (w : World) (v : Value) (o : Option (PutL × List UInt8)) (e : Ending) (w' : World) : Prop := Below B w w' ∧ match o with
  | some (p, r) => ∃ vk vv v2, e = .returned (.tuple #[.agg #[vk, vv, .bool p.gone], v2, .bool true]) ∧ w'.ownsRow B 5 1 vk p.key.length (bts p.key) ∧ w'.ownsRow B 5 1 vv p.val.length (bts p.val) ∧ Rd w' v2 r ∧ v2.ownBlock = v.ownBlock
  | none => ∃ A1 n1 c1 A2 n2 c2 g A3 n3 c3, e = .returned (.tuple #[.agg #[.slice A1 n1 c1, .slice A2 n2 c2, .bool g], .slice A3 n3 c3, .bool false])
theorem OneP.no {B : Nat} {w w' : World} {v : Value} {o : Option (PutL × List UInt8)} {e : Ending} (h : o = none) (hB : Below B w w') {A1 A2 A3 : Option Addr} {n1 c1 n2 c2 n3 c3 : Nat} {g : Bool} (he : e = .returned (.tuple #[.agg #[.slice A1 n1 c1, .slice A2 n2 c2, .bool g], .slice A3 n3 c3, .bool false])) : OneP B w v o e w' := by
  subst h
  exact ⟨hB, _, _, _, _, _, _, _, _, _, _, he⟩
theorem own_set3 {w : World} {base : Nat} {e : TypeId} {size n : Nat} {v : Value} {xs vs : List Value} {b : Nat} {cs : Array Value} {t : TypeId} (h : w.ownsRow base e size v n xs) (hb : Blk w b cs t) (ht : e ≠ t := by decide) : (w.setCells b 0 vs).ownsRow base e size v n xs :=
  own_fr h ((Fr.refl (fun i => i = b) w).setCells vs 0 (fun _ => rfl)) (fun _ hk e => own_blk_ne h hb ht (by rw [hk, e]))
set_option maxHeartbeats 3000000 in
set_option maxRecDepth 100000 in
theorem rone_any {w : World} (v : Value) (b : List UInt8) (hv : Rd w v b) (hm : b.length < 10000000) :
    Calls Try.prog 42 #[v] w (OneP w.heap.size w v (oneN b)) := by
  obtain ⟨O, hO⟩ : ∃ O, O = oneN b := ⟨_, rfl⟩
  rw [← hO]
  have HO := Lib.hid hO
  clear hO
  have hb2 := Blk.new w #[.slice none 0 0, .slice none 0 0, .bool false] 45
  have hB := (Below.refl w.heap.size w).alloc (Nat.le_refl _) (.cells #[.slice none 0 0, .slice none 0 0, .bool false] 45)
  have hvl := hv.lt
  replace hv := hv.below hB
  have hs := hB.size
  generalize hb0 : w.heap.size = B at *
  have HB := Lib.hid hb0
  obtain ⟨A, c, rfl⟩ := hv.slice
  go_enter Try.func42, Try.ntmps42
  go_upto_region 1 with (refine wpList_allocZ rfl rfl (zs := #[.slice none 0 0, .slice none 0 0, .bool false]) (by kernel_rfl) ?_; rw [hb0]; generalize w.alloc (.cells #[.slice none 0 0, .slice none 0 0, .bool false] 45) = w1 at *)
  have hgB : B < w1.heap.size := hb2.lt
  have hb4 := Blk.new w1 #[.slice none 0 0, .slice none 0 0, .bool false] 45
  replace hb2 := hb2.alloc (.cells #[.slice none 0 0, .slice none 0 0, .bool false] 45)
  replace hv := hv.below ((Below.refl w1.heap.size w1).alloc (Nat.le_refl _) (.cells #[.slice none 0 0, .slice none 0 0, .bool false] 45))
  replace hB := hB.alloc hs (.cells #[.slice none 0 0, .slice none 0 0, .bool false] 45)
  replace hs : B ≤ (w1.alloc (.cells #[.slice none 0 0, .slice none 0 0, .bool false] 45)).heap.size := (by have := hB.size; rw [HB.out] at this; exact this)
  generalize hg4 : w1.heap.size = g4 at *
  clear hb0
  go_upto_region 2 with (first | (refine wpList_value rfl (exec_build (build_put0 _) rfl (by simp [Act.eval])) ?_) | (refine wpList_newN (n := 3) (cs := [.slice none 0 0, .slice none 0 0, .bool false]) rfl rfl rfl rfl rfl rfl rfl (by simp) (by simp [Act.put]) rfl (by kernel_rfl) (by simp [Value.oneCell']) ?_; rw [hg4]; generalize w1.alloc (.cells #[.slice none 0 0, .slice none 0 0, .bool false] 45) = w2 at *))
  clear hg4
  cases b with
  | nil =>
    go_wp2_with (first | (refine wpList_loadN (n := 3) rfl rfl rfl (hb4.range' 0 [.slice none 0 0, .slice none 0 0, .bool false] (fun j v hv => by rw [Nat.zero_add]; simpa using hv)) rfl (by kernel_rfl) (by kernel_rfl) ?_) | (refine wpList_storeN (n := 3) (cs := [.slice none 0 0, .slice none 0 0, .bool false]) rfl rfl rfl rfl rfl (hb2.there 0 3 (by simp)) (by kernel_rfl) (by simp [Value.oneCell']) ?_)); refine bodyPost_ret (results_cellN_tmp2 rfl _ (by rfl) (hb2.setCells [.slice none 0 0, .slice none 0 0, .bool false] 0 (by simp)) (by kernel_rfl) (by rfl)) rfl ?_
    exact OneP.no HO.out (hB.trans (((Fr.refl (fun i => i = B) w2).setCells _ 0 (fun _ => rfl)).below (B := B) hs (fun k hk e => by omega))) rfl
  | cons g r =>
  obtain ⟨b', o', rfl, hc⟩ := hv.at (j := 0) (by simp)
  have HVB : Hid (b' < B) := Lib.hid (hvl (by simp) b' rfl)
  replace hc : w2.cell? ⟨b', o', none⟩ = some (.int .u8 (g.toNat : Int)) := hc
  have hbm := hv.max
  have hlen : (g :: r).length = r.length + 1 := rfl
  rw [hlen] at hbm hm
  clear hlen
  have hn0 : ((r.length : Int) + 1 == 0) = false := by rw [beq_eq_false_iff_ne]; omega
  by_cases hg : 1 < g
  · have hgI : (1 : Int) < (g.toNat : Int) := by have : (1 : UInt8).toNat < g.toNat := UInt8.lt_iff_toNat_lt.1 hg
                                                 have h1 : (1 : UInt8).toNat = 1 := rfl
                                                 omega
    have ho : O = none := by rw [HO.out, oneN_cons, if_pos hg]
    clear hg HO
    go_wp2_with (first | (refine wpList_loadN (n := 3) rfl rfl rfl (hb4.range' 0 [.slice none 0 0, .slice none 0 0, .bool false] (fun j v hv => by rw [Nat.zero_add]; simpa using hv)) rfl (by kernel_rfl) (by kernel_rfl) ?_) | (refine wpList_storeN (n := 3) (cs := [.slice none 0 0, .slice none 0 0, .bool false]) rfl rfl rfl rfl rfl (hb2.there 0 3 (by simp)) (by kernel_rfl) (by simp [Value.oneCell']) ?_)); refine bodyPost_ret (results_cellN_tmp2 rfl _ (by rfl) (hb2.setCells [.slice none 0 0, .slice none 0 0, .bool false] 0 (by simp)) (by kernel_rfl) (by rfl)) rfl ?_
    exact OneP.no ho (hB.trans (((Fr.refl (fun i => i = B) w2).setCells _ 0 (fun _ => rfl)).below (B := B) hs (fun k hk e => by omega))) rfl
  have hgI : decide ((1 : Int) < (g.toNat : Int)) = false := decide_eq_false (by have : ¬ (1 : UInt8).toNat < g.toNat := fun h => hg (UInt8.lt_iff_toNat_lt.2 h)
                                                                                 have h1 : (1 : UInt8).toNat = 1 := rfl
                                                                                 omega)
  obtain ⟨bg, hbg⟩ : ∃ bg, bg = ((g.toNat : Int) == 1) := ⟨_, rfl⟩
  have hbg2 : (g = 1) ↔ bg = true := by
    rw [hbg, beq_iff_eq]
    constructor
    · rintro rfl; rfl
    · exact fun h => UInt8.toNat_inj.1 (by show g.toNat = 1; omega)
  have ho : O = match textN r with
    | none => none
    | some (k, r2) => if bg = true then some (⟨k, [], true⟩, r2) else match textN r2 with
      | none => none
      | some (v, r3) => some (⟨k, v, false⟩, r3) := by
    rw [HO.out, oneN_cons, if_neg hg]
    cases textN r with
    | none => rfl
    | some kr =>
      cases hb : bg
      · have h1 : ¬ g = 1 := fun e => by rw [hbg2, hb] at e; cases e
        simp only
        rw [if_neg h1]; rfl
      · have h1 : g = 1 := hbg2.2 hb
        simp only
        rw [if_pos h1]; rfl
  replace HO := Lib.hid ho
  clear ho hbg2 hg
  go_upto_region 4 with fail
  have fz2 := hb4.frozen 2
  have c2 := hb4.cell 2
  simp only [List.getElem?_toArray, List.getElem?_cons_zero, List.getElem?_cons_succ] at c2
  go_upto_region 5 with fail
  rw [← hbg]
  clear hbg
  replace hb4 := hb4.set 2 (.bool bg)
  replace hb2 := hb2.far (p := ⟨g4, 2, none⟩) (show B ≠ g4 by omega) (.bool bg)
  have f : Fr (fun j => j = g4) w2 (w2.setCell ⟨g4, 2, none⟩ (.bool bg)) := (Fr.refl (fun j => j = g4) w2).setCell (p := ⟨g4, 2, none⟩) (fun _ => rfl) _
  have hvB : b' < B := HVB.out
  replace hv := hv.fr f (fun _ k hk (e : k = g4) => by simp only [Value.ownBlock, Option.some.injEq] at hk; omega)
  replace hB := hB.trans (f.below (B := B) hs (fun k hk (e : k = g4) => by omega))
  replace hs := Nat.le_trans hs f.size
  generalize w2.setCell ⟨g4, 2, none⟩ (.bool bg) = w3 at *
  clear f fz2 c2 hc hgI
  replace hb4 : Blk w3 g4 #[.slice none 0 0, .slice none 0 0, .bool bg] 45 := hb4
  go_wp2_with (refine wpList_rd_l rfl rfl rfl rfl hv (L := 1) rfl (by simp) Try.underlying22 infoByte1 (fun v1 r1 o1 _ => ?_))
  replace r1 : Rd w3 v1 r := r1
  replace o1 : v1.ownBlock = some b' := o1
  clear hbm hn0
  refine (rtext_any v1 r r1 (by omega)).mono ?_
  rintro e w4 ⟨hb44, hP⟩
  clear hv r1
  have f0 := hb4.frozen 0
  have f1 := hb4.frozen 1
  replace hb4 := hb4.fr (Fr.of_below hb44 (fun _ => False)) (fun h => h)
  replace hb2 := hb2.fr (Fr.of_below hb44 (fun _ => False)) (fun h => h)
  have hs3 := hs
  replace hB := hB.trans (hb44.mono hs)
  replace hs := Nat.le_trans hs hb44.size
  clear hb44
  have c0 := hb4.cell 0
  simp only [List.getElem?_toArray, List.getElem?_cons_zero] at c0
  replace f0 := hb4.frozen 0
  cases ht : textN r with
  | none =>
    rw [ht] at hP
    have ho : O = none := by rw [HO.out, ht]
    obtain rfl : e = _ := hP
    clear HO ht
    go_upto_region 7 with fail
    replace hb4 := hb4.set 0 (.slice none 0 0)
    replace hb2 := hb2.far (p := ⟨g4, 0, none⟩) (show B ≠ g4 by omega) (.slice none 0 0)
    have f : Fr (fun j => j = g4) w4 (w4.setCell ⟨g4, 0, none⟩ (.slice none 0 0)) := (Fr.refl (fun j => j = g4) w4).setCell (p := ⟨g4, 0, none⟩) (fun _ => rfl) _
    replace hB := hB.trans (f.below (B := B) hs (fun k hk (e : k = g4) => by omega))
    replace hs := Nat.le_trans hs f.size
    generalize w4.setCell ⟨g4, 0, none⟩ (.slice none 0 0) = w5 at *
    clear f c0 f0 f1
    replace hb4 : Blk w5 g4 #[.slice none 0 0, .slice none 0 0, .bool bg] 45 := hb4
    go_wp2_with (first | (refine wpList_loadN (n := 3) rfl rfl rfl (hb4.range' 0 [.slice none 0 0, .slice none 0 0, .bool bg] (fun j v hv => by rw [Nat.zero_add]; simpa using hv)) rfl (by kernel_rfl) (by kernel_rfl) ?_) | (refine wpList_storeN (n := 3) (cs := [.slice none 0 0, .slice none 0 0, .bool bg]) rfl rfl rfl rfl rfl (hb2.there 0 3 (by simp)) (by kernel_rfl) (by simp [Value.oneCell']) ?_)); refine bodyPost_ret (results_cellN_tmp2 rfl _ (by rfl) (hb2.setCells [.slice none 0 0, .slice none 0 0, .bool bg] 0 (by simp)) (by kernel_rfl) (by rfl)) rfl ?_
    exact OneP.no ho (hB.trans (((Fr.refl (fun i => i = B) w5).setCells _ 0 (fun _ => rfl)).below (B := B) hs (fun k hk e => by omega))) rfl
  | some kr =>
    obtain ⟨k, r2⟩ := kr
    rw [ht] at hP
    have ho := HO.out
    rw [ht] at ho
    simp only at ho
    replace HO := Lib.hid ho
    clear ho
    obtain ⟨vk, vr, rfl, ok, rr, or⟩ := hP
    obtain ⟨Ak, ck, rfl⟩ := own_form ok
    obtain ⟨Ar, cr, rfl⟩ := rr.slice
    replace ok := own_base ok hs3
    have hrl : r2.length ≤ r.length := by
      obtain ⟨n, s, h1, h2, h3, h4, h5, h6, h7⟩ := textN_some ht
      rw [h4, List.length_drop]; omega
    clear ht
    go_upto_region 7 with fail
    have ok5 := own_set ok hb4 (by decide) 0 (.slice Ak k.length ck)
    replace hb4 := hb4.set 0 (.slice Ak k.length ck)
    replace hb2 := hb2.far (p := ⟨g4, 0, none⟩) (show B ≠ g4 by omega) (.slice Ak k.length ck)
    have f : Fr (fun j => j = g4) w4 (w4.setCell ⟨g4, 0, none⟩ (.slice Ak k.length ck)) := (Fr.refl (fun j => j = g4) w4).setCell (p := ⟨g4, 0, none⟩) (fun _ => rfl) _
    replace hB := hB.trans (f.below (B := B) hs (fun k hk (e : k = g4) => by omega))
    replace hs := Nat.le_trans hs f.size
    have OQ : Hid (∀ q, (Value.slice Ar r2.length cr).ownBlock = some q → q < B) := Lib.hid (fun q hq => by
      rw [or, o1] at hq
      have hq2 : b' = q := Option.some.inj hq
      omega)
    replace rr := rr.fr f (fun _ q hq (e : q = g4) => by have := OQ.out q hq; omega)
    have hres : (Value.slice Ar r2.length cr).ownBlock = some b' := or.trans o1
    have HRES := Lib.hid hres
    generalize w4.setCell ⟨g4, 0, none⟩ (.slice Ak k.length ck) = w5 at *
    clear f c0 f0 ok or hres o1
    replace hb4 : Blk w5 g4 #[.slice Ak k.length ck, .slice none 0 0, .bool bg] 45 := hb4
    replace f1 := hb4.frozen 1
    have c2 := hb4.cell 2
    simp only [List.getElem?_toArray, List.getElem?_cons_zero, List.getElem?_cons_succ] at c2
    cases bg with
    | true =>
      have ho := HO.out
      rw [if_pos rfl] at ho
      go_wp2_with (first | (refine wpList_loadN (n := 3) rfl rfl rfl (hb4.range' 0 [.slice Ak k.length ck, .slice none 0 0, .bool true] (fun j v hv => by rw [Nat.zero_add]; simpa using hv)) rfl (by kernel_rfl) (by kernel_rfl) ?_) | (refine wpList_storeN (n := 3) (cs := [.slice Ak k.length ck, .slice none 0 0, .bool true]) rfl rfl rfl rfl rfl (hb2.there 0 3 (by simp)) (by kernel_rfl) (by simp [Value.oneCell']) ?_)); refine bodyPost_ret (results_cellN_tmp2 rfl _ (by rfl) (hb2.setCells [.slice Ak k.length ck, .slice none 0 0, .bool true] 0 (by simp)) (by kernel_rfl) (by rfl)) rfl ?_
      exact ⟨(hB.trans (((Fr.refl (fun i => i = B) w5).setCells _ 0 (fun _ => rfl)).below (B := B) hs (fun k hk e => by omega))), _, _, _, rfl, own_set3 ok5 hb2, World.ownsRow_nil _ _ _ _, rr.fr ((Fr.refl (fun i => i = B) w5).setCells _ 0 (fun _ => rfl)) (fun _ q hq (e : q = B) => by have := OQ.out q hq; omega), HRES.out⟩
    | false =>
      have ho := HO.out
      rw [if_neg Bool.false_ne_true] at ho
      replace HO := Lib.hid ho
      clear ho
      go_upto_region 9 with fail
      clear c2
      go_wp2_with fail
      refine (rtext_any _ r2 rr (by omega)).mono ?_
      rintro e w6 ⟨hb66, hP⟩
      have f1 := hb4.frozen 1
      have hs5 := hs
      replace hb4 := hb4.fr (Fr.of_below hb66 (fun _ => False)) (fun h => h)
      replace hb2 := hb2.fr (Fr.of_below hb66 (fun _ => False)) (fun h => h)
      replace ok5 := own_fr ok5 (Fr.of_below hb66 (fun _ => False)) (fun _ _ h => h)
      replace hB := hB.trans (hb66.mono hs)
      replace hs := Nat.le_trans hs hb66.size
      clear hb66
      replace f1 := hb4.frozen 1
      have c1 := hb4.cell 1
      simp only [List.getElem?_toArray, List.getElem?_cons_zero, List.getElem?_cons_succ] at c1
      cases ht : textN r2 with
      | none =>
        rw [ht] at hP
        have ho := HO.out
        rw [ht] at ho
        obtain rfl : e = _ := hP
        clear HO ht
        go_upto_region 11 with fail
        replace hb4 := hb4.set 1 (.slice none 0 0)
        replace hb2 := hb2.far (p := ⟨g4, 1, none⟩) (show B ≠ g4 by omega) (.slice none 0 0)
        have f : Fr (fun j => j = g4) w6 (w6.setCell ⟨g4, 1, none⟩ (.slice none 0 0)) := (Fr.refl (fun j => j = g4) w6).setCell (p := ⟨g4, 1, none⟩) (fun _ => rfl) _
        replace hB := hB.trans (f.below (B := B) hs (fun k hk (e : k = g4) => by omega))
        replace hs := Nat.le_trans hs f.size
        generalize w6.setCell ⟨g4, 1, none⟩ (.slice none 0 0) = w7 at *
        clear f c1 f1
        replace hb4 : Blk w7 g4 #[.slice Ak k.length ck, .slice none 0 0, .bool false] 45 := hb4
        go_wp2_with (first | (refine wpList_loadN (n := 3) rfl rfl rfl (hb4.range' 0 [.slice Ak k.length ck, .slice none 0 0, .bool false] (fun j v hv => by rw [Nat.zero_add]; simpa using hv)) rfl (by kernel_rfl) (by kernel_rfl) ?_) | (refine wpList_storeN (n := 3) (cs := [.slice Ak k.length ck, .slice none 0 0, .bool false]) rfl rfl rfl rfl rfl (hb2.there 0 3 (by simp)) (by kernel_rfl) (by simp [Value.oneCell']) ?_)); refine bodyPost_ret (results_cellN_tmp2 rfl _ (by rfl) (hb2.setCells [.slice Ak k.length ck, .slice none 0 0, .bool false] 0 (by simp)) (by kernel_rfl) (by rfl)) rfl ?_
        exact OneP.no ho (hB.trans (((Fr.refl (fun i => i = B) w7).setCells _ 0 (fun _ => rfl)).below (B := B) hs (fun k hk e => by omega))) rfl
      | some vr =>
        obtain ⟨v, r3⟩ := vr
        rw [ht] at hP
        have ho := HO.out
        rw [ht] at ho
        simp only at ho
        obtain ⟨vv, vr, rfl, ov, rr6, or6⟩ := hP
        obtain ⟨Av, cv, rfl⟩ := own_form ov
        obtain ⟨A3, c3, rfl⟩ := rr6.slice
        replace ov := own_base ov hs5
        clear ht HO
        go_upto_region 11 with fail
        have ok7 := own_set ok5 hb4 (by decide) 1 (.slice Av v.length cv)
        have ov7 := own_set ov hb4 (by decide) 1 (.slice Av v.length cv)
        replace hb4 := hb4.set 1 (.slice Av v.length cv)
        replace hb2 := hb2.far (p := ⟨g4, 1, none⟩) (show B ≠ g4 by omega) (.slice Av v.length cv)
        have f : Fr (fun j => j = g4) w6 (w6.setCell ⟨g4, 1, none⟩ (.slice Av v.length cv)) := (Fr.refl (fun j => j = g4) w6).setCell (p := ⟨g4, 1, none⟩) (fun _ => rfl) _
        replace hB := hB.trans (f.below (B := B) hs (fun k hk (e : k = g4) => by omega))
        replace hs := Nat.le_trans hs f.size
        have OQ7 : Hid (∀ q, (Value.slice A3 r3.length c3).ownBlock = some q → q < B) := Lib.hid (fun q hq => OQ.out q (or6 ▸ hq))
        replace rr6 := rr6.fr f (fun _ q hq (e : q = g4) => by have := OQ7.out q hq; omega)
        generalize w6.setCell ⟨g4, 1, none⟩ (.slice Av v.length cv) = w7 at *
        have HR7 := Lib.hid (or6.trans HRES.out)
        clear f c1 f1 ok5 ov or6
        replace hb4 : Blk w7 g4 #[.slice Ak k.length ck, .slice Av v.length cv, .bool false] 45 := hb4
        go_wp2_with (first | (refine wpList_loadN (n := 3) rfl rfl rfl (hb4.range' 0 [.slice Ak k.length ck, .slice Av v.length cv, .bool false] (fun j v hv => by rw [Nat.zero_add]; simpa using hv)) rfl (by kernel_rfl) (by kernel_rfl) ?_) | (refine wpList_storeN (n := 3) (cs := [.slice Ak k.length ck, .slice Av v.length cv, .bool false]) rfl rfl rfl rfl rfl (hb2.there 0 3 (by simp)) (by kernel_rfl) (by simp [Value.oneCell']) ?_)); refine bodyPost_ret (results_cellN_tmp2 rfl _ (by rfl) (hb2.setCells [.slice Ak k.length ck, .slice Av v.length cv, .bool false] 0 (by simp)) (by kernel_rfl) (by rfl)) rfl ?_
        rw [ho]
        exact ⟨(hB.trans (((Fr.refl (fun i => i = B) w7).setCells _ 0 (fun _ => rfl)).below (B := B) hs (fun k hk e => by omega))), _, _, _, rfl, own_set3 ok7 hb2, own_set3 ov7 hb2, rr6.fr ((Fr.refl (fun i => i = B) w7).setCells _ 0 (fun _ => rfl)) (fun _ q hq (e : q = B) => by have := OQ7.out q hq; omega), HR7.out⟩
end Go.Proofs.Ytdhllelldlkdfaa
