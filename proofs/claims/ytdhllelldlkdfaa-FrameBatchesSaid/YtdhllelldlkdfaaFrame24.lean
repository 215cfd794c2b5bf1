/- The document's Puts. -/
import Derived.Test.YtdhllelldlkdfaaFrame23
import Derived.Test.YtdhllelldlkdfaaK13
namespace Go.Proofs.Ytdhllelldlkdfaa
open Go.RowKit

set_option maxHeartbeats 3000000 in
set_option maxRecDepth 100000 in
theorem rputs_any {w : World} (v : Value) (b : List UInt8) (hv : Rd w v b) (hm : b.length < 10000000) :
    Calls Try.prog 20 #[v] w (PutsPost w.heap.size w (putsN b)) := by
  have hvl := hv.lt
  obtain ⟨A, c, rfl⟩ := hv.slice
  obtain ⟨hg1, hg2⟩ := getN_le b
  have hc := rget_any _ b hv
  have h1 : (getN b).1 < 9223372036854775808 := by have : (128 : Nat) ^ 9 = 9223372036854775808 := by decide
                                                   omega
  have HC := Lib.hid hc
  have HV := Lib.hid hvl
  have ht : putsN b = match (if 0 < (getN b).2 ∧ (getN b).1 ≤ b.length - (getN b).2 then manyP (getN b).1 (b.drop (getN b).2) else none) with
    | none => none
    | some (l, r) => if r = [] then some l else none := by
    rw [putsN]
    by_cases h : 0 < (getN b).2 ∧ (getN b).1 ≤ b.length - (getN b).2
    · rw [manyN, if_pos h, if_pos h]; rfl
    · rw [manyN, if_neg h, if_neg h]
  obtain ⟨O, hO⟩ : ∃ O, O = putsN b := ⟨_, rfl⟩
  rw [← hO]
  rw [ht] at hO
  have HO := Lib.hid hO
  clear hc ht hO hvl hg2
  generalize (getN b).1 = n at *
  generalize (getN b).2 = q at *
  generalize hB0 : w.heap.size = B at *
  have HB := Lib.hid hB0
  clear hB0
  go_enter Try.func20, Try.ntmps20
  by_cases h0 : 0 < q
  rotate_left
  · obtain rfl : q = 0 := by omega
    have ho := HO.out
    rw [if_neg (fun h => h0 h.1)] at ho
    replace ho : O = none := ho
    subst ho
    go_wp2_with (go_at_call 36; refine HC.out.mono ?_; rintro e w1 ⟨rfl, rfl⟩)
    go_ret2
    exact ⟨Below.refl _ _, rfl⟩
  have hi2 : ((q : Int) == 0) = false := beq_eq_false_iff_ne.2 (by omega)
  have hi3 : (q == 0) = false := beq_eq_false_iff_ne.2 (by omega)
  by_cases hk2 : n ≤ b.length - q
  rotate_left
  · have hi1 : decide (b.length - q < n) = true := decide_eq_true (by omega)
    have hi4 : decide ((b.length : Int) - (q : Int) < (n : Int)) = true := decide_eq_true (by omega)
    have ho := HO.out
    rw [if_neg (fun h => hk2 h.2)] at ho
    replace ho : O = none := ho
    subst ho
    go_wp2_with (go_at_call 36; refine HC.out.mono ?_; rintro e w1 ⟨rfl, rfl⟩)
    go_ret2
    exact ⟨Below.refl _ _, rfl⟩
  have hi1 : decide (b.length - q < n) = false := decide_eq_false (by omega)
  have hi4 : decide ((b.length : Int) - (q : Int) < (n : Int)) = false := decide_eq_false (by omega)
  have ho := HO.out
  rw [if_pos ⟨h0, hk2⟩] at ho
  replace HO := Lib.hid ho
  clear ho
  go_upto_region 4 with (go_at_call 36; refine HC.out.mono ?_; rintro e w1 ⟨rfl, rfl⟩)
  clear hi1 hi2 hi3 hi4
  go_wp2_with (refine wpList_rd_l rfl rfl rfl rfl hv (L := q) rfl hg1 Try.underlying22 infoByte1 (fun vr rr or _ => ?_))
  replace or : vr.ownBlock = (Value.slice A b.length c).ownBlock := or
  have hrl : (b.drop q).length ≤ b.length := by rw [List.length_drop]; omega
  have HV2 : Hid (∀ k, vr.ownBlock = some k → b.drop q ≠ [] → k < B) := Lib.hid (fun k hk hn => HV.out (fun e => hn (by rw [e]; simp)) k (or ▸ hk))
  generalize b.drop q = r at *
  clear hv HV or hg1
  go_loopw [6, 7, 8, 9, 10, 11] (fun rest l i p _ _ wr => ∃ (k : Nat) (L : List PutL) (ps : List (Value × Value × Bool)) (rk : List UInt8), i = .int .i64 k ∧ k ≤ n ∧ manyP k r = some (L, rk) ∧ L.length = k ∧ rk.length ≤ r.length ∧ Rd wr rest rk ∧ (∀ j, rest.ownBlock = some j → rk ≠ [] → j < B) ∧ OwP B wr l ps L ∧ Below B w1 wr ∧ B ≤ wr.heap.size) (fun _ _ i _ _ _ _ => n - (intOf i).toNat)
  case atStart => exact ⟨0, [], [], r, rfl, Nat.zero_le _, rfl, rfl, Nat.le_refl _, rr, HV2.out, ⟨World.ownsRow_nil _ _ _ _, rfl, fun j hj => by cases hj⟩, Below.refl _ _, by rw [HB.out]; exact Nat.le_refl _⟩
  case round =>
    clear rr
    obtain ⟨k, L, ps, rk, rfl, hk, hkl, hll, hrl2, rr, or, ow, hB, hs⟩ := hrel
    by_cases hlt : k < n
    · have hltI : (k : Int) < (n : Int) := by omega
      have HR := Lib.hid (show _ ∧ _ ∧ _ from ⟨hkl, hll, or⟩)
      obtain ⟨Ar, cr, rfl⟩ := rr.slice
      obtain ⟨Av, cv, rfl⟩ := own_form ow.row
      clear hkl or
      go_wp2_with fail
      refine (rone_any _ rk rr (by omega)).mono ?_
      rintro e w2 ⟨hb2, hP⟩
      obtain ⟨o, ho⟩ : ∃ o, o = oneN rk := ⟨_, rfl⟩
      rw [← ho] at hP
      cases o with
      | none =>
        obtain ⟨A1, n1, c1, A2, n2, c2, g, A3, n3, c3, rfl⟩ := hP
        have hpn : O = none := by
          have h1 : manyP (k + 1) r = none := by rw [manyP, HR.out.1]; simp only; rw [← ho]
          rw [HO.out, manyP_add n (k + 1) r h1 (by omega)]
        subst hpn
        replace hB := hB.trans (hb2.mono hs)
        replace hs := Nat.le_trans hs hb2.size
        clear hb2 ow rr ho hll
        go_upto_region 10 with (refine wpList_newN (n := 3) (cs := [.slice A1 n1 c1, .slice A2 n2 c2, .bool g]) rfl rfl rfl rfl rfl rfl rfl (by simp) (by simp) rfl (by kernel_rfl) (by simp [Value.oneCell']) ?_)
        replace hB := hB.alloc hs (.cells #[.slice A1 n1 c1, .slice A2 n2 c2, .bool g] 45)
        generalize w2.alloc (.cells #[.slice A1 n1 c1, .slice A2 n2 c2, .bool g] 45) = w3 at *
        go_wp2_with fail
        go_ret2
        exact ⟨by first | exact hB | (rw [HB.out]; exact hB), rfl⟩
      | some pr =>
        obtain ⟨⟨pk, pv, pg⟩, r2⟩ := pr
        obtain ⟨vk, vv, v2, rfl, ok, ov, rr2, or2⟩ := hP
        have hol := oneN_len ho.symm
        have hk1 : manyP (k + 1) r = some (L ++ [⟨pk, pv, pg⟩], r2) := by rw [manyP, HR.out.1]; simp only; rw [← ho]
        have or2' : v2.ownBlock = (Value.slice Ar rk.length cr).ownBlock := or2
        have OR2 : Hid (∀ j, v2.ownBlock = some j → r2 ≠ [] → j < B) := Lib.hid (fun j hj hn => HR.out.2.2 j (or2' ▸ hj) (fun e => hn (by subst e; exact List.eq_nil_of_length_eq_zero (by simpa using hol))))
        have HK := Lib.hid hk1
        replace ok := own_base ok hs
        replace ov := own_base ov hs
        replace ow := ow.fr (Fr.of_below hb2 (fun _ => False)) (fun _ _ h => h) (fun _ _ _ _ _ _ h => h)
        replace hB := hB.trans (hb2.mono hs)
        replace hs := Nat.le_trans hs hb2.size
        obtain ⟨Ak, ck, rfl⟩ := own_form ok
        obtain ⟨Aw, cw, rfl⟩ := own_form ov
        obtain ⟨A2, c2, rfl⟩ := rr2.slice
        simp only at ok ov
        clear hb2 hk1 or2 or2' ho rr
        go_upto_region 10 with (refine wpList_newN (n := 3) (cs := [.slice Ak pk.length ck, .slice Aw pv.length cw, .bool pg]) rfl rfl rfl rfl rfl rfl rfl (by simp) (by simp) rfl (by kernel_rfl) (by simp [Value.oneCell']) ?_)
        have b3 := Blk.new w2 #[.slice Ak pk.length ck, .slice Aw pv.length cw, .bool pg] 45
        have f3 : Fr (fun _ => False) w2 (w2.alloc (.cells #[.slice Ak pk.length ck, .slice Aw pv.length cw, .bool pg] 45)) := (Fr.refl _ w2).alloc _
        replace hB := hB.alloc hs (.cells #[.slice Ak pk.length ck, .slice Aw pv.length cw, .bool pg] 45)
        replace hs := Nat.le_trans hs f3.size
        replace ok := own_fr ok f3 (fun _ _ h => h)
        replace ov := own_fr ov f3 (fun _ _ h => h)
        replace ow := ow.fr f3 (fun _ _ h => h) (fun _ _ _ _ _ _ h => h)
        replace rr2 := rr2.fr f3 (fun _ _ _ h => h)
        clear f3
        show Code.wp _ _ _ _ (w2.alloc (.cells #[.slice Ak pk.length ck, .slice Aw pv.length cw, .bool pg] 45))
        generalize w2.alloc (.cells #[.slice Ak pk.length ck, .slice Aw pv.length cw, .bool pg] 45) = w3 at *
        generalize w2.heap.size = g3 at *
        have hr3 : w3.rangeAt g3 0 [.slice Ak pk.length ck, .slice Aw pv.length cw, .bool pg] := b3.range' 0 _ (fun j v hv => by rw [Nat.zero_add]; simpa using hv)
        have hl3 : ([.slice Ak pk.length ck, .slice Aw pv.length cw, .bool pg] : List Value).length = 3 := rfl
        have hrow := ow.row
        rw [hll] at hrow
        have HOW := Lib.hid ow
        clear ow
        go_upto_region 13 with (first
          | (refine wpList_loadN (n := 3) rfl rfl rfl hr3 hl3 (by kernel_rfl) (by kernel_rfl) ?_)
          | (refine wpList_pushN (base := B) (size := 3) (bytes := 56) (news := [.slice Ak pk.length ck, .slice Aw pv.length cw, .bool pg]) rfl rfl rfl (by simp [Act.eval]; rfl) (build_puts Ak Aw pk.length ck pv.length cw pg _) rfl rfl (by simp) (by simp [Act.put]) Try.underlying36 infoPut rfl (by omega) rfl (by simp [Value.oneCell']) rfl hrow (by unfold maxLen; omega) (by omega) hs (fun v4 w4 o4 g4 n4 => ?_)))
        have ok4 := own_fr ok g4 (fun j hj e => own_ne ok hrow (by decide) j hj e.symm)
        have ov4 := own_fr ov g4 (fun j hj e => own_ne ov hrow (by decide) j hj e.symm)
        have each4 : ∀ j, j < L.length → (ps.getD j (undef, undef, false)).2.2 = (L.getD j ⟨[], [], false⟩).gone ∧
            w4.ownsRow B 5 1 (ps.getD j (undef, undef, false)).1 (L.getD j ⟨[], [], false⟩).key.length (bts (L.getD j ⟨[], [], false⟩).key) ∧
            w4.ownsRow B 5 1 (ps.getD j (undef, undef, false)).2.1 (L.getD j ⟨[], [], false⟩).val.length (bts (L.getD j ⟨[], [], false⟩).val) := fun j hj =>
          ⟨(HOW.out.each j hj).1, own_fr (HOW.out.each j hj).2.1 g4 (fun i hi e => own_ne (HOW.out.each j hj).2.1 hrow (by decide) i hi e.symm), own_fr (HOW.out.each j hj).2.2 g4 (fun i hi e => own_ne (HOW.out.each j hj).2.2 hrow (by decide) i hi e.symm)⟩
        have rr4 := rr2.old (B := B) g4 (fun hn j hj => OR2.out j hj hn) (fun j hj e => by have := (hrow.lt j e.symm).1; omega)
        have hpl := Lib.hid HOW.out.len
        replace hB := below_own hB hrow g4 (Nat.le_refl _) hs
        replace hs := Nat.le_trans hs g4.size
        have EACH := Lib.hid each4
        clear each4 rr2 g4 n4 hrow HOW ok ov b3 hr3 hl3
        go_wp2_with fail
        go_roundw
        case rel =>
          refine ⟨k + 1, L ++ [⟨pk, pv, pg⟩], ps ++ [(.slice Ak pk.length ck, .slice Aw pv.length cw, pg)], r2, by go_num, by omega, HK.out, by simp [hll], by omega, rr4, OR2.out, ⟨?_, by simp [hpl.out], fun j hj => ?_⟩, hB, hs⟩
          · rw [pvals_append, List.length_append, hll]
            exact o4
          · rw [List.length_append, List.length_singleton] at hj
            rcases Nat.lt_or_ge j L.length with hj2 | hj2
            · rw [getD_left hj2, getD_left (by rw [hpl.out]; exact hj2)]
              exact EACH.out j hj2
            · have hjl : j = L.length := by omega
              have hjp : j = ps.length := hjl.trans hpl.out.symm
              rw [getD_last hjl, getD_last hjp]
              exact ⟨rfl, ok4, ov4⟩
        case measure => simp [intOf]; omega
    · obtain rfl : k = n := by omega
      have ho : O = if rk = [] then some L else none := by rw [HO.out, hkl]
      obtain ⟨Ar, cr, rfl⟩ := rr.slice
      by_cases hz : rk = []
      · rw [if_pos hz] at ho
        subst hz
        have HW := Lib.hid ow
        subst ho
        clear HO ow
        go_wp2_with fail
        go_ret2
        exact ⟨by first | exact hB | (rw [HB.out]; exact hB), _, _, rfl, HW.out⟩
      · rw [if_neg hz] at ho
        subst ho
        have hl1 : (0 : Int) < (rk.length : Int) := by have := List.length_pos_iff.2 hz; omega
        go_wp2_with fail
        go_ret2
        exact ⟨by first | exact hB | (rw [HB.out]; exact hB), rfl⟩
end Go.Proofs.Ytdhllelldlkdfaa
