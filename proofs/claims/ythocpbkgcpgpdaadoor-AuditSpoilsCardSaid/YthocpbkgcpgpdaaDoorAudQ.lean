/- AuditFirst: plain; rows of entries cut. -/
import Derived.Test.YthocpbkgcpgpdaaDoorAudG
namespace Go.Proofs.YthocpbkgcpgpdaaDoor
open Go.RowKit

def lastH : List UInt8 → List Ent → List UInt8
  | prev, [] => prev
  | _, e :: r => lastH e.hash r
theorem headN_cons (e : Ent) (r : List Ent) : headN (e :: r) = lastH e.hash r := by
  induction r generalizing e with
  | nil => rfl
  | cons x r ih =>
    rw [lastH, ← ih x]
    simp only [headN, List.getLast?_cons_cons]
theorem headN_last (es : List Ent) : headN es = lastH zero32 es := by
  cases es with
  | nil => rfl
  | cons e r => rw [headN_cons, lastH]
theorem good_take : ∀ (es : List Ent) (i k : Nat) (prev head : List UInt8), Good es i prev head → Good (es.take k) i prev (lastH prev (es.take k))
  | [], _, _, _, _, _ => by simp [Good, lastH]
  | e :: r, i, 0, prev, _, _ => by simp [Good, lastH]
  | e :: r, i, k + 1, prev, head, h => by
    obtain ⟨h1, h2, h3, h4⟩ := h
    rw [List.take_succ_cons, lastH]
    exact ⟨h1, h2, h3, good_take r _ k _ _ h4⟩
theorem ver_last {head h' : List UInt8} : ∀ (es : List Ent) (i : Nat) (prev : List UInt8), Good es i prev h' → verF es i prev head = (i + es.length, h' == head)
  | [], _, _, h => by simp only [Good] at h; simp [verF, h]
  | e :: r, i, prev, h => by
    obtain ⟨h1, h2, h3, h4⟩ := h
    rw [verF, if_pos (by simp [rightB, h1, h2, ← h3]), ver_last r _ _ h4, List.length_cons]
    congr 1
    omega
theorem first_law {c : List Ent} {k : Nat} (hg : Good c 0 zero32 (headN c)) (hR : ∀ e ∈ c, EntR e) (hk : k < c.length) :
    verN (c.take k) (headN (c.take k)) = (k, true) ∧ verN (c.take k) (headN c) = (k, headN (c.take k) == headN c) ∧
    ((headN (c.take k) == headN c) = true → (k = 0 → headN c = zero32) ∧ (k ≠ 0 → clashR (c.take k).reverse c.reverse = true)) := by
  have hgt := good_take c 0 k _ _ hg
  rw [← headN_last] at hgt
  have hl : (c.take k).length = k := by rw [List.length_take]; omega
  refine ⟨?_, ?_, fun he => ⟨fun h0 => ?_, fun h0 => ?_⟩⟩
  · rw [verN, ver_last _ _ _ hgt, hl, Nat.zero_add]; simp
  · rw [verN, ver_last _ _ _ hgt, hl, Nat.zero_add]
  · rw [beq_iff_eq] at he
    subst h0
    exact he.symm
  · rw [beq_iff_eq] at he
    rw [he] at hgt
    rcases clash_of (z := zero32) (c.take k).reverse c.reverse (headN c) (fun e h => hR e (List.mem_of_mem_take (List.mem_reverse.1 h))) (fun e h => hR e (List.mem_reverse.1 h)) (by rw [List.reverse_reverse]; exact hgt) (by rw [List.reverse_reverse]; exact hg)
      (by simp only [ne_eq, List.reverse_eq_nil_iff]; intro e; rw [e] at hl; simp at hl; omega) (by simp only [ne_eq, List.reverse_eq_nil_iff]; intro e; rw [e] at hk; simp at hk) with h | h
    · exact h
    · have h1 : c.take k = c := List.reverse_inj.1 h
      rw [h1] at hl
      omega
theorem rdes_take {w : World} {g n c k : Nat} {es : List Ent} (h : RdEs w (.slice (some ⟨g, 0, none⟩) n c) es) (hk : k ≤ es.length) : RdEs w (.slice (some ⟨g, 0, none⟩) k c) (es.take k) := by
  obtain ⟨A, len, c', hv, hl, hm, hj, h1, h2⟩ := h
  simp only [Value.slice.injEq] at hv
  obtain ⟨rfl, rfl, rfl⟩ := hv
  refine ⟨_, _, _, rfl, by rw [List.length_take]; omega, by omega, fun j h => ?_, by omega, fun h => by cases h⟩
  rw [List.length_take] at h
  obtain ⟨b, o, cs, he, hc, hr, hE⟩ := hj j (by omega)
  refine ⟨b, o, cs, he, hc, hr, ?_⟩
  rw [List.getElem_take]
  exact hE
theorem exec_slice_hn {P : Program} {o : Oper} {a : Act} {t e : TypeId} {x h : Operand} {g n c H s : Nat} {kh : IntKind} {zh : Int} (ho : o.op = .slice t x none (some h) none)
    (hx : a.eval x = .slice (some ⟨g, 0, none⟩) n c) (hh : a.eval h = .int kh zh) (eh : zh = (H : Int)) (hc : H ≤ c)
    (ht : P.underlying t = some (.slice e)) (hs : (P.info? e).map (·.size) = some s) (w : World) : (execOp a.eval o).run P w = .ok (.value (.slice (some ⟨g, 0, none⟩) H c)) w := by
  subst eh
  have hel : P.elem t = e := by simp [Program.elem, ht]
  subst hel
  unfold execOp
  simp only [ho]
  refine exec_v ?_
  simp only [Option.map_some, Option.map_none, hx, hh]
  rw [run_sliceAt_slice _ t _ _ _ _ ht, run_slice_h _ t _ _ _ ht kh H (by omega) (by omega), run_size1 hs]
  simp only [Result.andThen, Int.toNat_natCast, sliced]
  by_cases h0 : c = 0
  · subst h0; simp
  · rw [if_neg h0]; simp [Addr.add]
theorem sizeEntry : (Tryd.prog.info? 30).map (·.size) = some 7 := by kernel_rfl
set_option maxHeartbeats 1000000 in
set_option maxRecDepth 100000 in
theorem first_walk (v : Value) (l : List SayL) (z : Int) (w : World) (hv : RdA 4 RdY w v l) (hR : ∀ s ∈ l, SayR s) :
    Calls Tryd.prog 7 #[v, .int .i64 z] w fun en w' => en = .returned (.bool true) ∧ Below w.heap.size w w' := by
  obtain ⟨A, ca, rfl⟩ := hv.slice
  generalize hb0 : w.heap.size = B at *
  have HB := Lib.hid hb0
  clear hb0
  have HRR := Lib.hid hR
  clear hR
  go_enter Tryd.func7, Tryd.ntmps7
  go_wp2_with fail
  refine (awake_any w).mono ?_
  rintro en w1 ⟨rfl, hB⟩
  have hv1 := RdA.below hv hB (fun _ _ h => h)
  have hs := hB.size
  rw [HB.out] at hB hs
  have hch := chain_any _ l hv1
  obtain ⟨O, hO⟩ : ∃ O, O = chainN l := ⟨_, rfl⟩
  rw [← hO] at hch
  have HO := Lib.hid hO
  clear hO hv1 hv
  go_wp2_with fail
  refine hch.mono ?_
  rintro en w2 ⟨hb2, hq⟩
  clear hch
  cases O with
  | none =>
    obtain rfl : en = _ := hq
    replace hB := hB.trans (hb2.mono hs)
    clear hb2
    go_wp2_with fail
    go_ret
    exact ⟨rfl, by first | exact hB | (rw [HB.out]; exact hB)⟩
  | some c =>
    obtain ⟨v2, ps, rfl, ow, hSh, h20⟩ := hq
    replace hB := hB.trans (hb2.mono hs)
    replace hs := Nat.le_trans hs hb2.size
    have hsp := chain_spec HO.out.symm
    have hER := chain_entR HO.out.symm HRR.out h20
    have hc := ow.rdes
    have hlaw := @first_law c
    have HLAW := Lib.hid (show _ ∧ _ from ⟨hsp.2.1, hER⟩)
    have HSH := Lib.hid hSh
    have H20 := Lib.hid h20
    have hmx := hc.max
    obtain ⟨Ac, cc, hv2⟩ := own_form ow.row
    subst hv2
    by_cases hz0 : z < 0
    · clear hlaw hsp hER hSh hb2 h20
      go_wp2_with fail
      go_ret
      exact ⟨rfl, by first | exact hB | (rw [HB.out]; exact hB)⟩
    obtain ⟨k, rfl⟩ := Int.eq_ofNat_of_zero_le (show 0 ≤ z by omega)
    have hk0 : decide ((k : Int) < 0) = false := decide_eq_false (by omega)
    by_cases hkc : c.length ≤ k
    · have hkI : (c.length : Int) ≤ (k : Int) := by omega
      clear hlaw hsp hER hSh hb2 h20
      go_wp2_with fail
      go_ret
      exact ⟨rfl, by first | exact hB | (rw [HB.out]; exact hB)⟩
    have hkI : decide ((c.length : Int) ≤ (k : Int)) = false := decide_eq_false (by omega)
    have hkJ : decide (c.length ≤ k) = false := decide_eq_false hkc
    have hlw := hlaw HLAW.out.1 HLAW.out.2 (show k < c.length by omega)
    obtain ⟨g, cg, hv3⟩ := own_some ow.row (by omega)
    simp only [Value.slice.injEq] at hv3
    obtain ⟨rfl, -, rfl⟩ := hv3
    have hcap : c.length ≤ cc := by
      obtain ⟨A', len, c', he, _, _, _, h1, _⟩ := hc
      cases he
      omega
    have hct := rdes_take (k := k) hc (by omega)
    have HLW := Lib.hid hlw
    have HKC := Lib.hid (show k < c.length by omega)
    have HCAP := Lib.hid (show k ≤ cc by omega)
    clear hlaw hsp hER hSh hb2 h20 hlw hz0 ow hkc hcap
    go_upto_region 5 with fail
    clear hk0 hkI hkJ
    have HSHT := Lib.hid (show ∀ e ∈ c.take k, ShE e from fun e h => HSH.out e (List.mem_of_mem_take h))
    obtain ⟨q, hq⟩ : ∃ q, (headN (c.take k) == headN c) = q := ⟨_, rfl⟩
    have hl2 := HLW.out.2.1
    have hl3 := HLW.out.2.2
    rw [hq] at hl2 hl3
    have HL1 := Lib.hid HLW.out.1
    have HL2 := Lib.hid hl2
    have HL3 := Lib.hid hl3
    clear hq hl2 hl3 HLW hmx
    refine wp_region_float (Fr (fun _ => False)) [(0, 0), (1, 0), (2, 0), (3, 0), (4, 0), (5, 0), (6, 3), (7, 3), (8, 0), (9, 0), (10, 0), (11, 0), (12, 0)] _ (by kernel_rfl) (by kernel_rfl) (by simp only [List.map_cons, List.map_nil, Array.getD_eq_getD_getElem?, List.getElem?_toArray, List.getElem?_cons_succ, List.getElem?_cons_zero, Option.getD_some]; rfl) rfl (by kernel_rfl) (fun _ _ d _ _ h => by cases d <;> exact h) (Fr.refl _) (fun _ _ _ => Fr.trans) ?_
    replace hc := hc.below (Below.refl w2.heap.size w2).drew
    replace hct := hct.below (Below.refl w2.heap.size w2).drew
    replace hB := hB.drew
    replace hs : B ≤ w2.drew.heap.size := hs
    generalize w2.drew = w3 at *
    (first | (refine wpF_f0 (fun K hK => ?_); go_simp; refine hK _ ?_; clear hK K) | (refine wpF_load1 rfl rfl rfl (by kernel_rfl) (by assumption) (by simp) (fun K hK => ?_); go_simp; refine hK _ ?_; clear hK K) | (refine wpF_str rfl rfl rfl (by assumption) (by simp) (by kernel_rfl) (by kernel_rfl) (fun K hK => ?_); go_simp; refine hK _ ?_; clear hK K))
    (first | (refine wpF_f0 (fun K hK => ?_); go_simp; refine hK _ ?_; clear hK K) | (refine wpF_load1 rfl rfl rfl (by kernel_rfl) (by assumption) (by simp) (fun K hK => ?_); go_simp; refine hK _ ?_; clear hK K) | (refine wpF_str rfl rfl rfl (by assumption) (by simp) (by kernel_rfl) (by kernel_rfl) (fun K hK => ?_); go_simp; refine hK _ ?_; clear hK K))
    refine wpF_f0v (fun w' => exec_slice_hn rfl rfl rfl rfl HCAP.out Tryd.underlying22 sizeEntry w') rfl (fun K hK => ?_)
    go_simp
    refine hK _ ?_
    clear hK K
    (first | (refine wpF_f0 (fun K hK => ?_); go_simp; refine hK _ ?_; clear hK K) | (refine wpF_load1 rfl rfl rfl (by kernel_rfl) (by assumption) (by simp) (fun K hK => ?_); go_simp; refine hK _ ?_; clear hK K) | (refine wpF_str rfl rfl rfl (by assumption) (by simp) (by kernel_rfl) (by kernel_rfl) (fun K hK => ?_); go_simp; refine hK _ ?_; clear hK K))
    (first | (refine wpF_f0 (fun K hK => ?_); go_simp; refine hK _ ?_; clear hK K) | (refine wpF_load1 rfl rfl rfl (by kernel_rfl) (by assumption) (by simp) (fun K hK => ?_); go_simp; refine hK _ ?_; clear hK K) | (refine wpF_str rfl rfl rfl (by assumption) (by simp) (by kernel_rfl) (by kernel_rfl) (fun K hK => ?_); go_simp; refine hK _ ?_; clear hK K))
    refine wpF_f0v (fun w' => exec_slice_hn rfl rfl rfl rfl HCAP.out Tryd.underlying22 sizeEntry w') rfl (fun K hK => ?_)
    go_simp
    refine hK _ ?_
    clear hK K
    refine wpF_a3 (fun K hK => ?_); rw [if_pos (by rfl)]
    go_simp
    refine (head_any _ (c.take k) hct (headN_le HSHT.out)).mono ?_
    rintro en w4 ⟨v4, rfl, o4, hb4⟩
    replace hc := hc.below hb4
    replace hct := hct.below hb4
    replace hB := hB.trans (hb4.mono hs)
    replace hs := Nat.le_trans hs hb4.size
    have r4 := Rd.of_own o4
    obtain ⟨A4, c4, rfl⟩ := own_form o4
    refine hK _ _ ?_
    clear hK K hb4 o4
    refine wpF_a3 (fun K hK => ?_); rw [if_pos (by rfl)]
    go_simp
    refine (verify_any _ _ (c.take k) (headN (c.take k)) hct r4 HSHT.out).mono ?_
    rw [HL1.out]
    rintro en w5 ⟨rfl, hb5⟩
    replace hc := hc.below hb5
    replace hct := hct.below hb5
    replace hB := hB.trans (hb5.mono hs)
    replace hs := Nat.le_trans hs hb5.size
    refine hK _ _ ?_
    clear hK K hb5 r4
    repeat (first | (refine wpF_f0 (fun K hK => ?_); go_simp; refine hK _ ?_; clear hK K) | (refine wpF_load1 rfl rfl rfl (by kernel_rfl) (by assumption) (by simp) (fun K hK => ?_); go_simp; refine hK _ ?_; clear hK K) | (refine wpF_loadN rfl rfl rfl (by assumption) (by assumption) (by kernel_rfl) (by kernel_rfl) (by simp) (fun K hK => ?_); go_simp; refine hK _ ?_; clear hK K))
    refine wpF_nil ?_
    go_wp2_with fail
    refine wp_region_float (Fr (fun _ => False)) [(0, 0), (1, 0), (2, 0), (3, 0), (4, 3), (5, 3), (6, 0), (7, 0), (8, 0), (9, 0), (10, 0)] _ (by kernel_rfl) (by kernel_rfl) (by simp only [List.map_cons, List.map_nil, Array.getD_eq_getD_getElem?, List.getElem?_toArray, List.getElem?_cons_succ, List.getElem?_cons_zero, Option.getD_some]; rfl) rfl (by kernel_rfl) (fun _ _ d _ _ h => by cases d <;> exact h) (Fr.refl _) (fun _ _ _ => Fr.trans) ?_
    replace hc := hc.below (Below.refl w5.heap.size w5).drew
    replace hct := hct.below (Below.refl w5.heap.size w5).drew
    replace hB := hB.drew
    replace hs : B ≤ w5.drew.heap.size := hs
    generalize w5.drew = w6 at *
    (first | (refine wpF_f0 (fun K hK => ?_); go_simp; refine hK _ ?_; clear hK K) | (refine wpF_load1 rfl rfl rfl (by kernel_rfl) (by assumption) (by simp) (fun K hK => ?_); go_simp; refine hK _ ?_; clear hK K) | (refine wpF_str rfl rfl rfl (by assumption) (by simp) (by kernel_rfl) (by kernel_rfl) (fun K hK => ?_); go_simp; refine hK _ ?_; clear hK K))
    (first | (refine wpF_f0 (fun K hK => ?_); go_simp; refine hK _ ?_; clear hK K) | (refine wpF_load1 rfl rfl rfl (by kernel_rfl) (by assumption) (by simp) (fun K hK => ?_); go_simp; refine hK _ ?_; clear hK K) | (refine wpF_str rfl rfl rfl (by assumption) (by simp) (by kernel_rfl) (by kernel_rfl) (fun K hK => ?_); go_simp; refine hK _ ?_; clear hK K))
    refine wpF_f0v (fun w' => exec_slice_hn rfl rfl rfl rfl HCAP.out Tryd.underlying22 sizeEntry w') rfl (fun K hK => ?_)
    go_simp
    refine hK _ ?_
    clear hK K
    (first | (refine wpF_f0 (fun K hK => ?_); go_simp; refine hK _ ?_; clear hK K) | (refine wpF_load1 rfl rfl rfl (by kernel_rfl) (by assumption) (by simp) (fun K hK => ?_); go_simp; refine hK _ ?_; clear hK K) | (refine wpF_str rfl rfl rfl (by assumption) (by simp) (by kernel_rfl) (by kernel_rfl) (fun K hK => ?_); go_simp; refine hK _ ?_; clear hK K))
    refine wpF_a3 (fun K hK => ?_); rw [if_pos (by rfl)]
    go_simp
    refine (head_any _ c hc (headN_le HSH.out)).mono ?_
    rintro en w7 ⟨v7, rfl, o7, hb7⟩
    replace hc := hc.below hb7
    replace hct := hct.below hb7
    replace hB := hB.trans (hb7.mono hs)
    replace hs := Nat.le_trans hs hb7.size
    have r7 := Rd.of_own o7
    obtain ⟨A7, c7, rfl⟩ := own_form o7
    refine hK _ _ ?_
    clear hK K hb7 o7
    refine wpF_a3 (fun K hK => ?_); rw [if_pos (by rfl)]
    go_simp
    refine (verify_any _ _ (c.take k) (headN c) hct r7 HSHT.out).mono ?_
    rw [HL2.out]
    rintro en w8 ⟨rfl, hb8⟩
    replace hc := hc.below hb8
    replace hct := hct.below hb8
    replace hB := hB.trans (hb8.mono hs)
    replace hs := Nat.le_trans hs hb8.size
    refine hK _ _ ?_
    clear hK K hb8 r7
    repeat (first | (refine wpF_f0 (fun K hK => ?_); go_simp; refine hK _ ?_; clear hK K) | (refine wpF_load1 rfl rfl rfl (by kernel_rfl) (by assumption) (by simp) (fun K hK => ?_); go_simp; refine hK _ ?_; clear hK K) | (refine wpF_loadN rfl rfl rfl (by assumption) (by assumption) (by kernel_rfl) (by kernel_rfl) (by simp) (fun K hK => ?_); go_simp; refine hK _ ?_; clear hK K))
    refine wpF_nil ?_
    go_wp2_with fail
    refine wp_region_float (Fr (fun _ => False)) [(0, 0), (1, 0), (2, 0), (3, 0), (4, 2), (5, 1), (6, 2), (7, 1), (8, 0), (9, 0), (10, 0)] _ (by kernel_rfl) (by kernel_rfl) (by simp only [List.map_cons, List.map_nil, Array.getD_eq_getD_getElem?, List.getElem?_toArray, List.getElem?_cons_succ, List.getElem?_cons_zero, Option.getD_some]; rfl) rfl (by kernel_rfl) (fun _ _ d _ _ h => by cases d <;> exact h) (Fr.refl _) (fun _ _ _ => Fr.trans) ?_
    replace hc := hc.below (Below.refl w8.heap.size w8).drew
    replace hct := hct.below (Below.refl w8.heap.size w8).drew
    replace hB := hB.drew
    replace hs : B ≤ w8.drew.heap.size := hs
    generalize w8.drew = w9 at *
    by_cases hk : k = 0
    · subst hk
      repeat (first | (refine wpF_f0 (fun K hK => ?_); go_simp; refine hK _ ?_; clear hK K) | (refine wpF_load1 rfl rfl rfl (by kernel_rfl) (by assumption) (by simp) (fun K hK => ?_); go_simp; refine hK _ ?_; clear hK K) | (refine wpF_loadN rfl rfl rfl (by assumption) (by assumption) (by kernel_rfl) (by kernel_rfl) (by simp) (fun K hK => ?_); go_simp; refine hK _ ?_; clear hK K))
      refine wpF_a2 (fun K hK => ?_); rw [if_pos (by rfl)]
      go_simp
      refine (head_any _ c hc (headN_le HSH.out)).mono ?_
      rintro en w10 ⟨v10, rfl, o10, hb10⟩
      replace hB := hB.trans (hb10.mono hs)
      replace hs := Nat.le_trans hs hb10.size
      have r10 := Rd.of_own o10
      obtain ⟨A10, c10, rfl⟩ := own_form o10
      refine hK _ _ (Fr.of_below hb10 _) ?_
      clear hK K hb10 o10 hc hct
      repeat (first | (refine wpF_f0 (fun K hK => ?_); go_simp; refine hK _ ?_; clear hK K) | (refine wpF_load1 rfl rfl rfl (by kernel_rfl) (by assumption) (by simp) (fun K hK => ?_); go_simp; refine hK _ ?_; clear hK K) | (refine wpF_str rfl rfl rfl (by assumption) (by simp) (by kernel_rfl) (by kernel_rfl) (fun K hK => ?_); go_simp; refine hK _ ?_; clear hK K))
      refine wpF_a2 (fun K hK => ?_); rw [if_pos (by rfl)]
      go_simp
      refine (zero_any _).mono ?_
      rintro en w11 ⟨v11, rfl, o11, hb11⟩
      replace hB := hB.trans (hb11.mono hs)
      replace hs := Nat.le_trans hs hb11.size
      have r11 := Rd.of_own o11
      obtain ⟨A11, c11, rfl⟩ := own_form o11
      refine hK _ _ (Fr.of_below hb11 _) ?_
      clear hK K hb11 o11 r10
      repeat (first | (refine wpF_f0 (fun K hK => ?_); go_simp; refine hK _ ?_; clear hK K) | (refine wpF_load1 rfl rfl rfl (by kernel_rfl) (by assumption) (by simp) (fun K hK => ?_); go_simp; refine hK _ ?_; clear hK K) | (refine wpF_str rfl rfl rfl (by assumption) (by simp) (by kernel_rfl) (by kernel_rfl) (fun K hK => ?_); go_simp; refine hK _ ?_; clear hK K))
      refine wpF_nil ?_
      cases q with
      | false =>
        go_wp2_with fail
        go_ret
        exact ⟨rfl, by first | exact hB | (rw [HB.out]; exact hB)⟩
      | true =>
        have hz := (HL3.out rfl).1 rfl
        rw [hz]
        go_wp2_with fail
        go_ret
        exact ⟨rfl, by first | exact hB | (rw [HB.out]; exact hB)⟩
    · have hk0 : ((k : Int) == 0) = false := by rw [beq_eq_false_iff_ne]; omega
      have hk1 : (k == 0) = false := by rw [beq_eq_false_iff_ne]; exact hk
      have HK := Lib.hid hk
      clear hk
      repeat (first | (refine wpF_f0 (fun K hK => ?_); go_simp; refine hK _ ?_; clear hK K) | (refine wpF_load1 rfl rfl rfl (by kernel_rfl) (by assumption) (by simp) (fun K hK => ?_); go_simp; refine hK _ ?_; clear hK K) | (refine wpF_str rfl rfl rfl (by assumption) (by simp) (by kernel_rfl) (by kernel_rfl) (fun K hK => ?_); go_simp; refine hK _ ?_; clear hK K) | (refine wpF_skip (by rfl) ?_))
      refine wpF_nil ?_
      cases q with
      | false =>
        go_wp2_with fail
        go_ret
        exact ⟨rfl, by first | exact hB | (rw [HB.out]; exact hB)⟩
      | true =>
        have hcl := (HL3.out rfl).2 HK.out
        have HCL := Lib.hid hcl
        clear hcl
        have hla : (c.take k).length < 1000000 := by rw [List.length_take]; have := H20.out; omega
        have hlb : c.length < 1000000 := by have := H20.out; omega
        have HLL := Lib.hid (show _ ∧ _ from ⟨hla, hlb⟩)
        clear hla hlb
        go_wp2_with (refine wpList_valueg rfl (exec_slice_hn rfl rfl rfl rfl HCAP.out Tryd.underlying22 sizeEntry _) ?_)
        refine (clash_any _ _ (c.take k) c hct hc HSHT.out HSH.out HLL.out.1 HLL.out.2).mono ?_
        rw [HCL.out]
        rintro en w10 ⟨rfl, hb10⟩
        replace hB := hB.trans (hb10.mono hs)
        go_wp2_with fail
        go_ret
        exact ⟨rfl, by first | exact hB | (rw [HB.out]; exact hB)⟩
end Go.Proofs.YthocpbkgcpgpdaaDoor
