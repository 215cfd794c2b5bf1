/- The document's disk: Crash. -/
import Derived.Test.YtnnhelknpnkphaaRDisk4
namespace Go.Proofs.Ytnnhelknpnkphaa
open Go.RowKit

theorem keepN_none (pk : Nat → Bool) (kept : List (List UInt8)) (mem : List (Nat × List UInt8)) (h : ∀ k, pk k = false) : ∀ k, keepN pk kept mem k = kept
  | 0 => rfl
  | k + 1 => by
    have ih := keepN_none pk kept mem h k
    unfold keepN
    split
    · rw [h, if_neg Bool.false_ne_true]; exact ih
    · exact ih
theorem tmod2 (z : Int) : (z.tmod 2 == 0) = !(z % 2 == 1) := by
  have h : (2 : Int) ∣ z ↔ z % 2 = 0 := Int.dvd_iff_emod_eq_zero
  have h2 : z.tmod 2 = 0 ↔ (2 : Int) ∣ z := Int.dvd_iff_tmod_eq_zero.symm
  by_cases hz : z % 2 = 1
  · rw [hz]
    refine beq_eq_false_iff_ne.2 (fun e => ?_)
    have := h.1 (h2.1 e)
    omega
  · have h0 : z % 2 = 0 := by omega
    rw [h2.2 (h.2 h0), h0]
    rfl

set_option maxHeartbeats 4000000 in
set_option maxRecDepth 100000 in
theorem rcrash_s {S : Nat → Prop} {w : World} {p : Nat} {D : DSt} (h : RDS S w p D) (hm : D.mem.length < 2 ^ 30) (v : Value) (picks : List Int) (hp : RdI w v picks) (hv : picks ≠ [] → ∀ k, v.ownBlock = some k → ¬ S k) :
    Calls Try.prog 24 #[.pointer (some ⟨p, 0, none⟩), v] w fun e w' => e = .returned (.tuple #[]) ∧ RDS S w' p (D.crashed picks) ∧ Fr S w w' := by
  obtain ⟨kv, mv, ks, ms, h⟩ := h
  obtain ⟨A, c, rfl⟩ := hp.slice
  have hpm := hp.max
  obtain ⟨Am, cm, rfl⟩ := own_form h.mem
  have HH := Lib.hid h
  have HV := Lib.hid hv
  clear h hv
  have hend : ∀ (k : Nat) (wr : World) (kv' : Value) (ks' : List Value), RD S wr p kv' (.slice Am D.mem.length cm) ks' ms { D with kept := keepN (pickB picks) D.kept D.mem k } → Fr S w wr → keepN (pickB picks) D.kept D.mem k = keepN (pickB picks) D.kept D.mem D.mem.length →
      RDS S (((wr.setCell ⟨p, 1, none⟩ (.slice none 0 0)).setCell ⟨p, 2, none⟩ (.bool false)).setCell ⟨p, 3, none⟩ (.bool false)) p (D.crashed picks) ∧ Fr S w (((wr.setCell ⟨p, 1, none⟩ (.slice none 0 0)).setCell ⟨p, 2, none⟩ (.bool false)).setCell ⟨p, 3, none⟩ (.bool false)) := by
    intro k wr kv' ks' hd hfr he
    have b := ((hd.blk.set 1 (.slice none 0 0)).set 2 (.bool false)).set 3 (.bool false)
    have f : Fr (fun k => k = p) wr (((wr.setCell ⟨p, 1, none⟩ (.slice none 0 0)).setCell ⟨p, 2, none⟩ (.bool false)).setCell ⟨p, 3, none⟩ (.bool false)) := (((Fr.refl (fun k => k = p) wr).setCell (p := ⟨p, 1, none⟩) (fun _ => rfl) _).setCell (p := ⟨p, 2, none⟩) (fun _ => rfl) _).setCell (p := ⟨p, 3, none⟩) (fun _ => rfl) _
    rw [he] at hd
    exact ⟨⟨_, _, _, _, hd.forget (D' := D.crashed picks) f b rfl rfl (fun e => by cases e) hd.rng⟩, hfr.step f (fun k _ e => e ▸ hd.sp)⟩
  have HE := Lib.hid hend
  clear hend
  go_enter Try.func24, Try.ntmps24
  go_wp2_with fail
  go_loopw [4] (fun i wr => ∃ k : Nat, i = .int .i64 k ∧ k ≤ D.mem.length ∧ (∃ kv' ks', RD S wr p kv' (.slice Am D.mem.length cm) ks' ms { D with kept := keepN (pickB picks) D.kept D.mem k }) ∧ Fr S w wr) (fun i _ => D.mem.length - (intOf i).toNat)
  case atStart => exact ⟨0, rfl, Nat.zero_le _, ⟨_, _, HH.out⟩, Fr.refl _ _⟩
  case round =>
    clear HH
    obtain ⟨k, rfl, hk, ⟨kv', ks', hd⟩, hfr⟩ := hrel
    obtain ⟨c0, c1, c2, c3, -, -, f0, f1, f2, f3, -⟩ := rcells_all hd.blk
    by_cases hlt : k < D.mem.length
    · by_cases hpl : 0 < picks.length
      · have hpw := hp.fr hfr HV.out
        have hj : k % picks.length < picks.length := Nat.mod_lt _ hpl
        obtain ⟨b, o, rfl, hz⟩ := hpw.at hj
        have hm1 : (k : Int).tmod (picks.length : Int) = ((k % picks.length : Nat) : Int) := by rw [Int.tmod_eq_emod_of_nonneg (by omega)]; rfl
        have hz1 : wr.cell? ⟨b, o + k % picks.length, none⟩ = some (.int .i64 picks[k % picks.length]) := hz
        have hm2 : ((k % picks.length : Nat) : Int) < (picks.length : Int) := by omega
        have hpk : pickB picks k = (picks[k % picks.length] % 2 == 1) := by
          rw [pickB, decide_eq_true hpl, Bool.true_and, List.getD_eq_getElem?_getD, List.getElem?_eq_getElem hj]
          rfl
        have ht := tmod2 picks[k % picks.length]
        rw [← hpk] at ht
        have HPK := Lib.hid hpk
        clear hpk
        generalize picks[k % picks.length] = zp at *
        generalize hkk : k % picks.length = kk at *
        have HK := Lib.hid hkk
        clear hkk hpw hz hj
        have hq0 : (0 : Int) ≤ (kk : Int) := by omega
        have hpI : (0 : Int) < (picks.length : Int) := by omega
        have hkI : (k : Int) < (D.mem.length : Int) := by omega
        have hk0 : (0 : Int) ≤ (k : Int) := by omega
        have hst := keepN_step (pickB picks) D.kept D.mem k hlt
        cases hb : pickB picks k with
        | false =>
          rw [hb, if_neg Bool.false_ne_true] at hst
          rw [hb] at ht
          have ht2 : (zp.tmod 2 != 0) = false := by rw [bne, ht]; rfl
          have HST := Lib.hid hst
          have HD := Lib.hid hd
          replace ht : (zp.tmod 2 == 0) = true := ht
          have ht0 : zp.tmod 2 = 0 := by simpa using ht
          clear hst hd hb ht ht2
          go_wp2_with fail
          go_roundw
          case rel =>
            refine ⟨k + 1, by go_num, hlt, ⟨kv', ks', ?_⟩, hfr⟩
            rw [HST.out]
            exact HD.out
          case measure => simp [intOf]; omega
        | true =>
          rw [hb, if_pos rfl] at hst
          rw [hb] at ht
          have ht2 : (zp.tmod 2 != 0) = true := by rw [bne, ht]; rfl
          replace ht : (zp.tmod 2 == 0) = false := ht
          have hml := hd.mem
          obtain ⟨g, c', hvd⟩ := own_some hml (show 0 < D.mem.length by omega)
          simp only [Value.slice.injEq] at hvd
          obtain ⟨rfl, -, rfl⟩ := hvd
          obtain ⟨hg1, hg2⟩ := wvals_get ms k (by rw [hd.ml]; exact hlt)
          have hq1 := hml.cells (g := g) rfl _ _ hg1
          have hq2 := hml.cells (g := g) rfl _ _ hg2
          rw [Addr.add_mid, Nat.zero_add] at hq1 hq2
          obtain ⟨hm1', hm2'⟩ := hd.mr k hlt
          rw [show ({ D with kept := keepN (pickB picks) D.kept D.mem k } : DSt).mem = D.mem from rfl] at hm1' hm2'
          rw [hm1'] at hq1
          have hsm := hd.smr k hlt
          have hix := hd.idx (D.mem.getD k (0, [])) (by rw [List.getD_eq_getElem?_getD, List.getElem?_eq_getElem hlt]; exact List.getElem_mem hlt)
          generalize (ms.getD k (0, undef)).2 = vt at *
          generalize D.mem.getD k (0, []) = xb at *
          obtain ⟨x, bs⟩ := xb
          obtain ⟨Av, cv, rfl⟩ := own_form hm2'
          have hl0 : (keepN (pickB picks) D.kept D.mem k).length = D.kept.length := keepN_length _ _ _ _
          replace hix : x < (keepN (pickB picks) D.kept D.mem k).length := hix
          have hkk : wr.ownsRow 0 29 1 kv' (keepN (pickB picks) D.kept D.mem k).length ks' := hd.kept
          obtain ⟨gk, ck, hvd⟩ := own_some hkk (by omega)
          subst hvd
          have hkl : ks'.length = (keepN (pickB picks) D.kept D.mem k).length := hd.kl
          obtain ⟨⟨u, cx⟩, fx⟩ := own_cellv hkk (j := x) (by rw [hkl]; exact hix)
          have h1 := RD.keep1 (hd.below (Below.refl _ _).drew) rfl x (.slice Av 64 cv) bs (own_drew hm2') hsm
          have hsk : S gk := hd.sk gk rfl
          have hfm : D.kept.length ≤ 4096 := by have := hd.few; simpa [hl0] using this
          have HST := Lib.hid hst
          have H1 := Lib.hid h1
          clear hst h1 hm1' hm2' hsm hg1 hg2 hd hml hkk hkl hb
          have hx0 : (0 : Int) ≤ (x : Int) := by omega
          simp only at hq1
          rw [hl0] at hix
          have hxI : (x : Int) < (D.kept.length : Int) := by omega
          go_wp2_with fail
          refine wp_region_float (Fr (fun _ => False)) [(0, 0), (1, 0), (2, 0), (3, 1), (4, 0), (5, 0), (6, 0), (7, 1), (8, 0), (9, 0), (10, 0), (11, 1), (12, 0), (13, 0), (14, 0), (15, 1), (16, 0), (17, 0), (18, 0), (19, 1), (20, 0), (21, 3)] _ (by kernel_rfl) (by kernel_rfl) (by simp only [List.map_cons, List.map_nil, Array.getD_eq_getD_getElem?, List.getElem?_toArray, List.getElem?_cons_succ, List.getElem?_cons_zero, Option.getD_some]; rfl) rfl (by kernel_rfl) (fun _ _ d _ _ h => by cases d <;> exact h) (Fr.refl _) (fun _ _ _ => Fr.trans) ?_
          replace c0 : wr.drew.cell? ⟨p, 0, none⟩ = _ := c0
          replace c1 : wr.drew.cell? ⟨p, 1, none⟩ = _ := c1
          replace hq1 : wr.drew.cell? ⟨g, k * 2, none⟩ = _ := hq1
          replace hq2 : wr.drew.cell? ⟨g, k * 2 + 1, none⟩ = _ := hq2
          replace cx : wr.drew.cell? ⟨gk, x, none⟩ = _ := cx
          replace fx : wr.drew.frozen? ⟨gk, x, none⟩ = _ := fx
          clear hz1
          generalize hwd : wr.drew = wd at *
          repeat (first | (refine wpF_f0 (fun K hK => ?_); go_simp; refine hK _ ?_; clear hK K) | (refine wpF_load1 rfl rfl rfl (by kernel_rfl) (by assumption) (by simp) (fun K hK => ?_); go_simp; refine hK _ ?_; clear hK K) | (refine wpF_loadN rfl rfl rfl (by assumption) (by assumption) (by kernel_rfl) (by kernel_rfl) (by simp) (fun K hK => ?_); go_simp; refine hK _ ?_; clear hK K))
          refine wpF_a3 (fun K hK => ?_); rw [if_pos (by rfl)]
          go_simp
          refine hK _ _ ?_
          clear hK K
          refine wpF_nil ?_
          have hfd : Fr S w wd := by rw [← hwd]; exact hfr.drew
          have hf2 := hfd.setCell (p := ⟨gk, x, none⟩) (by exact fun _ => hsk) (.slice Av 64 cv)
          clear hfd hwd c0 c1 c2 c3 f0 f1 f2 f3 hq1 hq2 cx fx hfr
          generalize wd.setCell ⟨gk, x, none⟩ (.slice Av 64 cv) = w2 at *
          go_wp2_with fail
          go_roundw
          case rel =>
            refine ⟨k + 1, by go_num, hlt, ⟨.slice (some ⟨gk, 0, none⟩) (keepN (pickB picks) D.kept D.mem k).length ck, ks'.set x (.slice Av 64 cv), ?_⟩, hf2⟩
            rw [HST.out]
            exact H1.out
          case measure => simp [intOf]; omega
      · have hd0 : decide ((0 : Int) < (picks.length : Int)) = false := decide_eq_false (by omega)
        have hp0 : picks = [] := List.eq_nil_of_length_eq_zero (by omega)
        subst hp0
        have hkI : (k : Int) < (D.mem.length : Int) := by omega
        have hk0 : (0 : Int) ≤ (k : Int) := by omega
        have hq := HE.out k wr kv' ks' hd hfr (by rw [keepN_none _ _ _ (fun k => by simp [pickB]), keepN_none _ _ _ (fun k => by simp [pickB])])
        have HQ := Lib.hid hq
        clear hd hq
        go_wp2_with fail
        go_end0
        exact ⟨rfl, HQ.out.1, HQ.out.2⟩
    · obtain rfl : k = D.mem.length := by omega
      have hq := HE.out _ wr kv' ks' hd hfr rfl
      have HQ := Lib.hid hq
      clear hd hq
      go_wp2_with fail
      go_end0
      exact ⟨rfl, HQ.out.1, HQ.out.2⟩
end Go.Proofs.Ytnnhelknpnkphaa
