/- The document's disk: Sync. -/
import Derived.Test.YtnnhelknpnkphaaRDisk3
namespace Go.Proofs.Ytnnhelknpnkphaa
open Go.RowKit

/-- A store into an owned row of one-cell values. -/
theorem own_putv {w : World} {base : Nat} {e : TypeId} {g n c : Nat} {l : List Value} (h : w.ownsRow base e 1 (.slice (some ⟨g, 0, none⟩) n c) n l) (j : Nat) (x : Value) :
    (w.setCell ⟨g, j, none⟩ x).ownsRow base e 1 (.slice (some ⟨g, 0, none⟩) n c) n (l.set j x) := by
  have h1 := h.1
  rcases h.2 with ⟨h0, _⟩ | ⟨g', cap, cur, hv, hb, hg, hn, hc, hs, ht⟩
  · cases h0
  · simp only [Value.slice.injEq, Option.some.injEq, Addr.mk.injEq] at hv
    obtain ⟨⟨rfl, _⟩, _, rfl⟩ := hv
    refine ⟨by simpa using h1, .inr ⟨g, c, cur.setIfInBounds j x, rfl, hb, Blk.set (w := w) hg j _, hn, hc, by simpa using hs, ?_⟩⟩
    rw [Array.toList_setIfInBounds, List.take_set, ht]
theorem own_cellv {w : World} {base : Nat} {e : TypeId} {g n c : Nat} {l : List Value} (h : w.ownsRow base e 1 (.slice (some ⟨g, 0, none⟩) n c) n l) {j : Nat} (hj : j < l.length) :
    (∃ v, w.cell? ⟨g, j, none⟩ = some v) ∧ w.frozen? ⟨g, j, none⟩ = false := by
  refine ⟨⟨l[j], ?_⟩, ?_⟩
  · have := h.cells (g := g) rfl j _ (List.getElem?_eq_getElem hj)
    rwa [Addr.add_mid, Nat.zero_add] at this
  · rcases h.2 with ⟨h0, _⟩ | ⟨g', cap, cur, hv, hb, hg, _⟩
    · cases h0
    · simp only [Value.slice.injEq, Option.some.injEq, Addr.mk.injEq] at hv
      obtain ⟨⟨rfl, _⟩, _, rfl⟩ := hv
      exact frozen_of_row w g j cur e hg
theorem getD_set {α : Type} (l : List α) (i j : Nat) (x d : α) : (l.set i x).getD j d = if i = j ∧ j < l.length then x else l.getD j d := by
  rw [List.getD_eq_getElem?_getD, List.getD_eq_getElem?_getD, List.getElem?_set]
  by_cases h : i = j
  · subst h
    by_cases hl : i < l.length
    · simp [hl]
    · simp [hl]
  · simp [h]
/-- One block of what was written goes into what is kept. -/
theorem RD.keep1 {S : Nat → Prop} {w : World} {p g n c : Nat} {mv : Value} {ks : List Value} {ms : List (Nat × Value)} {D : DSt} (h : RD S w p (.slice (some ⟨g, 0, none⟩) n c) mv ks ms D) (hn : D.kept.length = n) (i : Nat) (v : Value) (bs : List UInt8)
    (hv : w.ownsRow 0 5 1 v 64 (bts bs)) (hs : ∀ k, v.ownBlock = some k → S k) :
    RD S (w.setCell ⟨g, i, none⟩ v) p (.slice (some ⟨g, 0, none⟩) n c) mv (ks.set i v) ms { D with kept := D.kept.set i bs } := by
  have f : Fr (fun k => k = g) w (w.setCell ⟨g, i, none⟩ v) := (Fr.refl (fun k => k = g) w).setCell (p := ⟨g, i, none⟩) (fun _ => rfl) _
  have hkg : Value.ownBlock (.slice (some ⟨g, 0, none⟩) n c) = some g := rfl
  exact {
    blk := h.blk.fr f (fun e => own_blk_ne h.kept h.blk (by decide) (by rw [hkg, e]))
    kept := by
      have hk := h.kept
      rw [hn] at hk
      have := own_putv hk i v
      simpa [hn] using this
    kl := by simpa using h.kl
    kr := fun j hj => by
      have hj' : j < D.kept.length := by simpa using hj
      show World.ownsRow _ 0 _ 1 ((ks.set i v).getD j undef) 64 (bts ((D.kept.set i bs).getD j []))
      rw [getD_set, getD_set, h.kl]
      split
      · exact own_fr hv f (fun k hk e => own_ne hv h.kept (by decide) k hk (by rw [hkg, e]))
      · exact own_fr (h.kr j hj') f (fun k hk e => own_ne (h.kr j hj') h.kept (by decide) k hk (by rw [hkg, e]))
    mem := own_fr h.mem f (fun k hk e => own_ne h.mem h.kept (by decide) k hk (by rw [hkg, e]))
    ml := h.ml
    mr := fun j hj => ⟨(h.mr j hj).1, own_fr (h.mr j hj).2 f (fun k hk e => own_ne (h.mr j hj).2 h.kept (by decide) k hk (by rw [hkg, e]))⟩
    idx := fun x hx => by have := h.idx x hx; simpa using this
    few := by have := h.few; simpa using this
    pos := h.pos
    rng := h.rng
    sp := h.sp
    sk := h.sk
    sm := h.sm
    skr := fun j hj k hk => by
      have hj' : j < D.kept.length := by simpa using hj
      rw [getD_set] at hk
      split at hk
      · exact hs k hk
      · exact h.skr j hj' k hk
    smr := h.smr }
/-- The memory is forgotten. -/
theorem RD.forget {S : Nat → Prop} {w w' : World} {p : Nat} {kv mv : Value} {ks : List Value} {ms : List (Nat × Value)} {D D' : DSt} (h : RD S w p kv mv ks ms D) (f : Fr (fun k => k = p) w w')
    (hb : Blk w' p (rcells kv (.slice none 0 0) D'.out D'.armed D'.left D'.calls) 48) (hk : D'.kept = D.kept) (hm : D'.mem = []) (hp : D'.armed = true → 0 < D'.left) (hg : -9223372036854775808 ≤ D'.left ∧ D'.left ≤ 9223372036854775807) :
    RD S w' p kv (.slice none 0 0) ks [] D' :=
  h.remem (f.mono (fun _ _ e => .inl e)) hb hk (by rw [hm]; exact World.ownsRow_nil _ _ _ _) (by rw [hm]; rfl) (by rw [hm]; intro j hj; cases hj) (by rw [hm]; intro x hx; cases hx) hp hg (by intro k hk; cases hk) (by rw [hm]; intro j hj; cases hj)
theorem keepN_step (pk : Nat → Bool) (kept : List (List UInt8)) (mem : List (Nat × List UInt8)) (k : Nat) (hk : k < mem.length) :
    keepN pk kept mem (k + 1) = if pk k then (keepN pk kept mem k).set (mem.getD k (0, [])).1 (mem.getD k (0, [])).2 else keepN pk kept mem k := by
  rw [keepN, List.getD_eq_getElem?_getD, List.getElem?_eq_getElem hk]
  rfl

set_option maxHeartbeats 2000000 in
set_option maxRecDepth 100000 in
theorem rsync_s {S : Nat → Prop} {w : World} {p : Nat} {D : DSt} (h : RDS S w p D) (hm : D.mem.length < 2 ^ 30) :
    Calls Try.prog 21 #[.pointer (some ⟨p, 0, none⟩)] w fun e w' => e = .returned (.int .i64 D.sync.1) ∧ RDS S w' p D.sync.2 ∧ Fr S w w' := by
  have hR := h
  obtain ⟨kv, mv, ks, ms, h⟩ := h
  obtain ⟨c0, c1, c2, -⟩ := rcells_all h.blk
  cases ho : D.out with
  | true =>
    have hr : D.sync = (5, D) := by rw [DSt.sync, if_pos ho]
    rw [hr]
    rw [ho] at c2
    have HR := Lib.hid hR
    clear hr c1 c0 ho h hR
    go_enter Try.func21, Try.ntmps21
    go_wp2_with fail
    go_ret
    exact ⟨rfl, HR.out, Fr.refl _ _⟩
  | false =>
    have hr : D.sync = (0, D.syncd) := by rw [DSt.sync, if_neg (by rw [ho]; exact Bool.false_ne_true)]
    rw [hr]
    rw [ho] at c2
    obtain ⟨Am, cm, rfl⟩ := own_form h.mem
    have HH := Lib.hid h
    have HO := Lib.hid ho
    clear hr c0 c1 ho hR h
    go_enter Try.func21, Try.ntmps21
    go_wp2_with fail
    go_loopw [3] (fun i wr => ∃ k : Nat, i = .int .i64 k ∧ k ≤ D.mem.length ∧ (∃ kv' ks', RD S wr p kv' (.slice Am D.mem.length cm) ks' ms { D with kept := keepN (fun _ => true) D.kept D.mem k }) ∧ Fr S w wr) (fun i _ => D.mem.length - (intOf i).toNat)
    case atStart => exact ⟨0, rfl, Nat.zero_le _, ⟨_, _, HH.out⟩, Fr.refl _ _⟩
    case round =>
      clear c2 HH
      obtain ⟨k, rfl, hk, ⟨kv', ks', hd⟩, hfr⟩ := hrel
      obtain ⟨c0, c1, -, -, -, -, f0, f1, -⟩ := rcells_all hd.blk
      by_cases hlt : k < D.mem.length
      · have hml := hd.mem
        obtain ⟨g, c', hvd⟩ := own_some hml (show 0 < D.mem.length by omega)
        simp only [Value.slice.injEq] at hvd
        obtain ⟨rfl, -, rfl⟩ := hvd
        obtain ⟨hg1, hg2⟩ := wvals_get ms k (by rw [hd.ml]; exact hlt)
        have hq1 := hml.cells (g := g) rfl _ _ hg1
        have hq2 := hml.cells (g := g) rfl _ _ hg2
        rw [Addr.add_mid, Nat.zero_add] at hq1 hq2
        obtain ⟨hm1, hm2⟩ := hd.mr k hlt
        rw [show ({ D with kept := keepN (fun _ => true) D.kept D.mem k } : DSt).mem = D.mem from rfl] at hm1 hm2
        rw [hm1] at hq1
        have hsm := hd.smr k hlt
        have hst := keepN_step (fun _ => true) D.kept D.mem k hlt
        rw [if_pos rfl] at hst
        have hix := hd.idx (D.mem.getD k (0, [])) (by rw [List.getD_eq_getElem?_getD, List.getElem?_eq_getElem hlt]; exact List.getElem_mem hlt)
        generalize (ms.getD k (0, undef)).2 = vt at *
        generalize D.mem.getD k (0, []) = xb at *
        obtain ⟨x, bs⟩ := xb
        obtain ⟨Av, cv, rfl⟩ := own_form hm2
        have hl0 : (keepN (fun _ => true) D.kept D.mem k).length = D.kept.length := keepN_length _ _ _ _
        replace hix : x < (keepN (fun _ => true) D.kept D.mem k).length := hix
        have hkk : wr.ownsRow 0 29 1 kv' (keepN (fun _ => true) D.kept D.mem k).length ks' := hd.kept
        obtain ⟨gk, ck, hvd⟩ := own_some hkk (by omega)
        subst hvd
        have hkl : ks'.length = (keepN (fun _ => true) D.kept D.mem k).length := hd.kl
        obtain ⟨⟨u, cx⟩, fx⟩ := own_cellv hkk (j := x) (by rw [hkl]; exact hix)
        have h1 := RD.keep1 (hd.below (Below.refl _ _).drew) rfl x (.slice Av 64 cv) bs (own_drew hm2) hsm
        have hsk : S gk := hd.sk gk rfl
        have hfm : D.kept.length ≤ 4096 := by have := hd.few; simpa [hl0] using this
        have HST := Lib.hid hst
        have H1 := Lib.hid h1
        clear hst h1 hm1 hm2 hsm hg1 hg2 hd hml hkk hkl
        have hkI : (k : Int) < (D.mem.length : Int) := by omega
        have hk0 : (0 : Int) ≤ (k : Int) := by omega
        have hx0 : (0 : Int) ≤ (x : Int) := by omega
        simp only at hq1
        rw [hl0] at hix
        have hxI : (x : Int) < (D.kept.length : Int) := by omega
        go_wp2_with fail
        refine wp_region_float (Fr (fun _ => False)) [(0, 0), (1, 0), (2, 0), (3, 1), (4, 0), (5, 0), (6, 0), (7, 1), (8, 0), (9, 0), (10, 0), (11, 1), (12, 0), (13, 0), (14, 0), (15, 1), (16, 0), (17, 0), (18, 0), (19, 1), (20, 0), (21, 3)] _ (by kernel_rfl) (by kernel_rfl) (by simp only [List.map_cons, List.map_nil, Array.getD_eq_getD_getElem?, List.getElem?_toArray, List.getElem?_cons_succ, List.getElem?_cons_zero, Option.getD_some]; rfl) rfl (by kernel_rfl) (fun _ _ d _ _ h => by cases d <;> exact h) (Fr.refl _) (fun _ _ _ => Fr.trans) ?_
        replace c0 : wr.drew.cell? ⟨p, 0, none⟩ = _ := c0
        replace c1 : wr.drew.cell? ⟨p, 1, none⟩ = _ := c1
        replace hq1 : wr.drew.cell? ⟨g, k * 2, none⟩ = _ := hq1
        replace hq2 : wr.drew.cell? ⟨g, k * 2 + 1, none⟩ = _ := hq2
        replace cx : wr.drew.cell? ⟨gk, x, none⟩ = _ := cx
        replace fx : wr.drew.frozen? ⟨gk, x, none⟩ = _ := fx
        generalize hwd : wr.drew = wd at *
        repeat (first | (refine wpF_f0 (fun K hK => ?_); go_simp; refine hK _ ?_; clear hK K) | (refine wpF_load1 rfl rfl rfl (by kernel_rfl) (by assumption) (by simp) (fun K hK => ?_); go_simp; refine hK _ ?_; clear hK K) | (refine wpF_loadN rfl rfl rfl (by assumption) (by assumption) (by kernel_rfl) (by kernel_rfl) (by simp) (fun K hK => ?_); go_simp; refine hK _ ?_; clear hK K))
        refine wpF_a3 (fun K hK => ?_); rw [if_pos (by rfl)]
        go_simp
        refine hK _ _ ?_
        clear hK K
        refine wpF_nil ?_
        have hfd : Fr S w wd := by rw [← hwd]; exact hfr.drew
        have hf2 := hfd.setCell (p := ⟨gk, x, none⟩) (by exact fun _ => hsk) (.slice Av 64 cv)
        clear hfd hwd c0 c1 f0 f1 hq1 hq2 cx fx hfr
        generalize wd.setCell ⟨gk, x, none⟩ (.slice Av 64 cv) = w2 at *
        go_wp2_with fail
        go_roundw
        case rel =>
          refine ⟨k + 1, by go_num, hlt, ⟨.slice (some ⟨gk, 0, none⟩) (keepN (fun _ => true) D.kept D.mem k).length ck, ks'.set x (.slice Av 64 cv), ?_⟩, hf2⟩
          rw [HST.out]
          exact H1.out
        case measure => simp [intOf]; omega
      · obtain rfl : k = D.mem.length := by omega
        have hpos := hd.pos
        have hrng := hd.rng
        have ho := HO.out
        have hb2 := hd.blk.set 1 (.slice none 0 0)
        have hB2 : Blk (wr.setCell ⟨p, 1, none⟩ (.slice none 0 0)) p (rcells kv' (.slice none 0 0) D.out D.armed D.left D.calls) 48 := hb2
        have HD := Lib.hid hd
        clear hd hb2
        go_wp2_with (go_at_call 34; refine (rdid_any (D := ⟨keepN (fun _ => true) D.kept D.mem D.mem.length, [], D.out, D.armed, D.left, D.calls⟩) hB2 ho hpos hrng.2).mono ?_; rintro e w2 ⟨rfl, b2, f2⟩)
        go_ret
        have hdp := DSt.did_pos (D := ⟨keepN (fun _ => true) D.kept D.mem D.mem.length, [], D.out, D.armed, D.left, D.calls⟩) hpos hrng
        have f3 : Fr (fun k => k = p) wr w2 := ((Fr.refl (fun k => k = p) wr).setCell (p := ⟨p, 1, none⟩) (fun _ => rfl) _).step f2 (fun _ _ e => e)
        refine ⟨rfl, ⟨_, _, _, _, HD.out.forget (D' := D.syncd) f3 b2 ?_ ?_ hdp.1 hdp.2⟩, hfr.step f3 (fun k _ e => e ▸ HD.out.sp)⟩
        · unfold DSt.syncd; rw [DSt.did_kept]
        · unfold DSt.syncd; rw [DSt.did_mem]
end Go.Proofs.Ytnnhelknpnkphaa
