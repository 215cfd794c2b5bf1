/- The document's disk: Write. -/
import Derived.Test.YtnnhelknpnkphaaRDisk2
namespace Go.Proofs.Ytnnhelknpnkphaa
open Go.RowKit

theorem getD_left {α : Type} {l : List α} {x d : α} {j : Nat} (h : j < l.length) : (l ++ [x]).getD j d = l.getD j d := by simp [List.getD, List.getElem?_append_left h]
theorem getD_last {α : Type} {l : List α} {x d : α} {j : Nat} (h : j = l.length) : (l ++ [x]).getD j d = x := by subst h; simp [List.getD]
/-- The record and the list of what was written have changed. -/
theorem RD.remem {S : Nat → Prop} {w w' : World} {p : Nat} {kv mv mv' : Value} {ks : List Value} {ms ms' : List (Nat × Value)} {D D' : DSt} (h : RD S w p kv mv ks ms D) (f : Fr (fun k => k = p ∨ some k = mv.ownBlock) w w')
    (hb : Blk w' p (rcells kv mv' D'.out D'.armed D'.left D'.calls) 48) (hk : D'.kept = D.kept) (hm : w'.ownsRow 0 65 2 mv' D'.mem.length (wvals ms')) (hl : ms'.length = D'.mem.length)
    (hr : ∀ j, j < D'.mem.length → (ms'.getD j (0, undef)).1 = (D'.mem.getD j (0, [])).1 ∧ w'.ownsRow 0 5 1 (ms'.getD j (0, undef)).2 64 (bts (D'.mem.getD j (0, [])).2))
    (hi : ∀ x ∈ D'.mem, x.1 < D.kept.length) (hp : D'.armed = true → 0 < D'.left) (hg : -9223372036854775808 ≤ D'.left ∧ D'.left ≤ 9223372036854775807)
    (sm : ∀ k, mv'.ownBlock = some k → S k) (smr : ∀ j, j < D'.mem.length → ∀ k, (ms'.getD j (0, undef)).2.ownBlock = some k → S k) : RD S w' p kv mv' ks ms' D' where
  blk := hb
  kept := by rw [hk]; exact own_fr h.kept f (fun k hk e => e.elim (fun e => own_blk_ne h.kept h.blk (by decide) (e ▸ hk.symm)) (fun e => own_ne h.kept h.mem (by decide) k hk e.symm))
  kl := by rw [hk]; exact h.kl
  kr := by rw [hk]; exact fun j hj => own_fr (h.kr j hj) f (fun k hk e => e.elim (fun e => own_blk_ne (h.kr j hj) h.blk (by decide) (e ▸ hk.symm)) (fun e => own_ne (h.kr j hj) h.mem (by decide) k hk e.symm))
  mem := hm
  ml := hl
  mr := hr
  idx := by rw [hk]; exact hi
  few := by rw [hk]; exact h.few
  pos := hp
  rng := hg
  sp := h.sp
  sk := h.sk
  sm := sm
  skr := by rw [hk]; exact h.skr
  smr := smr
theorem RD.mr' {S : Nat → Prop} {w w' : World} {p : Nat} {kv mv : Value} {ks : List Value} {ms : List (Nat × Value)} {D : DSt} (h : RD S w p kv mv ks ms D) (f : Fr (fun k => k = p ∨ some k = mv.ownBlock) w w') (j : Nat) (hj : j < D.mem.length) :
    w'.ownsRow 0 5 1 (ms.getD j (0, undef)).2 64 (bts (D.mem.getD j (0, [])).2) :=
  own_fr (h.mr j hj).2 f (fun k hk e => e.elim (fun e => own_blk_ne (h.mr j hj).2 h.blk (by decide) (e ▸ hk.symm)) (fun e => own_ne (h.mr j hj).2 h.mem (by decide) k hk e.symm))

theorem DSt.did_pos {D : DSt} (hp : D.armed = true → 0 < D.left) (hr : -9223372036854775808 ≤ D.left ∧ D.left ≤ 9223372036854775807) : (D.did.armed = true → 0 < D.did.left) ∧ (-9223372036854775808 ≤ D.did.left ∧ D.did.left ≤ 9223372036854775807) := by
  unfold DSt.did
  split
  · rename_i ha
    have hl := hp ha
    have hw : wrap64 (D.left - 1) = D.left - 1 := by unfold wrap64; omega
    rw [hw]
    split
    · exact ⟨fun h => (by cases h), by show _ ≤ D.left - 1; omega, by show D.left - 1 ≤ _; omega⟩
    · exact ⟨fun _ => by show 0 < D.left - 1; omega, by show _ ≤ D.left - 1; omega, by show D.left - 1 ≤ _; omega⟩
  · exact ⟨hp, hr⟩
theorem build_w5 (i : Int) (A : Option Addr) (n c : Nat) (w : World) : (Instr.build 65 #[(0, .int .i64 i), (1, .slice A n c)]).run Try.prog w = .ok (.agg #[.int .i64 i, .slice A n c]) w := by kernel_rfl
theorem build_ws (i : Int) (A : Option Addr) (n c : Nat) (w : World) : (Instr.buildSlice 46 1 #[(0, .agg #[.int .i64 i, .slice A n c])]).run Try.prog w = .ok (.slice (some ⟨w.heap.size, 0, none⟩) 1 1) (w.alloc (.cells #[.int .i64 i, .slice A n c] 65)) := by kernel_rfl

set_option maxHeartbeats 2000000 in
set_option maxRecDepth 100000 in
theorem rwrite_s {S : Nat → Prop} {w : World} {p : Nat} {D : DSt} (h : RDS S w p D) (hS : ∀ k, w.heap.size ≤ k → S k) (hm : D.mem.length < 2 ^ 30) (i : Int) (v : Value) (bs : List UInt8) (hv : Rd w v bs) :
    Calls Try.prog 19 #[.pointer (some ⟨p, 0, none⟩), .int .i64 i, v] w fun e w' => e = .returned (.int .i64 (D.write i bs).1) ∧ RDS S w' p (D.write i bs).2 ∧ Fr S w w' := by
  obtain ⟨kv, mv, ks, ms, h⟩ := h
  have hR : RDS S w p D := ⟨_, _, _, _, h⟩
  obtain ⟨Ak, ck, rfl⟩ := own_form h.kept
  obtain ⟨Am, cm, rfl⟩ := own_form h.mem
  obtain ⟨Av, cv, rfl⟩ := hv.slice
  have hvm := hv.max
  have hkm : D.kept.length ≤ 4096 := h.few
  obtain ⟨c0, c1, c2, -⟩ := rcells_all h.blk
  by_cases hi : 0 ≤ i ∧ i < D.kept.length ∧ bs.length = 64
  rotate_left
  · have hr : D.write i bs = (1, D) := by rw [DSt.write, if_neg hi]
    rw [hr]
    have HR := Lib.hid hR
    clear hr c2 c1 h hR
    by_cases h0 : i < 0
    · go_enter Try.func19, Try.ntmps19
      go_wp2_with fail
      go_ret
      exact ⟨rfl, HR.out, Fr.refl _ _⟩
    have h0d : decide (i < 0) = false := decide_eq_false h0
    by_cases h1 : (D.kept.length : Int) ≤ i
    · go_enter Try.func19, Try.ntmps19
      go_wp2_with fail
      go_ret
      exact ⟨rfl, HR.out, Fr.refl _ _⟩
    have h1d : decide ((D.kept.length : Int) ≤ i) = false := decide_eq_false h1
    have h2 : bs.length ≠ 64 := fun e => hi ⟨by omega, by omega, e⟩
    have h2d : ((bs.length : Int) != 64) = true := by rw [bne_iff_ne]; omega
    have h2e : ((bs.length : Int) == 64) = false := beq_eq_false_iff_ne.2 (by omega)
    clear h2 hi
    go_enter Try.func19, Try.ntmps19
    go_wp2_with fail
    go_ret
    exact ⟨rfl, HR.out, Fr.refl _ _⟩
  have h0d : decide (i < 0) = false := decide_eq_false (by omega)
  have h1d : decide ((D.kept.length : Int) ≤ i) = false := decide_eq_false (by omega)
  have hb64 := hi.2.2
  cases ho : D.out with
  | true =>
    have hr : D.write i bs = (5, D) := by rw [DSt.write, if_pos hi, if_pos ho]
    rw [hr]
    rw [ho] at c2
    have HR := Lib.hid hR
    rw [hb64]
    clear hr c1 ho h hR hb64 hi
    go_enter Try.func19, Try.ntmps19
    go_wp2_with fail
    go_ret
    exact ⟨rfl, HR.out, Fr.refl _ _⟩
  | false =>
    have hr : D.write i bs = (0, D.wrote i.toNat bs) := by rw [DSt.write, if_pos hi, if_neg (by rw [ho]; exact Bool.false_ne_true)]
    rw [hr]
    rw [ho] at c2
    obtain ⟨j, rfl⟩ := Int.eq_ofNat_of_zero_le hi.1
    rw [Int.toNat_natCast]
    have hj : j < D.kept.length := by omega
    have HH := Lib.hid h
    have HO := Lib.hid ho
    have HS := Lib.hid hS
    have H64 := Lib.hid hb64
    rw [hb64] at hv ⊢
    have hjd : decide (D.kept.length ≤ j) = false := decide_eq_false (by omega)
    have hj0 : (0 : Int) ≤ (j : Int) := by omega
    clear hr ho hi h hS h0d h1d hb64 hR hvm
    go_enter Try.func19, Try.ntmps19
    go_wp2_with fail
    refine wp_region_float (Fr (fun _ => False)) [(0, 0), (1, 0), (2, 0), (3, 0), (4, 1), (5, 0), (6, 0), (7, 2), (8, 0), (9, 2), (10, 3), (11, 0), (12, 0), (13, 3)] _ (by kernel_rfl) (by kernel_rfl) (by simp only [List.map_cons, List.map_nil, Array.getD_eq_getD_getElem?, List.getElem?_toArray, List.getElem?_cons_succ, List.getElem?_cons_zero, Option.getD_some]; rfl) rfl (by kernel_rfl) (fun _ _ d _ _ h => by cases d <;> exact h) (Fr.refl _) (fun _ _ _ => Fr.trans) ?_
    have hd1 : Below w.heap.size w w.drew := (Below.refl _ _).drew
    have hh := HH.out.below hd1
    replace hv := hv.drew
    replace c1 : w.drew.cell? ⟨p, 1, none⟩ = some (.slice Am D.mem.length cm) := c1
    have HS1 : Hid (∀ k, w.drew.heap.size ≤ k → S k) := Lib.hid HS.out
    have hfr0 : Fr S w w.drew := (Fr.refl S w).drew
    have HH1 := Lib.hid hh
    clear hh hd1 HH HS c0 c2
    generalize w.drew = w1 at *
    repeat (first | (refine wpF_f0 (fun K hK => ?_); go_simp; refine hK _ ?_; clear hK K) | (refine wpF_load1 rfl rfl rfl (by kernel_rfl) (by assumption) (by simp) (fun K hK => ?_); go_simp; refine hK _ ?_; clear hK K) | (refine wpF_loadN rfl rfl rfl (by assumption) (by assumption) (by kernel_rfl) (by kernel_rfl) (by simp) (fun K hK => ?_); go_simp; refine hK _ ?_; clear hK K))
    refine wpF_a2 (fun K hK => ?_); rw [if_pos (by rfl)]
    refine wp_appRd (base := w1.heap.size) (l := []) (n := 0) rfl Try.underlying29 infoByte rfl rfl rfl (World.ownsRow_nil _ _ _ _) hv (by rw [H64.out]; omega) (Nat.le_refl _) (fun v6 w6 o6 g6 _ => ?_)
    rw [List.nil_append, H64.out, Nat.zero_add] at o6
    have hb6 : Below w1.heap.size w1 w6 := g6.below (B := w1.heap.size) (Nat.le_refl _) (fun k _ e => by cases e)
    go_simp
    refine hK _ _ (Fr.of_below hb6 _) ?_
    clear hK K g6
    obtain ⟨A6, c6, rfl⟩ := own_form o6
    have hsz6 := hb6.size
    repeat (first | (refine wpF_f0 (fun K hK => ?_); go_simp; refine hK _ ?_; clear hK K) | (refine wpF_load1 rfl rfl rfl (by kernel_rfl) (by assumption) (by simp) (fun K hK => ?_); go_simp; refine hK _ ?_; clear hK K) | (refine wpF_loadN rfl rfl rfl (by assumption) (by assumption) (by kernel_rfl) (by kernel_rfl) (by simp) (fun K hK => ?_); go_simp; refine hK _ ?_; clear hK K))
    refine wpF_a2 (fun K hK => ?_); rw [if_pos (by rfl)]
    refine wp_value (exec_buildSlice (build_ws (j : Int) A6 64 c6 w6) rfl (by simp [Act.eval, Act.put])) ?_
    have hb7 : Below w6.heap.size w6 (w6.alloc (.cells #[.int .i64 (j : Int), .slice A6 64 c6] 65)) := (Below.refl _ _).alloc (Nat.le_refl _) _
    have b7 := Blk.new w6 #[.int .i64 (j : Int), .slice A6 64 c6] 65
    have H7 := Lib.hid ((HH1.out.below hb6).below hb7)
    have O7 := Lib.hid (own_fr o6 (Fr.of_below hb7 (fun _ => False)) (fun _ _ h => h))
    refine hK _ _ (Fr.of_below hb7 _) ?_
    clear hK K HH1 o6
    have hF7 : Below w1.heap.size w1 (w6.alloc (.cells #[.int .i64 (j : Int), .slice A6 64 c6] 65)) := hb6.trans (hb7.mono hsz6)
    have hcell : ∀ q u, [Value.int .i64 (j : Int), .slice A6 64 c6][q]? = some u → (w6.alloc (.cells #[.int .i64 (j : Int), .slice A6 64 c6] 65)).cell? ((⟨w6.heap.size, 0, none⟩ : Addr).add q) = some u := fun q u hu => by
      rw [Addr.add_mid, Nat.zero_add, b7.cell q]; simpa using hu
    clear b7 hb7 hb6
    generalize w6.heap.size = g7 at *
    generalize w6.alloc (.cells #[.int .i64 (j : Int), .slice A6 64 c6] 65) = w7 at *
    have hF7s := hF7.size
    refine wpF_a3 (fun K hK => ?_); rw [if_pos (by rfl)]
    refine wp_append_k rfl 0 Try.underlying46 infoW5 (by simp [Value.cells]) (by decide) (v := .slice Am D.mem.length cm) rfl H7.out.mem (news := [.int .i64 (j : Int), .slice A6 64 c6]) rfl (by simp) (.inr ⟨_, rfl, hcell⟩) (by intro v hv; simp at hv; rcases hv with rfl | rfl <;> rfl) (by unfold maxLen; omega) (by omega) (by omega) ?_
    intro mv' w8 o8 g8 n8
    obtain ⟨A8, c8, rfl⟩ := own_form o8
    have b8 := H7.out.blk.grown g8 (own_blk_ne H7.out.mem H7.out.blk (by decide))
    have f8 := (Fr.refl (fun k => k = p ∨ some k = Value.ownBlock (.slice Am D.mem.length cm)) w7).grown g8 (fun k _ hk => .inr hk)
    go_simp
    refine hK _ _ ?_
    clear hK K hcell g8
    repeat (first | (refine wpF_f0 (fun K hK => ?_); go_simp; refine hK _ ?_; clear hK K) | (refine wpF_load1 rfl rfl rfl (by kernel_rfl) (by assumption) (by simp) (fun K hK => ?_); go_simp; refine hK _ ?_; clear hK K) | (refine wpF_loadN rfl rfl rfl (by assumption) (by assumption) (by kernel_rfl) (by kernel_rfl) (by simp) (fun K hK => ?_); go_simp; refine hK _ ?_; clear hK K))
    obtain ⟨-, -, -, -, -, -, f0, f1, -⟩ := rcells_all b8
    have d1 := b8.cell 1
    refine wpF_a3 (fun K hK => ?_); rw [if_pos (by rfl)]
    go_simp
    refine hK _ _ ?_
    clear hK K f0 f1 d1
    have o9 := own_set o8 b8 (by decide) 1 (.slice A8 (D.mem.length + 1) c8)
    have b9 := b8.set 1 (.slice A8 (D.mem.length + 1) c8)
    have f9 := f8.setCell (p := ⟨p, 1, none⟩) (by exact fun _ => .inl rfl) (.slice A8 (D.mem.length + 1) c8)
    clear o8 b8 f8
    generalize w8.setCell ⟨p, 1, none⟩ (.slice A8 (D.mem.length + 1) c8) = w9 at *
    refine wpF_nil ?_
    have hpos := H7.out.pos
    have hrng := H7.out.rng
    have ho := HO.out
    go_wp2_with (go_at_call 34; refine (rdid_any (D := ⟨D.kept, D.mem ++ [(j, bs)], D.out, D.armed, D.left, D.calls⟩) b9 ho hpos hrng.2).mono ?_; rintro e w10 ⟨rfl, b10, f10⟩)
    go_ret
    have f10' := f9.step f10 (fun _ _ e => .inl e)
    have o10 := own_fr (T := fun k => k = p) o9 f10 (fun k hk e => own_blk_ne o9 b9 (by decide) (e ▸ hk.symm))
    have H := H7.out
    have hwm : (D.wrote j bs).mem = D.mem ++ [(j, bs)] := by unfold DSt.wrote; rw [DSt.did_mem]
    have hdp := DSt.did_pos (D := ⟨D.kept, D.mem ++ [(j, bs)], D.out, D.armed, D.left, D.calls⟩) hpos hrng
    have h6 : w10.ownsRow 0 5 1 (.slice A6 64 c6) 64 (bts bs) := own_base (own_fr (T := fun k => k = p ∨ some k = Value.ownBlock (.slice Am D.mem.length cm)) O7.out f10' (fun k hk e => e.elim (fun e => own_blk_ne O7.out H.blk (by decide) (e ▸ hk.symm)) (fun e => own_ne O7.out H.mem (by decide) k hk e.symm))) (Nat.zero_le _)
    refine ⟨rfl, ⟨_, _, ks, ms ++ [(j, .slice A6 64 c6)], H.remem (D' := D.wrote j bs) f10' b10 (by unfold DSt.wrote; rw [DSt.did_kept]) ?_ ?_ ?_ ?_ hdp.1 hdp.2 ?_ ?_⟩, ?_⟩
    · rw [hwm, wvals_append]
      simpa [wvals] using o10
    · rw [hwm]
      simp [H.ml]
    · rw [hwm]
      intro q hq
      rw [List.length_append] at hq
      rcases Nat.lt_or_ge q D.mem.length with hlt | hge
      · rw [getD_left (by rw [H.ml]; exact hlt), getD_left hlt]
        exact ⟨(H.mr q hlt).1, H.mr' f10' q hlt⟩
      · have hq' : q = D.mem.length := by simp at hq; omega
        rw [getD_last (by rw [H.ml]; exact hq'), getD_last hq']
        exact ⟨rfl, h6⟩
    · rw [hwm]
      intro x hx
      rcases List.mem_append.1 hx with hx | hx
      · exact H.idx x hx
      · simp at hx
        subst hx
        exact hj
    · intro k hk
      rcases n8 with e | ⟨g, e, hg⟩
      · exact H.sm k (e ▸ hk)
      · have : k = g := by rw [hk] at e; exact Option.some.inj e
        exact HS1.out k (by omega)
    · rw [hwm]
      intro q hq k hk
      rw [List.length_append] at hq
      rcases Nat.lt_or_ge q D.mem.length with hlt | hge
      · rw [getD_left (by rw [H.ml]; exact hlt)] at hk
        exact H.smr q hlt k hk
      · have hq' : q = D.mem.length := by simp at hq; omega
        rw [getD_last (by rw [H.ml]; exact hq')] at hk
        exact HS1.out k (O7.out.lt k hk).1
    · refine (hfr0.step (Fr.of_below hF7 (fun _ => False)) (fun _ _ h => h.elim)).step f10' (fun k _ e => e.elim (fun e => e ▸ H.sp) (fun e => H.sm k e.symm))
end Go.Proofs.Ytnnhelknpnkphaa
