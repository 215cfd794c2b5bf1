/- The document's disk: what it is; did, Arm. -/
import Derived.Test.YtnnhelknpnkphaaDisk8
import Derived.Test.YtnnhelknpnkphaaK12
namespace Go.Proofs.Ytnnhelknpnkphaa
open Go.RowKit

theorem infoRow : (Try.prog.info? 29).map (fun i => (i.zero, i.size, i.bytes)) = some (some (.slice none 0 0), 1, 24) := by kernel_rfl
theorem infoW5 : (Try.prog.info? 65).map (fun i => (i.zero, i.size, i.bytes)) = some (some (.agg #[.int .i64 0, .slice none 0 0]), 2, 32) := by kernel_rfl
theorem own_ne {w : World} {b1 b2 n1 n2 s1 s2 : Nat} {e1 e2 : TypeId} {v1 v2 : Value} {x1 x2 : List Value} (h1 : w.ownsRow b1 e1 s1 v1 n1 x1) (h2 : w.ownsRow b2 e2 s2 v2 n2 x2) (he : e1 ≠ e2) : ∀ k, v1.ownBlock = some k → v2.ownBlock ≠ some k := by
  intro k hk
  rcases h1.2 with ⟨rfl, _⟩ | ⟨g, cap, cur, rfl, hb, hg, _⟩
  · cases hk
  · cases hk
    exact fun e => own_blk_ne h2 (show Blk w g cur e1 from hg) (fun h => he h.symm) e.symm
def rcells (kv mv : Value) (out armed : Bool) (left calls : Int) : Array Value := #[kv, mv, .bool out, .bool armed, .int .i64 left, .int .i64 calls]
theorem rcells_all {w : World} {p : Nat} {kv mv : Value} {out armed : Bool} {left calls : Int} {t : TypeId} (h : Blk w p (rcells kv mv out armed left calls) t) :
    w.cell? ⟨p, 0, none⟩ = some kv ∧ w.cell? ⟨p, 1, none⟩ = some mv ∧ w.cell? ⟨p, 2, none⟩ = some (.bool out) ∧ w.cell? ⟨p, 3, none⟩ = some (.bool armed) ∧
    w.cell? ⟨p, 4, none⟩ = some (.int .i64 left) ∧ w.cell? ⟨p, 5, none⟩ = some (.int .i64 calls) ∧
    w.frozen? ⟨p, 0, none⟩ = false ∧ w.frozen? ⟨p, 1, none⟩ = false ∧ w.frozen? ⟨p, 2, none⟩ = false ∧ w.frozen? ⟨p, 3, none⟩ = false ∧ w.frozen? ⟨p, 4, none⟩ = false ∧ w.frozen? ⟨p, 5, none⟩ = false :=
  ⟨h.cell 0, h.cell 1, h.cell 2, h.cell 3, h.cell 4, h.cell 5, h.frozen 0, h.frozen 1, h.frozen 2, h.frozen 3, h.frozen 4, h.frozen 5⟩
def wvals (l : List (Nat × Value)) : List Value := l.flatMap fun x => [.int .i64 x.1, x.2]
theorem wvals_append (a b : List (Nat × Value)) : wvals (a ++ b) = wvals a ++ wvals b := by simp [wvals]
/-- The document's disk in memory: all its blocks lie in S. -/
structure RD (S : Nat → Prop) (w : World) (p : Nat) (kv mv : Value) (ks : List Value) (ms : List (Nat × Value)) (D : DSt) : Prop where
  blk : Blk w p (rcells kv mv D.out D.armed D.left D.calls) 48
  kept : w.ownsRow 0 29 1 kv D.kept.length ks
  kl : ks.length = D.kept.length
  kr : ∀ j, j < D.kept.length → w.ownsRow 0 5 1 (ks.getD j undef) 64 (bts (D.kept.getD j []))
  mem : w.ownsRow 0 65 2 mv D.mem.length (wvals ms)
  ml : ms.length = D.mem.length
  mr : ∀ j, j < D.mem.length → (ms.getD j (0, undef)).1 = (D.mem.getD j (0, [])).1 ∧ w.ownsRow 0 5 1 (ms.getD j (0, undef)).2 64 (bts (D.mem.getD j (0, [])).2)
  idx : ∀ x ∈ D.mem, x.1 < D.kept.length
  few : D.kept.length ≤ 4096
  pos : D.armed = true → 0 < D.left
  rng : -9223372036854775808 ≤ D.left ∧ D.left ≤ 9223372036854775807
  sp : S p
  sk : ∀ k, kv.ownBlock = some k → S k
  sm : ∀ k, mv.ownBlock = some k → S k
  skr : ∀ j, j < D.kept.length → ∀ k, (ks.getD j undef).ownBlock = some k → S k
  smr : ∀ j, j < D.mem.length → ∀ k, (ms.getD j (0, undef)).2.ownBlock = some k → S k
theorem RD.fr {S T : Nat → Prop} {w w' : World} {p : Nat} {kv mv : Value} {ks : List Value} {ms : List (Nat × Value)} {D : DSt} (h : RD S w p kv mv ks ms D) (f : Fr T w w') (ht : ∀ k, k < w.heap.size → S k → ¬ T k) : RD S w' p kv mv ks ms D where
  blk := h.blk.fr f (ht p h.blk.lt h.sp)
  kept := own_fr h.kept f (fun k hk => ht k (h.kept.lt k hk).2 (h.sk k hk))
  kl := h.kl
  kr := fun j hj => own_fr (h.kr j hj) f (fun k hk => ht k ((h.kr j hj).lt k hk).2 (h.skr j hj k hk))
  mem := own_fr h.mem f (fun k hk => ht k (h.mem.lt k hk).2 (h.sm k hk))
  ml := h.ml
  mr := fun j hj => ⟨(h.mr j hj).1, own_fr (h.mr j hj).2 f (fun k hk => ht k ((h.mr j hj).2.lt k hk).2 (h.smr j hj k hk))⟩
  idx := h.idx
  few := h.few
  pos := h.pos
  rng := h.rng
  sp := h.sp
  sk := h.sk
  sm := h.sm
  skr := h.skr
  smr := h.smr
theorem RD.below {S : Nat → Prop} {w w' : World} {p : Nat} {kv mv : Value} {ks : List Value} {ms : List (Nat × Value)} {D : DSt} (h : RD S w p kv mv ks ms D) (f : Below w.heap.size w w') : RD S w' p kv mv ks ms D := h.fr (T := fun _ => False) (Fr.of_below f _) (fun _ _ _ h => h)
theorem RD.but {S S' : Nat → Prop} {w : World} {p : Nat} {kv mv : Value} {ks : List Value} {ms : List (Nat × Value)} {D : DSt} (h : RD S w p kv mv ks ms D) (hs : ∀ k, k < w.heap.size → S k → S' k) : RD S' w p kv mv ks ms D :=
  { h with
    sp := hs p h.blk.lt h.sp
    sk := fun k hk => hs k (h.kept.lt k hk).2 (h.sk k hk)
    sm := fun k hk => hs k (h.mem.lt k hk).2 (h.sm k hk)
    skr := fun j hj k hk => hs k ((h.kr j hj).lt k hk).2 (h.skr j hj k hk)
    smr := fun j hj k hk => hs k ((h.mr j hj).2.lt k hk).2 (h.smr j hj k hk) }
def RDS (S : Nat → Prop) (w : World) (p : Nat) (D : DSt) : Prop := ∃ kv mv ks ms, RD S w p kv mv ks ms D
theorem RDS.fr {S T : Nat → Prop} {w w' : World} {p : Nat} {D : DSt} (h : RDS S w p D) (f : Fr T w w') (ht : ∀ k, k < w.heap.size → S k → ¬ T k) : RDS S w' p D := by
  obtain ⟨_, _, _, _, h⟩ := h; exact ⟨_, _, _, _, h.fr f ht⟩
theorem RDS.below {S : Nat → Prop} {w w' : World} {p : Nat} {D : DSt} (h : RDS S w p D) (f : Below w.heap.size w w') : RDS S w' p D := h.fr (T := fun _ => False) (Fr.of_below f _) (fun _ _ _ h => h)
theorem RDS.but {S S' : Nat → Prop} {w : World} {p : Nat} {D : DSt} (h : RDS S w p D) (hs : ∀ k, k < w.heap.size → S k → S' k) : RDS S' w p D := by
  obtain ⟨_, _, _, _, h⟩ := h; exact ⟨_, _, _, _, h.but hs⟩

set_option maxHeartbeats 1000000 in
theorem rdid_any {w : World} {p : Nat} {kv mv : Value} {D : DSt} (h : Blk w p (rcells kv mv D.out D.armed D.left D.calls) 48) (ho : D.out = false) (hp : D.armed = true → 0 < D.left) (hr : D.left ≤ 9223372036854775807) :
    Calls Try.prog 34 #[.pointer (some ⟨p, 0, none⟩)] w fun e w' => e = .returned (.tuple #[]) ∧
      Blk w' p (rcells kv mv D.did.out D.did.armed D.did.left D.did.calls) 48 ∧ Fr (· = p) w w' := by
  obtain ⟨c0, c1, c2, c3, c4, c5, f0, f1, f2, f3, f4, f5⟩ := rcells_all h
  clear c0 c1 f0 f1
  obtain ⟨kept, mem, out, armed, left, calls⟩ := D
  dsimp only at *
  subst ho
  cases armed with
  | false =>
    clear hp
    go_enter Try.func34, Try.ntmps34
    go_wp2
    go_end0
    exact ⟨rfl, h.set 5 _, by (repeat (first | exact Fr.refl _ _ | (refine Fr.setCell ?_ (by exact fun _ => rfl) _)))⟩
  | true =>
    have hl := hp rfl
    clear hp
    have hw : wrap64 (left - 1) = left - 1 := by unfold wrap64; omega
    by_cases hz : left = 1
    · subst hz
      go_enter Try.func34, Try.ntmps34
      go_wp2
      go_end0
      refine ⟨rfl, ?_, by (repeat (first | exact Fr.refl _ _ | (refine Fr.setCell ?_ (by exact fun _ => rfl) _)))⟩
      have e : (DSt.did ⟨kept, mem, false, true, 1, calls⟩) = ⟨kept, mem, true, false, 0, wrap64 (calls + 1)⟩ := by
        have : wrap64 0 = 0 := by unfold wrap64; omega
        simp [DSt.did, this]
      rw [e]
      exact (((h.set 5 _).set 4 _).set 2 _).set 3 _
    · have hz2 : ¬ left - 1 ≤ 0 := by omega
      have hzd : decide (left - 1 ≤ 0) = false := decide_eq_false hz2
      have hzd2 : decide (left ≤ 1) = false := decide_eq_false (by omega)
      go_enter Try.func34, Try.ntmps34
      go_wp2
      go_end0
      refine ⟨rfl, ?_, by (repeat (first | exact Fr.refl _ _ | (refine Fr.setCell ?_ (by exact fun _ => rfl) _)))⟩
      have e : (DSt.did ⟨kept, mem, false, true, left, calls⟩) = ⟨kept, mem, false, true, left - 1, wrap64 (calls + 1)⟩ := by
        have : ¬ wrap64 (left - 1) = 0 := by rw [hw]; omega
        rw [DSt.did, if_pos rfl, if_neg this, hw]
      rw [e]
      exact (((h.set 5 _).set 4 _).set 2 _).set 3 _
theorem DSt.arm_left (D : DSt) (n : Int) : (D.arm n).left = n := rfl
set_option maxHeartbeats 1000000 in
theorem rarm_s {S : Nat → Prop} {w : World} {p : Nat} {D : DSt} (h : RDS S w p D) (n : Int) (hn : -9223372036854775808 ≤ n ∧ n ≤ 9223372036854775807) :
    Calls Try.prog 23 #[.pointer (some ⟨p, 0, none⟩), .int .i64 n] w fun e w' => e = .returned (.tuple #[]) ∧ RDS S w' p (D.arm n) ∧ Fr S w w' := by
  obtain ⟨kv, mv, ks, ms, h⟩ := h
  obtain ⟨c0, c1, c2, c3, c4, c5, f0, f1, f2, f3, f4, f5⟩ := rcells_all h.blk
  have hfin : ∀ (w1 : World), Blk w1 p (rcells kv mv (D.arm n).out (D.arm n).armed n D.calls) 48 → Fr (fun k => k = p) w w1 → RDS S w1 p (D.arm n) ∧ Fr S w w1 := fun w1 hb hf =>
    ⟨⟨kv, mv, ks, ms, { blk := hb, kept := own_fr h.kept hf (fun k hk e => own_blk_ne h.kept h.blk (by decide) (e ▸ hk.symm)), kl := h.kl, kr := fun j hj => own_fr (h.kr j hj) hf (fun k hk e => own_blk_ne (h.kr j hj) h.blk (by decide) (e ▸ hk.symm)), mem := own_fr h.mem hf (fun k hk e => own_blk_ne h.mem h.blk (by decide) (e ▸ hk.symm)), ml := h.ml, mr := fun j hj => ⟨(h.mr j hj).1, own_fr (h.mr j hj).2 hf (fun k hk e => own_blk_ne (h.mr j hj).2 h.blk (by decide) (e ▸ hk.symm))⟩, idx := h.idx, few := h.few, pos := fun e => of_decide_eq_true e, rng := hn, sp := h.sp, sk := h.sk, sm := h.sm, skr := h.skr, smr := h.smr }⟩, hf.mono (fun k _ e => e ▸ h.sp)⟩
  have hb := h.blk
  by_cases h1 : n < 1
  · have e1 : (D.arm n).out = true := by show (D.out || decide (n < 1)) = true; rw [decide_eq_true h1, Bool.or_true]
    have e2 : (D.arm n).armed = false := decide_eq_false (by omega)
    rw [e1, e2] at hfin
    clear e1 e2
    generalize D.out = do_ at *
    generalize D.armed = da at *
    generalize D.left = dl at *
    generalize D.calls = dc at *
    have HF := Lib.hid hfin
    clear hfin h
    go_enter Try.func23, Try.ntmps23
    go_wp2
    go_end0
    have hq := HF.out _ ((((hb.set 3 (.bool true)).set 4 (.int .i64 n)).set 2 (.bool true)).set 3 (.bool false)) (by (repeat (first | exact Fr.refl _ _ | (refine Fr.setCell ?_ (by exact fun _ => rfl) _))))
    exact ⟨rfl, hq.1, hq.2⟩
  · have e1 : (D.arm n).out = D.out := by show (D.out || decide (n < 1)) = D.out; rw [decide_eq_false h1, Bool.or_false]
    have e2 : (D.arm n).armed = true := decide_eq_true (by omega)
    rw [e1, e2] at hfin
    clear e1 e2
    generalize D.out = do_ at *
    generalize D.armed = da at *
    generalize D.left = dl at *
    generalize D.calls = dc at *
    have HF := Lib.hid hfin
    clear hfin h
    go_enter Try.func23, Try.ntmps23
    go_wp2
    go_end0
    have hq := HF.out _ ((hb.set 3 (.bool true)).set 4 (.int .i64 n)) (by (repeat (first | exact Fr.refl _ _ | (refine Fr.setCell ?_ (by exact fun _ => rfl) _))))
    exact ⟨rfl, hq.1, hq.2⟩

set_option maxHeartbeats 1000000 in
theorem rimage_s {S : Nat → Prop} {w : World} {p : Nat} {D : DSt} (h : RDS S w p D) (hlen : ∀ b ∈ D.kept, b.length = 64) :
    Calls Try.prog 26 #[.pointer (some ⟨p, 0, none⟩)] w fun e w' => ∃ v, e = .returned v ∧ w'.ownsRow w.heap.size 5 1 v (D.kept.length * 64) (bts D.image) ∧ Below w.heap.size w w' := by
  obtain ⟨kv, mv, ks, ms, h⟩ := h
  obtain ⟨Ak, ck, rfl⟩ := own_form h.kept
  have hkm : D.kept.length ≤ 4096 := h.few
  generalize hB0 : w.heap.size = B at *
  have HB := Lib.hid hB0
  clear hB0
  obtain ⟨c0, -⟩ := rcells_all h.blk
  go_enter Try.func26, Try.ntmps26
  go_wp2_with fail
  go_loopw [3, 4] (fun o i wr => ∃ t : Nat, i = .int .i64 t ∧ t ≤ D.kept.length ∧ wr.ownsRow B 5 1 o (t * 64) (bts (D.kept.take t).flatten) ∧ Below B w wr) (fun _ i _ => D.kept.length - (intOf i).toNat)
  case atStart => exact ⟨0, rfl, Nat.zero_le _, World.ownsRow_nil _ _ _ _, Below.refl _ _⟩
  case round =>
    clear c0
    obtain ⟨t, rfl, ht, ho, hB⟩ := hrel
    have hs := hB.size
    rw [HB.out] at hs
    have h' := h.below (by rw [HB.out]; exact hB)
    obtain ⟨c0, -⟩ := rcells_all h'.blk
    by_cases hlt : t < D.kept.length
    · have hltN : decide (t < D.kept.length) = true := decide_eq_true hlt
      have hltI : (t : Int) < (D.kept.length : Int) := by omega
      have ht0 : (0 : Int) ≤ (t : Int) := by omega
      obtain ⟨g, c', hvd⟩ := own_some h'.kept (by omega)
      simp only [Value.slice.injEq] at hvd
      obtain ⟨rfl, -, rfl⟩ := hvd
      have hcv := h'.kept.cells (g := g) rfl t _ (List.getElem?_eq_getElem (by rw [h'.kl]; exact hlt))
      rw [Addr.add_mid, Nat.zero_add] at hcv
      have hk := h'.kr t hlt
      rw [List.getD_eq_getElem?_getD, List.getElem?_eq_getElem (by rw [h'.kl]; exact hlt)] at hk
      have hkx : (D.kept.getD t []) = D.kept[t] := by rw [List.getD_eq_getElem?_getD, List.getElem?_eq_getElem hlt]; rfl
      have hft : (D.kept.take (t + 1)).flatten = (D.kept.take t).flatten ++ D.kept[t] := by rw [List.take_succ_eq_append_getElem hlt, List.flatten_append]; simp
      have hl64 := hlen _ (List.getElem_mem hlt)
      rw [hkx] at hk
      have rk := Rd.of_own hk
      generalize ks[t]'(by rw [h'.kl]; exact hlt) = vt at *
      generalize D.kept[t] = bt at *
      have HFT := Lib.hid hft
      have HL := Lib.hid hl64
      obtain ⟨Ao, co, rfl⟩ := own_form ho
      clear hft hl64 hk hkx h'
      replace rk : Rd wr vt bt := rk
      go_wp2_with (refine wpList_appRd (base := B) rfl rfl Try.underlying29 infoByte rfl rfl rfl ho rk (by rw [HL.out]; omega) hs (fun v6 w6 o6 g6 _ => ?_))
      go_roundw
      case rel => exact ⟨t + 1, by go_num, hlt, by rw [HFT.out]; rw [HL.out] at o6; rw [Nat.add_mul, Nat.one_mul]; exact o6, below_own hB ho g6 (Nat.le_refl _) hs⟩
      case measure => simp [intOf]; omega
    · obtain rfl : t = D.kept.length := by omega
      rw [List.take_length] at ho
      go_wp2_with fail
      go_ret
      exact ⟨_, rfl, ho, hB⟩
end Go.Proofs.Ytnnhelknpnkphaa
