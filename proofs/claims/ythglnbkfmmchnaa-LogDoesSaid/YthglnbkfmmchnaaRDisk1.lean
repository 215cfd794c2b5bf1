/- The document's disk: what it is; did, Arm. -/
import Derived.Test.YthglnbkfmmchnaaDisk8
import Derived.Test.YthglnbkfmmchnaaK12
namespace Go.Proofs.Ythglnbkfmmchnaa.Dsk
open Go.RowKit
set_option maxRecDepth 100000

theorem infoRow : (Try.prog.info? 32).map (fun i => (i.zero, i.size, i.bytes)) = some (some (.slice none 0 0), 1, 24) := by kernel_rfl
theorem infoW5 : (Try.prog.info? 90).map (fun i => (i.zero, i.size, i.bytes)) = some (some (.agg #[.int .i64 0, .slice none 0 0]), 2, 32) := by kernel_rfl
theorem own_ne {w : World} {b1 b2 n1 n2 s1 s2 : Nat} {e1 e2 : TypeId} {v1 v2 : Value} {x1 x2 : List Value} (h1 : w.ownsRow b1 e1 s1 v1 n1 x1) (h2 : w.ownsRow b2 e2 s2 v2 n2 x2) (he : e1 ≠ e2) : ∀ k, v1.ownBlock = some k → v2.ownBlock ≠ some k := by
  intro k hk
  rcases h1.2 with ⟨rfl, _⟩ | ⟨g, cap, cur, rfl, hb, hg, _⟩
  · cases hk
  · cases hk
    exact fun e => own_blk_ne h2 (show Blk w g cur e1 from hg) (fun h => he h.symm) e.symm
def rcells (kv mv : Value) (out armed : Bool) (left calls : Int) : Array Value := #[kv, mv, .bool out, .bool armed, .int .i64 left, .int .i64 calls]
theorem rcells_all {w : World} {p : Nat} {kv mv : Value} {out armed : Bool} {left calls : Int} {t : TypeId} (h : Blk w p (rcells kv mv out armed left calls) t) :
    w.cell? ⟨p, 0, none⟩ = some kv ∧ w.cell? ⟨p, 1, none⟩ = some mv ∧ w.cell? ⟨p, 2, none⟩ = some (.bool out) ∧ w.cell? ⟨p, 3, none⟩ = some (.bool armed) ∧
    w.cell? ⟨p, 4, none⟩ = some (.int .i64 left) ∧ w.cell? ⟨p, 5, none⟩ = some (.int .i64 calls) ∧
    w.frozen? ⟨p, 0, none⟩ = false ∧ w.frozen? ⟨p, 1, none⟩ = false ∧ w.frozen? ⟨p, 2, none⟩ = false ∧ w.frozen? ⟨p, 3, none⟩ = false ∧ w.frozen? ⟨p, 4, none⟩ = false ∧ w.frozen? ⟨p, 5, none⟩ = false :=
  ⟨h.cell 0, h.cell 1, h.cell 2, h.cell 3, h.cell 4, h.cell 5, h.frozen 0, h.frozen 1, h.frozen 2, h.frozen 3, h.frozen 4, h.frozen 5⟩
def wvals (l : List (Nat × Value)) : List Value := l.flatMap fun x => [.int .i64 x.1, x.2]
theorem wvals_append (a b : List (Nat × Value)) : wvals (a ++ b) = wvals a ++ wvals b := by simp [wvals]
/-- The document's disk in memory: all its blocks lie in S. -/
structure RD (S : Nat → Prop) (w : World) (p : Nat) (kv mv : Value) (ks : List Value) (ms : List (Nat × Value)) (D : DSt) : Prop where
  blk : Blk w p (rcells kv mv D.out D.armed D.left D.calls) 62
  kept : w.ownsRow 0 32 1 kv D.kept.length ks
  kl : ks.length = D.kept.length
  kr : ∀ j, j < D.kept.length → w.ownsRow 0 5 1 (ks.getD j undef) 64 (bts (D.kept.getD j []))
  mem : w.ownsRow 0 90 2 mv D.mem.length (wvals ms)
  ml : ms.length = D.mem.length
  mr : ∀ j, j < D.mem.length → (ms.getD j (0, undef)).1 = (D.mem.getD j (0, [])).1 ∧ w.ownsRow 0 5 1 (ms.getD j (0, undef)).2 64 (bts (D.mem.getD j (0, [])).2)
  idx : ∀ x ∈ D.mem, x.1 < D.kept.length
  few : D.kept.length ≤ 4096
  pos : D.armed = true → 0 < D.left
  rng : -9223372036854775808 ≤ D.left ∧ D.left ≤ 9223372036854775807
  sp : S p
  sk : ∀ k, kv.ownBlock = some k → S k
  sm : ∀ k, mv.ownBlock = some k → S k
  skr : ∀ j, j < D.kept.length → ∀ k, (ks.getD j undef).ownBlock = some k → S k
  smr : ∀ j, j < D.mem.length → ∀ k, (ms.getD j (0, undef)).2.ownBlock = some k → S k
theorem RD.fr {S T : Nat → Prop} {w w' : World} {p : Nat} {kv mv : Value} {ks : List Value} {ms : List (Nat × Value)} {D : DSt} (h : RD S w p kv mv ks ms D) (f : Fr T w w') (ht : ∀ k, k < w.heap.size → S k → ¬ T k) : RD S w' p kv mv ks ms D where
  blk := h.blk.fr f (ht p h.blk.lt h.sp)
  kept := own_fr h.kept f (fun k hk => ht k (h.kept.lt k hk).2 (h.sk k hk))
  kl := h.kl
  kr := fun j hj => own_fr (h.kr j hj) f (fun k hk => ht k ((h.kr j hj).lt k hk).2 (h.skr j hj k hk))
  mem := own_fr h.mem f (fun k hk => ht k (h.mem.lt k hk).2 (h.sm k hk))
  ml := h.ml
  mr := fun j hj => ⟨(h.mr j hj).1, own_fr (h.mr j hj).2 f (fun k hk => ht k ((h.mr j hj).2.lt k hk).2 (h.smr j hj k hk))⟩
  idx := h.idx
  few := h.few
  pos := h.pos
  rng := h.rng
  sp := h.sp
  sk := h.sk
  sm := h.sm
  skr := h.skr
  smr := h.smr
theorem RD.below {S : Nat → Prop} {w w' : World} {p : Nat} {kv mv : Value} {ks : List Value} {ms : List (Nat × Value)} {D : DSt} (h : RD S w p kv mv ks ms D) (f : Below w.heap.size w w') : RD S w' p kv mv ks ms D := h.fr (T := fun _ => False) (Fr.of_below f _) (fun _ _ _ h => h)
theorem RD.but {S S' : Nat → Prop} {w : World} {p : Nat} {kv mv : Value} {ks : List Value} {ms : List (Nat × Value)} {D : DSt} (h : RD S w p kv mv ks ms D) (hs : ∀ k, k < w.heap.size → S k → S' k) : RD S' w p kv mv ks ms D :=
  { h with
    sp := hs p h.blk.lt h.sp
    sk := fun k hk => hs k (h.kept.lt k hk).2 (h.sk k hk)
    sm := fun k hk => hs k (h.mem.lt k hk).2 (h.sm k hk)
    skr := fun j hj k hk => hs k ((h.kr j hj).lt k hk).2 (h.skr j hj k hk)
    smr := fun j hj k hk => hs k ((h.mr j hj).2.lt k hk).2 (h.smr j hj k hk) }
def RDS (S : Nat → Prop) (w : World) (p : Nat) (D : DSt) : Prop := ∃ kv mv ks ms, RD S w p kv mv ks ms D
theorem RDS.fr {S T : Nat → Prop} {w w' : World} {p : Nat} {D : DSt} (h : RDS S w p D) (f : Fr T w w') (ht : ∀ k, k < w.heap.size → S k → ¬ T k) : RDS S w' p D := by
  obtain ⟨_, _, _, _, h⟩ := h; exact ⟨_, _, _, _, h.fr f ht⟩
theorem RDS.below {S : Nat → Prop} {w w' : World} {p : Nat} {D : DSt} (h : RDS S w p D) (f : Below w.heap.size w w') : RDS S w' p D := h.fr (T := fun _ => False) (Fr.of_below f _) (fun _ _ _ h => h)
theorem RDS.but {S S' : Nat → Prop} {w : World} {p : Nat} {D : DSt} (h : RDS S w p D) (hs : ∀ k, k < w.heap.size → S k → S' k) : RDS S' w p D := by
  obtain ⟨_, _, _, _, h⟩ := h; exact ⟨_, _, _, _, h.but hs⟩

set_option maxHeartbeats 1000000 in
theorem rdid_any {w : World} {p : Nat} {kv mv : Value} {D : DSt} (h : Blk w p (rcells kv mv D.out D.armed D.left D.calls) 62) (ho : D.out = false) (hp : D.armed = true → 0 < D.left) (hr : D.left ≤ 9223372036854775807) :
    Calls Try.prog 80 #[.pointer (some ⟨p, 0, none⟩)] w fun e w' => e = .returned (.tuple #[]) ∧
      Blk w' p (rcells kv mv D.did.out D.did.armed D.did.left D.did.calls) 62 ∧ Fr (· = p) w w' := by
  obtain ⟨c0, c1, c2, c3, c4, c5, f0, f1, f2, f3, f4, f5⟩ := rcells_all h
  clear c0 c1 f0 f1
  obtain ⟨kept, mem, out, armed, left, calls⟩ := D
  dsimp only at *
  subst ho
  cases armed with
  | false =>
    clear hp
    go_enter Try.func80, Try.ntmps80
    go_wp2
    go_end0
    exact ⟨rfl, h.set 5 _, by (repeat (first | exact Fr.refl _ _ | (refine Fr.setCell ?_ (by exact fun _ => rfl) _)))⟩
  | true =>
    have hl := hp rfl
    clear hp
    have hw : wrap64 (left - 1) = left - 1 := by unfold wrap64; omega
    by_cases hz : left = 1
    · subst hz
      go_enter Try.func80, Try.ntmps80
      go_wp2
      go_end0
      refine ⟨rfl, ?_, by (repeat (first | exact Fr.refl _ _ | (refine Fr.setCell ?_ (by exact fun _ => rfl) _)))⟩
      have e : (DSt.did ⟨kept, mem, false, true, 1, calls⟩) = ⟨kept, mem, true, false, 0, wrap64 (calls + 1)⟩ := by
        have : wrap64 0 = 0 := by unfold wrap64; omega
        simp [DSt.did, this]
      rw [e]
      exact (((h.set 5 _).set 4 _).set 2 _).set 3 _
    · have hz2 : ¬ left - 1 ≤ 0 := by omega
      have hzd : decide (left - 1 ≤ 0) = false := decide_eq_false hz2
      have hzd2 : decide (left ≤ 1) = false := decide_eq_false (by omega)
      go_enter Try.func80, Try.ntmps80
      go_wp2
      go_end0
      refine ⟨rfl, ?_, by (repeat (first | exact Fr.refl _ _ | (refine Fr.setCell ?_ (by exact fun _ => rfl) _)))⟩
      have e : (DSt.did ⟨kept, mem, false, true, left, calls⟩) = ⟨kept, mem, false, true, left - 1, wrap64 (calls + 1)⟩ := by
        have : ¬ wrap64 (left - 1) = 0 := by rw [hw]; omega
        rw [DSt.did, if_pos rfl, if_neg this, hw]
      rw [e]
      exact (((h.set 5 _).set 4 _).set 2 _).set 3 _
theorem DSt.arm_left (D : DSt) (n : Int) : (D.arm n).left = n := rfl
set_option maxHeartbeats 1000000 in
theorem rarm_s {S : Nat → Prop} {w : World} {p : Nat} {D : DSt} (h : RDS S w p D) (n : Int) (hn : -9223372036854775808 ≤ n ∧ n ≤ 9223372036854775807) :
    Calls Try.prog 29 #[.pointer (some ⟨p, 0, none⟩), .int .i64 n] w fun e w' => e = .returned (.tuple #[]) ∧ RDS S w' p (D.arm n) ∧ Fr S w w' := by
  obtain ⟨kv, mv, ks, ms, h⟩ := h
  obtain ⟨c0, c1, c2, c3, c4, c5, f0, f1, f2, f3, f4, f5⟩ := rcells_all h.blk
  have hfin : ∀ (w1 : World), Blk w1 p (rcells kv mv (D.arm n).out (D.arm n).armed n D.calls) 62 → Fr (fun k => k = p) w w1 → RDS S w1 p (D.arm n) ∧ Fr S w w1 := fun w1 hb hf =>
    ⟨⟨kv, mv, ks, ms, { blk := hb, kept := own_fr h.kept hf (fun k hk e => own_blk_ne h.kept h.blk (by decide) (e ▸ hk.symm)), kl := h.kl, kr := fun j hj => own_fr (h.kr j hj) hf (fun k hk e => own_blk_ne (h.kr j hj) h.blk (by decide) (e ▸ hk.symm)), mem := own_fr h.mem hf (fun k hk e => own_blk_ne h.mem h.blk (by decide) (e ▸ hk.symm)), ml := h.ml, mr := fun j hj => ⟨(h.mr j hj).1, own_fr (h.mr j hj).2 hf (fun k hk e => own_blk_ne (h.mr j hj).2 h.blk (by decide) (e ▸ hk.symm))⟩, idx := h.idx, few := h.few, pos := fun e => of_decide_eq_true e, rng := hn, sp := h.sp, sk := h.sk, sm := h.sm, skr := h.skr, smr := h.smr }⟩, hf.mono (fun k _ e => e ▸ h.sp)⟩
  have hb := h.blk
  by_cases h1 : n < 1
  · have e1 : (D.arm n).out = true := by show (D.out || decide (n < 1)) = true; rw [decide_eq_true h1, Bool.or_true]
    have e2 : (D.arm n).armed = false := decide_eq_false (by omega)
    rw [e1, e2] at hfin
    clear e1 e2
    generalize D.out = do_ at *
    generalize D.armed = da at *
    generalize D.left = dl at *
    generalize D.calls = dc at *
    have HF := Lib.hid hfin
    clear hfin h
    go_enter Try.func29, Try.ntmps29
    go_wp2
    go_end0
    have hq := HF.out _ ((((hb.set 3 (.bool true)).set 4 (.int .i64 n)).set 2 (.bool true)).set 3 (.bool false)) (by (repeat (first | exact Fr.refl _ _ | (refine Fr.setCell ?_ (by exact fun _ => rfl) _))))
    exact ⟨rfl, hq.1, hq.2⟩
  · have e1 : (D.arm n).out = D.out := by show (D.out || decide (n < 1)) = D.out; rw [decide_eq_false h1, Bool.or_false]
    have e2 : (D.arm n).armed = true := decide_eq_true (by omega)
    rw [e1, e2] at hfin
    clear e1 e2
    generalize D.out = do_ at *
    generalize D.armed = da at *
    generalize D.left = dl at *
    generalize D.calls = dc at *
    have HF := Lib.hid hfin
    clear hfin h
    go_enter Try.func29, Try.ntmps29
    go_wp2
    go_end0
    have hq := HF.out _ ((hb.set 3 (.bool true)).set 4 (.int .i64 n)) (by (repeat (first | exact Fr.refl _ _ | (refine Fr.setCell ?_ (by exact fun _ => rfl) _))))
    exact ⟨rfl, hq.1, hq.2⟩

set_option maxHeartbeats 1000000 in
theorem rimage_s {S : Nat → Prop} {w : World} {p : Nat} {D : DSt} (h : RDS S w p D) (hlen : ∀ b ∈ D.kept, b.length = 64) :
    Calls Try.prog 33 #[.pointer (some ⟨p, 0, none⟩)] w fun e w' => ∃ v, e = .returned v ∧ w'.ownsRow w.heap.size 5 1 v (D.kept.length * 64) (bts D.image) ∧ Below w.heap.size w w' := by
  obtain ⟨kv, mv, ks, ms, h⟩ := h
  obtain ⟨Ak, ck, rfl⟩ := own_form h.kept
  have hkm : D.kept.length ≤ 4096 := h.few
  generalize hB0 : w.heap.size = B at *
  have HB := Lib.hid hB0
  clear hB0
  obtain ⟨c0, -⟩ := rcells_all h.blk
  go_enter Try.func33, Try.ntmps33
  go_wp2_with fail
  go_loopw [3, 4] (fun o i wr => ∃ t : Nat, i = .int .i64 t ∧ t ≤ D.kept.length ∧ wr.ownsRow B 5 1 o (t * 64) (bts (D.kept.take t).flatten) ∧ Below B w wr) (fun _ i _ => D.kept.length - (intOf i).toNat)
  case atStart => exact ⟨0, rfl, Nat.zero_le _, World.ownsRow_nil _ _ _ _, Below.refl _ _⟩
  case round =>
    clear c0
    obtain ⟨t, rfl, ht, ho, hB⟩ := hrel
    have hs := hB.size
    rw [HB.out] at hs
    have h' := h.below (by rw [HB.out]; exact hB)
    obtain ⟨c0, -⟩ := rcells_all h'.blk
    by_cases hlt : t < D.kept.length
    · have hltN : decide (t < D.kept.length) = true := decide_eq_true hlt
      have hltI : (t : Int) < (D.kept.length : Int) := by omega
      have ht0 : (0 : Int) ≤ (t : Int) := by omega
      obtain ⟨g, c', hvd⟩ := own_some h'.kept (by omega)
      simp only [Value.slice.injEq] at hvd
      obtain ⟨rfl, -, rfl⟩ := hvd
      have hcv := h'.kept.cells (g := g) rfl t _ (List.getElem?_eq_getElem (by rw [h'.kl]; exact hlt))
      rw [Addr.add_mid, Nat.zero_add] at hcv
      have hk := h'.kr t hlt
      rw [List.getD_eq_getElem?_getD, List.getElem?_eq_getElem (by rw [h'.kl]; exact hlt)] at hk
      have hkx : (D.kept.getD t []) = D.kept[t] := by rw [List.getD_eq_getElem?_getD, List.getElem?_eq_getElem hlt]; rfl
      have hft : (D.kept.take (t + 1)).flatten = (D.kept.take t).flatten ++ D.kept[t] := by rw [List.take_succ_eq_append_getElem hlt, List.flatten_append]; simp
      have hl64 := hlen _ (List.getElem_mem hlt)
      rw [hkx] at hk
      have rk := Rd.of_own hk
      generalize ks[t]'(by rw [h'.kl]; exact hlt) = vt at *
      generalize D.kept[t] = bt at *
      have HFT := Lib.hid hft
      have HL := Lib.hid hl64
      obtain ⟨Ao, co, rfl⟩ := own_form ho
      clear hft hl64 hk hkx h'
      replace rk : Rd wr vt bt := rk
      go_wp2_with (refine wpList_appRd (base := B) rfl rfl Try.underlying32 infoByte rfl rfl rfl ho rk (by rw [HL.out]; omega) hs (fun v6 w6 o6 g6 _ => ?_))
      go_roundw
      case rel => exact ⟨t + 1, by go_num, hlt, by rw [HFT.out]; rw [HL.out] at o6; rw [Nat.add_mul, Nat.one_mul]; exact o6, below_own hB ho g6 (Nat.le_refl _) hs⟩
      case measure => simp [intOf]; omega
    · obtain rfl : t = D.kept.length := by omega
      rw [List.take_length] at ho
      go_wp2_with fail
      go_ret
      exact ⟨_, rfl, ho, hB⟩
end Go.Proofs.Ythglnbkfmmchnaa.Dsk
namespace Go.Proofs.Ythglnbkfmmchnaa.Dsk
open Go.RowKit
set_option maxRecDepth 100000

theorem wvals_length (l : List (Nat × Value)) : (wvals l).length = l.length * 2 := flatMap_length _ 2 l (fun _ _ => rfl)
theorem wvals_get (l : List (Nat × Value)) (k : Nat) (hk : k < l.length) : (wvals l)[k * 2]? = some (.int .i64 ((l.getD k (0, undef)).1 : Int)) ∧ (wvals l)[k * 2 + 1]? = some (l.getD k (0, undef)).2 := by
  have h := flatMap_get (fun x : Nat × Value => [Value.int .i64 (x.1 : Int), x.2]) 2 l (fun _ _ => rfl) k hk
  have e : l.getD k (0, undef) = l[k] := by rw [List.getD_eq_getElem?_getD, List.getElem?_eq_getElem hk]; rfl
  refine ⟨?_, ?_⟩
  · have := h 0 (by omega); rw [e]; simpa [wvals] using this
  · have := h 1 (by omega); rw [e]; simpa [wvals] using this

set_option maxHeartbeats 2000000 in
set_option maxRecDepth 100000 in
theorem rread_s {S : Nat → Prop} {w : World} {p : Nat} {D : DSt} (h : RDS S w p D) (hm : D.mem.length < 2 ^ 30) (i : Int) :
    Calls Try.prog 44 #[.pointer (some ⟨p, 0, none⟩), .int .i64 i] w fun e w' => ∃ v, e = .returned (.tuple #[v, .int .i64 (D.read i).2]) ∧ Rd w' v (D.read i).1 ∧ Below w.heap.size w w' := by
  obtain ⟨kv, mv, ks, ms, h⟩ := h
  obtain ⟨Ak, ck, rfl⟩ := own_form h.kept
  obtain ⟨Am, cm, rfl⟩ := own_form h.mem
  have hkm : D.kept.length ≤ 4096 := h.few
  obtain ⟨c0, c1, c2, -⟩ := rcells_all h.blk
  by_cases hi : 0 ≤ i ∧ i < D.kept.length
  rotate_left
  · have hr : D.read i = ([], 1) := by rw [DSt.read, if_neg hi]
    rw [hr]
    clear hr c2 c1
    by_cases h0 : i < 0
    · go_enter Try.func44, Try.ntmps44
      go_wp2_with fail
      go_ret2
      exact ⟨_, rfl, Rd.nil _, Below.refl _ _⟩
    · have h0d : decide (i < 0) = false := decide_eq_false h0
      have h1 : (D.kept.length : Int) ≤ i := by omega
      go_enter Try.func44, Try.ntmps44
      go_wp2_with fail
      go_ret2
      exact ⟨_, rfl, Rd.nil _, Below.refl _ _⟩
  have h0d : decide (i < 0) = false := decide_eq_false (by omega)
  have h1d : decide ((D.kept.length : Int) ≤ i) = false := decide_eq_false (by omega)
  cases ho : D.out with
  | true =>
    have hr : D.read i = ([], 5) := by rw [DSt.read, if_pos hi, if_pos ho]
    rw [hr]
    rw [ho] at c2
    clear hr c1 ho
    go_enter Try.func44, Try.ntmps44
    go_wp2_with fail
    go_ret2
    exact ⟨_, rfl, Rd.nil _, Below.refl _ _⟩
  | false =>
    have hr : D.read i = (D.at i.toNat, 0) := by rw [DSt.read, if_pos hi, if_neg (by rw [ho]; exact Bool.false_ne_true)]
    rw [hr]
    rw [ho] at c2
    obtain ⟨j, rfl⟩ := Int.eq_ofNat_of_zero_le hi.1
    rw [Int.toNat_natCast]
    have hj : j < D.kept.length := by omega
    have HR : Hid (D.at j = readN D.kept D.mem j D.mem.length) := Lib.hid rfl
    generalize D.at j = V at *
    have hj0 : (0 : Int) ≤ (j : Int) := by omega
    have hjN : j < D.kept.length := hj
    have hjd : decide (D.kept.length ≤ j) = false := decide_eq_false (by omega)
    have HH := Lib.hid h
    clear hr ho hi h h0d h1d
    go_enter Try.func44, Try.ntmps44
    go_wp2_with fail
    go_loopw [6] (fun kv wr => ∃ k : Nat, kv = .int .i64 ((k : Int) - 1) ∧ k ≤ D.mem.length ∧ V = readN D.kept D.mem j k ∧ wr = w) (fun kv _ => (intOf kv + 1).toNat)
    case atStart => exact ⟨D.mem.length, rfl, Nat.le_refl _, HR.out, rfl⟩
    case round =>
      obtain ⟨k, rfl, hk, hV, rfl⟩ := hrel
      cases k with
      | zero =>
        have hV0 : V = D.kept.getD j [] := hV
        obtain ⟨g, c', hvd⟩ := own_some HH.out.kept (by omega)
        simp only [Value.slice.injEq] at hvd
        obtain ⟨rfl, -, rfl⟩ := hvd
        have hcv := HH.out.kept.cells (g := g) rfl j _ (List.getElem?_eq_getElem (by rw [HH.out.kl]; exact hj))
        rw [Addr.add_mid, Nat.zero_add] at hcv
        have hkr := HH.out.kr j hj
        rw [List.getD_eq_getElem?_getD, List.getElem?_eq_getElem (by rw [HH.out.kl]; exact hj), ← hV0] at hkr
        have rk := Rd.of_own hkr
        have hkl := HH.out.kl
        generalize ks[j]'(by rw [hkl]; exact hj) = vt at *
        replace rk : Rd wr vt V := rk
        have hVl : V.length ≤ 64 := by have := hkr.1; rw [bts_length] at this; omega
        clear hV hV0 hkr hkl
        go_wp2_with (refine wpList_appRd (base := wr.heap.size) (l := []) (n := 0) rfl rfl Try.underlying32 infoByte rfl rfl rfl (World.ownsRow_nil _ _ _ _) rk (by omega) (Nat.le_refl _) (fun v6 w6 o6 g6 _ => ?_))
        go_ret2
        rw [List.nil_append, Nat.zero_add] at o6
        exact ⟨_, rfl, Rd.of_own o6, g6.below (B := wr.heap.size) (Nat.le_refl _) (fun k _ e => by cases e)⟩
      | succ k =>
        have hkl : k < D.mem.length := by omega
        have hstep : readN D.kept D.mem j (k + 1) = if (D.mem.getD k (0, [])).1 = j then (D.mem.getD k (0, [])).2 else readN D.kept D.mem j k := by
          rw [readN, List.getD_eq_getElem?_getD, List.getElem?_eq_getElem hkl]; rfl
        rw [hstep] at hV
        obtain ⟨g, c', hvd⟩ := own_some HH.out.mem (by omega)
        simp only [Value.slice.injEq] at hvd
        obtain ⟨rfl, -, rfl⟩ := hvd
        obtain ⟨hg1, hg2⟩ := wvals_get ms k (by rw [HH.out.ml]; exact hkl)
        have hq1 := HH.out.mem.cells (g := g) rfl _ _ hg1
        have hq2 := HH.out.mem.cells (g := g) rfl _ _ hg2
        rw [Addr.add_mid, Nat.zero_add] at hq1 hq2
        obtain ⟨hm1, hm2⟩ := HH.out.mr k hkl
        rw [hm1] at hq1
        generalize (ms.getD k (0, undef)).2 = vt at *
        generalize D.mem.getD k (0, []) = xb at *
        obtain ⟨x, bs⟩ := xb
        simp only at hq1 hm1 hV hm2
        have rk := Rd.of_own hm2
        have hbl : bs.length ≤ 64 := by have := hm2.1; rw [bts_length] at this; omega
        have hkI : (k : Int) < (D.mem.length : Int) := by omega
        have hk0 : (0 : Int) ≤ (k : Int) := by omega
        by_cases hx : x = j
        · subst hx
          rw [if_pos rfl] at hV
          subst hV
          clear hm1 hm2 hg1 hg2 hstep
          go_wp2_with (refine wpList_appRd (base := wr.heap.size) (l := []) (n := 0) rfl rfl Try.underlying32 infoByte rfl rfl rfl (World.ownsRow_nil _ _ _ _) rk (by omega) (Nat.le_refl _) (fun v6 w6 o6 g6 _ => ?_))
          go_ret2
          rw [List.nil_append, Nat.zero_add] at o6
          exact ⟨_, rfl, Rd.of_own o6, g6.below (B := wr.heap.size) (Nat.le_refl _) (fun k _ e => by cases e)⟩
        · have hxb : ((x : Int) == (j : Int)) = false := beq_eq_false_iff_ne.2 (by omega)
          have hxn : (x == j) = false := beq_eq_false_iff_ne.2 hx
          rw [if_neg hx] at hV
          have HV := Lib.hid hV
          clear hm1 hm2 hg1 hg2 hstep hV
          go_wp2_with fail
          go_roundw
          case rel => exact ⟨k, by go_num, by omega, HV.out, trivial⟩
          case measure => simp [intOf]
end Go.Proofs.Ythglnbkfmmchnaa.Dsk
namespace Go.Proofs.Ythglnbkfmmchnaa.Dsk
open Go.RowKit
set_option maxRecDepth 100000

theorem getD_left {α : Type} {l : List α} {x d : α} {j : Nat} (h : j < l.length) : (l ++ [x]).getD j d = l.getD j d := by simp [List.getD, List.getElem?_append_left h]
theorem getD_last {α : Type} {l : List α} {x d : α} {j : Nat} (h : j = l.length) : (l ++ [x]).getD j d = x := by subst h; simp [List.getD]
/-- The record and the list of what was written have changed. -/
theorem RD.remem {S : Nat → Prop} {w w' : World} {p : Nat} {kv mv mv' : Value} {ks : List Value} {ms ms' : List (Nat × Value)} {D D' : DSt} (h : RD S w p kv mv ks ms D) (f : Fr (fun k => k = p ∨ some k = mv.ownBlock) w w')
    (hb : Blk w' p (rcells kv mv' D'.out D'.armed D'.left D'.calls) 62) (hk : D'.kept = D.kept) (hm : w'.ownsRow 0 90 2 mv' D'.mem.length (wvals ms')) (hl : ms'.length = D'.mem.length)
    (hr : ∀ j, j < D'.mem.length → (ms'.getD j (0, undef)).1 = (D'.mem.getD j (0, [])).1 ∧ w'.ownsRow 0 5 1 (ms'.getD j (0, undef)).2 64 (bts (D'.mem.getD j (0, [])).2))
    (hi : ∀ x ∈ D'.mem, x.1 < D.kept.length) (hp : D'.armed = true → 0 < D'.left) (hg : -9223372036854775808 ≤ D'.left ∧ D'.left ≤ 9223372036854775807)
    (sm : ∀ k, mv'.ownBlock = some k → S k) (smr : ∀ j, j < D'.mem.length → ∀ k, (ms'.getD j (0, undef)).2.ownBlock = some k → S k) : RD S w' p kv mv' ks ms' D' where
  blk := hb
  kept := by rw [hk]; exact own_fr h.kept f (fun k hk e => e.elim (fun e => own_blk_ne h.kept h.blk (by decide) (e ▸ hk.symm)) (fun e => own_ne h.kept h.mem (by decide) k hk e.symm))
  kl := by rw [hk]; exact h.kl
  kr := by rw [hk]; exact fun j hj => own_fr (h.kr j hj) f (fun k hk e => e.elim (fun e => own_blk_ne (h.kr j hj) h.blk (by decide) (e ▸ hk.symm)) (fun e => own_ne (h.kr j hj) h.mem (by decide) k hk e.symm))
  mem := hm
  ml := hl
  mr := hr
  idx := by rw [hk]; exact hi
  few := by rw [hk]; exact h.few
  pos := hp
  rng := hg
  sp := h.sp
  sk := h.sk
  sm := sm
  skr := by rw [hk]; exact h.skr
  smr := smr
theorem RD.mr' {S : Nat → Prop} {w w' : World} {p : Nat} {kv mv : Value} {ks : List Value} {ms : List (Nat × Value)} {D : DSt} (h : RD S w p kv mv ks ms D) (f : Fr (fun k => k = p ∨ some k = mv.ownBlock) w w') (j : Nat) (hj : j < D.mem.length) :
    w'.ownsRow 0 5 1 (ms.getD j (0, undef)).2 64 (bts (D.mem.getD j (0, [])).2) :=
  own_fr (h.mr j hj).2 f (fun k hk e => e.elim (fun e => own_blk_ne (h.mr j hj).2 h.blk (by decide) (e ▸ hk.symm)) (fun e => own_ne (h.mr j hj).2 h.mem (by decide) k hk e.symm))

theorem DSt.did_pos {D : DSt} (hp : D.armed = true → 0 < D.left) (hr : -9223372036854775808 ≤ D.left ∧ D.left ≤ 9223372036854775807) : (D.did.armed = true → 0 < D.did.left) ∧ (-9223372036854775808 ≤ D.did.left ∧ D.did.left ≤ 9223372036854775807) := by
  unfold DSt.did
  split
  · rename_i ha
    have hl := hp ha
    have hw : wrap64 (D.left - 1) = D.left - 1 := by unfold wrap64; omega
    rw [hw]
    split
    · exact ⟨fun h => (by cases h), by show _ ≤ D.left - 1; omega, by show D.left - 1 ≤ _; omega⟩
    · exact ⟨fun _ => by show 0 < D.left - 1; omega, by show _ ≤ D.left - 1; omega, by show D.left - 1 ≤ _; omega⟩
  · exact ⟨hp, hr⟩
theorem build_w5 (i : Int) (A : Option Addr) (n c : Nat) (w : World) : (Instr.build 90 #[(0, .int .i64 i), (1, .slice A n c)]).run Try.prog w = .ok (.agg #[.int .i64 i, .slice A n c]) w := by kernel_rfl
theorem build_ws (i : Int) (A : Option Addr) (n c : Nat) (w : World) : (Instr.buildSlice 60 1 #[(0, .agg #[.int .i64 i, .slice A n c])]).run Try.prog w = .ok (.slice (some ⟨w.heap.size, 0, none⟩) 1 1) (w.alloc (.cells #[.int .i64 i, .slice A n c] 90)) := by kernel_rfl

set_option maxHeartbeats 2000000 in
set_option maxRecDepth 100000 in
theorem rwrite_s {S : Nat → Prop} {w : World} {p : Nat} {D : DSt} (h : RDS S w p D) (hS : ∀ k, w.heap.size ≤ k → S k) (hm : D.mem.length < 2 ^ 30) (i : Int) (v : Value) (bs : List UInt8) (hv : Rd w v bs) :
    Calls Try.prog 72 #[.pointer (some ⟨p, 0, none⟩), .int .i64 i, v] w fun e w' => e = .returned (.int .i64 (D.write i bs).1) ∧ RDS S w' p (D.write i bs).2 ∧ Fr S w w' := by
  obtain ⟨kv, mv, ks, ms, h⟩ := h
  have hR : RDS S w p D := ⟨_, _, _, _, h⟩
  obtain ⟨Ak, ck, rfl⟩ := own_form h.kept
  obtain ⟨Am, cm, rfl⟩ := own_form h.mem
  obtain ⟨Av, cv, rfl⟩ := hv.slice
  have hvm := hv.max
  have hkm : D.kept.length ≤ 4096 := h.few
  obtain ⟨c0, c1, c2, -⟩ := rcells_all h.blk
  by_cases hi : 0 ≤ i ∧ i < D.kept.length ∧ bs.length = 64
  rotate_left
  · have hr : D.write i bs = (1, D) := by rw [DSt.write, if_neg hi]
    rw [hr]
    have HR := Lib.hid hR
    clear hr c2 c1 h hR
    by_cases h0 : i < 0
    · go_enter Try.func72, Try.ntmps72
      go_wp2_with fail
      go_ret
      exact ⟨rfl, HR.out, Fr.refl _ _⟩
    have h0d : decide (i < 0) = false := decide_eq_false h0
    by_cases h1 : (D.kept.length : Int) ≤ i
    · go_enter Try.func72, Try.ntmps72
      go_wp2_with fail
      go_ret
      exact ⟨rfl, HR.out, Fr.refl _ _⟩
    have h1d : decide ((D.kept.length : Int) ≤ i) = false := decide_eq_false h1
    have h2 : bs.length ≠ 64 := fun e => hi ⟨by omega, by omega, e⟩
    have h2d : ((bs.length : Int) != 64) = true := by rw [bne_iff_ne]; omega
    have h2e : ((bs.length : Int) == 64) = false := beq_eq_false_iff_ne.2 (by omega)
    clear h2 hi
    go_enter Try.func72, Try.ntmps72
    go_wp2_with fail
    go_ret
    exact ⟨rfl, HR.out, Fr.refl _ _⟩
  have h0d : decide (i < 0) = false := decide_eq_false (by omega)
  have h1d : decide ((D.kept.length : Int) ≤ i) = false := decide_eq_false (by omega)
  have hb64 := hi.2.2
  cases ho : D.out with
  | true =>
    have hr : D.write i bs = (5, D) := by rw [DSt.write, if_pos hi, if_pos ho]
    rw [hr]
    rw [ho] at c2
    have HR := Lib.hid hR
    rw [hb64]
    clear hr c1 ho h hR hb64 hi
    go_enter Try.func72, Try.ntmps72
    go_wp2_with fail
    go_ret
    exact ⟨rfl, HR.out, Fr.refl _ _⟩
  | false =>
    have hr : D.write i bs = (0, D.wrote i.toNat bs) := by rw [DSt.write, if_pos hi, if_neg (by rw [ho]; exact Bool.false_ne_true)]
    rw [hr]
    rw [ho] at c2
    obtain ⟨j, rfl⟩ := Int.eq_ofNat_of_zero_le hi.1
    rw [Int.toNat_natCast]
    have hj : j < D.kept.length := by omega
    have HH := Lib.hid h
    have HO := Lib.hid ho
    have HS := Lib.hid hS
    have H64 := Lib.hid hb64
    rw [hb64] at hv ⊢
    have hjd : decide (D.kept.length ≤ j) = false := decide_eq_false (by omega)
    have hj0 : (0 : Int) ≤ (j : Int) := by omega
    clear hr ho hi h hS h0d h1d hb64 hR hvm
    go_enter Try.func72, Try.ntmps72
    go_wp2_with fail
    refine wp_region_float (Fr (fun _ => False)) [(0, 0), (1, 0), (2, 0), (3, 0), (4, 1), (5, 0), (6, 0), (7, 2), (8, 0), (9, 2), (10, 3), (11, 0), (12, 0), (13, 3)] _ (by kernel_rfl) (by kernel_rfl) (by simp only [List.map_cons, List.map_nil, Array.getD_eq_getD_getElem?, List.getElem?_toArray, List.getElem?_cons_succ, List.getElem?_cons_zero, Option.getD_some]; rfl) rfl (by kernel_rfl) (fun _ _ d _ _ h => by cases d <;> exact h) (Fr.refl _) (fun _ _ _ => Fr.trans) ?_
    have hd1 : Below w.heap.size w w.drew := (Below.refl _ _).drew
    have hh := HH.out.below hd1
    replace hv := hv.drew
    replace c1 : w.drew.cell? ⟨p, 1, none⟩ = some (.slice Am D.mem.length cm) := c1
    have HS1 : Hid (∀ k, w.drew.heap.size ≤ k → S k) := Lib.hid HS.out
    have hfr0 : Fr S w w.drew := (Fr.refl S w).drew
    have HH1 := Lib.hid hh
    clear hh hd1 HH HS c0 c2
    generalize w.drew = w1 at *
    repeat (first | (refine wpF_f0 (fun K hK => ?_); go_simp; refine hK _ ?_; clear hK K) | (refine wpF_load1 rfl rfl rfl (by kernel_rfl) (by assumption) (by simp) (fun K hK => ?_); go_simp; refine hK _ ?_; clear hK K) | (refine wpF_loadN rfl rfl rfl (by assumption) (by assumption) (by kernel_rfl) (by kernel_rfl) (by simp) (fun K hK => ?_); go_simp; refine hK _ ?_; clear hK K))
    refine wpF_a2 (fun K hK => ?_); rw [if_pos (by rfl)]
    refine wp_appRd (base := w1.heap.size) (l := []) (n := 0) rfl Try.underlying32 infoByte rfl rfl rfl (World.ownsRow_nil _ _ _ _) hv (by rw [H64.out]; omega) (Nat.le_refl _) (fun v6 w6 o6 g6 _ => ?_)
    rw [List.nil_append, H64.out, Nat.zero_add] at o6
    have hb6 : Below w1.heap.size w1 w6 := g6.below (B := w1.heap.size) (Nat.le_refl _) (fun k _ e => by cases e)
    go_simp
    refine hK _ _ (Fr.of_below hb6 _) ?_
    clear hK K g6
    obtain ⟨A6, c6, rfl⟩ := own_form o6
    have hsz6 := hb6.size
    repeat (first | (refine wpF_f0 (fun K hK => ?_); go_simp; refine hK _ ?_; clear hK K) | (refine wpF_load1 rfl rfl rfl (by kernel_rfl) (by assumption) (by simp) (fun K hK => ?_); go_simp; refine hK _ ?_; clear hK K) | (refine wpF_loadN rfl rfl rfl (by assumption) (by assumption) (by kernel_rfl) (by kernel_rfl) (by simp) (fun K hK => ?_); go_simp; refine hK _ ?_; clear hK K))
    refine wpF_a2 (fun K hK => ?_); rw [if_pos (by rfl)]
    refine wp_value (exec_buildSlice (build_ws (j : Int) A6 64 c6 w6) rfl (by first | (simp [Act.eval]; done) | simp [Act.eval, Act.put])) ?_
    have hb7 : Below w6.heap.size w6 (w6.alloc (.cells #[.int .i64 (j : Int), .slice A6 64 c6] 90)) := (Below.refl _ _).alloc (Nat.le_refl _) _
    have b7 := Blk.new w6 #[.int .i64 (j : Int), .slice A6 64 c6] 90
    have H7 := Lib.hid ((HH1.out.below hb6).below hb7)
    have O7 := Lib.hid (own_fr o6 (Fr.of_below hb7 (fun _ => False)) (fun _ _ h => h))
    refine hK _ _ (Fr.of_below hb7 _) ?_
    clear hK K HH1 o6
    have hF7 : Below w1.heap.size w1 (w6.alloc (.cells #[.int .i64 (j : Int), .slice A6 64 c6] 90)) := hb6.trans (hb7.mono hsz6)
    have hcell : ∀ q u, [Value.int .i64 (j : Int), .slice A6 64 c6][q]? = some u → (w6.alloc (.cells #[.int .i64 (j : Int), .slice A6 64 c6] 90)).cell? ((⟨w6.heap.size, 0, none⟩ : Addr).add q) = some u := fun q u hu => by
      rw [Addr.add_mid, Nat.zero_add, b7.cell q]; simpa using hu
    clear b7 hb7 hb6
    generalize w6.heap.size = g7 at *
    generalize w6.alloc (.cells #[.int .i64 (j : Int), .slice A6 64 c6] 90) = w7 at *
    have hF7s := hF7.size
    refine wpF_a3 (fun K hK => ?_); rw [if_pos (by rfl)]
    refine wp_append_k rfl 0 Try.underlying60 infoW5 (by simp [Value.cells]) (by decide) (v := .slice Am D.mem.length cm) rfl H7.out.mem (news := [.int .i64 (j : Int), .slice A6 64 c6]) rfl (by simp) (.inr ⟨_, rfl, hcell⟩) (by intro v hv; simp at hv; rcases hv with rfl | rfl <;> rfl) (by unfold maxLen; omega) (by omega) (by omega) ?_
    intro mv' w8 o8 g8 n8
    obtain ⟨A8, c8, rfl⟩ := own_form o8
    have b8 := H7.out.blk.grown g8 (own_blk_ne H7.out.mem H7.out.blk (by decide))
    have f8 := (Fr.refl (fun k => k = p ∨ some k = Value.ownBlock (.slice Am D.mem.length cm)) w7).grown g8 (fun k _ hk => .inr hk)
    go_simp
    refine hK _ _ ?_
    clear hK K hcell g8
    repeat (first | (refine wpF_f0 (fun K hK => ?_); go_simp; refine hK _ ?_; clear hK K) | (refine wpF_load1 rfl rfl rfl (by kernel_rfl) (by assumption) (by simp) (fun K hK => ?_); go_simp; refine hK _ ?_; clear hK K) | (refine wpF_loadN rfl rfl rfl (by assumption) (by assumption) (by kernel_rfl) (by kernel_rfl) (by simp) (fun K hK => ?_); go_simp; refine hK _ ?_; clear hK K))
    obtain ⟨-, -, -, -, -, -, f0, f1, -⟩ := rcells_all b8
    have d1 := b8.cell 1
    refine wpF_a3 (fun K hK => ?_); rw [if_pos (by rfl)]
    go_simp
    refine hK _ _ ?_
    clear hK K f0 f1 d1
    have o9 := own_set o8 b8 (by decide) 1 (.slice A8 (D.mem.length + 1) c8)
    have b9 := b8.set 1 (.slice A8 (D.mem.length + 1) c8)
    have f9 := f8.setCell (p := ⟨p, 1, none⟩) (by exact fun _ => .inl rfl) (.slice A8 (D.mem.length + 1) c8)
    clear o8 b8 f8
    generalize w8.setCell ⟨p, 1, none⟩ (.slice A8 (D.mem.length + 1) c8) = w9 at *
    refine wpF_nil ?_
    have hpos := H7.out.pos
    have hrng := H7.out.rng
    have ho := HO.out
    go_wp2_with (go_at_call 80; refine (rdid_any (D := ⟨D.kept, D.mem ++ [(j, bs)], D.out, D.armed, D.left, D.calls⟩) b9 ho hpos hrng.2).mono ?_; rintro e w10 ⟨rfl, b10, f10⟩)
    go_ret
    have f10' := f9.step f10 (fun _ _ e => .inl e)
    have o10 := own_fr (T := fun k => k = p) o9 f10 (fun k hk e => own_blk_ne o9 b9 (by decide) (e ▸ hk.symm))
    have H := H7.out
    have hwm : (D.wrote j bs).mem = D.mem ++ [(j, bs)] := by unfold DSt.wrote; rw [DSt.did_mem]
    have hdp := DSt.did_pos (D := ⟨D.kept, D.mem ++ [(j, bs)], D.out, D.armed, D.left, D.calls⟩) hpos hrng
    have h6 : w10.ownsRow 0 5 1 (.slice A6 64 c6) 64 (bts bs) := own_base (own_fr (T := fun k => k = p ∨ some k = Value.ownBlock (.slice Am D.mem.length cm)) O7.out f10' (fun k hk e => e.elim (fun e => own_blk_ne O7.out H.blk (by decide) (e ▸ hk.symm)) (fun e => own_ne O7.out H.mem (by decide) k hk e.symm))) (Nat.zero_le _)
    refine ⟨rfl, ⟨_, _, ks, ms ++ [(j, .slice A6 64 c6)], H.remem (D' := D.wrote j bs) f10' b10 (by unfold DSt.wrote; rw [DSt.did_kept]) ?_ ?_ ?_ ?_ hdp.1 hdp.2 ?_ ?_⟩, ?_⟩
    · rw [hwm, wvals_append]
      simpa [wvals] using o10
    · rw [hwm]
      simp [H.ml]
    · rw [hwm]
      intro q hq
      rw [List.length_append] at hq
      rcases Nat.lt_or_ge q D.mem.length with hlt | hge
      · rw [getD_left (by rw [H.ml]; exact hlt), getD_left hlt]
        exact ⟨(H.mr q hlt).1, H.mr' f10' q hlt⟩
      · have hq' : q = D.mem.length := by simp at hq; omega
        rw [getD_last (by rw [H.ml]; exact hq'), getD_last hq']
        exact ⟨rfl, h6⟩
    · rw [hwm]
      intro x hx
      rcases List.mem_append.1 hx with hx | hx
      · exact H.idx x hx
      · simp at hx
        subst hx
        exact hj
    · intro k hk
      rcases n8 with e | ⟨g, e, hg⟩
      · exact H.sm k (e ▸ hk)
      · have : k = g := by rw [hk] at e; exact Option.some.inj e
        exact HS1.out k (by omega)
    · rw [hwm]
      intro q hq k hk
      rw [List.length_append] at hq
      rcases Nat.lt_or_ge q D.mem.length with hlt | hge
      · rw [getD_left (by rw [H.ml]; exact hlt)] at hk
        exact H.smr q hlt k hk
      · have hq' : q = D.mem.length := by simp at hq; omega
        rw [getD_last (by rw [H.ml]; exact hq')] at hk
        exact HS1.out k (O7.out.lt k hk).1
    · refine (hfr0.step (Fr.of_below hF7 (fun _ => False)) (fun _ _ h => h.elim)).step f10' (fun k _ e => e.elim (fun e => e ▸ H.sp) (fun e => H.sm k e.symm))
end Go.Proofs.Ythglnbkfmmchnaa.Dsk
namespace Go.Proofs.Ythglnbkfmmchnaa.Dsk
open Go.RowKit
set_option maxRecDepth 100000

/-- A store into an owned row of one-cell values. -/
theorem own_putv {w : World} {base : Nat} {e : TypeId} {g n c : Nat} {l : List Value} (h : w.ownsRow base e 1 (.slice (some ⟨g, 0, none⟩) n c) n l) (j : Nat) (x : Value) :
    (w.setCell ⟨g, j, none⟩ x).ownsRow base e 1 (.slice (some ⟨g, 0, none⟩) n c) n (l.set j x) := by
  have h1 := h.1
  rcases h.2 with ⟨h0, _⟩ | ⟨g', cap, cur, hv, hb, hg, hn, hc, hs, ht⟩
  · cases h0
  · simp only [Value.slice.injEq, Option.some.injEq, Addr.mk.injEq] at hv
    obtain ⟨⟨rfl, _⟩, _, rfl⟩ := hv
    refine ⟨by simpa using h1, .inr ⟨g, c, cur.setIfInBounds j x, rfl, hb, Blk.set (w := w) hg j _, hn, hc, by simpa using hs, ?_⟩⟩
    rw [Array.toList_setIfInBounds, List.take_set, ht]
theorem own_cellv {w : World} {base : Nat} {e : TypeId} {g n c : Nat} {l : List Value} (h : w.ownsRow base e 1 (.slice (some ⟨g, 0, none⟩) n c) n l) {j : Nat} (hj : j < l.length) :
    (∃ v, w.cell? ⟨g, j, none⟩ = some v) ∧ w.frozen? ⟨g, j, none⟩ = false := by
  refine ⟨⟨l[j], ?_⟩, ?_⟩
  · have := h.cells (g := g) rfl j _ (List.getElem?_eq_getElem hj)
    rwa [Addr.add_mid, Nat.zero_add] at this
  · rcases h.2 with ⟨h0, _⟩ | ⟨g', cap, cur, hv, hb, hg, _⟩
    · cases h0
    · simp only [Value.slice.injEq, Option.some.injEq, Addr.mk.injEq] at hv
      obtain ⟨⟨rfl, _⟩, _, rfl⟩ := hv
      exact frozen_of_row w g j cur e hg
theorem getD_set {α : Type} (l : List α) (i j : Nat) (x d : α) : (l.set i x).getD j d = if i = j ∧ j < l.length then x else l.getD j d := by
  rw [List.getD_eq_getElem?_getD, List.getD_eq_getElem?_getD, List.getElem?_set]
  by_cases h : i = j
  · subst h
    by_cases hl : i < l.length
    · simp [hl]
    · simp [hl]
  · simp [h]
/-- One block of what was written goes into what is kept. -/
theorem RD.keep1 {S : Nat → Prop} {w : World} {p g n c : Nat} {mv : Value} {ks : List Value} {ms : List (Nat × Value)} {D : DSt} (h : RD S w p (.slice (some ⟨g, 0, none⟩) n c) mv ks ms D) (hn : D.kept.length = n) (i : Nat) (v : Value) (bs : List UInt8)
    (hv : w.ownsRow 0 5 1 v 64 (bts bs)) (hs : ∀ k, v.ownBlock = some k → S k) :
    RD S (w.setCell ⟨g, i, none⟩ v) p (.slice (some ⟨g, 0, none⟩) n c) mv (ks.set i v) ms { D with kept := D.kept.set i bs } := by
  have f : Fr (fun k => k = g) w (w.setCell ⟨g, i, none⟩ v) := (Fr.refl (fun k => k = g) w).setCell (p := ⟨g, i, none⟩) (fun _ => rfl) _
  have hkg : Value.ownBlock (.slice (some ⟨g, 0, none⟩) n c) = some g := rfl
  exact {
    blk := h.blk.fr f (fun e => own_blk_ne h.kept h.blk (by decide) (by rw [hkg, e]))
    kept := by
      have hk := h.kept
      rw [hn] at hk
      have := own_putv hk i v
      simpa [hn] using this
    kl := by simpa using h.kl
    kr := fun j hj => by
      have hj' : j < D.kept.length := by simpa using hj
      show World.ownsRow _ 0 _ 1 ((ks.set i v).getD j undef) 64 (bts ((D.kept.set i bs).getD j []))
      rw [getD_set, getD_set, h.kl]
      split
      · exact own_fr hv f (fun k hk e => own_ne hv h.kept (by decide) k hk (by rw [hkg, e]))
      · exact own_fr (h.kr j hj') f (fun k hk e => own_ne (h.kr j hj') h.kept (by decide) k hk (by rw [hkg, e]))
    mem := own_fr h.mem f (fun k hk e => own_ne h.mem h.kept (by decide) k hk (by rw [hkg, e]))
    ml := h.ml
    mr := fun j hj => ⟨(h.mr j hj).1, own_fr (h.mr j hj).2 f (fun k hk e => own_ne (h.mr j hj).2 h.kept (by decide) k hk (by rw [hkg, e]))⟩
    idx := fun x hx => by have := h.idx x hx; simpa using this
    few := by have := h.few; simpa using this
    pos := h.pos
    rng := h.rng
    sp := h.sp
    sk := h.sk
    sm := h.sm
    skr := fun j hj k hk => by
      have hj' : j < D.kept.length := by simpa using hj
      rw [getD_set] at hk
      split at hk
      · exact hs k hk
      · exact h.skr j hj' k hk
    smr := h.smr }
/-- The memory is forgotten. -/
theorem RD.forget {S : Nat → Prop} {w w' : World} {p : Nat} {kv mv : Value} {ks : List Value} {ms : List (Nat × Value)} {D D' : DSt} (h : RD S w p kv mv ks ms D) (f : Fr (fun k => k = p) w w')
    (hb : Blk w' p (rcells kv (.slice none 0 0) D'.out D'.armed D'.left D'.calls) 62) (hk : D'.kept = D.kept) (hm : D'.mem = []) (hp : D'.armed = true → 0 < D'.left) (hg : -9223372036854775808 ≤ D'.left ∧ D'.left ≤ 9223372036854775807) :
    RD S w' p kv (.slice none 0 0) ks [] D' :=
  h.remem (f.mono (fun _ _ e => .inl e)) hb hk (by rw [hm]; exact World.ownsRow_nil _ _ _ _) (by rw [hm]; rfl) (by rw [hm]; intro j hj; cases hj) (by rw [hm]; intro x hx; cases hx) hp hg (by intro k hk; cases hk) (by rw [hm]; intro j hj; cases hj)
theorem keepN_step (pk : Nat → Bool) (kept : List (List UInt8)) (mem : List (Nat × List UInt8)) (k : Nat) (hk : k < mem.length) :
    keepN pk kept mem (k + 1) = if pk k then (keepN pk kept mem k).set (mem.getD k (0, [])).1 (mem.getD k (0, [])).2 else keepN pk kept mem k := by
  rw [keepN, List.getD_eq_getElem?_getD, List.getElem?_eq_getElem hk]
  rfl

set_option maxHeartbeats 2000000 in
set_option maxRecDepth 100000 in
theorem rsync_s {S : Nat → Prop} {w : World} {p : Nat} {D : DSt} (h : RDS S w p D) (hm : D.mem.length < 2 ^ 30) :
    Calls Try.prog 73 #[.pointer (some ⟨p, 0, none⟩)] w fun e w' => e = .returned (.int .i64 D.sync.1) ∧ RDS S w' p D.sync.2 ∧ Fr S w w' := by
  have hR := h
  obtain ⟨kv, mv, ks, ms, h⟩ := h
  obtain ⟨c0, c1, c2, -⟩ := rcells_all h.blk
  cases ho : D.out with
  | true =>
    have hr : D.sync = (5, D) := by rw [DSt.sync, if_pos ho]
    rw [hr]
    rw [ho] at c2
    have HR := Lib.hid hR
    clear hr c1 c0 ho h hR
    go_enter Try.func73, Try.ntmps73
    go_wp2_with fail
    go_ret
    exact ⟨rfl, HR.out, Fr.refl _ _⟩
  | false =>
    have hr : D.sync = (0, D.syncd) := by rw [DSt.sync, if_neg (by rw [ho]; exact Bool.false_ne_true)]
    rw [hr]
    rw [ho] at c2
    obtain ⟨Am, cm, rfl⟩ := own_form h.mem
    have HH := Lib.hid h
    have HO := Lib.hid ho
    clear hr c0 c1 ho hR h
    go_enter Try.func73, Try.ntmps73
    go_wp2_with fail
    go_loopw [3] (fun i wr => ∃ k : Nat, i = .int .i64 k ∧ k ≤ D.mem.length ∧ (∃ kv' ks', RD S wr p kv' (.slice Am D.mem.length cm) ks' ms { D with kept := keepN (fun _ => true) D.kept D.mem k }) ∧ Fr S w wr) (fun i _ => D.mem.length - (intOf i).toNat)
    case atStart => exact ⟨0, rfl, Nat.zero_le _, ⟨_, _, HH.out⟩, Fr.refl _ _⟩
    case round =>
      clear c2 HH
      obtain ⟨k, rfl, hk, ⟨kv', ks', hd⟩, hfr⟩ := hrel
      obtain ⟨c0, c1, -, -, -, -, f0, f1, -⟩ := rcells_all hd.blk
      by_cases hlt : k < D.mem.length
      · have hml := hd.mem
        obtain ⟨g, c', hvd⟩ := own_some hml (show 0 < D.mem.length by omega)
        simp only [Value.slice.injEq] at hvd
        obtain ⟨rfl, -, rfl⟩ := hvd
        obtain ⟨hg1, hg2⟩ := wvals_get ms k (by rw [hd.ml]; exact hlt)
        have hq1 := hml.cells (g := g) rfl _ _ hg1
        have hq2 := hml.cells (g := g) rfl _ _ hg2
        rw [Addr.add_mid, Nat.zero_add] at hq1 hq2
        obtain ⟨hm1, hm2⟩ := hd.mr k hlt
        rw [show ({ D with kept := keepN (fun _ => true) D.kept D.mem k } : DSt).mem = D.mem from rfl] at hm1 hm2
        rw [hm1] at hq1
        have hsm := hd.smr k hlt
        have hst := keepN_step (fun _ => true) D.kept D.mem k hlt
        rw [if_pos rfl] at hst
        have hix := hd.idx (D.mem.getD k (0, [])) (by rw [List.getD_eq_getElem?_getD, List.getElem?_eq_getElem hlt]; exact List.getElem_mem hlt)
        generalize (ms.getD k (0, undef)).2 = vt at *
        generalize D.mem.getD k (0, []) = xb at *
        obtain ⟨x, bs⟩ := xb
        obtain ⟨Av, cv, rfl⟩ := own_form hm2
        have hl0 : (keepN (fun _ => true) D.kept D.mem k).length = D.kept.length := keepN_length _ _ _ _
        replace hix : x < (keepN (fun _ => true) D.kept D.mem k).length := hix
        have hkk : wr.ownsRow 0 32 1 kv' (keepN (fun _ => true) D.kept D.mem k).length ks' := hd.kept
        obtain ⟨gk, ck, hvd⟩ := own_some hkk (by omega)
        subst hvd
        have hkl : ks'.length = (keepN (fun _ => true) D.kept D.mem k).length := hd.kl
        obtain ⟨⟨u, cx⟩, fx⟩ := own_cellv hkk (j := x) (by rw [hkl]; exact hix)
        have h1 := RD.keep1 (hd.below (Below.refl _ _).drew) rfl x (.slice Av 64 cv) bs (own_drew hm2) hsm
        have hsk : S gk := hd.sk gk rfl
        have hfm : D.kept.length ≤ 4096 := by have := hd.few; simpa [hl0] using this
        have HST := Lib.hid hst
        have H1 := Lib.hid h1
        clear hst h1 hm1 hm2 hsm hg1 hg2 hd hml hkk hkl
        have hkI : (k : Int) < (D.mem.length : Int) := by omega
        have hk0 : (0 : Int) ≤ (k : Int) := by omega
        have hx0 : (0 : Int) ≤ (x : Int) := by omega
        simp only at hq1
        rw [hl0] at hix
        have hxI : (x : Int) < (D.kept.length : Int) := by omega
        go_wp2_with fail
        refine wp_region_float (Fr (fun _ => False)) [(0, 0), (1, 0), (2, 0), (3, 1), (4, 0), (5, 0), (6, 0), (7, 1), (8, 0), (9, 0), (10, 0), (11, 1), (12, 0), (13, 0), (14, 0), (15, 1), (16, 0), (17, 0), (18, 0), (19, 1), (20, 0), (21, 3)] _ (by kernel_rfl) (by kernel_rfl) (by simp only [List.map_cons, List.map_nil, Array.getD_eq_getD_getElem?, List.getElem?_toArray, List.getElem?_cons_succ, List.getElem?_cons_zero, Option.getD_some]; rfl) rfl (by kernel_rfl) (fun _ _ d _ _ h => by cases d <;> exact h) (Fr.refl _) (fun _ _ _ => Fr.trans) ?_
        replace c0 : wr.drew.cell? ⟨p, 0, none⟩ = _ := c0
        replace c1 : wr.drew.cell? ⟨p, 1, none⟩ = _ := c1
        replace hq1 : wr.drew.cell? ⟨g, k * 2, none⟩ = _ := hq1
        replace hq2 : wr.drew.cell? ⟨g, k * 2 + 1, none⟩ = _ := hq2
        replace cx : wr.drew.cell? ⟨gk, x, none⟩ = _ := cx
        replace fx : wr.drew.frozen? ⟨gk, x, none⟩ = _ := fx
        generalize hwd : wr.drew = wd at *
        repeat (first | (refine wpF_f0 (fun K hK => ?_); go_simp; refine hK _ ?_; clear hK K) | (refine wpF_load1 rfl rfl rfl (by kernel_rfl) (by assumption) (by simp) (fun K hK => ?_); go_simp; refine hK _ ?_; clear hK K) | (refine wpF_loadN rfl rfl rfl (by assumption) (by assumption) (by kernel_rfl) (by kernel_rfl) (by simp) (fun K hK => ?_); go_simp; refine hK _ ?_; clear hK K))
        refine wpF_a3 (fun K hK => ?_); rw [if_pos (by rfl)]
        go_simp
        refine hK _ _ ?_
        clear hK K
        refine wpF_nil ?_
        have hfd : Fr S w wd := by rw [← hwd]; exact hfr.drew
        have hf2 := hfd.setCell (p := ⟨gk, x, none⟩) (by exact fun _ => hsk) (.slice Av 64 cv)
        clear hfd hwd c0 c1 f0 f1 hq1 hq2 cx fx hfr
        generalize wd.setCell ⟨gk, x, none⟩ (.slice Av 64 cv) = w2 at *
        go_wp2_with fail
        go_roundw
        case rel =>
          refine ⟨k + 1, by go_num, hlt, ⟨.slice (some ⟨gk, 0, none⟩) (keepN (fun _ => true) D.kept D.mem k).length ck, ks'.set x (.slice Av 64 cv), ?_⟩, hf2⟩
          rw [HST.out]
          exact H1.out
        case measure => simp [intOf]; omega
      · obtain rfl : k = D.mem.length := by omega
        have hpos := hd.pos
        have hrng := hd.rng
        have ho := HO.out
        have hb2 := hd.blk.set 1 (.slice none 0 0)
        have hB2 : Blk (wr.setCell ⟨p, 1, none⟩ (.slice none 0 0)) p (rcells kv' (.slice none 0 0) D.out D.armed D.left D.calls) 62 := hb2
        have HD := Lib.hid hd
        clear hd hb2
        go_wp2_with (go_at_call 80; refine (rdid_any (D := ⟨keepN (fun _ => true) D.kept D.mem D.mem.length, [], D.out, D.armed, D.left, D.calls⟩) hB2 ho hpos hrng.2).mono ?_; rintro e w2 ⟨rfl, b2, f2⟩)
        go_ret
        have hdp := DSt.did_pos (D := ⟨keepN (fun _ => true) D.kept D.mem D.mem.length, [], D.out, D.armed, D.left, D.calls⟩) hpos hrng
        have f3 : Fr (fun k => k = p) wr w2 := ((Fr.refl (fun k => k = p) wr).setCell (p := ⟨p, 1, none⟩) (fun _ => rfl) _).step f2 (fun _ _ e => e)
        refine ⟨rfl, ⟨_, _, _, _, HD.out.forget (D' := D.syncd) f3 b2 ?_ ?_ hdp.1 hdp.2⟩, hfr.step f3 (fun k _ e => e ▸ HD.out.sp)⟩
        · unfold DSt.syncd; rw [DSt.did_kept]
        · unfold DSt.syncd; rw [DSt.did_mem]
end Go.Proofs.Ythglnbkfmmchnaa.Dsk
namespace Go.Proofs.Ythglnbkfmmchnaa.Dsk
open Go.RowKit
set_option maxRecDepth 100000

theorem keepN_none (pk : Nat → Bool) (kept : List (List UInt8)) (mem : List (Nat × List UInt8)) (h : ∀ k, pk k = false) : ∀ k, keepN pk kept mem k = kept
  | 0 => rfl
  | k + 1 => by
    have ih := keepN_none pk kept mem h k
    unfold keepN
    split
    · rw [h, if_neg Bool.false_ne_true]; exact ih
    · exact ih
theorem tmod2 (z : Int) : (z.tmod 2 == 0) = !(z % 2 == 1) := by
  have h : (2 : Int) ∣ z ↔ z % 2 = 0 := Int.dvd_iff_emod_eq_zero
  have h2 : z.tmod 2 = 0 ↔ (2 : Int) ∣ z := Int.dvd_iff_tmod_eq_zero.symm
  by_cases hz : z % 2 = 1
  · rw [hz]
    refine beq_eq_false_iff_ne.2 (fun e => ?_)
    have := h.1 (h2.1 e)
    omega
  · have h0 : z % 2 = 0 := by omega
    rw [h2.2 (h.2 h0), h0]
    rfl

set_option maxHeartbeats 4000000 in
set_option maxRecDepth 100000 in
theorem rcrash_s {S : Nat → Prop} {w : World} {p : Nat} {D : DSt} (h : RDS S w p D) (hm : D.mem.length < 2 ^ 30) (v : Value) (picks : List Int) (hp : RdI w v picks) (hv : picks ≠ [] → ∀ k, v.ownBlock = some k → ¬ S k) :
    Calls Try.prog 30 #[.pointer (some ⟨p, 0, none⟩), v] w fun e w' => e = .returned (.tuple #[]) ∧ RDS S w' p (D.crashed picks) ∧ Fr S w w' := by
  obtain ⟨kv, mv, ks, ms, h⟩ := h
  obtain ⟨A, c, rfl⟩ := hp.slice
  have hpm := hp.max
  obtain ⟨Am, cm, rfl⟩ := own_form h.mem
  have HH := Lib.hid h
  have HV := Lib.hid hv
  clear h hv
  have hend : ∀ (k : Nat) (wr : World) (kv' : Value) (ks' : List Value), RD S wr p kv' (.slice Am D.mem.length cm) ks' ms { D with kept := keepN (pickB picks) D.kept D.mem k } → Fr S w wr → keepN (pickB picks) D.kept D.mem k = keepN (pickB picks) D.kept D.mem D.mem.length →
      RDS S (((wr.setCell ⟨p, 1, none⟩ (.slice none 0 0)).setCell ⟨p, 2, none⟩ (.bool false)).setCell ⟨p, 3, none⟩ (.bool false)) p (D.crashed picks) ∧ Fr S w (((wr.setCell ⟨p, 1, none⟩ (.slice none 0 0)).setCell ⟨p, 2, none⟩ (.bool false)).setCell ⟨p, 3, none⟩ (.bool false)) := by
    intro k wr kv' ks' hd hfr he
    have b := ((hd.blk.set 1 (.slice none 0 0)).set 2 (.bool false)).set 3 (.bool false)
    have f : Fr (fun k => k = p) wr (((wr.setCell ⟨p, 1, none⟩ (.slice none 0 0)).setCell ⟨p, 2, none⟩ (.bool false)).setCell ⟨p, 3, none⟩ (.bool false)) := (((Fr.refl (fun k => k = p) wr).setCell (p := ⟨p, 1, none⟩) (fun _ => rfl) _).setCell (p := ⟨p, 2, none⟩) (fun _ => rfl) _).setCell (p := ⟨p, 3, none⟩) (fun _ => rfl) _
    rw [he] at hd
    exact ⟨⟨_, _, _, _, hd.forget (D' := D.crashed picks) f b rfl rfl (fun e => by cases e) hd.rng⟩, hfr.step f (fun k _ e => e ▸ hd.sp)⟩
  have HE := Lib.hid hend
  clear hend
  go_enter Try.func30, Try.ntmps30
  go_wp2_with fail
  go_loopw [4] (fun i wr => ∃ k : Nat, i = .int .i64 k ∧ k ≤ D.mem.length ∧ (∃ kv' ks', RD S wr p kv' (.slice Am D.mem.length cm) ks' ms { D with kept := keepN (pickB picks) D.kept D.mem k }) ∧ Fr S w wr) (fun i _ => D.mem.length - (intOf i).toNat)
  case atStart => exact ⟨0, rfl, Nat.zero_le _, ⟨_, _, HH.out⟩, Fr.refl _ _⟩
  case round =>
    clear HH
    obtain ⟨k, rfl, hk, ⟨kv', ks', hd⟩, hfr⟩ := hrel
    obtain ⟨c0, c1, c2, c3, -, -, f0, f1, f2, f3, -⟩ := rcells_all hd.blk
    by_cases hlt : k < D.mem.length
    · by_cases hpl : 0 < picks.length
      · have hpw := hp.fr hfr HV.out
        have hj : k % picks.length < picks.length := Nat.mod_lt _ hpl
        obtain ⟨b, o, rfl, hz⟩ := hpw.at hj
        have hm1 : (k : Int).tmod (picks.length : Int) = ((k % picks.length : Nat) : Int) := by rw [Int.tmod_eq_emod_of_nonneg (by omega)]; rfl
        have hz1 : wr.cell? ⟨b, o + k % picks.length, none⟩ = some (.int .i64 picks[k % picks.length]) := hz
        have hm2 : ((k % picks.length : Nat) : Int) < (picks.length : Int) := by omega
        have hpk : pickB picks k = (picks[k % picks.length] % 2 == 1) := by
          rw [pickB, decide_eq_true hpl, Bool.true_and, List.getD_eq_getElem?_getD, List.getElem?_eq_getElem hj]
          rfl
        have ht := tmod2 picks[k % picks.length]
        rw [← hpk] at ht
        have HPK := Lib.hid hpk
        clear hpk
        generalize picks[k % picks.length] = zp at *
        generalize hkk : k % picks.length = kk at *
        have HK := Lib.hid hkk
        clear hkk hpw hz hj
        have hq0 : (0 : Int) ≤ (kk : Int) := by omega
        have hpI : (0 : Int) < (picks.length : Int) := by omega
        have hkI : (k : Int) < (D.mem.length : Int) := by omega
        have hk0 : (0 : Int) ≤ (k : Int) := by omega
        have hst := keepN_step (pickB picks) D.kept D.mem k hlt
        cases hb : pickB picks k with
        | false =>
          rw [hb, if_neg Bool.false_ne_true] at hst
          rw [hb] at ht
          have ht2 : (zp.tmod 2 != 0) = false := by rw [bne, ht]; rfl
          have HST := Lib.hid hst
          have HD := Lib.hid hd
          replace ht : (zp.tmod 2 == 0) = true := ht
          have ht0 : zp.tmod 2 = 0 := by simpa using ht
          clear hst hd hb ht ht2
          go_wp2_with fail
          go_roundw
          case rel =>
            refine ⟨k + 1, by go_num, hlt, ⟨kv', ks', ?_⟩, hfr⟩
            rw [HST.out]
            exact HD.out
          case measure => simp [intOf]; omega
        | true =>
          rw [hb, if_pos rfl] at hst
          rw [hb] at ht
          have ht2 : (zp.tmod 2 != 0) = true := by rw [bne, ht]; rfl
          replace ht : (zp.tmod 2 == 0) = false := ht
          have hml := hd.mem
          obtain ⟨g, c', hvd⟩ := own_some hml (show 0 < D.mem.length by omega)
          simp only [Value.slice.injEq] at hvd
          obtain ⟨rfl, -, rfl⟩ := hvd
          obtain ⟨hg1, hg2⟩ := wvals_get ms k (by rw [hd.ml]; exact hlt)
          have hq1 := hml.cells (g := g) rfl _ _ hg1
          have hq2 := hml.cells (g := g) rfl _ _ hg2
          rw [Addr.add_mid, Nat.zero_add] at hq1 hq2
          obtain ⟨hm1', hm2'⟩ := hd.mr k hlt
          rw [show ({ D with kept := keepN (pickB picks) D.kept D.mem k } : DSt).mem = D.mem from rfl] at hm1' hm2'
          rw [hm1'] at hq1
          have hsm := hd.smr k hlt
          have hix := hd.idx (D.mem.getD k (0, [])) (by rw [List.getD_eq_getElem?_getD, List.getElem?_eq_getElem hlt]; exact List.getElem_mem hlt)
          generalize (ms.getD k (0, undef)).2 = vt at *
          generalize D.mem.getD k (0, []) = xb at *
          obtain ⟨x, bs⟩ := xb
          obtain ⟨Av, cv, rfl⟩ := own_form hm2'
          have hl0 : (keepN (pickB picks) D.kept D.mem k).length = D.kept.length := keepN_length _ _ _ _
          replace hix : x < (keepN (pickB picks) D.kept D.mem k).length := hix
          have hkk : wr.ownsRow 0 32 1 kv' (keepN (pickB picks) D.kept D.mem k).length ks' := hd.kept
          obtain ⟨gk, ck, hvd⟩ := own_some hkk (by omega)
          subst hvd
          have hkl : ks'.length = (keepN (pickB picks) D.kept D.mem k).length := hd.kl
          obtain ⟨⟨u, cx⟩, fx⟩ := own_cellv hkk (j := x) (by rw [hkl]; exact hix)
          have h1 := RD.keep1 (hd.below (Below.refl _ _).drew) rfl x (.slice Av 64 cv) bs (own_drew hm2') hsm
          have hsk : S gk := hd.sk gk rfl
          have hfm : D.kept.length ≤ 4096 := by have := hd.few; simpa [hl0] using this
          have HST := Lib.hid hst
          have H1 := Lib.hid h1
          clear hst h1 hm1' hm2' hsm hg1 hg2 hd hml hkk hkl hb
          have hx0 : (0 : Int) ≤ (x : Int) := by omega
          simp only at hq1
          rw [hl0] at hix
          have hxI : (x : Int) < (D.kept.length : Int) := by omega
          go_wp2_with fail
          refine wp_region_float (Fr (fun _ => False)) [(0, 0), (1, 0), (2, 0), (3, 1), (4, 0), (5, 0), (6, 0), (7, 1), (8, 0), (9, 0), (10, 0), (11, 1), (12, 0), (13, 0), (14, 0), (15, 1), (16, 0), (17, 0), (18, 0), (19, 1), (20, 0), (21, 3)] _ (by kernel_rfl) (by kernel_rfl) (by simp only [List.map_cons, List.map_nil, Array.getD_eq_getD_getElem?, List.getElem?_toArray, List.getElem?_cons_succ, List.getElem?_cons_zero, Option.getD_some]; rfl) rfl (by kernel_rfl) (fun _ _ d _ _ h => by cases d <;> exact h) (Fr.refl _) (fun _ _ _ => Fr.trans) ?_
          replace c0 : wr.drew.cell? ⟨p, 0, none⟩ = _ := c0
          replace c1 : wr.drew.cell? ⟨p, 1, none⟩ = _ := c1
          replace hq1 : wr.drew.cell? ⟨g, k * 2, none⟩ = _ := hq1
          replace hq2 : wr.drew.cell? ⟨g, k * 2 + 1, none⟩ = _ := hq2
          replace cx : wr.drew.cell? ⟨gk, x, none⟩ = _ := cx
          replace fx : wr.drew.frozen? ⟨gk, x, none⟩ = _ := fx
          clear hz1
          generalize hwd : wr.drew = wd at *
          repeat (first | (refine wpF_f0 (fun K hK => ?_); go_simp; refine hK _ ?_; clear hK K) | (refine wpF_load1 rfl rfl rfl (by kernel_rfl) (by assumption) (by simp) (fun K hK => ?_); go_simp; refine hK _ ?_; clear hK K) | (refine wpF_loadN rfl rfl rfl (by assumption) (by assumption) (by kernel_rfl) (by kernel_rfl) (by simp) (fun K hK => ?_); go_simp; refine hK _ ?_; clear hK K))
          refine wpF_a3 (fun K hK => ?_); rw [if_pos (by rfl)]
          go_simp
          refine hK _ _ ?_
          clear hK K
          refine wpF_nil ?_
          have hfd : Fr S w wd := by rw [← hwd]; exact hfr.drew
          have hf2 := hfd.setCell (p := ⟨gk, x, none⟩) (by exact fun _ => hsk) (.slice Av 64 cv)
          clear hfd hwd c0 c1 c2 c3 f0 f1 f2 f3 hq1 hq2 cx fx hfr
          generalize wd.setCell ⟨gk, x, none⟩ (.slice Av 64 cv) = w2 at *
          go_wp2_with fail
          go_roundw
          case rel =>
            refine ⟨k + 1, by go_num, hlt, ⟨.slice (some ⟨gk, 0, none⟩) (keepN (pickB picks) D.kept D.mem k).length ck, ks'.set x (.slice Av 64 cv), ?_⟩, hf2⟩
            rw [HST.out]
            exact H1.out
          case measure => simp [intOf]; omega
      · have hd0 : decide ((0 : Int) < (picks.length : Int)) = false := decide_eq_false (by omega)
        have hp0 : picks = [] := List.eq_nil_of_length_eq_zero (by omega)
        subst hp0
        have hkI : (k : Int) < (D.mem.length : Int) := by omega
        have hk0 : (0 : Int) ≤ (k : Int) := by omega
        have hq := HE.out k wr kv' ks' hd hfr (by rw [keepN_none _ _ _ (fun k => by simp [pickB]), keepN_none _ _ _ (fun k => by simp [pickB])])
        have HQ := Lib.hid hq
        clear hd hq
        go_wp2_with fail
        go_end0
        exact ⟨rfl, HQ.out.1, HQ.out.2⟩
    · obtain rfl : k = D.mem.length := by omega
      have hq := HE.out _ wr kv' ks' hd hfr rfl
      have HQ := Lib.hid hq
      clear hd hq
      go_wp2_with fail
      go_end0
      exact ⟨rfl, HQ.out.1, HQ.out.2⟩
end Go.Proofs.Ythglnbkfmmchnaa.Dsk
