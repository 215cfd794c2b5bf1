/- The document's disk: New. -/
import Derived.Test.YtnnhelknpnkphaaRDisk5
namespace Go.Proofs.Ytnnhelknpnkphaa
open Go.RowKit

theorem make64 (w : World) : (Instr.makeSlice 29 (.int .i64 64) (.int .i64 64)).run Try.prog w = .ok (.slice (some ⟨w.heap.size, 0, none⟩) 64 64) (w.alloc (.cells (Array.replicate 64 (.int .u8 0)) 5)) := by kernel_rfl
theorem exec_makeSlice {P : Program} {o : Oper} {a : Act} {t : TypeId} {x y : Operand} {vx vy v : Value} {w w1 : World} (ho : o.op = .makeSlice t x y) (hx : a.eval x = vx) (hy : a.eval y = vy) (h : (Instr.makeSlice t vx vy).run P w = .ok v w1) : (execOp a.eval o).run P w = .ok (.value v) w1 := by
  subst hx hy
  unfold execOp
  simp only [ho]
  exact exec_v h
theorem build_kr (A : Option Addr) (n c : Nat) (w : World) : (Instr.buildSlice 45 1 #[(0, .slice A n c)]).run Try.prog w = .ok (.slice (some ⟨w.heap.size, 0, none⟩) 1 1) (w.alloc (.cells #[.slice A n c] 29)) := by kernel_rfl
theorem build_rd (w : World) : (Instr.build 48 #[]).run Try.prog w = .ok (.agg #[.slice none 0 0, .slice none 0 0, .bool false, .bool false, .int .i64 0, .int .i64 0]) w := by kernel_rfl
/-- One block more. -/
theorem RD.more {S : Nat → Prop} {w w' : World} {p : Nat} {kv kv' mv v : Value} {ks : List Value} {ms : List (Nat × Value)} {D : DSt} {bs : List UInt8} (h : RD S w p kv mv ks ms D) (f : Fr (fun k => k = p ∨ some k = kv.ownBlock) w w')
    (hb : Blk w' p (rcells kv' mv D.out D.armed D.left D.calls) 48) (hk : w'.ownsRow 0 29 1 kv' (D.kept.length + 1) (ks ++ [v])) (hv : w'.ownsRow 0 5 1 v 64 (bts bs))
    (hf : D.kept.length < 4096) (sk : ∀ k, kv'.ownBlock = some k → S k) (sv : ∀ k, v.ownBlock = some k → S k) : RD S w' p kv' mv (ks ++ [v]) ms { D with kept := D.kept ++ [bs] } where
  blk := hb
  kept := by simpa using hk
  kl := by simpa using h.kl
  kr := fun j hj => by
    have hj' : j < D.kept.length + 1 := by simpa using hj
    show World.ownsRow _ 0 _ 1 ((ks ++ [v]).getD j undef) 64 (bts ((D.kept ++ [bs]).getD j []))
    rcases Nat.lt_or_ge j D.kept.length with hlt | hge
    · rw [getD_left (by rw [h.kl]; exact hlt), getD_left hlt]
      exact own_fr (h.kr j hlt) f (fun k hk e => e.elim (fun e => own_blk_ne (h.kr j hlt) h.blk (by decide) (e ▸ hk.symm)) (fun e => own_ne (h.kr j hlt) h.kept (by decide) k hk e.symm))
    · have e : j = D.kept.length := by omega
      rw [getD_last (by rw [h.kl]; exact e), getD_last e]
      exact hv
  mem := own_fr h.mem f (fun k hk e => e.elim (fun e => own_blk_ne h.mem h.blk (by decide) (e ▸ hk.symm)) (fun e => own_ne h.mem h.kept (by decide) k hk e.symm))
  ml := h.ml
  mr := fun j hj => ⟨(h.mr j hj).1, own_fr (h.mr j hj).2 f (fun k hk e => e.elim (fun e => own_blk_ne (h.mr j hj).2 h.blk (by decide) (e ▸ hk.symm)) (fun e => own_ne (h.mr j hj).2 h.kept (by decide) k hk e.symm))⟩
  idx := fun x hx => by have := h.idx x hx; simp; omega
  few := by simp; omega
  pos := h.pos
  rng := h.rng
  sp := h.sp
  sk := sk
  sm := h.sm
  skr := fun j hj k hk => by
    have hj' : j < D.kept.length + 1 := by simpa using hj
    rcases Nat.lt_or_ge j D.kept.length with hlt | hge
    · rw [getD_left (by rw [h.kl]; exact hlt)] at hk
      exact h.skr j hlt k hk
    · have e : j = D.kept.length := by omega
      rw [getD_last (by rw [h.kl]; exact e)] at hk
      exact sv k hk
  smr := h.smr
theorem fresh_more (k : Nat) : ({ DSt.fresh k with kept := (DSt.fresh k).kept ++ [List.replicate 64 0] } : DSt) = DSt.fresh (k + 1) := by
  show (⟨List.replicate k (List.replicate 64 0) ++ [List.replicate 64 0], [], false, false, 0, 0⟩ : DSt) = ⟨List.replicate (k + 1) (List.replicate 64 0), [], false, false, 0, 0⟩
  rw [List.replicate_succ' (n := k)]
theorem fresh_len (k : Nat) : (DSt.fresh k).kept.length = k := List.length_replicate

set_option maxHeartbeats 4000000 in
set_option maxRecDepth 100000 in
theorem rnew_s (n : Nat) (w : World) (h2 : n ≤ 4096) :
    Calls Try.prog 18 #[.int .i64 n] w fun e w' => ∃ p, e = .returned (.pointer (some ⟨p, 0, none⟩)) ∧ RDS (fun k => w.heap.size ≤ k) w' p (DSt.fresh n) ∧ Below w.heap.size w w' := by
  generalize hB0 : w.heap.size = B
  have HB := Lib.hid hB0
  clear hB0
  go_enter Try.func18, Try.ntmps18
  go_wp2_with fail
  have bq : Blk (w.alloc (.cells #[.slice none 0 0, .slice none 0 0, .bool false, .bool false, .int .i64 0, .int .i64 0] 48)) w.heap.size (rcells (.slice none 0 0) (.slice none 0 0) false false 0 0) 48 := Blk.new w _ _
  have hb1 : Below w.heap.size w (w.alloc (.cells #[.slice none 0 0, .slice none 0 0, .bool false, .bool false, .int .i64 0, .int .i64 0] 48)) := (Below.refl _ _).alloc (Nat.le_refl _) _
  generalize w.alloc (.cells #[.slice none 0 0, .slice none 0 0, .bool false, .bool false, .int .i64 0, .int .i64 0] 48) = w1 at *
  rw [HB.out] at bq hb1 ⊢
  have hB1 := hb1.size
  rw [HB.out] at hB1
  have hr0 : RD (fun k => B ≤ k) w1 B (.slice none 0 0) (.slice none 0 0) [] [] (DSt.fresh 0) := {
    blk := bq, kept := World.ownsRow_nil _ _ _ _, kl := rfl, kr := fun j hj => (by cases hj), mem := World.ownsRow_nil _ _ _ _, ml := rfl, mr := fun j hj => (by cases hj), idx := fun x hx => (by cases hx), few := Nat.zero_le _,
    pos := fun e => (by cases e), rng := (by show _ ≤ (0 : Int) ∧ (0 : Int) ≤ _; omega), sp := Nat.le_refl _, sk := fun k hk => (by cases hk), sm := fun k hk => (by cases hk), skr := fun j hj => (by cases hj), smr := fun j hj => (by cases hj) }
  clear bq
  have HR0 := Lib.hid hr0
  have HB1 := Lib.hid hb1
  clear hr0 hb1
  go_loopw [4] (fun i wr => ∃ k : Nat, i = .int .i64 k ∧ k ≤ n ∧ (∃ kv ks, RD (fun k => B ≤ k) wr B kv (.slice none 0 0) ks [] (DSt.fresh k)) ∧ Below B w wr ∧ B ≤ wr.heap.size) (fun i _ => n - (intOf i).toNat)
  case atStart => exact ⟨0, rfl, Nat.zero_le _, ⟨_, _, HR0.out⟩, HB1.out, hB1⟩
  case round =>
    clear HR0 HB1
    obtain ⟨k, rfl, hk, ⟨kv, ks, hd⟩, hb, hs⟩ := hrel
    by_cases hlt : k < n
    · have hkI : (k : Int) < (n : Int) := by omega
      obtain ⟨c0, c1, c2, c3, c4, c5, f0, f1, -⟩ := rcells_all hd.blk
      obtain ⟨Ak, ck, rfl⟩ := own_form hd.kept
      rw [fresh_len] at c0 hd
      have HD := Lib.hid hd
      clear hd c1 c2 c3 c4 c5 f0 f1
      go_wp2_with fail
      refine wp_region_float (Fr (fun _ => False)) [(0, 0), (1, 0), (2, 0), (3, 0), (4, 1), (5, 2), (6, 2), (7, 3), (8, 0), (9, 0), (10, 3)] _ (by kernel_rfl) (by kernel_rfl) (by simp only [List.map_cons, List.map_nil, Array.getD_eq_getD_getElem?, List.getElem?_toArray, List.getElem?_cons_succ, List.getElem?_cons_zero, Option.getD_some]; rfl) rfl (by kernel_rfl) (fun _ _ d _ _ h => by cases d <;> exact h) (Fr.refl _) (fun _ _ _ => Fr.trans) ?_
      have H1 := Lib.hid (HD.out.below (Below.refl _ _).drew)
      replace c0 : wr.drew.cell? ⟨B, 0, none⟩ = _ := c0
      replace hb := hb.drew
      replace hs : B ≤ wr.drew.heap.size := hs
      clear HD
      generalize wr.drew = w2 at *
      repeat (first | (refine wpF_f0 (fun K hK => ?_); go_simp; refine hK _ ?_; clear hK K) | (refine wpF_load1 rfl rfl rfl (by kernel_rfl) (by assumption) (by simp) (fun K hK => ?_); go_simp; refine hK _ ?_; clear hK K) | (refine wpF_loadN rfl rfl rfl (by assumption) (by assumption) (by kernel_rfl) (by kernel_rfl) (by simp) (fun K hK => ?_); go_simp; refine hK _ ?_; clear hK K))
      refine wpF_a2 (fun K hK => ?_); rw [if_pos (by rfl)]
      refine wp_value (exec_makeSlice rfl rfl rfl (make64 w2)) ?_
      have hb3 : Below w2.heap.size w2 (w2.alloc (.cells (Array.replicate 64 (.int .u8 0)) 5)) := (Below.refl _ _).alloc (Nat.le_refl _) _
      have b3 := Blk.new w2 (Array.replicate 64 (.int .u8 0)) 5
      have H3 := Lib.hid (H1.out.below hb3)
      refine hK _ _ (Fr.of_below hb3 _) ?_
      clear hK K H1
      replace hb := hb.trans (hb3.mono hs)
      have hs3 := hb3.size
      clear hb3
      generalize w2.alloc (.cells (Array.replicate 64 (.int .u8 0)) 5) = w3 at *
      generalize w2.heap.size = g3 at *
      have o3 : w3.ownsRow 0 5 1 (.slice (some ⟨g3, 0, none⟩) 64 64) 64 (bts (List.replicate 64 0)) := own_of_blk b3 (Nat.zero_le _) (by simp) (by simp [maxLen])
      repeat (first | (refine wpF_f0 (fun K hK => ?_); go_simp; refine hK _ ?_; clear hK K) | (refine wpF_load1 rfl rfl rfl (by kernel_rfl) (by assumption) (by simp) (fun K hK => ?_); go_simp; refine hK _ ?_; clear hK K) | (refine wpF_loadN rfl rfl rfl (by assumption) (by assumption) (by kernel_rfl) (by kernel_rfl) (by simp) (fun K hK => ?_); go_simp; refine hK _ ?_; clear hK K))
      refine wpF_a2 (fun K hK => ?_); rw [if_pos (by rfl)]
      refine wp_value (exec_buildSlice (build_kr (some ⟨g3, 0, none⟩) 64 64 w3) rfl (by simp [Act.eval, Act.put])) ?_
      have hb4 : Below w3.heap.size w3 (w3.alloc (.cells #[.slice (some ⟨g3, 0, none⟩) 64 64] 29)) := (Below.refl _ _).alloc (Nat.le_refl _) _
      have b4 := Blk.new w3 #[.slice (some ⟨g3, 0, none⟩) 64 64] 29
      have H4 := Lib.hid (H3.out.below hb4)
      have O4 := Lib.hid (own_fr o3 (Fr.of_below hb4 (fun _ => False)) (fun _ _ h => h))
      refine hK _ _ (Fr.of_below hb4 _) ?_
      clear hK K H3 o3 b3
      replace hb := hb.trans (hb4.mono (Nat.le_trans hs hs3))
      have hs4 := hb4.size
      have hcell : ∀ q u, [Value.slice (some ⟨g3, 0, none⟩) 64 64][q]? = some u → (w3.alloc (.cells #[.slice (some ⟨g3, 0, none⟩) 64 64] 29)).cell? ((⟨w3.heap.size, 0, none⟩ : Addr).add q) = some u := fun q u hu => by
        rw [Addr.add_mid, Nat.zero_add, b4.cell q]; simpa using hu
      clear hb4 b4
      generalize w3.alloc (.cells #[.slice (some ⟨g3, 0, none⟩) 64 64] 29) = w4 at *
      generalize w3.heap.size = g4 at *
      have hkk := H4.out.kept
      rw [fresh_len] at hkk
      refine wpF_a3 (fun K hK => ?_); rw [if_pos (by rfl)]
      refine wp_append_k rfl 0 Try.underlying45 infoRow (by simp [Value.cells]) (by decide) (v := .slice Ak k ck) rfl hkk (news := [.slice (some ⟨g3, 0, none⟩) 64 64]) rfl (by simp) (.inr ⟨_, rfl, hcell⟩) (by intro v hv; simp at hv; subst hv; rfl) (by unfold maxLen; omega) (by omega) (by omega) ?_
      intro kv' w5 o5 g5 n5
      obtain ⟨A5, c5, rfl⟩ := own_form o5
      have b5 := H4.out.blk.grown g5 (own_blk_ne hkk H4.out.blk (by decide))
      have f5 := (Fr.refl (fun q => q = B ∨ some q = Value.ownBlock (.slice Ak k ck)) w4).grown g5 (fun q _ hq => .inr hq)
      go_simp
      refine hK _ _ ?_
      clear hK K hcell g5
      repeat (first | (refine wpF_f0 (fun K hK => ?_); go_simp; refine hK _ ?_; clear hK K) | (refine wpF_load1 rfl rfl rfl (by kernel_rfl) (by assumption) (by simp) (fun K hK => ?_); go_simp; refine hK _ ?_; clear hK K) | (refine wpF_loadN rfl rfl rfl (by assumption) (by assumption) (by kernel_rfl) (by kernel_rfl) (by simp) (fun K hK => ?_); go_simp; refine hK _ ?_; clear hK K))
      obtain ⟨-, -, -, -, -, -, f0, -⟩ := rcells_all b5
      have d0 := b5.cell 0
      refine wpF_a3 (fun K hK => ?_); rw [if_pos (by rfl)]
      go_simp
      refine hK _ _ ?_
      clear hK K f0 d0
      have o6 := own_set o5 b5 (by decide) 0 (.slice A5 (k + 1) c5)
      have b6 := b5.set 0 (.slice A5 (k + 1) c5)
      have f6 := f5.setCell (p := ⟨B, 0, none⟩) (by exact fun _ => .inl rfl) (.slice A5 (k + 1) c5)
      clear o5 b5 f5
      generalize w5.setCell ⟨B, 0, none⟩ (.slice A5 (k + 1) c5) = w6 at *
      refine wpF_nil ?_
      have hsk : ∀ q, Value.ownBlock (.slice Ak k ck) = some q → B ≤ q := H4.out.sk
      have hb6 := hb.trans (f6.below (B := B) (by omega) (fun q hq e => e.elim (fun e => by omega) (fun e => by have := hsk q e.symm; omega)))
      have hs6 : B ≤ w6.heap.size := Nat.le_trans (by omega) f6.size
      have o4 : w6.ownsRow 0 5 1 (.slice (some ⟨g3, 0, none⟩) 64 64) 64 (bts (List.replicate 64 0)) := own_fr O4.out f6 (fun q hq e => e.elim (fun e => own_blk_ne O4.out H4.out.blk (by decide) (e ▸ hq.symm)) (fun e => own_ne O4.out hkk (by decide) q hq e.symm))
      have h6 := RD.more (v := .slice (some ⟨g3, 0, none⟩) 64 64) (bs := List.replicate 64 0) H4.out f6 b6 (by rw [fresh_len]; exact o6) o4 (by rw [fresh_len]; omega) (fun q hq => by
          show B ≤ q
          rcases n5 with e | ⟨g, e, hg⟩
          · exact hsk q (e ▸ hq)
          · have : q = g := by rw [hq] at e; exact Option.some.inj e
            omega) (fun q hq => by cases hq; show B ≤ g3; omega)
      rw [fresh_more] at h6
      have H6 := Lib.hid h6
      have HB6 := Lib.hid hb6
      clear h6 hb6 o4 o6 b6 f6 H4 O4 hkk n5 hb c0
      go_wp2_with fail
      go_roundw
      case rel => exact ⟨k + 1, by go_num, hlt, ⟨_, _, H6.out⟩, HB6.out, hs6⟩
      case measure => simp [intOf]; omega
    · obtain rfl : k = n := by omega
      have HD := Lib.hid hd
      clear hd
      go_wp2_with fail
      go_ret
      exact ⟨B, rfl, ⟨_, _, _, _, HD.out⟩, hb⟩
end Go.Proofs.Ytnnhelknpnkphaa
