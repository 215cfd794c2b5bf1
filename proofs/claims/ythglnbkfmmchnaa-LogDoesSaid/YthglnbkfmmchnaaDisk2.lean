/- The disk's Write, walked. -/
import Derived.Test.YthglnbkfmmchnaaDisk1
namespace Go.Proofs.Ythglnbkfmmchnaa.Dsk
open Go.RowKit
set_option maxRecDepth 100000

theorem infoWrote : (Try.prog.info? 95).map (fun i => (i.zero, i.size, i.bytes)) = some (some (.agg (#[.int .i64 0] ++ Array.replicate 64 (.int .u8 0))), 65, 72) := by kernel_rfl
theorem infoBlock : (Try.prog.info? 81).map (fun i => (i.zero, i.size, i.bytes)) = some (some (.agg (Array.replicate 64 (.int .u8 0))), 64, 64) := by kernel_rfl
theorem infoInt : (Try.prog.info? 3).map (fun i => (i.zero, i.size, i.bytes)) = some (some (.int .i64 0), 1, 8) := by kernel_rfl
theorem run_build_wrote (w : World) (i : Int) (bs : List Value) (hl : bs.length = 64) :
    (Instr.build 95 #[(0, .int .i64 i), (1, .agg bs.toArray)]).run Try.prog w = .ok (.agg (.int .i64 i :: bs).toArray) w := by
  obtain ⟨iw, hw, hwz, hws, hwb⟩ := info_parts infoWrote
  obtain ⟨ib, hb, hbz, hbs, hbb⟩ := info_parts infoBlock
  obtain ⟨ii, hi, hiz, his, hib⟩ := info_parts infoInt
  simp [Instr.build, zeroValue, typeInfo, hw, hwz, run_underlying Try.underlying95, sizeOf, hb, hbs, hi, his]
  rw [fill_cons _ _ _ _ _ 0 1 rfl rfl (by simp [Value.cells]), fill_cons _ _ _ _ _ 1 64 rfl (by simp [Value.cells, hl]) (by simp [Value.cells])]
  simp [Instr.fill, Value.cells]

/-- A written block's cells. -/
def wcell (x : Nat × List UInt8) : List Value := .int .i64 x.1 :: bts x.2
def mcells (l : List (Nat × List UInt8)) : List Value := l.flatMap wcell
theorem mcells_append (a b : List (Nat × List UInt8)) : mcells (a ++ b) = mcells a ++ mcells b := by simp [mcells]

def DSt.wrote (D : DSt) (i : Nat) (bs : List UInt8) : DSt := DSt.did { D with mem := D.mem ++ [(i, bs)] }
theorem DSt.did_mem (D : DSt) : D.did.mem = D.mem := by unfold DSt.did; split <;> (try split) <;> rfl
theorem DSt.did_kept (D : DSt) : D.did.kept = D.kept := by unfold DSt.did; split <;> (try split) <;> rfl
set_option maxHeartbeats 1000000 in
theorem write_ok {w : World} {p kb n : Nat} {mv : Value} {D : DSt} (i : Nat) (hi1 : (i : Int) < n) (g o c : Nat) (bs : List UInt8) (hl : bs.length = 64) (hr : w.rangeAt g o (bts bs))
    (h : Blk w p (dcells kb n mv D.out D.armed D.left D.calls) 68) (hm : w.ownsRow 0 95 65 mv D.mem.length (mcells D.mem)) (hlen : D.mem.length < 2 ^ 30) (ho : D.out = false) :
    Calls Try.prog 77 #[.pointer (some ⟨p, 0, none⟩), .int .i64 i, .slice (some ⟨g, o, none⟩) 64 c] w fun e w' => e = .returned (.int .i64 0) ∧
      ∃ mv', Blk w' p (dcells kb n mv' (D.wrote i bs).out (D.wrote i bs).armed (D.wrote i bs).left (D.wrote i bs).calls) 68 ∧ w'.ownsRow 0 95 65 mv' (D.wrote i bs).mem.length (mcells (D.wrote i bs).mem) ∧
        Fr (fun k => k = p ∨ some k = mv.ownBlock) w w' ∧ NewOr w mv mv' := by
  obtain ⟨c0, c1, c2, c3, c4, c5, f0, f1, f2, f3, f4, f5⟩ := dcells_all h
  obtain ⟨kept, mem, out, armed, left, calls⟩ := D
  dsimp only at *
  subst ho
  obtain ⟨iw, hw, hwz, hws, hwb⟩ := info_parts infoWrote
  have hi0 : (0 : Int) ≤ (i : Int) := by omega
  have hsa := run_arrayAt_k Try.underlying81 (some ⟨g, o, none⟩) 64 c (Nat.le_refl _)
  have hbl : (bts bs).length = 64 := by rw [bts_length, hl]
  have hbw := fun w => run_build_wrote w i (bts bs) hbl
  have hbs := fun w => run_buildSlice_one (P := Try.prog) Try.underlying66 hw hwz (.agg (.int .i64 i :: bts bs).toArray) (by rw [hws]; simp [Value.cells, hbl]) (by omega) (by omega) w
  go_enter Try.func77, Try.ntmps77
  go_wp2
  refine wp_region_float (Fr (fun _ => False)) [(0, 0), (1, 0), (2, 0), (3, 0), (4, 1), (5, 0), (6, 0), (7, 0), (8, 1), (9, 0), (10, 2), (11, 3), (12, 0), (13, 0), (14, 3)] _ (by kernel_rfl) (by kernel_rfl) (by simp only [List.map_cons, List.map_nil, Array.getD_eq_getD_getElem?, List.getElem?_toArray, List.getElem?_cons_succ, List.getElem?_cons_zero, Option.getD_some]; rfl) rfl (by kernel_rfl) (fun _ _ d _ _ h => by cases d <;> exact h) (Fr.refl _) (fun _ _ _ => Fr.trans) ?_
  have d1 : w.drew.cell? ⟨p, 1, none⟩ = some mv := c1
  have dr : w.drew.rangeAt g o (bts bs) := hr.drew
  have dm := hm.drew
  have db := h.drew
  have df := (Fr.refl (fun k => k = p ∨ some k = mv.ownBlock) w).drew
  clear c0 c1 c2 c3 c4 c5 f0 f1 f2 f3 f4 f5 hr h
  generalize w.drew = w0 at *
  iterate 9 (first | (refine wpF_f0 (fun K hK => ?_); go_simp; refine hK _ ?_; clear hK K) | (refine wpF_load1 rfl rfl rfl (by kernel_rfl) (by assumption) (by simp) (fun K hK => ?_); go_simp; refine hK _ ?_; clear hK K) | (refine wpF_loadN rfl rfl rfl (by assumption) (by assumption) (by kernel_rfl) (by kernel_rfl) (by simp) (fun K hK => ?_); go_simp; refine hK _ ?_; clear hK K))
  refine wpF_f0v (fun w' => exec_build (hbw w') rfl (by simp [Act.eval])) (by rfl) (fun K hK => ?_)
  (go_simp; refine hK _ ?_; clear hK K)
  refine wpF_a2 (fun K hK => ?_); rw [if_pos (by rfl)]
  refine wp_value (exec_buildSlice (hbs _) rfl (by simp [Act.eval])) ?_
  go_simp
  refine hK _ _ ((Fr.refl _ _).alloc _) ?_
  clear hK K hbs hbw hsa dr d1
  have hcell : ∀ j u, (Value.int .i64 (i : Int) :: bts bs)[j]? = some u → (w0.alloc (.cells (.int .i64 (i : Int) :: bts bs).toArray 95)).cell? ((⟨w0.heap.size, 0, none⟩ : Addr).add j) = some u := fun j u hu => by
    rw [Addr.add_mid, Nat.zero_add, (Blk.new w0 _ _).cell j]; simpa using hu
  replace dm := dm.alloc (.cells (.int .i64 (i : Int) :: bts bs).toArray 95)
  replace db := db.alloc (.cells (.int .i64 (i : Int) :: bts bs).toArray 95)
  replace df := df.alloc (.cells (.int .i64 (i : Int) :: bts bs).toArray 95)
  generalize w0.alloc (.cells (.int .i64 (i : Int) :: bts bs).toArray 95) = w1 at *
  refine wpF_a3 (fun K hK => ?_); rw [if_pos (by rfl)]
  refine wp_append_k rfl 0 Try.underlying66 infoWrote (by simp [Value.cells]) (by decide) (v := mv) rfl dm (news := .int .i64 (i : Int) :: bts bs) rfl (by simp [hbl]) (.inr ⟨_, rfl, hcell⟩) (by intro v hv; rcases List.mem_cons.1 hv with rfl | hv; exact rfl; exact bts_one _ v hv) (by unfold maxLen; omega) (by omega) (by omega) ?_
  intro mv' w2 dm2 hg2 hn2
  replace hn2 : NewOr w mv mv' := hn2.imp id (fun ⟨g, h1, h2⟩ => ⟨g, h1, Nat.le_trans df.size h2⟩)
  obtain ⟨A', c', rfl⟩ := own_form dm2
  have dp := own_blk_ne dm db (by decide)
  replace db := db.grown hg2 dp
  replace df := df.grown hg2 (fun k _ hk => .inr hk)
  go_simp
  refine hK _ _ ?_
  clear hK K hcell dm hg2
  repeat (first | (refine wpF_f0 (fun K hK => ?_); go_simp; refine hK _ ?_; clear hK K) | (refine wpF_load1 rfl rfl rfl (by kernel_rfl) (by assumption) (by simp) (fun K hK => ?_); go_simp; refine hK _ ?_; clear hK K) | (refine wpF_loadN rfl rfl rfl (by assumption) (by assumption) (by kernel_rfl) (by kernel_rfl) (by simp) (fun K hK => ?_); go_simp; refine hK _ ?_; clear hK K))
  obtain ⟨c0, c1, c2, c3, c4, c5, f0, f1, f2, f3, f4, f5⟩ := dcells_all db
  refine wpF_a3 (fun K hK => ?_); rw [if_pos (by rfl)]
  go_simp
  refine hK _ _ ?_
  clear hK K
  have hd := own_set dm2 db (by decide) 1 (.slice A' (mem.length + 1) c')
  replace db := db.set 1 (.slice A' (mem.length + 1) c')
  replace df := df.setCell (p := ⟨p, 1, none⟩) (by exact fun _ => .inl rfl) (.slice A' (mem.length + 1) c')
  clear dm2 dp c0 c1 c2 c3 c4 c5 f0 f1 f2 f3 f4 f5
  generalize w2.setCell ⟨p, 1, none⟩ (.slice A' (mem.length + 1) c') = w3 at *
  refine wpF_nil ?_
  go_wp2_with (go_at_call 79; refine (did_any (D := ⟨kept, mem ++ [(i, bs)], false, armed, left, calls⟩) db).mono ?_; rintro e w4 ⟨rfl, hb4, hf4⟩)
  go_ret
  refine ⟨rfl, _, hb4, ?_, df.step hf4 (fun _ _ e => .inl e), hn2⟩
  have e : (DSt.wrote ⟨kept, mem, false, armed, left, calls⟩ i bs).mem = mem ++ [(i, bs)] := by unfold DSt.wrote; rw [DSt.did_mem]
  rw [e, mcells_append, List.length_append]
  refine own_fr (T := fun k => k = p) ?_ hf4 (fun k hk e => own_blk_ne hd db (by decide) (e ▸ hk.symm))
  simpa [mcells, wcell] using hd

end Go.Proofs.Ythglnbkfmmchnaa.Dsk
