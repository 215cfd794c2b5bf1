/- sha: New, Len, Copy. -/
import Derived.Test.YthocpbkgcpgpdaaDoorSha3
namespace Go.Proofs.YthocpbkgcpgpdaaDoor.Sha
open Go.RowKit

structure SSt where
  h : List UInt32
  over : List UInt8
  n : Nat
def SSt.cells (S : SSt) : List Value := wds S.h ++ (bts S.over ++ [.int .i64 S.n])
structure ShaAt (w : World) (p : Nat) (S : SSt) : Prop where
  blk : Blk w p S.cells.toArray 81
  h8 : S.h.length = 8
  o64 : S.over.length = 64
theorem wds_length (l : List UInt32) : (wds l).length = l.length := by simp [wds]
theorem SSt.cells_length {S : SSt} (h8 : S.h.length = 8) (o64 : S.over.length = 64) : S.cells.length = 73 := by simp [SSt.cells, wds_length, bts_length, h8, o64]
theorem ShaAt.fr {w w' : World} {p : Nat} {S : SSt} {T : Nat → Prop} (h : ShaAt w p S) (f : Fr T w w') (ht : ¬ T p) : ShaAt w' p S := ⟨h.blk.fr f ht, h.h8, h.o64⟩
theorem ShaAt.below {w w' : World} {p : Nat} {S : SSt} (h : ShaAt w p S) (f : Below w.heap.size w w') : ShaAt w' p S := h.fr (T := fun _ => False) (Fr.of_below f _) (fun h => h)
theorem ShaAt.n72 {w : World} {p : Nat} {S : SSt} (h : ShaAt w p S) : w.cell? ⟨p, 72, none⟩ = some (.int .i64 S.n) := by
  rw [h.blk.cell]
  have e1 := wds_length S.h
  have e2 := bts_length S.over
  rw [h.h8] at e1; rw [h.o64] at e2
  simp only [SSt.cells, List.getElem?_toArray]
  rw [List.getElem?_append_right (by omega), List.getElem?_append_right (by omega), e1, e2]
  rfl
def SSt.fresh : SSt := ⟨hW, List.replicate 64 0, 0⟩
theorem build_new (w : World) : (Instr.build 81 #[(0, .agg (wds hW).toArray)]).run Tryd.prog w = .ok (.agg SSt.fresh.cells.toArray) w := by kernel_rfl
theorem cells_one (S : SSt) : ∀ v ∈ S.cells, v.oneCell' = true := by
  intro v hv
  rcases List.mem_append.1 hv with h | h
  · exact wds_one _ v h
  · rcases List.mem_append.1 h with h | h
    · exact bts_one _ v h
    · rw [List.mem_singleton.1 h]; rfl

set_option maxHeartbeats 1000000 in
theorem snew_any (w : World) : Calls Tryd.prog 45 #[] w fun e w' => ∃ p, e = .returned (.pointer (some ⟨p, 0, none⟩)) ∧ w.heap.size ≤ p ∧ ShaAt w' p SSt.fresh ∧ Below w.heap.size w w' := by
  go_enter Tryd.func45, Tryd.ntmps45
  go_wp2_with fail
  refine (start_any w).mono ?_
  rintro e w1 ⟨rfl, hb⟩
  have hbn := build_new w1
  generalize hHW : (wds hW).toArray = HW at *
  clear hHW
  have hpl : ∀ v ∈ SSt.fresh.cells, v.oneCell' = true := cells_one _
  have hin : (Tryd.prog.info? 81).map (·.size) = some SSt.fresh.cells.length := by kernel_rfl
  generalize hFC : SSt.fresh.cells = FC at *
  have HFC := Lib.hid hFC
  clear hFC
  go_simp
  refine (‹∀ (a : Act) (w : World), wpList _ _ _ _ a w → _›) _ _ ?_
  refine wpList_value rfl (exec_build hbn rfl (by simp [Act.eval])) ?_
  go_wp2
  go_ret
  refine ⟨_, rfl, hb.size, ⟨?_, rfl, by simp [SSt.fresh]⟩, hb.alloc (by exact hb.size) _⟩
  rw [HFC.out]
  exact Blk.new w1 _ _

set_option maxHeartbeats 1000000 in
theorem copy_any {w : World} {p : Nat} {S : SSt} (h : ShaAt w p S) : Calls Tryd.prog 57 #[.pointer (some ⟨p, 0, none⟩)] w fun e w' => ∃ q, e = .returned (.pointer (some ⟨q, 0, none⟩)) ∧ w.heap.size ≤ q ∧ ShaAt w' q S ∧ Below w.heap.size w w' := by
  have hl := SSt.cells_length h.h8 h.o64
  have hr : w.rangeAt p 0 S.cells := h.blk.range' 0 _ (fun j v hv => by rw [Nat.zero_add]; simpa using hv)
  go_enter Tryd.func57, Tryd.ntmps57
  go_wp2_with (first
    | (refine wpList_loadN rfl rfl rfl (by assumption) (by assumption) (by kernel_rfl) (by kernel_rfl) ?_)
    | (refine wpList_alloc1 (e := 81) (n := 73) rfl rfl (by kernel_rfl) (fun zc hzc => ?_))
    | (refine wpList_store1 (cs := S.cells) rfl rfl rfl rfl hl (by assumption) (by kernel_rfl) (cells_one S) ?_))
  go_ret
  exact ⟨_, rfl, Nat.le_refl _, ⟨Blk.new w _ _, h.h8, h.o64⟩, (Below.refl _ w).alloc (Nat.le_refl _) _⟩

end Go.Proofs.YthocpbkgcpgpdaaDoor.Sha
