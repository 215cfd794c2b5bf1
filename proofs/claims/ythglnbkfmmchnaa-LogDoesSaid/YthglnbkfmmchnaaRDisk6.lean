/- The document's disk: New. -/
import Derived.Test.YthglnbkfmmchnaaRDisk1
namespace Go.Proofs.Ythglnbkfmmchnaa.Dsk
open Go.RowKit
set_option maxRecDepth 100000

theorem make64 (w : World) : (Instr.makeSlice 32 (.int .i64 64) (.int .i64 64)).run Try.prog w = .ok (.slice (some ⟨w.heap.size, 0, none⟩) 64 64) (w.alloc (.cells (Array.replicate 64 (.int .u8 0)) 5)) := by kernel_rfl
theorem exec_makeSlice {P : Program} {o : Oper} {a : Act} {t : TypeId} {x y : Operand} {vx vy v : Value} {w w1 : World} (ho : o.op = .makeSlice t x y) (hx : a.eval x = vx) (hy : a.eval y = vy) (h : (Instr.makeSlice t vx vy).run P w = .ok v w1) : (execOp a.eval o).run P w = .ok (.value v) w1 := by
  subst hx hy
  unfold execOp
  simp only [ho]
  exact exec_v h
theorem build_kr (A : Option Addr) (n c : Nat) (w : World) : (Instr.buildSlice 22 1 #[(0, .slice A n c)]).run Try.prog w = .ok (.slice (some ⟨w.heap.size, 0, none⟩) 1 1) (w.alloc (.cells #[.slice A n c] 32)) := by kernel_rfl
theorem build_rd (w : World) : (Instr.build 62 #[]).run Try.prog w = .ok (.agg #[.slice none 0 0, .slice none 0 0, .bool false, .bool false, .int .i64 0, .int .i64 0]) w := by kernel_rfl
/-- One block more. -/
theorem RD.more {S : Nat → Prop} {w w' : World} {p : Nat} {kv kv' mv v : Value} {ks : List Value} {ms : List (Nat × Value)} {D : DSt} {bs : List UInt8} (h : RD S w p kv mv ks ms D) (f : Fr (fun k => k = p ∨ some k = kv.ownBlock) w w')
    (hb : Blk w' p (rcells kv' mv D.out D.armed D.left D.calls) 62) (hk : w'.ownsRow 0 32 1 kv' (D.kept.length + 1) (ks ++ [v])) (hv : w'.ownsRow 0 5 1 v 64 (bts bs))
    (hf : D.kept.length < 4096) (sk : ∀ k, kv'.ownBlock = some k → S k) (sv : ∀ k, v.ownBlock = some k → S k) : RD S w' p kv' mv (ks ++ [v]) ms { D with kept := D.kept ++ [bs] } where
  blk := hb
  kept := by simpa using hk
  kl := by simpa using h.kl
  kr := fun j hj => by
    have hj' : j < D.kept.length + 1 := by simpa using hj
    show World.ownsRow _ 0 _ 1 ((ks ++ [v]).getD j undef) 64 (bts ((D.kept ++ [bs]).getD j []))
    rcases Nat.lt_or_ge j D.kept.length with hlt | hge
    · rw [getD_left (by rw [h.kl]; exact hlt), getD_left hlt]
      exact own_fr (h.kr j hlt) f (fun k hk e => e.elim (fun e => own_blk_ne (h.kr j hlt) h.blk (by decide) (e ▸ hk.symm)) (fun e => own_ne (h.kr j hlt) h.kept (by decide) k hk e.symm))
    · have e : j = D.kept.length := by omega
      rw [getD_last (by rw [h.kl]; exact e), getD_last e]
      exact hv
  mem := own_fr h.mem f (fun k hk e => e.elim (fun e => own_blk_ne h.mem h.blk (by decide) (e ▸ hk.symm)) (fun e => own_ne h.mem h.kept (by decide) k hk e.symm))
  ml := h.ml
  mr := fun j hj => ⟨(h.mr j hj).1, own_fr (h.mr j hj).2 f (fun k hk e => e.elim (fun e => own_blk_ne (h.mr j hj).2 h.blk (by decide) (e ▸ hk.symm)) (fun e => own_ne (h.mr j hj).2 h.kept (by decide) k hk e.symm))⟩
  idx := fun x hx => by have := h.idx x hx; simp; omega
  few := by simp; omega
  pos := h.pos
  rng := h.rng
  sp := h.sp
  sk := sk
  sm := h.sm
  skr := fun j hj k hk => by
    have hj' : j < D.kept.length + 1 := by simpa using hj
    rcases Nat.lt_or_ge j D.kept.length with hlt | hge
    · rw [getD_left (by rw [h.kl]; exact hlt)] at hk
      exact h.skr j hlt k hk
    · have e : j = D.kept.length := by omega
      rw [getD_last (by rw [h.kl]; exact e)] at hk
      exact sv k hk
  smr := h.smr
theorem fresh_more (k : Nat) : ({ DSt.fresh k with kept := (DSt.fresh k).kept ++ [List.replicate 64 0] } : DSt) = DSt.fresh (k + 1) := by
  show (⟨List.replicate k (List.replicate 64 0) ++ [List.replicate 64 0], [], false, false, 0, 0⟩ : DSt) = ⟨List.replicate (k + 1) (List.replicate 64 0), [], false, false, 0, 0⟩
  rw [List.replicate_succ' (n := k)]
theorem fresh_len (k : Nat) : (DSt.fresh k).kept.length = k := List.length_replicate

end Go.Proofs.Ythglnbkfmmchnaa.Dsk
