/- frame: awake. -/
import Derived.Test.YthglnbkfmmchnaaFrame4
import Derived.Lib.SlBytesConst
namespace Go.Proofs.Ythglnbkfmmchnaa
open Go.RowKit
set_option maxRecDepth 100000

theorem exec_convert {P : Program} {o : Oper} {a : Act} {src dst : TypeId} {x : Operand} {v v' : Value} {w w1 : World} (ho : o.op = .convert src dst x) (hx : a.eval x = v) (h : (convert src dst v).run P w = .ok v' w1) : (execOp a.eval o).run P w = .ok (.value v') w1 := by
  subst hx
  unfold execOp
  simp only [ho]
  exact exec_v h
theorem rd_rowF {w : World} {g n c : Nat} {cs : Array Value} {t : TypeId} {fz : Nat × Nat} {l : List UInt8} (h : w.heap[g]? = some (.cells cs t fz)) (hl : cs = (bts l).toArray) (hn : l.length = n) (hc : n ≤ c) (hm : n ≤ maxLen) : Rd w (.slice (some ⟨g, 0, none⟩) n c) l := by
  subst hn hl
  refine ⟨hm, .inr ⟨g, 0, c, rfl, hc, fun j v hv => ?_⟩⟩
  rw [cell_of_row w g _ _ t fz h, Nat.zero_add]
  simpa using hv
end Go.Proofs.Ythglnbkfmmchnaa
