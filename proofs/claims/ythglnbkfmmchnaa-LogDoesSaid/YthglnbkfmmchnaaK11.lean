/- Guarded loads of arrays and structs; more. -/
import Derived.Test.YthglnbkfmmchnaaK10
namespace Go
open Go.RowKit
theorem exec_loadN {P : Program} {o : Oper} {a : Act} {w : World} {t : TypeId} {x : Operand} {b off n : Nat} {cs : List Value} (ho : o.op = .load t x) (hx : a.eval x = .pointer (some ⟨b, off, none⟩))
    (hc : w.rangeAt b off cs) (hn : cs.length = n) (hu : (P.underlying t).map TypeDesc.isRow = some true) (hi : (P.info? t).map (·.size) = some n) : (execOp a.eval o).run P w = .ok (.value (.agg cs.toArray)) w := by
  subst hn
  obtain ⟨d, hd, hd2⟩ := Option.map_eq_some_iff.1 hu
  unfold execOp
  simp only [ho, hx, Instr.loadAt, Instr.sureAddr, Sem.run_bind, Sem.run_pure, Result.andThen_ok, run_loadVar_mid w b off t cs d hc hd hd2 hi]
theorem wpList_loadNg {P : Program} {ops : Array Oper} {rest : List Oper} {op : Oper} {a : Act} {w : World} {Q : Exit → Act → World → Prop} {t : TypeId} {x : Operand} {b o n : Nat} {cs : List Value} (hw : Region.wanted op (yielded ops a.tmps) = true) (ho : op.op = .load t x)
    (hx : a.eval x = .pointer (some ⟨b, o, none⟩)) (hc : w.rangeAt b o cs) (hn : cs.length = n) (hu : (P.underlying t).map TypeDesc.isRow = some true) (hi : (P.info? t).map (·.size) = some n)
    (h : wpList P ops Q rest (a.put op.dst (.agg cs.toArray)) w) : wpList P ops Q (op :: rest) a w :=
  wpList_valueg hw (exec_loadN ho hx hc hn hu hi) h
end Go
