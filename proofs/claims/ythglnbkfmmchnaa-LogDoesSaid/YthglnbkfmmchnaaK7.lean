/- A copy of what is read; a new variable with its noughts. -/
import Derived.Test.YthglnbkfmmchnaaK6
namespace Go
open Go.RowKit

theorem wpList_copy_rd {P : Program} {ops : Array Oper} {rest : List Oper} {w : World} {op : Oper} {a : Act} {Q : Exit → Act → World → Prop} {s x : Operand} {dT sT e t : TypeId} (hg : op.guard = none)
    (ho : op.op = .call { callee := .builtin .copy, args := #[s, x], argTypes := #[dT, sT] }) (hu : P.underlying dT = some (.slice e)) (hs : (P.info? e).map (·.size) = some 1)
    {b o dLen dCap : Nat} {vx : Value} {l : List UInt8} {cs : Array Value} (hd : a.eval s = .slice (some ⟨b, o, none⟩) dLen dCap) (hx : a.eval x = vx) (hr : Rd w vx l) (hl : l.length ≤ dLen) (hb : Blk w b cs t) (hcs : o + l.length ≤ cs.size)
    (h : ∀ w', Blk w' b (cs.toList.take o ++ bts l ++ cs.toList.drop (o + l.length)).toArray t → Fr (fun k => k = b) w w' → wpList P ops Q rest (a.put op.dst (.int .i64 l.length)) w') : wpList P ops Q (op :: rest) a w := by
  by_cases h0 : l = []
  · subst h0
    obtain ⟨A, c, rfl⟩ := hr.slice
    refine wpList_plain hg fun K hK => ?_
    have hr := run_copy_none (P := P) w dT sT op.type e (some ⟨b, o, none⟩) A dLen dCap 0 c hu hs (Nat.zero_min _)
    unfold Oper.wp execOp
    simp only [ho, resolve, invoke, builtin, Sem.run_bind, Sem.run_pure, Result.andThen_ok, List.map_toArray, List.map_cons, List.map_nil, hd, hx, List.length_nil, hr]
    refine hK _ _ (h w ?_ (Fr.refl _ w))
    have e1 : (cs.toList.take o ++ bts [] ++ cs.toList.drop (o + ([] : List UInt8).length)).toArray = cs := by simp [bts]
    rw [e1]; exact hb
  · rcases hr.2 with ⟨A, c, rfl, h1⟩ | ⟨b2, o2, c, rfl, hc, hra⟩
    · exact absurd h1 h0
    · refine wpList_copy_k (k := l.length) (cs := bts l) hg ho hu hs hd hx (bts_length l) (Nat.min_eq_left hl).symm hra (hb.there o _ hcs) (bts_one l) ?_
      refine h _ ?_ ((Fr.refl _ w).setCells (b := b) (bts l) o (fun _ => rfl))
      have := Blk.setCells (bts l) o hb (by rw [bts_length]; exact hcs)
      rwa [bts_length] at this
theorem wpList_allocZ {P : Program} {ops : Array Oper} {rest : List Oper} {o : Oper} {a : Act} {w : World} {Q : Exit → Act → World → Prop} {e : TypeId} {zs : Array Value} (hgd : o.guard = none) (ho : o.op = .alloc e)
    (hi : (P.info? e).map (fun i => i.zero.map fun z => z.cells) = some (some zs))
    (h : wpList P ops Q rest (a.put o.dst (.pointer (some ⟨w.heap.size, 0, none⟩))) (w.alloc (.cells zs e))) : wpList P ops Q (o :: rest) a w := by
  obtain ⟨i, hi0, hi1⟩ := Option.map_eq_some_iff.1 hi
  obtain ⟨z, hz, hzs⟩ := Option.map_eq_some_iff.1 hi1
  subst hzs
  refine wpList_value hgd ?_ h
  unfold execOp
  simp [ho, Instr.alloc, zeroValue, typeInfo, hi0, hz, newVar, newRow]
end Go
