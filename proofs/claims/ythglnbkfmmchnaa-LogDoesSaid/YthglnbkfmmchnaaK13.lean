/- Append of a literal of rows. -/
import Derived.Test.YthglnbkfmmchnaaK12
namespace Go
open Go.RowKit
theorem wpList_pushN {P : Program} {ops : Array Oper} {rest : List Oper} {o1 o2 : Oper} {a : Act} {w : World} {Q : Exit → Act → World → Prop} {t e : TypeId} {tm : Tmp} {s : Operand} {k size bytes : Nat} {parts : Array (Nat × Operand)} {ps : Array (Nat × Value)} {news xs : List Value} {z : Value} {base n : Nat} {v : Value}
    (hg1 : o1.guard = none) (ho1 : o1.op = .buildSlice t k parts) (hd1 : o1.dst = some tm) (hp : (parts.map fun (y : Nat × Operand) => (y.1, a.eval y.2)) = ps)
    (hbuild : (Instr.buildSlice t k ps).run P w = .ok (.slice (some ⟨w.heap.size, 0, none⟩) k k) (w.alloc (.cells news.toArray e)))
    (hg2 : o2.guard = none) (ho2 : o2.op = .call { callee := .builtin .append, args := #[s, .tmp tm], argTypes := #[t, t] }) (hst : s ≠ .tmp tm) (htm : tm < a.tmps.size)
    (ht : P.underlying t = some (.slice e)) (hinfo : (P.info? e).map (fun i => (i.zero, i.size, i.bytes)) = some (some z, size, bytes)) (hz : z.cells.size = size) (hsz : 0 < size) (hk : news.length = k * size) (h1 : ∀ u ∈ news, u.oneCell' = true)
    (hs : a.eval s = v) (hown : w.ownsRow base e size v n xs) (h63 : n + k ≤ maxLen) (hby : (n + k) * bytes ≤ 140737488355328) (hbase : base ≤ w.heap.size)
    (h : ∀ v' w', w'.ownsRow base e size v' (n + k) (xs ++ news) → Fr (fun i => some i = v.ownBlock) w w' → NewOr w v v' → wpList P ops Q rest ((a.put (some tm) (.slice (some ⟨w.heap.size, 0, none⟩) k k)).put o2.dst v') w') : wpList P ops Q (o1 :: o2 :: rest) a w := by
  refine wpList_value hg1 (exec_buildSlice hbuild ho1 hp) ?_
  rw [hd1]
  have f1 : Fr (fun i => some i = v.ownBlock) w (w.alloc (.cells news.toArray e)) := (Fr.refl _ w).alloc _
  have hown2 := own_fr (T := fun _ => False) hown ((Fr.refl _ w).alloc (.cells news.toArray e)) (fun _ _ h => h)
  have hcell : ∀ j u, news[j]? = some u → (w.alloc (.cells news.toArray e)).cell? ((⟨w.heap.size, 0, none⟩ : Addr).add j) = some u := fun j u hu => by
    rw [Addr.add_mid, Nat.zero_add, (Blk.new w _ _).cell]; simpa using hu
  refine wpList_append_k (base := base) hg2 ho2 ht hinfo hz hsz (v := v) (by rw [Act.eval_put (fun d hd => by cases hd; exact hst)]; exact hs) hown2 (A := some ⟨w.heap.size, 0, none⟩) (m := k) (c := k) (news := news) (by simp [Act.eval, Act.put, htm]) hk (.inr ⟨_, rfl, hcell⟩) h1 h63 hby (by simp; omega) ?_
  intro v' w' h1 h2 h3
  refine h v' w' h1 (f1.grown h2 (fun i _ e => e)) ?_
  exact Fr.newOr h3 (by simp)
end Go
