/- Slices of what is read; of arrays. -/
import Derived.Test.YthglnbkfmmchnaaFR2
namespace Go
open Go.RowKit

theorem exec_slice_rd {P : Program} {o : Oper} {a : Act} {t e : TypeId} {x l : Operand} {v : Value} {w0 : World} {s : List UInt8} {L : Nat} {kl : IntKind} {zl : Int} (h : Rd w0 v s) (hL : L ≤ s.length) (ho : o.op = .slice t x (some l) none none)
    (hx : a.eval x = v) (hl : a.eval l = .int kl zl) (el : zl = (L : Int)) (ht : P.underlying t = some (.slice e)) (hs : (P.info? e).map (·.size) = some 1) :
    ∃ v', (∀ w, (execOp a.eval o).run P w = .ok (.value v') w) ∧ Rd w0 v' (s.drop L) ∧ v'.ownBlock = v.ownBlock := by
  subst el
  have hel : P.elem t = e := by simp [Program.elem, ht]
  subst hel
  have hex : ∀ A c, v = .slice A s.length c → ∀ w, (execOp a.eval o).run P w = .ok (.value (sliced A L s.length c 1)) w := by
    rintro A c rfl w
    unfold execOp
    simp only [ho]
    refine exec_v ?_
    simp only [Option.map_some, Option.map_none, hx, hl]
    rw [run_sliceAt_slice _ t _ _ _ _ ht, run_slice_l _ t _ _ _ ht kl L (by omega) (by omega), run_size1 hs]
    simp only [Result.andThen, Int.toNat_natCast]
  rcases h.2 with ⟨A, c, rfl, rfl⟩ | ⟨b, o', c, rfl, hc, hr⟩
  · refine ⟨_, hex A c rfl, ⟨by simp, .inl ⟨if c = L then A else A.map (·.add (L * 1)), c - L, ?_, by simp⟩⟩, ?_⟩
    · simp only [sliced, List.length_nil, Nat.zero_sub]
    · obtain rfl : L = 0 := by simpa using hL
      simp only [sliced]
      cases A <;> simp [Value.ownBlock, Addr.add] <;> split <;> rfl
  · refine ⟨_, hex _ c rfl, ⟨by have := h.1; simp; omega, ?_⟩, ?_⟩
    · simp only [sliced]
      by_cases hcl : c = L
      · rw [if_pos hcl]
        refine .inl ⟨some ⟨b, o', none⟩, c - L, ?_, List.drop_eq_nil_of_le (by omega)⟩
        rw [show s.length - L = 0 by omega]
      · rw [if_neg hcl]
        refine .inr ⟨b, o' + L, c - L, ?_, by simp; omega, fun j u hu => ?_⟩
        · simp [Addr.add]
        · rw [Nat.add_assoc]
          refine hr (L + j) u ?_
          rw [bts_get] at hu ⊢
          rw [List.getElem?_drop] at hu
          exact hu
    · simp only [sliced]
      split
      · rfl
      · simp only [Value.ownBlock, Option.map_some, Option.some.injEq, Addr.add]
        split <;> rfl
theorem exec_slice_arr {P : Program} {o : Oper} {a : Act} {t e : TypeId} {x l : Operand} {b off n L : Nat} {kl : IntKind} {zl : Int} (ho : o.op = .slice t x (some l) none none)
    (hx : a.eval x = .pointer (some ⟨b, off, none⟩)) (hl : a.eval l = .int kl zl) (el : zl = (L : Int)) (hL : L < n)
    (ht : P.underlying t = some (.array n e)) (hs : (P.info? e).map (·.size) = some 1) (w : World) :
    (execOp a.eval o).run P w = .ok (.value (.slice (some ⟨b, off + L, none⟩) (n - L) (n - L))) w := by
  subst el
  have hel : P.elem t = e := by simp [Program.elem, ht]
  have hln : P.arrayLen t = n := by simp [Program.arrayLen, ht]
  subst hel
  subst hln
  unfold execOp
  simp only [ho]
  refine exec_v ?_
  simp only [Option.map_some, Option.map_none, hx, hl]
  rw [run_sliceAt_array_l w t _ ht kl L (by omega) (by omega), run_size1 hs]
  simp only [Result.andThen, slicedAt, Int.toNat_natCast]
  rw [if_neg (by omega)]
  simp [Addr.add]
theorem wpList_slice_rd {P : Program} {ops : Array Oper} {rest : List Oper} {Q : Exit → Act → World → Prop} {o : Oper} {a : Act} {t e : TypeId} {x l : Operand} {v : Value} {w : World} {s : List UInt8} {L : Nat} {kl : IntKind} {zl : Int} (hg : o.guard = none) (ho : o.op = .slice t x (some l) none none)
    (hx : a.eval x = v) (hl : a.eval l = .int kl zl) (h : Rd w v s) (el : zl = (L : Int)) (hL : L ≤ s.length) (ht : P.underlying t = some (.slice e)) (hs : (P.info? e).map (·.size) = some 1)
    (hK : ∀ v', Rd w v' (s.drop L) → v'.ownBlock = v.ownBlock → wpList P ops Q rest (a.put o.dst v') w) : wpList P ops Q (o :: rest) a w := by
  obtain ⟨v', h1, h2, h3⟩ := exec_slice_rd h hL ho hx hl el ht hs
  exact wpList_value hg (h1 w) (hK v' h2 h3)
theorem wpList_copy_k {P : Program} {ops : Array Oper} {rest : List Oper} {w : World} {op : Oper} {a : Act} {Q : Exit → Act → World → Prop} {s x : Operand} {dT sT e : TypeId} (hg : op.guard = none)
    (ho : op.op = .call { callee := .builtin .copy, args := #[s, x], argTypes := #[dT, sT] }) (hu : P.underlying dT = some (.slice e)) (hs : (P.info? e).map (·.size) = some 1)
    {b o dLen dCap b2 o2 sLen sCap k : Nat} {cs : List Value} (hd : a.eval s = .slice (some ⟨b, o, none⟩) dLen dCap) (hx : a.eval x = .slice (some ⟨b2, o2, none⟩) sLen sCap) (hk : cs.length = k) (hn : k = Nat.min sLen dLen)
    (hsrc : w.rangeAt b2 o2 cs) (hth : w.there b o k) (h1 : ∀ v ∈ cs, v.oneCell' = true) (h : wpList P ops Q rest (a.put op.dst (.int .i64 k)) (w.setCells b o cs)) : wpList P ops Q (op :: rest) a w := by
  subst hk
  exact wpList_plain hg fun _ hK => wp_copy_k ho hu hs hd hx hn hsrc hth h1 (hK _ _ h)
theorem own_new (w : World) (base : Nat) (e : TypeId) (n c : Nat) (cs : Array Value) (xs : List Value) (hb : base ≤ w.heap.size) (hc : cs.size = c) (hn : n ≤ c) (hm : c ≤ maxLen) (hx : cs.toList.take n = xs) :
    (w.alloc (.cells cs e)).ownsRow base e 1 (.slice (some ⟨w.heap.size, 0, none⟩) n c) n xs := by
  subst hx
  refine ⟨by simp; omega, .inr ⟨_, c, cs, rfl, hb, heap_alloc_new w _, hn, hm, by omega, by rw [Nat.mul_one]⟩⟩
theorem below_own {B : Nat} {w0 w w' : World} {base : Nat} {e : TypeId} {size n : Nat} {v : Value} {xs : List Value} (h : Below B w0 w) (ho : w.ownsRow base e size v n xs) (f : Fr (fun i => some i = v.ownBlock) w w') (hb : B ≤ base) (hB : B ≤ w.heap.size) : Below B w0 w' := by
  have f2 : Below B w w' := f.below hB (fun k hk e => by have := (ho.lt k e.symm).1; omega)
  exact h.trans f2
/-- append(s, bytes..): the literal's row and the append. -/
theorem wpList_push {P : Program} {ops : Array Oper} {rest : List Oper} {o1 o2 : Oper} {a : Act} {w : World} {Q : Exit → Act → World → Prop} {t e : TypeId} {tm : Tmp} {s : Operand} {k : Nat} {parts : Array (Nat × Operand)} {ps : Array (Nat × Value)} {x l : List UInt8} {z : Value} {base n : Nat} {v : Value}
    (hg1 : o1.guard = none) (ho1 : o1.op = .buildSlice t k parts) (hd1 : o1.dst = some tm) (hp : (parts.map fun (y : Nat × Operand) => (y.1, a.eval y.2)) = ps)
    (hbuild : (Instr.buildSlice t k ps).run P w = .ok (.slice (some ⟨w.heap.size, 0, none⟩) k k) (w.alloc (.cells (bts x).toArray e)))
    (hg2 : o2.guard = none) (ho2 : o2.op = .call { callee := .builtin .append, args := #[s, .tmp tm], argTypes := #[t, t] }) (hst : s ≠ .tmp tm) (htm : tm < a.tmps.size)
    (ht : P.underlying t = some (.slice e)) (hinfo : (P.info? e).map (fun i => (i.zero, i.size, i.bytes)) = some (some z, 1, 1)) (hz : z.cells.size = 1) (hk : x.length = k)
    (hs : a.eval s = v) (hown : w.ownsRow base e 1 v n (bts l)) (h63 : n + k ≤ 140737488355328) (hbase : base ≤ w.heap.size)
    (h : ∀ v' w', w'.ownsRow base e 1 v' (n + k) (bts (l ++ x)) → Fr (fun i => some i = v.ownBlock) w w' → NewOr w v v' → wpList P ops Q rest ((a.put (some tm) (.slice (some ⟨w.heap.size, 0, none⟩) k k)).put o2.dst v') w') : wpList P ops Q (o1 :: o2 :: rest) a w := by
  refine wpList_value hg1 (exec_buildSlice hbuild ho1 hp) ?_
  rw [hd1]
  have f1 : Fr (fun i => some i = v.ownBlock) w (w.alloc (.cells (bts x).toArray e)) := (Fr.refl _ w).alloc _
  have hown2 := own_fr (T := fun _ => False) hown ((Fr.refl _ w).alloc (.cells (bts x).toArray e)) (fun _ _ h => h)
  have hcell : ∀ j u, (bts x)[j]? = some u → (w.alloc (.cells (bts x).toArray e)).cell? ((⟨w.heap.size, 0, none⟩ : Addr).add j) = some u := fun j u hu => by
    rw [Addr.add_mid, Nat.zero_add, (Blk.new w _ _).cell]; simpa using hu
  refine wpList_append_k (base := base) hg2 ho2 ht hinfo hz (by omega) (v := v) (by rw [Act.eval_put (fun d hd => by cases hd; exact hst)]; exact hs) hown2 (A := some ⟨w.heap.size, 0, none⟩) (m := k) (c := k) (news := bts x) (by simp [Act.eval, Act.put, htm]) (by rw [bts_length]; omega) (.inr ⟨_, rfl, hcell⟩) (bts_one x) (by simp only [maxLen]; omega) (by omega) (by simp; omega) ?_
  intro v' w' h1 h2 h3
  refine h v' w' (by rw [bts_append]; exact h1) (f1.grown h2 (fun i _ e => e)) ?_
  exact Fr.newOr h3 (by simp)
theorem exec_index_arr {P : Program} {o : Oper} {a : Act} {t e : TypeId} {x y : Operand} {n k : Nat} {kl : IntKind} {cs : Array Value} {v : Value} {w : World} (ho : o.op = .index t x y) (hx : a.eval x = .agg cs) (hy : a.eval y = .int kl (k : Int)) (hk : k < n)
    (ht : P.underlying t = some (.array n e)) (hs : (P.info? e).map (·.size) = some 1) (hu : (P.underlying e).map (fun d => match d with | .struct _ | .array _ _ => true | _ => false) = some false) (hc : cs[k]? = some v) :
    (execOp a.eval o).run P w = .ok (.value v) w := by
  have hagg : (isAgg e).run P w = .ok false w := by
    obtain ⟨d, hd, hd2⟩ := Option.map_eq_some_iff.1 hu
    unfold isAgg
    rw [Sem.run_bind, run_underlying hd w]
    cases d <;> simp_all
  unfold execOp
  simp only [ho]
  refine exec_v ?_
  simp only [hx, hy, Instr.index, asIntOf, Sem.run_bind, Sem.run_pure, Result.andThen_ok, run_underlying ht]
  rw [if_pos (by omega)]
  simp [Sem.run_bind, run_size1 hs, part, hagg, hc]
theorem own_base {w : World} {base base' : Nat} {e : TypeId} {size n : Nat} {v : Value} {xs : List Value} (h : w.ownsRow base e size v n xs) (hb : base' ≤ base) : w.ownsRow base' e size v n xs := by
  refine ⟨h.1, ?_⟩
  rcases h.2 with h | ⟨g, cap, cur, rfl, hg, r⟩
  · exact .inl h
  · exact .inr ⟨g, cap, cur, rfl, Nat.le_trans hb hg, r⟩
theorem wpList_make0 {P : Program} {ops : Array Oper} {rest : List Oper} {Q : Exit → Act → World → Prop} {o : Oper} {a : Act} {w : World} {t e : TypeId} {x y : Operand} {z : Value} {kl kc : IntKind} {zx zy : Int} {c base : Nat} (hg : o.guard = none) (ho : o.op = .makeSlice t x y)
    (hx : a.eval x = .int kl zx) (hy : a.eval y = .int kc zy) (e0 : zx = 0) (ec : zy = (c : Int)) (ht : P.underlying t = some (.slice e)) (hinfo : (P.info? e).map (fun i => (i.zero, i.size, i.bytes)) = some (some z, 1, 1))
    (hb : c ≤ 140737488355328) (hbase : base ≤ w.heap.size)
    (h : ∀ v w', w'.ownsRow base e 1 v 0 (bts []) → Fr (fun _ => False) w w' → wpList P ops Q rest (a.put o.dst v) w') : wpList P ops Q (o :: rest) a w := by
  subst e0 ec
  obtain ⟨i, hi, hz, hsize, hby⟩ := info_parts hinfo
  have hb2 : i.bytes * c ≤ 281474976710656 := by rw [hby]; omega
  obtain ⟨w', hr, hw, hgr⟩ := run_make_own (P := P) w base t e i z 1 ht hi hz hsize kl kc c hb2 (by simp only [maxLen]; omega) hbase
  refine wpList_value hg ?_ (h _ w' hw ((Fr.of_grown hgr).mono (fun k _ hk => by cases hk)))
  unfold execOp
  simp only [ho]
  refine exec_v ?_
  simp only [hx, hy]
  exact hr
theorem exec_index_str {P : Program} {o : Oper} {a : Act} {t : TypeId} {x y : Operand} {n : Nat} {kl : IntKind} {zi : Int} {s : ByteArray} {b : UInt8} {w : World} (ho : o.op = .index t x y) (hx : a.eval x = .string s) (hy : a.eval y = .int kl zi) (el : zi = (n : Int))
    (ht : P.underlying t = some .string) (hc : s[n]? = some b) : (execOp a.eval o).run P w = .ok (.value (.int .u8 (b.toNat : Int))) w := by
  subst el
  unfold execOp
  simp only [ho]
  refine exec_v ?_
  simp only [hx, hy, Instr.index, asIntOf, Sem.run_bind, Sem.run_pure, Result.andThen_ok, run_underlying ht, Int.toNat_natCast]
  rw [if_pos (by omega), hc]
  rfl
/-- append(s, x...) of what reads as bytes. -/
theorem wpList_appRd {P : Program} {ops : Array Oper} {rest : List Oper} {o : Oper} {a : Act} {w : World} {Q : Exit → Act → World → Prop} {t e : TypeId} {s x : Operand} {l r : List UInt8} {z : Value} {base n : Nat} {v vx : Value}
    (hg : o.guard = none) (ho : o.op = .call { callee := .builtin .append, args := #[s, x], argTypes := #[t, t] }) (ht : P.underlying t = some (.slice e)) (hinfo : (P.info? e).map (fun i => (i.zero, i.size, i.bytes)) = some (some z, 1, 1)) (hz : z.cells.size = 1)
    (hs : a.eval s = v) (hx : a.eval x = vx) (hown : w.ownsRow base e 1 v n (bts l)) (hr : Rd w vx r) (h63 : n + r.length ≤ 140737488355328) (hbase : base ≤ w.heap.size)
    (h : ∀ v' w', w'.ownsRow base e 1 v' (n + r.length) (bts (l ++ r)) → Fr (fun i => some i = v.ownBlock) w w' → NewOr w v v' → wpList P ops Q rest (a.put o.dst v') w') : wpList P ops Q (o :: rest) a w := by
  obtain ⟨A, c, rfl⟩ := hr.slice
  obtain ⟨ha, hl⟩ := hr.app
  refine wpList_append_k (base := base) hg ho ht hinfo hz (by omega) hs hown hx hl ha (bts_one r) (by simp only [maxLen]; omega) (by omega) hbase ?_
  intro v' w' h1 h2 h3
  exact h v' w' (by rw [bts_append]; exact h1) (Fr.of_grown h2) h3
/-- What is read stands while blocks from B on are written. -/
theorem Rd.old {w w' : World} {v : Value} {l : List UInt8} {T : Nat → Prop} {B : Nat} (h : Rd w v l) (f : Fr T w w') (hl : l ≠ [] → ∀ k, v.ownBlock = some k → k < B) (hT : ∀ k, k < B → ¬ T k) : Rd w' v l :=
  h.fr f (fun h0 k hk => hT k (hl h0 k hk))
end Go
