/- Copies into the tail of a new row of bytes; calls of functions without a body; bytealg.IndexByte, Count. -/
import Derived.Test.YthglnbkfmmchnaaK11
import Derived.Laws.Externs
import Derived.Lib.Bytealg
namespace Go
open Go.RowKit

/-- t[L:] of a whole row -/
def tailV (g N L : Nat) : Value := .slice (some ⟨g, if L < N then L else 0, none⟩) (N - L) (N - L)
theorem exec_tail {P : Program} {o : Oper} {a : Act} {t e : TypeId} {x l : Operand} {g N L : Nat} {kl : IntKind} {zl : Int} (ho : o.op = .slice t x (some l) none none)
    (hx : a.eval x = .slice (some ⟨g, 0, none⟩) N N) (hl : a.eval l = .int kl zl) (el : zl = (L : Int)) (hL : L ≤ N) (ht : P.underlying t = some (.slice e)) (hs : (P.info? e).map (·.size) = some 1) (w : World) :
    (execOp a.eval o).run P w = .ok (.value (tailV g N L)) w := by
  subst el
  have hel : P.elem t = e := by simp [Program.elem, ht]
  subst hel
  unfold execOp
  simp only [ho]
  refine exec_v ?_
  simp only [Option.map_some, Option.map_none, hx, hl]
  rw [run_sliceAt_slice _ t _ _ _ _ ht, run_slice_l _ t _ _ _ ht kl L (by omega) (by omega), run_size1 hs]
  simp only [Result.andThen, Int.toNat_natCast, sliced, tailV]
  by_cases h : L < N
  · rw [if_neg (by omega), if_pos h]; simp [Addr.add]; intro h; exact h.symm
  · obtain rfl : L = N := by omega
    simp
theorem wp_copy_tail {P : Program} {w : World} {op : Oper} {a : Act} {K : Act → World → Prop} {Q : Exit → Act → World → Prop} {s x : Operand} {dT sT e t : TypeId}
    (ho : op.op = .call { callee := .builtin .copy, args := #[s, x], argTypes := #[dT, sT] }) (hu : P.underlying dT = some (.slice e)) (hs : (P.info? e).map (·.size) = some 1)
    {g N L : Nat} {vx : Value} {l : List UInt8} {cs : Array Value} (hd : a.eval s = tailV g N L) (hx : a.eval x = vx) (hr : Rd w vx l) (hl : L + l.length ≤ N) (hb : Blk w g cs t) (hcs : cs.size = N)
    (h : ∀ w', Blk w' g (cs.toList.take L ++ bts l ++ cs.toList.drop (L + l.length)).toArray t → Fr (fun k => k = g) w w' → K (a.put op.dst (.int .i64 l.length)) w') : op.wp P a w K Q := by
  by_cases h0 : l = []
  · subst h0
    obtain ⟨A, c, rfl⟩ := hr.slice
    have hr := run_copy_none (P := P) w dT sT op.type e (some ⟨g, if L < N then L else 0, none⟩) A (N - L) (N - L) 0 c hu hs (Nat.zero_min _)
    unfold Oper.wp execOp
    simp only [ho, resolve, invoke, builtin, Sem.run_bind, Sem.run_pure, Result.andThen_ok, List.map_toArray, List.map_cons, List.map_nil, hd, hx, List.length_nil, tailV, hr]
    have e1 : (cs.toList.take L ++ bts [] ++ cs.toList.drop (L + ([] : List UInt8).length)).toArray = cs := by simp [bts]
    exact h w (by rw [e1]; exact hb) (Fr.refl _ w)
  · have hl0 : 0 < l.length := List.length_pos_iff.2 h0
    rcases hr.2 with ⟨A, c, rfl, h1⟩ | ⟨b2, o2, c, rfl, hc, hra⟩
    · exact absurd h1 h0
    · rw [tailV, if_pos (by omega)] at hd
      refine wp_copy_k (cs := bts l) ho hu hs hd hx ?_ hra (hb.there L _ (by rw [bts_length]; omega)) (bts_one l) ?_
      · rw [bts_length]; show l.length = min l.length (N - L); omega
      · have := Blk.setCells (bts l) L hb (by rw [bts_length]; omega)
        rw [bts_length] at this ⊢
        exact h _ this ((Fr.refl _ w).setCells (b := g) (bts l) L (fun _ => rfl))

theorem exec_ext {P : Program} {o : Oper} {a : Act} {f : FuncId} {xs : Array Operand} {ts : Array TypeId} {args : Array Value} {v : Value} {w : World} (ho : o.op = .call { callee := .value (.func f), args := xs, argTypes := ts }) (hx : xs.map a.eval = args)
    (h : (callFunc f args).run P w = .ok (.value v) w) : (execOp a.eval o).run P w = .ok (.value v) w := by
  subst hx
  unfold execOp
  simp only [ho, resolve, Act.eval, Deferred.ofValue, Sem.run_bind, Sem.run_pure, Result.andThen_ok, invoke, Array.empty_append, Array.append_empty]
  exact h
theorem run_loadBytes {P : Program} {w : World} : ∀ (l : List UInt8) (b o : Nat) (acc : ByteArray), w.rangeAt b o (bts l) → (Extern.Bytes.loadBytes ⟨b, o, none⟩ l.length acc).run P w = .ok ⟨(acc.data.toList ++ l).toArray⟩ w
  | [], b, o, acc, _ => by simp [Extern.Bytes.loadBytes, Sem.run_pure]
  | x :: l, b, o, acc, h => by
    have h0 := h 0 _ rfl
    have hn : w.rangeAt b (o + 1) (bts l) := fun j v hv => by
      have := h (j + 1) v hv
      rwa [Nat.add_assoc, Nat.add_comm 1 j]
    have ih := run_loadBytes (P := P) l b (o + 1) (acc.push ((x.toNat : Int)).toNat.toUInt8) hn
    rw [List.length_cons, Extern.Bytes.loadBytes]
    have hl : (load ⟨b, o, none⟩).run P w = .ok (.int .u8 (x.toNat : Int)) w := by
      rw [Nat.add_zero] at h0
      simp [load, Sem.run, h0]
    rw [Sem.run_bind, hl]
    simp only [Result.andThen_ok]
    rw [Addr.add_mid, ih]
    simp [ByteArray.push]
theorem run_bytesOf {P : Program} {w : World} {v : Value} {l : List UInt8} (h : Rd w v l) : (Extern.Bytes.bytesOf v).run P w = .ok (str l) w := by
  rcases h.2 with ⟨A, c, rfl, rfl⟩ | ⟨b, o, c, rfl, hc, hr⟩
  · cases A with
    | none => rfl
    | some a => rfl
  · have := run_loadBytes (P := P) l b o .empty hr
    simp only [Extern.Bytes.bytesOf]
    rw [this]
    rfl
theorem run_indexByte {P : Program} {w : World} {v : Value} {l : List UInt8} (h : Rd w v l) (c : UInt8) : (Extern.BytealgIndexByte.indexByte #[v, .int .u8 (c.toNat : Int)]).run P w = .ok (.int .i64 (Lib.indexByte l c)) w := by
  have h1 := run_indexByte_string (P := P) (str l) (c.toNat : Int) w
  rw [show ((c.toNat : Int)).toNat.toUInt8 = c by simp, Lib.firstIdx_eq] at h1
  change Sem.run P (do
    let b ← Extern.Bytes.bytesOf v
    let c' ← Extern.Bytes.asByte (.int .u8 (c.toNat : Int))
    match (List.range b.size).find? fun i => b[i]! == c' with
    | some i => pure (goInt i)
    | none => pure (goInt (-1))) w = _
  change Sem.run P (do
    let b ← Extern.Bytes.bytesOf (.string (str l))
    let c' ← Extern.Bytes.asByte (.int .u8 (c.toNat : Int))
    match (List.range b.size).find? fun i => b[i]! == c' with
    | some i => pure (goInt i)
    | none => pure (goInt (-1))) w = _ at h1
  rw [Sem.run_bind, run_bytesOf h]
  rw [Sem.run_bind] at h1
  exact h1
theorem run_count {P : Program} {w : World} {v : Value} {l : List UInt8} (h : Rd w v l) (c : UInt8) : (Extern.BytealgCount.count #[v, .int .u8 (c.toNat : Int)]).run P w = .ok (.int .i64 (l.count c : Nat)) w := by
  have h1 := Lib.run_countString (P := P) (str l) (c.toNat : Int) w
  rw [show ((c.toNat : Int)).toNat.toUInt8 = c by simp] at h1
  change Sem.run P (do
    let b ← Extern.Bytes.bytesOf v
    let c' ← Extern.Bytes.asByte (.int .u8 (c.toNat : Int))
    pure (goInt (b.foldl (fun n x => if x == c' then n + 1 else n) (0 : Nat)))) w = _
  change Sem.run P (do
    let b ← Extern.Bytes.bytesOf (.string (str l))
    let c' ← Extern.Bytes.asByte (.int .u8 (c.toNat : Int))
    pure (goInt (b.foldl (fun n x => if x == c' then n + 1 else n) (0 : Nat)))) w = _ at h1
  rw [Sem.run_bind, run_bytesOf h]
  rw [Sem.run_bind] at h1
  exact h1
theorem wp_copy_tailn {P : Program} {w : World} {op : Oper} {a : Act} {K : Act → World → Prop} {Q : Exit → Act → World → Prop} {s x : Operand} {dT sT e t : TypeId}
    (ho : op.op = .call { callee := .builtin .copy, args := #[s, x], argTypes := #[dT, sT] }) (hu : P.underlying dT = some (.slice e)) (hs : (P.info? e).map (·.size) = some 1)
    {g N L n : Nat} {vx : Value} {l : List UInt8} {cs : Array Value} (hd : a.eval s = tailV g N L) (hx : a.eval x = vx) (hr : Rd w vx l) (hn : l.length = n) (hl : L + n ≤ N) (hb : Blk w g cs t) (hcs : cs.size = N)
    (h : ∀ w' (cs' : Array Value), Blk w' g cs' t → cs'.size = N → cs'.toList.take (L + n) = cs.toList.take L ++ bts l → Fr (fun k => k = g) w w' → K (a.put op.dst (.int .i64 (n : Int))) w') : op.wp P a w K Q := by
  subst hn
  refine wp_copy_tail ho hu hs hd hx hr hl hb hcs (fun w' hb' f => h w' _ hb' ?_ ?_ f)
  · have : cs.toList.length = N := by rw [Array.length_toList]; exact hcs
    simp only [List.size_toArray, List.length_append, List.length_take, List.length_drop, bts_length]
    omega
  · have hc : cs.toList.length = N := by rw [Array.length_toList]; exact hcs
    have h1 : (cs.toList.take L ++ bts l).length = L + l.length := by rw [List.length_append, List.length_take, bts_length]; omega
    show ((cs.toList.take L ++ bts l) ++ _).take _ = _
    rw [← h1, List.take_left]
theorem wpList_copy_tailn {P : Program} {ops : Array Oper} {rest : List Oper} {w : World} {op : Oper} {a : Act} {Q : Exit → Act → World → Prop} {s x : Operand} {dT sT e t : TypeId} (hg : op.guard = none)
    (ho : op.op = .call { callee := .builtin .copy, args := #[s, x], argTypes := #[dT, sT] }) (hu : P.underlying dT = some (.slice e)) (hs : (P.info? e).map (·.size) = some 1)
    {g N L n : Nat} {vx : Value} {l : List UInt8} {cs : Array Value} (hd : a.eval s = tailV g N L) (hx : a.eval x = vx) (hr : Rd w vx l) (hn : l.length = n) (hl : L + n ≤ N) (hb : Blk w g cs t) (hcs : cs.size = N)
    (h : ∀ w' (cs' : Array Value), Blk w' g cs' t → cs'.size = N → cs'.toList.take (L + n) = cs.toList.take L ++ bts l → Fr (fun k => k = g) w w' → wpList P ops Q rest (a.put op.dst (.int .i64 (n : Int))) w') : wpList P ops Q (op :: rest) a w :=
  wpList_plain hg fun _ hK => wp_copy_tailn ho hu hs hd hx hr hn hl hb hcs (fun w' cs' h1 h2 h3 h4 => hK _ _ (h w' cs' h1 h2 h3 h4))
theorem wpF_rd_l {P : Program} {ops : Array Oper} {Q : Exit → Act → World → Prop} {R : World → World → Prop} {o : Oper} {a : Act} {w w0 : World} {rest : List (Oper × Nat)} {t e : TypeId} {x l : Operand} {v : Value} {s : List UInt8} {L : Nat} {kl : IntKind} {zl : Int}
    (hw : Region.wanted o (yielded ops a.tmps) = true) (ho : o.op = .slice t x (some l) none none) (hx : a.eval x = v) (hl : a.eval l = .int kl zl) (hr : Rd w0 v s) (el : zl = (L : Int)) (hL : L ≤ s.length) (ht : P.underlying t = some (.slice e)) (hs : (P.info? e).map (·.size) = some 1)
    (hK : ∀ (K : Act → Prop) v', Rd w0 v' (s.drop L) → v'.ownBlock = v.ownBlock → (NotNil v → NotNil v') → (∀ a', wpF P ops Q R rest a' w → K a') → K (a.put o.dst v')) : wpF P ops Q R ((o, 0) :: rest) a w := by
  obtain ⟨v', h1, h2, h3, h4⟩ := exec_rd_l hr hL ht hs ho hx hl el
  exact wpF_f0v h1 hw (fun K hk => hK K v' h2 h3 h4 hk)
theorem own_drew {w : World} {base n size : Nat} {e : TypeId} {v : Value} {xs : List Value} (h : w.ownsRow base e size v n xs) : w.drew.ownsRow base e size v n xs := own_fr h ((Fr.refl (fun _ => False) w).drew) (fun _ _ h => h)
theorem wpList_rd_hg {P : Program} {ops : Array Oper} {rest : List Oper} {Q : Exit → Act → World → Prop} {o : Oper} {a : Act} {t e : TypeId} {x h : Operand} {v : Value} {w : World} {s : List UInt8} {H : Nat} {kh : IntKind} {zh : Int} (hg : Region.wanted o (yielded ops a.tmps) = true) (ho : o.op = .slice t x none (some h) none)
    (hx : a.eval x = v) (hh : a.eval h = .int kh zh) (hr : Rd w v s) (eh : zh = (H : Int)) (hH : H ≤ s.length) (ht : P.underlying t = some (.slice e)) (hs : (P.info? e).map (·.size) = some 1)
    (hK : ∀ v', Rd w v' (s.take H) → v'.ownBlock = v.ownBlock → (NotNil v → NotNil v') → wpList P ops Q rest (a.put o.dst v') w) : wpList P ops Q (o :: rest) a w := by
  obtain ⟨v', h1, h2, h3, h4⟩ := exec_rd_h hr hH ht hs ho hx hh eh
  exact wpList_valueg hg (h1 w) (hK v' h2 h3 h4)
theorem exec_slice_h {P : Program} {o : Oper} {a : Act} {t e : TypeId} {x h : Operand} {g n c H : Nat} {kh : IntKind} {zh : Int} (ho : o.op = .slice t x none (some h) none)
    (hx : a.eval x = .slice (some ⟨g, 0, none⟩) n c) (hh : a.eval h = .int kh zh) (eh : zh = (H : Int)) (hc : H ≤ c)
    (ht : P.underlying t = some (.slice e)) (hs : (P.info? e).map (·.size) = some 1) (w : World) : (execOp a.eval o).run P w = .ok (.value (.slice (some ⟨g, 0, none⟩) H c)) w := by
  subst eh
  have hel : P.elem t = e := by simp [Program.elem, ht]
  subst hel
  unfold execOp
  simp only [ho]
  refine exec_v ?_
  simp only [Option.map_some, Option.map_none, hx, hh]
  rw [run_sliceAt_slice _ t _ _ _ _ ht, run_slice_h _ t _ _ _ ht kh H (by omega) (by omega), run_size1 hs]
  simp only [Result.andThen, Int.toNat_natCast, sliced]
  by_cases h0 : c = 0
  · subst h0; simp
  · rw [if_neg h0]; simp [Addr.add]
theorem own_take {w : World} {base g n c k : Nat} {e : TypeId} {xs : List Value} (h : w.ownsRow base e 1 (.slice (some ⟨g, 0, none⟩) n c) n xs) (hk : k ≤ n) : w.ownsRow base e 1 (.slice (some ⟨g, 0, none⟩) k c) k (xs.take k) := by
  have h1 := h.1
  rcases h.2 with ⟨h0, _⟩ | ⟨g', cap, cur, hv, hb, hg, hn, hc, hs, ht⟩
  · cases h0
  · simp only [Value.slice.injEq, Option.some.injEq, Addr.mk.injEq] at hv
    obtain ⟨⟨rfl, _⟩, _, rfl⟩ := hv
    refine ⟨by rw [List.length_take]; omega, .inr ⟨g, c, cur, rfl, hb, hg, by omega, hc, hs, ?_⟩⟩
    rw [← ht, List.take_take]
    congr 1
    omega
end Go
