/- Slices of what is read, low and high; results out of a cell and a slot. -/
import Derived.Test.YthglnbkfmmchnaaK9
namespace Go
open Go.RowKit

def NotNil (v : Value) : Prop := ∀ n c, v ≠ .slice none n c
theorem Rd.notNil {w : World} {v : Value} {l : List UInt8} (h : Rd w v l) (hl : 0 < l.length) : NotNil v := by
  rcases h.2 with ⟨A, c, rfl, rfl⟩ | ⟨b, o, c, rfl, _⟩
  · simp at hl
  · intro n c' e; cases e
theorem NotNil.pair {v : Value} (h : NotNil v) : ∀ n c, v = .slice none n c → n = 0 ∧ c = 0 := fun n c e => absurd e (h n c)
theorem sliced_rd {w : World} {A : Option Addr} {c L H : Nat} {s : List UInt8} (h : Rd w (.slice A s.length c) s) (hLH : L ≤ H) (hH : H ≤ s.length) :
    Rd w (sliced A L H c 1) ((s.take H).drop L) ∧ (sliced A L H c 1).ownBlock = (Value.slice A s.length c).ownBlock ∧ (NotNil (.slice A s.length c) → NotNil (sliced A L H c 1)) := by
  refine ⟨?_, ?_, ?_⟩
  · refine ⟨by have := h.1; simp; omega, ?_⟩
    rcases h.2 with ⟨A', c', hv, rfl⟩ | ⟨b, o', c', hv, hc, hr⟩
    · refine .inl ⟨if c = L then A else A.map (·.add (L * 1)), c - L, ?_, by simp⟩
      simp only [List.length_nil] at hH
      simp only [sliced]
      rw [show H - L = 0 by omega]
    · cases hv
      simp only [sliced]
      by_cases hcl : c = L
      · rw [if_pos hcl]
        refine .inl ⟨some ⟨b, o', none⟩, c - L, ?_, List.drop_eq_nil_of_le (by rw [List.length_take]; omega)⟩
        rw [show H - L = 0 by omega]
      · rw [if_neg hcl]
        refine .inr ⟨b, o' + L, c - L, ?_, by simp; omega, fun j u hu => ?_⟩
        · simp [Addr.add]
          omega
        · rw [Nat.add_assoc]
          refine hr (L + j) u ?_
          rw [bts_get] at hu ⊢
          rw [List.getElem?_drop, List.getElem?_take] at hu
          split at hu
          · exact hu
          · simp at hu
  · simp only [sliced]
    split
    · cases A <;> rfl
    · cases A with
      | none => rfl
      | some a => simp only [Value.ownBlock, Option.map_some, Option.some.injEq, Addr.add]; split <;> rfl
  · intro hn n c' e
    simp only [sliced, Value.slice.injEq] at e
    cases A with
    | none => exact hn _ _ rfl
    | some a => have := e.1; split at this <;> simp at this
theorem exec_rd_lh {P : Program} {o : Oper} {a : Act} {t e : TypeId} {x l h : Operand} {v : Value} {w0 : World} {s : List UInt8} {L H : Nat} {kl kh : IntKind} {zl zh : Int} (hr : Rd w0 v s) (hLH : L ≤ H) (hH : H ≤ s.length)
    (ht : P.underlying t = some (.slice e)) (hs : (P.info? e).map (·.size) = some 1) (ho : o.op = .slice t x (some l) (some h) none)
    (hx : a.eval x = v) (hl : a.eval l = .int kl zl) (hh : a.eval h = .int kh zh) (el : zl = (L : Int)) (eh : zh = (H : Int)) :
    ∃ v', (∀ w, (execOp a.eval o).run P w = .ok (.value v') w) ∧ Rd w0 v' ((s.take H).drop L) ∧ v'.ownBlock = v.ownBlock ∧ (NotNil v → NotNil v') := by
  subst el eh
  have hel : P.elem t = e := by simp [Program.elem, ht]
  subst hel
  obtain ⟨A, c, rfl⟩ := hr.slice
  have hc : s.length ≤ c := by
    rcases hr.2 with ⟨_, _, hv, rfl⟩ | ⟨_, _, _, hv, hc, _⟩
    · exact Nat.zero_le _
    · cases hv; exact hc
  refine ⟨sliced A L H c 1, fun w => ?_, sliced_rd hr hLH hH⟩
  unfold execOp
  simp only [ho]
  refine exec_v ?_
  simp only [Option.map_some, Option.map_none, hx, hl, hh]
  rw [run_sliceAt_slice _ t _ _ _ _ ht, run_slice_lh _ t _ _ _ ht kl kh L H (by omega) (by omega) (by omega), run_size1 hs]
  simp only [Result.andThen, Int.toNat_natCast]
theorem exec_rd_h {P : Program} {o : Oper} {a : Act} {t e : TypeId} {x h : Operand} {v : Value} {w0 : World} {s : List UInt8} {H : Nat} {kh : IntKind} {zh : Int} (hr : Rd w0 v s) (hH : H ≤ s.length)
    (ht : P.underlying t = some (.slice e)) (hs : (P.info? e).map (·.size) = some 1) (ho : o.op = .slice t x none (some h) none)
    (hx : a.eval x = v) (hh : a.eval h = .int kh zh) (eh : zh = (H : Int)) :
    ∃ v', (∀ w, (execOp a.eval o).run P w = .ok (.value v') w) ∧ Rd w0 v' (s.take H) ∧ v'.ownBlock = v.ownBlock ∧ (NotNil v → NotNil v') := by
  subst eh
  have hel : P.elem t = e := by simp [Program.elem, ht]
  subst hel
  obtain ⟨A, c, rfl⟩ := hr.slice
  have hc : s.length ≤ c := by
    rcases hr.2 with ⟨_, _, hv, rfl⟩ | ⟨_, _, _, hv, hc, _⟩
    · exact Nat.zero_le _
    · cases hv; exact hc
  refine ⟨sliced A 0 H c 1, fun w => ?_, sliced_rd (L := 0) hr (Nat.zero_le _) hH⟩
  unfold execOp
  simp only [ho]
  refine exec_v ?_
  simp only [Option.map_some, Option.map_none, hx, hh]
  rw [run_sliceAt_slice _ t _ _ _ _ ht, run_slice_h _ t _ _ _ ht kh H (by omega) (by omega), run_size1 hs]
  simp only [Result.andThen, Int.toNat_natCast]
theorem exec_rd_l {P : Program} {o : Oper} {a : Act} {t e : TypeId} {x l : Operand} {v : Value} {w0 : World} {s : List UInt8} {L : Nat} {kl : IntKind} {zl : Int} (hr : Rd w0 v s) (hL : L ≤ s.length)
    (ht : P.underlying t = some (.slice e)) (hs : (P.info? e).map (·.size) = some 1) (ho : o.op = .slice t x (some l) none none)
    (hx : a.eval x = v) (hl : a.eval l = .int kl zl) (el : zl = (L : Int)) :
    ∃ v', (∀ w, (execOp a.eval o).run P w = .ok (.value v') w) ∧ Rd w0 v' (s.drop L) ∧ v'.ownBlock = v.ownBlock ∧ (NotNil v → NotNil v') := by
  subst el
  have hel : P.elem t = e := by simp [Program.elem, ht]
  subst hel
  obtain ⟨A, c, rfl⟩ := hr.slice
  have h0 := sliced_rd (L := L) hr hL (Nat.le_refl _)
  rw [List.take_length] at h0
  refine ⟨sliced A L s.length c 1, fun w => ?_, h0⟩
  unfold execOp
  simp only [ho]
  refine exec_v ?_
  simp only [Option.map_some, Option.map_none, hx, hl]
  rw [run_sliceAt_slice _ t _ _ _ _ ht, run_slice_l _ t _ _ _ ht kl L (by omega) (by omega), run_size1 hs]
  simp only [Result.andThen, Int.toNat_natCast]
section
variable {P : Program} {ops : Array Oper} {rest : List Oper} {Q : Exit → Act → World → Prop} {o : Oper} {a : Act} {t e : TypeId} {x l h : Operand} {v : Value} {w : World} {s : List UInt8} {L H : Nat} {kl kh : IntKind} {zl zh : Int}
theorem wpList_rd_lh (hg : o.guard = none) (ho : o.op = .slice t x (some l) (some h) none)
    (hx : a.eval x = v) (hl : a.eval l = .int kl zl) (hh : a.eval h = .int kh zh) (hr : Rd w v s) (el : zl = (L : Int)) (eh : zh = (H : Int)) (hLH : L ≤ H) (hH : H ≤ s.length) (ht : P.underlying t = some (.slice e)) (hs : (P.info? e).map (·.size) = some 1)
    (hK : ∀ v', Rd w v' ((s.take H).drop L) → v'.ownBlock = v.ownBlock → (NotNil v → NotNil v') → wpList P ops Q rest (a.put o.dst v') w) : wpList P ops Q (o :: rest) a w := by
  obtain ⟨v', h1, h2, h3, h4⟩ := exec_rd_lh hr hLH hH ht hs ho hx hl hh el eh
  exact wpList_value hg (h1 w) (hK v' h2 h3 h4)
theorem wpList_rd_h (hg : o.guard = none) (ho : o.op = .slice t x none (some h) none)
    (hx : a.eval x = v) (hh : a.eval h = .int kh zh) (hr : Rd w v s) (eh : zh = (H : Int)) (hH : H ≤ s.length) (ht : P.underlying t = some (.slice e)) (hs : (P.info? e).map (·.size) = some 1)
    (hK : ∀ v', Rd w v' (s.take H) → v'.ownBlock = v.ownBlock → (NotNil v → NotNil v') → wpList P ops Q rest (a.put o.dst v') w) : wpList P ops Q (o :: rest) a w := by
  obtain ⟨v', h1, h2, h3, h4⟩ := exec_rd_h hr hH ht hs ho hx hh eh
  exact wpList_value hg (h1 w) (hK v' h2 h3 h4)
theorem wpList_rd_l (hg : o.guard = none) (ho : o.op = .slice t x (some l) none none)
    (hx : a.eval x = v) (hl : a.eval l = .int kl zl) (hr : Rd w v s) (el : zl = (L : Int)) (hL : L ≤ s.length) (ht : P.underlying t = some (.slice e)) (hs : (P.info? e).map (·.size) = some 1)
    (hK : ∀ v', Rd w v' (s.drop L) → v'.ownBlock = v.ownBlock → (NotNil v → NotNil v') → wpList P ops Q rest (a.put o.dst v') w) : wpList P ops Q (o :: rest) a w := by
  obtain ⟨v', h1, h2, h3, h4⟩ := exec_rd_l hr hL ht hs ho hx hl el
  exact wpList_value hg (h1 w) (hK v' h2 h3 h4)
end
theorem wpF_rd_h {P : Program} {ops : Array Oper} {Q : Exit → Act → World → Prop} {R : World → World → Prop} {o : Oper} {a : Act} {w w0 : World} {rest : List (Oper × Nat)} {t e : TypeId} {x h : Operand} {v : Value} {s : List UInt8} {H : Nat} {kh : IntKind} {zh : Int}
    (hw : Region.wanted o (yielded ops a.tmps) = true) (ho : o.op = .slice t x none (some h) none) (hx : a.eval x = v) (hh : a.eval h = .int kh zh) (hr : Rd w0 v s) (eh : zh = (H : Int)) (hH : H ≤ s.length) (ht : P.underlying t = some (.slice e)) (hs : (P.info? e).map (·.size) = some 1)
    (hK : ∀ (K : Act → Prop) v', Rd w0 v' (s.take H) → v'.ownBlock = v.ownBlock → (NotNil v → NotNil v') → (∀ a', wpF P ops Q R rest a' w → K a') → K (a.put o.dst v')) : wpF P ops Q R ((o, 0) :: rest) a w := by
  obtain ⟨v', h1, h2, h3, h4⟩ := exec_rd_h hr hH ht hs ho hx hh eh
  exact wpF_f0v h1 hw (fun K hk => hK K v' h2 h3 h4 hk)
theorem wpF_rd_lh {P : Program} {ops : Array Oper} {Q : Exit → Act → World → Prop} {R : World → World → Prop} {o : Oper} {a : Act} {w w0 : World} {rest : List (Oper × Nat)} {t e : TypeId} {x l h : Operand} {v : Value} {s : List UInt8} {L H : Nat} {kl kh : IntKind} {zl zh : Int}
    (hw : Region.wanted o (yielded ops a.tmps) = true) (ho : o.op = .slice t x (some l) (some h) none) (hx : a.eval x = v) (hl : a.eval l = .int kl zl) (hh : a.eval h = .int kh zh) (hr : Rd w0 v s) (el : zl = (L : Int)) (eh : zh = (H : Int)) (hLH : L ≤ H) (hH : H ≤ s.length) (ht : P.underlying t = some (.slice e)) (hs : (P.info? e).map (·.size) = some 1)
    (hK : ∀ (K : Act → Prop) v', Rd w0 v' ((s.take H).drop L) → v'.ownBlock = v.ownBlock → (NotNil v → NotNil v') → (∀ a', wpF P ops Q R rest a' w → K a') → K (a.put o.dst v')) : wpF P ops Q R ((o, 0) :: rest) a w := by
  obtain ⟨v', h1, h2, h3, h4⟩ := exec_rd_lh hr hLH hH ht hs ho hx hl hh el eh
  exact wpF_f0v h1 hw (fun K hk => hK K v' h2 h3 h4 hk)
theorem results_cellN_tmp {P : Program} {fn : Func} {p u : Tmp} {ty : TypeId} (h : fn.results = #[.cell p ty, .tmp u]) (tmps : Array Value) {w : World} {g : Nat} {t : TypeId} {cs : Array Value}
    (hp : tmps.getD p undef = .pointer (some ⟨g, 0, none⟩)) (hg : Blk w g cs t)
    (hu : (P.underlying ty).map TypeDesc.isRow = some true) (hi : (P.info? ty).map (·.size) = some cs.size) :
    (results fn tmps).run P w = .ok (.tuple #[.agg cs, tmps.getD u undef]) w := by
  obtain ⟨d, hd, hd2⟩ := Option.map_eq_some_iff.1 hu
  have hp' : tmps[p]?.getD undef = .pointer (some ⟨g, 0, none⟩) := by simpa using hp
  have hr := run_loadVar_row (P := P) w g t ty cs (0, 0) d hg hd (by cases d <;> simp_all [TypeDesc.isRow]) hi
  simp [results, h, hp', asAddr, hr]
end Go
