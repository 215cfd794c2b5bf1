/- DiskKeeps: the plain law. -/
import Derived.Test.YtnnhelknpnkphaaLaw05Loop
namespace Go.Proofs.Ytnnhelknpnkphaa
open Go.RowKit

/-- All its blocks are of one byte each. -/
structure Flat (D : DSt) : Prop where
  kept : ∀ b ∈ D.kept, ∃ c, b = b64 c
  mem : ∀ x ∈ D.mem, ∃ c, x.2 = b64 c
theorem flat_fresh (n : Nat) : Flat (DSt.fresh n) := ⟨fun b hb => ⟨0, (List.mem_replicate.1 hb).2⟩, fun x hx => by cases hx⟩
theorem flat_did {D : DSt} (h : Flat D) : Flat D.did := ⟨by rw [DSt.did_kept]; exact h.kept, by rw [DSt.did_mem]; exact h.mem⟩
theorem flat_write {D : DSt} (h : Flat D) (i : Int) (c : UInt8) : Flat (D.write i (b64 c)).2 := by
  unfold DSt.write
  split
  · split
    · exact h
    · exact flat_did ⟨h.kept, fun x hx => by
        rcases List.mem_append.1 hx with hx | hx
        · exact h.mem x hx
        · rw [List.mem_singleton.1 hx]; exact ⟨c, rfl⟩⟩
  · exact h
theorem flat_writesN {D : DSt} (h : Flat D) (off : Nat) (l : List Int) : ∀ k, Flat (writesN off D l k)
  | 0 => h
  | k + 1 => flat_write (flat_writesN h off l k) _ _
theorem flat_keepN {kept : List (List UInt8)} {mem : List (Nat × List UInt8)} (pk : Nat → Bool) (h : ∀ b ∈ kept, ∃ c, b = b64 c) (hm : ∀ x ∈ mem, ∃ c, x.2 = b64 c) : ∀ k, ∀ b ∈ keepN pk kept mem k, ∃ c, b = b64 c
  | 0 => h
  | k + 1 => fun b hb => by
    unfold keepN at hb
    have ih := flat_keepN pk h hm k
    split at hb
    · rename_i x hx
      split at hb
      · rcases List.mem_or_eq_of_mem_set hb with hb | hb
        · exact ih b hb
        · rw [hb]; exact hm x (List.mem_of_getElem? hx)
      · exact ih b hb
    · exact ih b hb
/-- What stands at a place is what stood there, or a block of the memory for it. -/
theorem keepN_from (pk : Nat → Bool) (kept : List (List UInt8)) (mem : List (Nat × List UInt8)) (i : Nat) : ∀ k, (keepN pk kept mem k).getD i [] = kept.getD i [] ∨ ∃ x ∈ mem, x.1 = i ∧ (keepN pk kept mem k).getD i [] = x.2
  | 0 => .inl rfl
  | k + 1 => by
    have ih := keepN_from pk kept mem i k
    unfold keepN
    split
    · rename_i x hx
      split
      · by_cases hi : x.1 = i
        · by_cases hlt : i < (keepN pk kept mem k).length
          · right
            refine ⟨x, List.mem_of_getElem? hx, hi, ?_⟩
            subst hi
            rw [List.getD_eq_getElem?_getD, List.getElem?_set, if_pos rfl, if_pos hlt]; rfl
          · left
            have hl := keepN_length pk kept mem k
            rw [List.getD_eq_getElem?_getD, List.getElem?_eq_none (by simp; omega), List.getD_eq_getElem?_getD, List.getElem?_eq_none (by omega)]
        · rw [List.getD_eq_getElem?_getD, List.getElem?_set_ne hi, ← List.getD_eq_getElem?_getD]
          exact ih
      · exact ih
    · exact ih
/-- What is in the memory behind the Writes: what was, or what one of them put. -/
theorem writesN_mem (off : Nat) (D : DSt) (l : List Int) : ∀ k, ∀ x ∈ (writesN off D l k).mem, x ∈ D.mem ∨ ∃ j, j < k ∧ l.getD j 0 = (x.1 : Int) ∧ x.2 = b64 (UInt8.ofNat (j + off))
  | 0 => fun x h => .inl h
  | k + 1 => fun x hx => by
    have ih := writesN_mem off D l k
    simp only [writesN] at hx
    unfold DSt.write at hx
    split at hx
    · rename_i hi
      split at hx
      · rcases ih x hx with h | ⟨j, h1, h2, h3⟩
        · exact .inl h
        · exact .inr ⟨j, by omega, h2, h3⟩
      · simp only [DSt.wrote, DSt.did_mem] at hx
        rcases List.mem_append.1 hx with hx | hx
        · rcases ih x hx with h | ⟨j, h1, h2, h3⟩
          · exact .inl h
          · exact .inr ⟨j, by omega, h2, h3⟩
        · right
          refine ⟨k, by omega, ?_, ?_⟩
          · rw [List.mem_singleton.1 hx]; simp only; omega
          · rw [List.mem_singleton.1 hx]
    · rcases ih x hx with h | ⟨j, h1, h2, h3⟩
      · exact .inl h
      · exact .inr ⟨j, by omega, h2, h3⟩

/-- What the inner loop has found behind m of b. -/
def wroteN (x y : UInt8) (b : List Int) (k : Nat) : Nat → Bool
  | 0 => x == y
  | m + 1 => wroteN x y b k m || decide (b.getD m 0 = k) && y == UInt8.ofNat (m + 101)
theorem wroteN_of {x y : UInt8} {b : List Int} {k j : Nat} (h1 : b.getD j 0 = k) (h2 : y = UInt8.ofNat (j + 101)) : ∀ m, j < m → wroteN x y b k m = true
  | 0, h => by omega
  | m + 1, h => by
    unfold wroteN
    by_cases hj : j = m
    · subst hj
      rw [decide_eq_true h1, h2]
      simp
    · rw [wroteN_of h1 h2 m (by omega)]; rfl
theorem wroteN_eq {x : UInt8} {b : List Int} {k : Nat} : ∀ m, wroteN x x b k m = true
  | 0 => by simp [wroteN]
  | m + 1 => by unfold wroteN; rw [wroteN_eq m]; rfl

theorem b64_inj {x y : UInt8} (h : b64 x = b64 y) : x = y := by
  have := congrArg (fun l => l.getD 0 0) h
  simpa [b64] using this

/-- THE LAW. -/
theorem keeps_law {D1 : DSt} (hf : Flat D1) (h20 : D1.kept.length = 20) (hm : D1.mem = []) (b picks : List Int) :
    let D3 := (writesN 101 D1 b b.length).crashed picks
    D3.kept.length = 20 ∧ ∀ k, k < 20 → ∃ x y, D1.kept.getD k [] = b64 x ∧ D3.kept.getD k [] = b64 y ∧ wroteN x y b k b.length = true := by
  intro D3
  have hk2 : (writesN 101 D1 b b.length).kept = D1.kept := writesN_kept 101 D1 b b.length
  have hl : D3.kept.length = 20 := by
    show (keepN _ _ _ _).length = 20
    rw [keepN_length, hk2, h20]
  refine ⟨hl, fun k hk => ?_⟩
  have f2 := flat_writesN hf 101 b b.length
  have f3 : ∀ z ∈ D3.kept, ∃ c, z = b64 c := flat_keepN (pickB picks) f2.kept f2.mem _
  have g1 : D1.kept.getD k [] ∈ D1.kept := by rw [List.getD_eq_getElem?_getD, List.getElem?_eq_getElem (by omega)]; exact List.getElem_mem _
  have g3 : D3.kept.getD k [] ∈ D3.kept := by rw [List.getD_eq_getElem?_getD, List.getElem?_eq_getElem (by omega)]; exact List.getElem_mem _
  obtain ⟨x, hx⟩ := hf.kept _ g1
  obtain ⟨y, hy⟩ := f3 _ g3
  refine ⟨x, y, hx, hy, ?_⟩
  rcases keepN_from (pickB picks) (writesN 101 D1 b b.length).kept (writesN 101 D1 b b.length).mem k (writesN 101 D1 b b.length).mem.length with h | ⟨z, hz, hzk, h⟩
  · have h : D3.kept.getD k [] = (writesN 101 D1 b b.length).kept.getD k [] := h
    rw [hy, hk2, hx] at h
    rw [b64_inj h]
    exact wroteN_eq _
  · have h : D3.kept.getD k [] = z.2 := h
    rcases writesN_mem 101 D1 b b.length z hz with hz | ⟨j, hj, e1, e2⟩
    · rw [hm] at hz; cases hz
    · rw [hy, e2] at h
      exact wroteN_of (by rw [e1, hzk]) (b64_inj h) _ hj

/-- The k-th block within an image. -/
theorem image_part {D : DSt} (h : ∀ b ∈ D.kept, b.length = 64) {k : Nat} (hk : k < D.kept.length) {c : UInt8} (hc : D.kept.getD k [] = b64 c) (j : Nat) (hj : j < 64) : D.image[k * 64 + j]? = some c := by
  have := flatMap_get (fun b : List UInt8 => b) 64 D.kept h k hk j hj
  unfold DSt.image
  rw [List.flatMap_id'] at this
  rw [this]
  rw [List.getD_eq_getElem?_getD, List.getElem?_eq_getElem hk] at hc
  simp only [Option.getD_some] at hc
  rw [hc, b64, List.getElem?_replicate, if_pos hj]

end Go.Proofs.Ytnnhelknpnkphaa
