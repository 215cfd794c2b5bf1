/- The log, plain: what it is, and what its calls do. -/
import Derived.Test.YthglnbkfmmchnaaDisk9
import Derived.Test.YthglnbkfmmchnaaFrame11
namespace Go.Proofs.Ythglnbkfmmchnaa
open Go.RowKit
open Dsk (DSt chunk)

structure LSt where
  bs : Nat
  bl : Nat
  gen : Nat
  seq : Nat
  fin : Nat
  down : Bool

/-- noughts up to the end of the block, or a block of them -/
def padN (L : LSt) (n : Nat) (all : List UInt8) : List UInt8 :=
  if 0 < all.length % 64 then all ++ List.replicate (64 - all.length % 64) 0 else if L.fin + n < L.bl * 64 then all ++ List.replicate 64 0 else all
def laidN (D : DSt) (L : LSt) (b : List UInt8) : List UInt8 × Int :=
  if L.fin % 64 = 0 then (padN L b.length b, 0)
  else if (D.read ((L.bs + L.fin / 64 : Nat) : Int)).2 = 0 then (padN L b.length ((D.read ((L.bs + L.fin / 64 : Nat) : Int)).1.take (L.fin % 64) ++ b), 0)
  else ([], (D.read ((L.bs + L.fin / 64 : Nat) : Int)).2)
/-- the blocks behind the first one, written -/
def laysN (D : DSt) (k0 : Nat) (all : List UInt8) : Nat → Int × DSt
  | 0 => (0, D)
  | k + 1 => if (laysN D k0 all k).1 = 0 then (laysN D k0 all k).2.write ((k0 + (k + 1) : Nat) : Int) (chunk all (k + 1)) else laysN D k0 all k
def laySync (r : Int × DSt) : Int × DSt := if r.1 = 0 then r.2.sync else r
def layOne (n : Nat) (r : Int × DSt) : Int × DSt := if 1 < n then laySync r else r
def layFst (k0 : Nat) (all : List UInt8) (r : Int × DSt) : Int × DSt := if r.1 = 0 then r.2.write (k0 : Int) (chunk all 0) else r
def layF (D : DSt) (k0 : Nat) (all : List UInt8) : Int × DSt := laySync (layFst k0 all (layOne (all.length / 64) (laysN D k0 all (all.length / 64 - 1))))
def layN (D : DSt) (L : LSt) (b : List UInt8) : Int × DSt :=
  if (laidN D L b).2 = 0 then layF D (L.bs + L.fin / 64) (laidN D L b).1 else ((laidN D L b).2, D)
def fitN (L : LSt) (b : List UInt8) : Bool := mayF L.gen L.seq b.length && decide ((encN L.gen L.seq b).length ≤ L.bl * 64 - L.fin)
def addN (D : DSt) (L : LSt) (b : List UInt8) : Int × LSt × DSt :=
  if fitN L b then
    if (layN D L (encN L.gen L.seq b)).1 = 0 then (0, { L with seq := L.seq + 1, fin := L.fin + (encN L.gen L.seq b).length }, (layN D L (encN L.gen L.seq b)).2)
    else ((layN D L (encN L.gen L.seq b)).1, { L with down := true }, (layN D L (encN L.gen L.seq b)).2)
  else (4, L, D)
def appN (D : DSt) (L : LSt) (b : List UInt8) : Int × LSt × DSt := if L.down then (5, L, D) else addN D L b
def areaB (D : DSt) (z n : Int) : Bool := decide (1 ≤ n) && decide (n ≤ D.kept.length) && decide (0 ≤ z) && decide (z ≤ D.kept.length - n)
def areaL (z n : Int) (g : Nat) : LSt := ⟨z.toNat, n.toNat, g, 0, 0, false⟩
def begN (D : DSt) (z n g : Int) (b : List UInt8) : Option LSt × Int × DSt :=
  if areaB D z n && decide (1 ≤ g) && decide (g ≤ 1152921504606846976) then
    if (addN D (areaL z n g.toNat) b).1 = 0 then (some (addN D (areaL z n g.toNat) b).2.1, 0, (addN D (areaL z n g.toNat) b).2.2)
    else (none, (addN D (areaL z n g.toNat) b).1, (addN D (areaL z n g.toNat) b).2.2)
  else (none, 1, D)
/-- the bytes of the area's first blocks -/
def bytesN (D : DSt) (bs : Nat) : Nat → List UInt8
  | 0 => []
  | k + 1 => bytesN D bs k ++ D.at (bs + k)
def nextB (L : LSt) (r : Int × Int × List UInt8 × Int) : Bool := decide (r.2.2.2 ≠ 0) && decide (1 ≤ r.1) && decide (r.2.1 = L.seq) && (decide (L.seq = 0) || decide (r.1 = L.gen))
def nextL (L : LSt) (r : Int × Int × List UInt8 × Int) : LSt := { L with gen := r.1.toNat, seq := L.seq + 1, fin := L.fin + r.2.2.2.toNat }
def nextsN (all : List UInt8) : Nat → LSt → LSt × List (List UInt8)
  | 0, L => (L, [])
  | k + 1, L => if nextB L (decN (all.drop L.fin)) then
      ((nextsN all k (nextL L (decN (all.drop L.fin)))).1, (decN (all.drop L.fin)).2.2.1 :: (nextsN all k (nextL L (decN (all.drop L.fin)))).2) else (L, [])
def foundN (all : List UInt8) (L : LSt) : LSt × List (List UInt8) := nextsN all (all.length + 1) L
def openN (D : DSt) (z n : Int) : Option LSt × List (List UInt8) × Int :=
  if areaB D z n then
    if D.out then (none, [], 5)
    else if (foundN (bytesN D z.toNat n.toNat) (areaL z n 0)).1.seq = 0 then (none, [], 13)
    else (some (foundN (bytesN D z.toNat n.toNat) (areaL z n 0)).1, (foundN (bytesN D z.toNat n.toNat) (areaL z n 0)).2, 0)
  else (none, [], 1)

theorem sync_lenL (D : DSt) : D.sync.2.mem.length ≤ D.mem.length := by
  unfold DSt.sync
  split
  · exact Nat.le_refl _
  · show D.syncd.mem.length ≤ _
    unfold DSt.syncd
    rw [DSt.did_mem]
    exact Nat.zero_le _
theorem sync_keptL (D : DSt) : D.sync.2.kept.length = D.kept.length := by
  unfold DSt.sync
  split
  · rfl
  · show D.syncd.kept.length = _
    unfold DSt.syncd
    rw [DSt.did_kept]
    exact Dsk.keepN_length _ _ _ _
theorem padN_length (L : LSt) (n : Nat) (all : List UInt8) : (padN L n all).length % 64 = 0 ∧ all.length ≤ (padN L n all).length ∧ (padN L n all).length ≤ all.length + 64 := by
  unfold padN
  split
  · rw [List.length_append, List.length_replicate]; omega
  · split
    · rw [List.length_append, List.length_replicate]; omega
    · omega
theorem laysN_stop {D : DSt} {k0 : Nat} {all : List UInt8} {j : Nat} (h : (laysN D k0 all j).1 ≠ 0) : ∀ k, j ≤ k → laysN D k0 all k = laysN D k0 all j
  | 0, hk => by obtain rfl : j = 0 := by omega
                rfl
  | k + 1, hk => by
    by_cases he : j = k + 1
    · rw [he]
    · have ih := laysN_stop h k (by omega)
      rw [laysN, ih, if_neg h]
theorem DSt.write_len1 (D : DSt) (i : Int) (bs : List UInt8) : (D.write i bs).2.mem.length ≤ D.mem.length + 1 := Dsk.DSt.write_len D i bs
theorem laysN_mem (D : DSt) (k0 : Nat) (all : List UInt8) : ∀ k, (laysN D k0 all k).2.mem.length ≤ D.mem.length + k ∧ (laysN D k0 all k).2.kept = D.kept
  | 0 => ⟨Nat.le_refl _, rfl⟩
  | k + 1 => by
    obtain ⟨h1, h2⟩ := laysN_mem D k0 all k
    rw [laysN]
    split
    · exact ⟨Nat.le_trans (Dsk.DSt.write_len _ _ _) (by omega), by rw [Dsk.DSt.write_kept, h2]⟩
    · exact ⟨by omega, h2⟩
theorem decN_le (b : List UInt8) : 0 ≤ (decN b).2.2.2 ∧ (decN b).2.2.2 ≤ b.length := by
  rw [decN]
  split
  · simp
  · rename_i h
    rw [decA]
    split
    · simp
    · rename_i h2
      rw [decB]
      split
      · simp only; omega
      · simp
theorem nextsN_fin (all : List UInt8) : ∀ (k : Nat) (L : LSt), L.fin ≤ all.length → (nextsN all k L).1.fin ≤ all.length ∧ L.fin ≤ (nextsN all k L).1.fin
  | 0, L, h => ⟨h, Nat.le_refl _⟩
  | k + 1, L, h => by
    rw [nextsN]
    split
    · have hd := decN_le (all.drop L.fin)
      rw [List.length_drop] at hd
      have h1 := nextsN_fin all k (nextL L (decN (all.drop L.fin))) (by simp only [nextL]; omega)
      simp only [nextL] at h1 ⊢
      exact ⟨h1.1, by omega⟩
    · exact ⟨h, Nat.le_refl _⟩
end Go.Proofs.Ythglnbkfmmchnaa
namespace Go.Proofs.Ythglnbkfmmchnaa
open Go.RowKit
open Dsk (DSt chunk keepN)

theorem flat_len {K : List (List UInt8)} (h : ∀ b ∈ K, b.length = 64) : K.flatten.length = K.length * 64 := by
  induction K with
  | nil => rfl
  | cons b K ih =>
    rw [List.flatten_cons, List.length_append, ih (fun b hb => h b (List.mem_cons_of_mem _ hb)), h b (List.mem_cons_self ..), List.length_cons]
    omega
theorem flat_get {K : List (List UInt8)} (h : ∀ b ∈ K, b.length = 64) (i : Nat) : K.flatten[i]? = (K[i / 64]?).bind (fun b => b[i % 64]?) := by
  induction K generalizing i with
  | nil => simp
  | cons b K ih =>
    have hb := h b (List.mem_cons_self ..)
    rw [List.flatten_cons]
    by_cases hi : i < 64
    · rw [List.getElem?_append_left (by omega), Nat.div_eq_of_lt hi, Nat.mod_eq_of_lt hi]; rfl
    · rw [List.getElem?_append_right (by omega), ih (fun b hb => h b (List.mem_cons_of_mem _ hb)), hb, show i / 64 = (i - 64) / 64 + 1 by omega, show i % 64 = (i - 64) % 64 by omega]; rfl
/-- blocks lo up to hi, laid anew -/
def putK (K : List (List UInt8)) (lo hi k0 : Nat) (all : List UInt8) : List (List UInt8) := (List.range K.length).map fun j => if lo ≤ j ∧ j < hi then chunk all (j - k0) else K.getD j []
theorem putK_length (K : List (List UInt8)) (lo hi k0 : Nat) (all : List UInt8) : (putK K lo hi k0 all).length = K.length := by simp [putK]
theorem putK_get (K : List (List UInt8)) (lo hi k0 : Nat) (all : List UInt8) (j : Nat) (hj : j < K.length) : (putK K lo hi k0 all)[j]? = some (if lo ≤ j ∧ j < hi then chunk all (j - k0) else K.getD j []) := by
  simp [putK, hj]
theorem getD_some {K : List (List UInt8)} {j : Nat} (hj : j < K.length) : K[j]? = some (K.getD j []) := by
  rw [List.getElem?_eq_getElem hj, List.getD_eq_getElem?_getD, List.getElem?_eq_getElem hj]; rfl
theorem putK_len {K : List (List UInt8)} {lo hi k0 n : Nat} {all : List UInt8} (h : ∀ b ∈ K, b.length = 64) (ha : all.length = n * 64) (hk : k0 ≤ lo) (hh : hi ≤ k0 + n) : ∀ b ∈ putK K lo hi k0 all, b.length = 64 := by
  intro b hb
  simp only [putK, List.mem_map, List.mem_range] at hb
  obtain ⟨j, hj, rfl⟩ := hb
  split
  · exact Dsk.chunk_len (by omega)
  · rw [List.getD_eq_getElem?_getD, List.getElem?_eq_getElem hj]
    exact h _ (List.getElem_mem hj)
def memK (k0 : Nat) (all : List UInt8) (m : Nat) : List (Nat × List UInt8) := (List.range m).map fun i => (k0 + (i + 1), chunk all (i + 1))
theorem memK_get (k0 : Nat) (all : List UInt8) (m k : Nat) (h : k < m) : (memK k0 all m)[k]? = some (k0 + (k + 1), chunk all (k + 1)) := by simp [memK, h]
theorem memK_succ (k0 : Nat) (all : List UInt8) (m : Nat) : memK k0 all (m + 1) = memK k0 all m ++ [(k0 + (m + 1), chunk all (m + 1))] := by
  rw [memK, List.range_succ, List.map_append]; rfl
theorem memK_length (k0 : Nat) (all : List UInt8) (m : Nat) : (memK k0 all m).length = m := by simp [memK]
theorem keep_all (K : List (List UInt8)) (k0 : Nat) (all : List UInt8) (m : Nat) (hK : k0 + m < K.length) : ∀ k, k ≤ m → keepN (fun _ => true) K (memK k0 all m) k = putK K (k0 + 1) (k0 + 1 + k) k0 all
  | 0, _ => by
    apply List.ext_getElem?
    intro j
    show K[j]? = _
    by_cases hj : j < K.length
    · rw [putK_get _ _ _ _ _ _ hj, if_neg (by omega)]
      exact getD_some hj
    · rw [List.getElem?_eq_none (by omega), List.getElem?_eq_none (by rw [putK_length]; omega)]
  | k + 1, hk => by
    have ih := keep_all K k0 all m hK k (by omega)
    rw [keepN, memK_get _ _ _ _ (by omega)]
    simp only [if_true]
    rw [ih]
    apply List.ext_getElem?
    intro j
    rw [List.getElem?_set, putK_length]
    by_cases hj : j < K.length
    · rw [putK_get _ _ _ _ _ _ hj, putK_get _ _ _ _ _ _ hj]
      by_cases he : k0 + (k + 1) = j
      · subst he
        rw [if_pos rfl, if_pos (by omega), if_pos (by omega), show k0 + (k + 1) - k0 = k + 1 by omega]
      · rw [if_neg he]
        by_cases h2 : k0 + 1 ≤ j ∧ j < k0 + 1 + k
        · rw [if_pos h2, if_pos (by omega)]
        · rw [if_neg h2, if_neg (by omega)]
    · rw [if_neg (by omega), List.getElem?_eq_none (by rw [putK_length]; omega), List.getElem?_eq_none (by rw [putK_length]; omega)]
/-- of the blocks up to k0 none is another one -/
structure HalfK (K : List (List UInt8)) (k0 : Nat) (M : List (List UInt8)) : Prop where
  size : M.length = K.length
  len : ∀ b ∈ M, b.length = 64
  same : ∀ j, j ≤ k0 → M[j]? = K[j]?
theorem HalfK.refl {K : List (List UInt8)} (h : ∀ b ∈ K, b.length = 64) (k0 : Nat) : HalfK K k0 K := ⟨rfl, h, fun _ _ => rfl⟩
theorem keep_half (pk : Nat → Bool) {K : List (List UInt8)} (h : ∀ b ∈ K, b.length = 64) (k0 : Nat) {all : List UInt8} {m : Nat} (ha : ∀ i, i ≤ m → (chunk all i).length = 64) : ∀ k, HalfK K k0 (keepN pk K (memK k0 all m) k)
  | 0 => HalfK.refl h k0
  | k + 1 => by
    have ih := keep_half pk h k0 ha k
    rw [keepN]
    by_cases hk : k < m
    · rw [memK_get _ _ _ _ hk]
      simp only
      split
      · refine ⟨by rw [List.length_set, ih.size], fun b hb => ?_, fun j hj => ?_⟩
        · rcases List.mem_or_eq_of_mem_set hb with hb | rfl
          · exact ih.len b hb
          · exact ha _ (by omega)
        · rw [List.getElem?_set_ne (by omega)]
          exact ih.same j hj
      · exact ih
    · rw [List.getElem?_eq_none (by rw [memK_length]; omega)]
      exact ih

theorem write_in {D : DSt} {i : Nat} {bs : List UInt8} (hi : i < D.kept.length) (hb : bs.length = 64) :
    (D.out = true ∧ D.write (i : Int) bs = (5, D)) ∨ (D.out = false ∧ (D.write (i : Int) bs).1 = 0 ∧ (D.write (i : Int) bs).2.mem = D.mem ++ [(i, bs)] ∧ (D.write (i : Int) bs).2.kept = D.kept ∧ (D.write (i : Int) bs).2 = DSt.did { D with mem := D.mem ++ [(i, bs)] }) := by
  have hc : (0 : Int) ≤ (i : Int) ∧ (i : Int) < D.kept.length ∧ bs.length = 64 := ⟨by omega, by omega, hb⟩
  by_cases ho : D.out = true
  · exact .inl ⟨ho, by rw [DSt.write, if_pos hc, if_pos ho]⟩
  · have e : D.write (i : Int) bs = (0, DSt.did { D with mem := D.mem ++ [(i, bs)] }) := by
      rw [DSt.write, if_pos hc, if_neg ho, Int.toNat_natCast]; rfl
    refine .inr ⟨by simpa using ho, by rw [e], ?_, ?_, by rw [e]⟩
    · rw [e]; exact DSt.did_mem _
    · rw [e]; exact DSt.did_kept _
theorem sync_in (D : DSt) : (D.out = true ∧ D.sync = (5, D)) ∨ (D.out = false ∧ D.sync.1 = 0 ∧ D.sync.2.mem = [] ∧ D.sync.2.kept = keepN (fun _ => true) D.kept D.mem D.mem.length ∧ D.sync.2 = DSt.did { D with kept := keepN (fun _ => true) D.kept D.mem D.mem.length, mem := [] }) := by
  by_cases ho : D.out = true
  · exact .inl ⟨ho, by rw [DSt.sync, if_pos ho]⟩
  · have e : D.sync = (0, DSt.did { D with kept := keepN (fun _ => true) D.kept D.mem D.mem.length, mem := [] }) := by rw [DSt.sync, if_neg ho]; rfl
    refine .inr ⟨by simpa using ho, by rw [e], ?_, ?_, by rw [e]⟩
    · rw [e]; exact DSt.did_mem _
    · rw [e]; exact DSt.did_kept _

theorem lays_spec {D : DSt} (hm : D.mem = []) {k0 : Nat} {all : List UInt8} (k : Nat) : k0 + k < D.kept.length → (∀ i, i ≤ k → (chunk all i).length = 64) →
    ∃ j, j ≤ k ∧ (laysN D k0 all k).2.kept = D.kept ∧ (laysN D k0 all k).2.mem = memK k0 all j ∧ ((laysN D k0 all k).1 = 0 ∧ j = k ∨ (laysN D k0 all k).1 = 5) := by
  induction k with
  | zero => intro _ _; exact ⟨0, Nat.le_refl _, by rw [laysN], by rw [laysN]; simpa [memK] using hm, .inl ⟨by rw [laysN], rfl⟩⟩
  | succ k ih =>
    intro hk ha
    obtain ⟨j, hj, h1, h2, h3⟩ := ih (by omega) (fun i hi => ha i (by omega))
    rcases h3 with ⟨h3, rfl⟩ | h3
    · rw [laysN, if_pos h3]
      rcases write_in (D := (laysN D k0 all j).2) (i := k0 + (j + 1)) (bs := chunk all (j + 1)) (by rw [h1]; omega) (ha _ (Nat.le_refl _)) with ⟨_, h4⟩ | ⟨_, h4, h5, h6, _⟩
      · rw [h4]; exact ⟨j, by omega, h1, h2, .inr rfl⟩
      · exact ⟨j + 1, Nat.le_refl _, by rw [h6, h1], by rw [h5, h2, memK_succ], .inl ⟨h4, rfl⟩⟩
    · rw [laysN, if_neg (by rw [h3]; decide)]
      exact ⟨j, by omega, h1, h2, .inr h3⟩

theorem putK_none {K : List (List UInt8)} {lo hi k0 : Nat} {all : List UInt8} (h : hi ≤ lo) : putK K lo hi k0 all = K := by
  apply List.ext_getElem?
  intro j
  by_cases hj : j < K.length
  · rw [putK_get _ _ _ _ _ _ hj, if_neg (by omega)]
    exact (getD_some hj).symm
  · rw [List.getElem?_eq_none (by rw [putK_length]; omega), List.getElem?_eq_none (by omega)]
theorem putK_first {K : List (List UInt8)} {k0 n : Nat} {all : List UInt8} (hn : 1 ≤ n) : (putK K (k0 + 1) (k0 + n) k0 all).set k0 (chunk all 0) = putK K k0 (k0 + n) k0 all := by
  apply List.ext_getElem?
  intro j
  rw [List.getElem?_set, putK_length]
  by_cases hj : j < K.length
  · rw [putK_get _ _ _ _ _ _ hj, putK_get _ _ _ _ _ _ hj]
    by_cases he : k0 = j
    · subst he
      rw [if_pos rfl, if_pos hj, if_pos (by omega), Nat.sub_self]
    · rw [if_neg he]
      by_cases h2 : k0 + 1 ≤ j ∧ j < k0 + n
      · rw [if_pos h2, if_pos (by omega)]
      · rw [if_neg h2, if_neg (by omega)]
  · rw [List.getElem?_eq_none (by rw [putK_length]; omega), List.getElem?_eq_none (by rw [putK_length]; omega)]
    split
    · rw [if_neg (by omega)]
    · rfl
theorem half_mid {K : List (List UInt8)} {k0 n : Nat} {all : List UInt8} (h : ∀ b ∈ K, b.length = 64) (ha : all.length = n * 64) : HalfK K k0 (putK K (k0 + 1) (k0 + n) k0 all) where
  size := putK_length _ _ _ _ _
  len := putK_len h ha (by omega) (by omega)
  same := fun j hj => by
    by_cases hj2 : j < K.length
    · rw [putK_get _ _ _ _ _ _ hj2, if_neg (by omega)]
      exact (getD_some hj2).symm
    · rw [List.getElem?_eq_none (by rw [putK_length]; omega), List.getElem?_eq_none (by omega)]

/-- What a lay leaves: all is kept; or the power went out, and then, whatever is kept, nothing of the blocks up to the first one is another one, or all is laid. -/
theorem layF_spec {D : DSt} (hm : D.mem = []) (hK : ∀ b ∈ D.kept, b.length = 64) {k0 n : Nat} {all : List UInt8} (ha : all.length = n * 64) (hn : 1 ≤ n) (hf : k0 + n ≤ D.kept.length) :
    ((layF D k0 all).1 = 0 ∧ (layF D k0 all).2.mem = [] ∧ (layF D k0 all).2.kept = putK D.kept k0 (k0 + n) k0 all) ∨
    ((layF D k0 all).1 = 5 ∧ ∀ pk, HalfK D.kept k0 (keepN pk (layF D k0 all).2.kept (layF D k0 all).2.mem (layF D k0 all).2.mem.length) ∨ keepN pk (layF D k0 all).2.kept (layF D k0 all).2.mem (layF D k0 all).2.mem.length = putK D.kept k0 (k0 + n) k0 all) := by
  have hdiv : all.length / 64 = n := by omega
  obtain ⟨m, rfl⟩ : ∃ m, n = m + 1 := ⟨n - 1, by omega⟩
  have hch : ∀ i, i ≤ m → (chunk all i).length = 64 := fun i hi => Dsk.chunk_len (by omega)
  obtain ⟨j, hj, h1, h2, h3⟩ := lays_spec hm (k0 := k0) (all := all) m (by omega) hch
  -- behind the blocks of the rest
  have hB : ((layOne (m + 1) (laysN D k0 all m)).1 = 0 ∧ (layOne (m + 1) (laysN D k0 all m)).2.mem = [] ∧ (layOne (m + 1) (laysN D k0 all m)).2.kept = putK D.kept (k0 + 1) (k0 + (m + 1)) k0 all) ∨
      ((layOne (m + 1) (laysN D k0 all m)).1 = 5 ∧ ∀ pk, HalfK D.kept k0 (keepN pk (layOne (m + 1) (laysN D k0 all m)).2.kept (layOne (m + 1) (laysN D k0 all m)).2.mem (layOne (m + 1) (laysN D k0 all m)).2.mem.length)) := by
    generalize laysN D k0 all m = r at h1 h2 h3 ⊢
    obtain ⟨e, E⟩ := r
    simp only at h1 h2 h3
    by_cases hm1 : 1 < m + 1
    · rw [layOne, if_pos hm1, laySync]
      rcases h3 with ⟨rfl, rfl⟩ | rfl
      · simp only [if_true]
        rcases sync_in E with ⟨_, h4⟩ | ⟨_, h4, h5, h6, _⟩
        · rw [h4]
          refine .inr ⟨rfl, fun pk => ?_⟩
          rw [h1, h2]
          exact keep_half pk hK k0 (fun i hi => hch i (by omega)) _
        · refine .inl ⟨h4, h5, ?_⟩
          rw [h6, h1, h2, memK_length, keep_all _ _ _ _ (by omega) _ (Nat.le_refl _), show k0 + 1 + j = k0 + (j + 1) by omega]
      · simp only [show ¬ ((5 : Int) = 0) by decide, if_false]
        refine .inr ⟨trivial, fun pk => ?_⟩
        rw [h1, h2]
        exact keep_half pk hK k0 (fun i hi => hch i (by omega)) _
    · obtain rfl : m = 0 := by omega
      obtain rfl : j = 0 := by omega
      rw [layOne, if_neg hm1]
      rcases h3 with ⟨rfl, -⟩ | rfl
      · exact .inl ⟨rfl, h2, by rw [h1, putK_none (by omega)]⟩
      · refine .inr ⟨rfl, fun pk => ?_⟩
        simp only
        rw [h1, h2]
        exact keep_half pk hK k0 (fun i hi => hch i (by omega)) _
  have e0 : layF D k0 all = laySync (layFst k0 all (layOne (m + 1) (laysN D k0 all m))) := by rw [layF, hdiv]; rfl
  rw [e0]
  clear e0 h1 h2 h3
  generalize layOne (m + 1) (laysN D k0 all m) = r at hB ⊢
  obtain ⟨e, E⟩ := r
  simp only at hB
  rcases hB with ⟨rfl, h2, h3⟩ | ⟨rfl, h2⟩
  · rw [layFst]
    simp only [if_true]
    have hl : E.kept.length = D.kept.length := by rw [h3, putK_length]
    rcases write_in (D := E) (i := k0) (bs := chunk all 0) (by omega) (Dsk.chunk_len (by omega)) with ⟨_, h4⟩ | ⟨_, h4, h5, h6, _⟩
    · rw [h4, laySync]
      simp only [show ¬ ((5 : Int) = 0) by decide, if_false]
      refine .inr ⟨trivial, fun pk => .inl ?_⟩
      rw [h2, h3]
      exact half_mid hK ha
    · generalize E.write (k0 : Int) (chunk all 0) = s at h4 h5 h6 ⊢
      obtain ⟨e2, F⟩ := s
      simp only at h4 h5 h6
      subst h4
      rw [h2, List.nil_append] at h5
      rw [h3] at h6
      rw [laySync]
      simp only [if_true]
      have hset : keepN (fun _ => true) F.kept F.mem F.mem.length = putK D.kept k0 (k0 + (m + 1)) k0 all := by
        rw [h5, h6, List.length_singleton, keepN]
        simp only [List.getElem?_cons_zero, if_true, keepN]
        exact putK_first (by omega)
      rcases sync_in F with ⟨_, h7⟩ | ⟨_, h7, h8, h9, _⟩
      · rw [h7]
        refine .inr ⟨rfl, fun pk => ?_⟩
        simp only
        rw [h5, h6, List.length_singleton, keepN]
        simp only [List.getElem?_cons_zero, keepN]
        split
        · exact .inr (putK_first (by omega))
        · exact .inl (half_mid hK ha)
      · exact .inl ⟨h7, h8, by rw [h9, hset]⟩
  · rw [layFst]
    simp only [show ¬ ((5 : Int) = 0) by decide, if_false]
    rw [laySync]
    simp only [show ¬ ((5 : Int) = 0) by decide, if_false]
    exact .inr ⟨trivial, fun pk => .inl (h2 pk)⟩
end Go.Proofs.Ythglnbkfmmchnaa
namespace Go.Proofs.Ythglnbkfmmchnaa
open Go.RowKit
open Dsk (DSt chunk keepN)

/-- frames of one turn, one behind the other -/
def encs (g : Nat) : Nat → List (List UInt8) → List UInt8
  | _, [] => []
  | i, x :: r => encN g i x ++ encs g (i + 1) r
theorem encs_snoc (g : Nat) (b : List UInt8) : ∀ (i : Nat) (xs : List (List UInt8)), encs g i (xs ++ [b]) = encs g i xs ++ encN g (i + xs.length) b
  | i, [] => by simp [encs]
  | i, x :: r => by rw [List.cons_append, encs, encs_snoc g b (i + 1) r, encs, List.append_assoc, List.length_cons, show i + 1 + r.length = i + (r.length + 1) by omega]
structure LogPre (K : List (List UInt8)) (L : LSt) (g : Nat) (xs : List (List UInt8)) : Prop where
  len : ∀ b ∈ K, b.length = 64
  bs : L.bs = 0
  bl : L.bl = K.length
  gen : L.gen = g
  g1 : 1 ≤ g
  seq : L.seq = xs.length
  fin : L.fin = (encs g 0 xs).length
  fits : L.fin ≤ K.length * 64
  pre : K.flatten.take L.fin = encs g 0 xs
  may : ∀ (i : Nat) (x : List UInt8), xs[i]? = some x → mayF g i x.length = true
structure LogOk (K : List (List UInt8)) (L : LSt) (g : Nat) (xs : List (List UInt8)) : Prop extends toLogPre : LogPre K L g xs where
  nxt : L.fin < K.length * 64 → K.flatten[L.fin]? = some 0

theorem half_byte {K M : List (List UInt8)} {k0 : Nat} (hK : ∀ b ∈ K, b.length = 64) (h : HalfK K k0 M) {i : Nat} (hi : i / 64 ≤ k0) : M.flatten[i]? = K.flatten[i]? := by
  rw [flat_get h.len, flat_get hK, h.same _ hi]
theorem half_take {K M : List (List UInt8)} {k0 : Nat} (hK : ∀ b ∈ K, b.length = 64) (h : HalfK K k0 M) {n : Nat} (hn : n ≤ (k0 + 1) * 64) : M.flatten.take n = K.flatten.take n := by
  apply List.ext_getElem?
  intro i
  rw [List.getElem?_take, List.getElem?_take]
  split
  · exact half_byte hK h (by omega)
  · rfl
theorem LogPre.half {K M : List (List UInt8)} {L : LSt} {g : Nat} {xs : List (List UInt8)} (h : LogPre K L g xs) (hh : HalfK K (L.fin / 64) M) : LogPre M L g xs where
  len := hh.len
  bs := h.bs
  bl := by rw [hh.size]; exact h.bl
  gen := h.gen
  g1 := h.g1
  seq := h.seq
  fin := h.fin
  fits := by rw [hh.size]; exact h.fits
  pre := by rw [half_take h.len hh (by omega)]; exact h.pre
  may := h.may
theorem LogOk.half {K M : List (List UInt8)} {L : LSt} {g : Nat} {xs : List (List UInt8)} (h : LogOk K L g xs) (hh : HalfK K (L.fin / 64) M) : LogOk M L g xs where
  toLogPre := h.toLogPre.half hh
  nxt := by rw [hh.size, half_byte h.len hh (Nat.le_refl _)]; exact h.nxt

theorem put_byte {K : List (List UInt8)} (hK : ∀ b ∈ K, b.length = 64) {k0 n : Nat} {all : List UInt8} (ha : all.length = n * 64) (hf : k0 + n ≤ K.length) (i : Nat) :
    (putK K k0 (k0 + n) k0 all).flatten[i]? = if k0 * 64 ≤ i ∧ i < k0 * 64 + all.length then all[i - k0 * 64]? else K.flatten[i]? := by
  have hp := putK_len (lo := k0) (hi := k0 + n) hK ha (Nat.le_refl _) (Nat.le_refl _)
  rw [flat_get hp, flat_get hK]
  by_cases hi : i / 64 < K.length
  · rw [putK_get _ _ _ _ _ _ hi]
    by_cases h2 : k0 * 64 ≤ i ∧ i < k0 * 64 + all.length
    · rw [if_pos h2, if_pos (by omega)]
      simp only [Option.bind_some, chunk]
      rw [List.getElem?_take, if_pos (by omega), List.getElem?_drop]
      congr 1
      omega
    · rw [if_neg h2, if_neg (by omega), getD_some hi]
  · rw [if_neg (by omega), List.getElem?_eq_none (by rw [putK_length]; omega), List.getElem?_eq_none (by omega)]
theorem pad_get {L : LSt} {n : Nat} {all : List UInt8} (i : Nat) (hi : i < (padN L n all).length) : (padN L n all)[i]? = if i < all.length then all[i]? else some 0 := by
  unfold padN at hi ⊢
  split at hi
  · rename_i h
    rw [if_pos h, List.getElem?_append]
    split
    · rfl
    · rw [List.length_append, List.length_replicate] at hi
      rw [List.getElem?_replicate, if_pos (by omega)]
  · rename_i h
    rw [if_neg h]
    split at hi
    · rename_i h2
      rw [if_pos h2, List.getElem?_append]
      split
      · rfl
      · rw [List.length_append, List.length_replicate] at hi
        rw [List.getElem?_replicate, if_pos (by omega)]
    · rename_i h2
      rw [if_neg h2, if_pos hi]

/-- the head of the block in which the log ends -/
theorem read_at {D : DSt} (hm : D.mem = []) (ho : D.out = false) {i : Nat} (hi : i < D.kept.length) : D.read (i : Int) = (D.kept.getD i [], 0) := by
  have h : (0 : Int) ≤ (i : Int) ∧ (i : Int) < D.kept.length := ⟨by omega, by omega⟩
  rw [DSt.read, if_pos h, ho, Int.toNat_natCast]
  simp only [Bool.false_eq_true, if_false, DSt.at, hm, List.length_nil, Dsk.readN]
theorem read_out {D : DSt} (ho : D.out = true) {i : Nat} (hi : i < D.kept.length) : (D.read (i : Int)).2 = 5 := by
  have h : (0 : Int) ≤ (i : Int) ∧ (i : Int) < D.kept.length := ⟨by omega, by omega⟩
  rw [DSt.read, if_pos h, ho]
  rfl

/-- A record more: it is there; or the power went out, and then, whatever is kept, nothing is another one up to the end, or it is there. -/
theorem layN_spec {D : DSt} {L : LSt} {g : Nat} {xs : List (List UInt8)} {b : List UInt8} (hm : D.mem = []) (h : LogPre D.kept L g xs) (hmay : mayF g xs.length b.length = true) (hfit : L.fin + (encN g xs.length b).length ≤ D.kept.length * 64) (d : Bool) :
    ((layN D L (encN g xs.length b)).1 = 0 ∧ (layN D L (encN g xs.length b)).2.mem = [] ∧ LogOk (layN D L (encN g xs.length b)).2.kept { L with seq := L.seq + 1, fin := L.fin + (encN g xs.length b).length, down := d } g (xs ++ [b])) ∨
    ((layN D L (encN g xs.length b)).1 = 5 ∧ ∀ pk, HalfK D.kept (L.fin / 64) (keepN pk (layN D L (encN g xs.length b)).2.kept (layN D L (encN g xs.length b)).2.mem (layN D L (encN g xs.length b)).2.mem.length) ∨
      LogOk (keepN pk (layN D L (encN g xs.length b)).2.kept (layN D L (encN g xs.length b)).2.mem (layN D L (encN g xs.length b)).2.mem.length) { L with seq := L.seq + 1, fin := L.fin + (encN g xs.length b).length, down := d } g (xs ++ [b])) := by
  have hel := encN_len g xs.length b
  have hsn := encs_snoc g b 0 xs
  rw [Nat.zero_add] at hsn
  generalize encN g xs.length b = f at *
  have hfp : 0 < f.length := by omega
  have hbs := h.bs
  have hbl := h.bl
  have hk0 : L.fin / 64 < D.kept.length := by omega
  -- what is laid
  have main : ∀ pre0 : List UInt8, pre0.length = L.fin % 64 → (∀ j, j < L.fin % 64 → pre0[j]? = D.kept.flatten[L.fin / 64 * 64 + j]?) → ∀ all, all = padN L f.length (pre0 ++ f) →
      ((layF D (L.fin / 64) all).1 = 0 ∧ (layF D (L.fin / 64) all).2.mem = [] ∧ LogOk (layF D (L.fin / 64) all).2.kept { L with seq := L.seq + 1, fin := L.fin + f.length, down := d } g (xs ++ [b])) ∨
      ((layF D (L.fin / 64) all).1 = 5 ∧ ∀ pk, HalfK D.kept (L.fin / 64) (keepN pk (layF D (L.fin / 64) all).2.kept (layF D (L.fin / 64) all).2.mem (layF D (L.fin / 64) all).2.mem.length) ∨
        LogOk (keepN pk (layF D (L.fin / 64) all).2.kept (layF D (L.fin / 64) all).2.mem (layF D (L.fin / 64) all).2.mem.length) { L with seq := L.seq + 1, fin := L.fin + f.length, down := d } g (xs ++ [b])) := by
    intro pre0 hp0 hp1 all hall
    obtain ⟨a1, a2, a3⟩ := padN_length L f.length (pre0 ++ f)
    have hget := fun i => @pad_get L f.length (pre0 ++ f) i
    have hup : L.fin / 64 * 64 + (padN L f.length (pre0 ++ f)).length ≤ D.kept.length * 64 ∧ (L.fin + f.length < D.kept.length * 64 → L.fin + f.length < L.fin / 64 * 64 + (padN L f.length (pre0 ++ f)).length) := by
      unfold padN
      rw [List.length_append, hp0, hbl]
      split
      · rw [List.length_append, List.length_append, List.length_replicate, hp0]; omega
      · split
        · rw [List.length_append, List.length_append, List.length_replicate, hp0]; omega
        · rw [List.length_append, hp0]; omega
    rw [← hall] at a1 a2 a3 hget hup
    obtain ⟨hup1, hup2⟩ := hup
    rw [List.length_append, hp0] at a2 a3
    simp only [List.length_append, hp0] at hget
    clear hall
    obtain ⟨n, hn⟩ : ∃ n, all.length = n * 64 := ⟨all.length / 64, by omega⟩
    have hnew : LogOk (putK D.kept (L.fin / 64) (L.fin / 64 + n) (L.fin / 64) all) { L with seq := L.seq + 1, fin := L.fin + f.length, down := d } g (xs ++ [b]) := by
      have hb := put_byte h.len (k0 := L.fin / 64) hn (by omega)
      refine ⟨⟨putK_len h.len hn (Nat.le_refl _) (Nat.le_refl _), hbs, by rw [putK_length]; exact hbl, h.gen, h.g1, by simp [h.seq], ?_, ?_, ?_, ?_⟩, ?_⟩
      · show L.fin + f.length = _
        rw [hsn, List.length_append, ← h.fin]
      · rw [putK_length]; exact hfit
      · show List.take (L.fin + f.length) _ = _
        rw [hsn, ← h.pre]
        apply List.ext_getElem?
        intro i
        have hKl := flat_len h.len
        have htl : (D.kept.flatten.take L.fin).length = L.fin := by rw [List.length_take, hKl]; exact Nat.min_eq_left h.fits
        rw [List.getElem?_take, List.getElem?_append, htl, List.getElem?_take, hb i]
        by_cases h1 : i < L.fin
        · rw [if_pos (by omega), if_pos h1, if_pos h1]
          by_cases h2 : L.fin / 64 * 64 ≤ i ∧ i < L.fin / 64 * 64 + all.length
          · rw [if_pos h2, hget _ (by omega), if_pos (by omega), List.getElem?_append_left (by omega), hp1 _ (by omega)]
            congr 1
            omega
          · rw [if_neg h2]
        · rw [if_neg h1]
          by_cases h2 : i < L.fin + f.length
          · rw [if_pos h2, if_pos (by omega), hget _ (by omega), if_pos (by omega), List.getElem?_append_right (by omega), hp0]
            congr 1
            omega
          · rw [if_neg h2, List.getElem?_eq_none (by omega)]
      · intro i x hx
        rw [List.getElem?_append] at hx
        split at hx
        · exact h.may i x hx
        · rename_i hi
          by_cases h3 : i = xs.length
          · subst h3
            simp only [Nat.sub_self, List.getElem?_cons_zero, Option.some.injEq] at hx
            rw [← hx]
            exact hmay
          · rw [List.getElem?_eq_none (by simp; omega)] at hx
            cases hx
      · intro hlt
        rw [putK_length] at hlt
        show _ = some 0
        rw [hb]
        have := hup2 hlt
        simp only at hlt ⊢
        rw [if_pos (by omega), hget _ (by omega), if_neg (by omega)]
    have hn1 : 1 ≤ n := by clear hget hup2 hnew hp1; omega
    have hn2 : L.fin / 64 + n ≤ D.kept.length := by clear hget hup2 hnew hp1; omega
    rcases layF_spec hm h.len hn hn1 hn2 with ⟨h1, h2, h3⟩ | ⟨h1, h2⟩
    · exact .inl ⟨h1, h2, by rw [h3]; exact hnew⟩
    · refine .inr ⟨h1, fun pk => ?_⟩
      rcases h2 pk with h2 | h2
      · exact .inl h2
      · exact .inr (by rw [h2]; exact hnew)
  unfold layN laidN
  have ek : L.bs + L.fin / 64 = L.fin / 64 := by omega
  rw [ek]
  by_cases h0 : L.fin % 64 = 0
  · rw [if_pos h0]
    simp only [if_true]
    exact main [] (by rw [h0]; rfl) (fun j hj => by omega) _ rfl
  · rw [if_neg h0]
    cases ho : D.out with
    | false =>
      rw [read_at hm ho hk0]
      simp only [if_true]
      have hl := h.len _ (List.getElem_mem hk0)
      have hgd : D.kept.getD (L.fin / 64) [] = D.kept[L.fin / 64] := by rw [List.getD_eq_getElem?_getD, List.getElem?_eq_getElem hk0]; rfl
      refine main _ ?_ (fun j hj => ?_) _ rfl
      · rw [List.length_take, hgd, hl]; omega
      · rw [List.getElem?_take, if_pos hj, flat_get h.len, show (L.fin / 64 * 64 + j) / 64 = L.fin / 64 by omega, show (L.fin / 64 * 64 + j) % 64 = j by omega, getD_some hk0]
        rfl
    | true =>
      have hr := read_out ho hk0
      rw [hr]
      simp only [show ¬ ((5 : Int) = 0) by decide, if_false]
      refine .inr ⟨trivial, fun pk => .inl ?_⟩
      rw [hm]
      exact HalfK.refl h.len _

theorem addN_spec {D : DSt} {L : LSt} {g : Nat} {xs : List (List UInt8)} {b : List UInt8} (hm : D.mem = []) (h : LogPre D.kept L g xs) :
    (fitN L b = false ∧ addN D L b = (4, L, D)) ∨
    (fitN L b = true ∧ (addN D L b).1 = 0 ∧ (addN D L b).2.1 = { L with seq := L.seq + 1, fin := L.fin + (encN g xs.length b).length } ∧ (addN D L b).2.2 = (layN D L (encN g xs.length b)).2 ∧ (addN D L b).2.2.mem = [] ∧ LogOk (addN D L b).2.2.kept (addN D L b).2.1 g (xs ++ [b])) ∨
    (fitN L b = true ∧ (addN D L b).1 = 5 ∧ (addN D L b).2.1 = { L with down := true } ∧ (addN D L b).2.2 = (layN D L (encN g xs.length b)).2 ∧ ∀ pk, HalfK D.kept (L.fin / 64) (keepN pk (addN D L b).2.2.kept (addN D L b).2.2.mem (addN D L b).2.2.mem.length) ∨
      LogOk (keepN pk (addN D L b).2.2.kept (addN D L b).2.2.mem (addN D L b).2.2.mem.length) { L with seq := L.seq + 1, fin := L.fin + (encN g xs.length b).length } g (xs ++ [b])) := by
  unfold addN
  cases hf : fitN L b with
  | false => exact .inl ⟨rfl, rfl⟩
  | true =>
    rw [fitN, Bool.and_eq_true, decide_eq_true_eq] at hf
    obtain ⟨f1, f2⟩ := hf
    have hg := h.gen
    have hs := h.seq
    rw [hg, hs] at f1 f2
    rw [h.bl] at f2
    simp only [if_true, hg, hs]
    have hel := encN_len g xs.length b
    have := h.fits
    have hd := layN_spec hm h f1 (by omega) L.down
    simp only [hg, hs] at hd
    rcases hd with ⟨h1, h2, h3⟩ | ⟨h1, h2⟩
    · rw [if_pos h1]
      exact .inr (.inl ⟨trivial, rfl, rfl, rfl, h2, h3⟩)
    · rw [if_neg (by rw [h1]; decide)]
      exact .inr (.inr ⟨trivial, h1, rfl, rfl, h2⟩)

/-! ### found again -/
theorem decN_nought {l : List UInt8} (h : l = [] ∨ l[0]? = some 0) : decN l = (0, 0, [], 0) := by
  refine decN_short ?_
  rcases h with rfl | h
  · exact .inl (by decide)
  · refine .inr ?_
    rw [List.getD_eq_getElem?_getD, h]
    decide
theorem nexts_ok {g : Nat} (g1 : 1 ≤ g) : ∀ (xs : List (List UInt8)) (i : Nat) (pre rest : List UInt8) (fuel : Nat) (L : LSt), (rest = [] ∨ rest[0]? = some 0) → L.fin = pre.length → L.seq = i → (i = 0 ∨ L.gen = g) →
    (∀ (j : Nat) (x : List UInt8), xs[j]? = some x → mayF g ((i + j : Nat) : Int) x.length = true) → xs.length < fuel →
    nextsN (pre ++ (encs g i xs ++ rest)) fuel L = ({ L with gen := if xs = [] then L.gen else g, seq := i + xs.length, fin := pre.length + (encs g i xs).length }, xs)
  | [], i, pre, rest, fuel + 1, L, hr, hf, hs, _, _, _ => by
    rw [nextsN, hf, List.drop_left, encs, List.nil_append, decN_nought hr]
    rw [if_neg (by simp [nextB])]
    obtain ⟨_, _, _, _, _, _⟩ := L
    simp only at hf hs
    subst hf hs
    simp
  | x :: xs, i, pre, rest, fuel + 1, L, hr, hf, hs, hg, hm, hl => by
    have hm0 := hm 0 x rfl
    rw [Nat.add_zero] at hm0
    have hp := encN_len g i x
    rw [nextsN, hf, List.drop_left, encs, List.append_assoc, dec_enc g i x _ hm0]
    rw [if_pos (by simp only [nextB, hs]; simp only [Bool.and_eq_true, Bool.or_eq_true, decide_eq_true_eq]; refine ⟨⟨⟨by omega, by omega⟩, trivial⟩, ?_⟩; rcases hg with h | h; exact .inl h; exact .inr (by rw [h]))]
    have e : pre ++ (encN g i x ++ (encs g (i + 1) xs ++ rest)) = (pre ++ encN g i x) ++ (encs g (i + 1) xs ++ rest) := by rw [List.append_assoc]
    rw [e, nexts_ok g1 xs (i + 1) (pre ++ encN g i x) rest fuel _ hr (by simp [nextL, hf]) (by simp [nextL, hs]) (.inr (by simp [nextL])) (fun j y hy => by rw [show i + 1 + j = i + (j + 1) by omega]; exact hm (j + 1) y (by simpa using hy)) (by simpa using hl)]
    obtain ⟨_, _, _, _, _, _⟩ := L
    simp only [nextL, Int.toNat_natCast, List.length_append, List.length_cons, reduceCtorEq, if_false, Prod.mk.injEq, and_true, LSt.mk.injEq, true_and]
    refine ⟨?_, by omega, by omega⟩
    split <;> rfl
theorem bytesN_flat {D : DSt} (hm : D.mem = []) : ∀ k, k ≤ D.kept.length → bytesN D 0 k = (D.kept.take k).flatten
  | 0, _ => rfl
  | k + 1, hk => by
    rw [bytesN, bytesN_flat hm k (by omega), List.take_add_one, getD_some (by omega : k < D.kept.length)]
    simp [DSt.at, hm, Dsk.readN]
theorem encs_count (g : Nat) : ∀ (i : Nat) (xs : List (List UInt8)), xs.length ≤ (encs g i xs).length
  | _, [] => Nat.le_refl _
  | i, x :: r => by
    have := encs_count g (i + 1) r
    have h2 := encN_len g i x
    rw [encs, List.length_append, List.length_cons]
    omega
theorem area_whole {D : DSt} (h : 1 ≤ D.kept.length) : areaB D 0 D.kept.length = true := by
  simp only [areaB, Bool.and_eq_true, decide_eq_true_eq]
  omega
theorem openN_ok {D : DSt} {L : LSt} {g : Nat} {xs : List (List UInt8)} (hm : D.mem = []) (ho : D.out = false) (h : LogOk D.kept L g xs) (hx : xs ≠ []) (hK : 1 ≤ D.kept.length) : openN D 0 D.kept.length = (some { L with down := false }, xs, 0) := by
  have hb : bytesN D (0 : Int).toNat (D.kept.length : Int).toNat = D.kept.flatten := by
    rw [Int.toNat_natCast, show (0 : Int).toNat = 0 from rfl, bytesN_flat hm _ (Nat.le_refl _), List.take_length]
  have hsplit : D.kept.flatten = [] ++ (encs g 0 xs ++ D.kept.flatten.drop L.fin) := by
    rw [List.nil_append, ← h.pre, List.take_append_drop]
  have hl := flat_len h.len
  have hfit := h.fits
  have hrest : D.kept.flatten.drop L.fin = [] ∨ (D.kept.flatten.drop L.fin)[0]? = some 0 := by
    rcases Nat.lt_or_ge L.fin (D.kept.length * 64) with h1 | h1
    · exact .inr (by rw [List.getElem?_drop, Nat.add_zero]; exact h.nxt h1)
    · exact .inl (List.drop_eq_nil_iff.2 (by omega))
  have hc := encs_count g 0 xs
  have hfin := h.fin
  have hn := nexts_ok h.g1 xs 0 [] (D.kept.flatten.drop L.fin) (D.kept.flatten.length + 1) (areaL 0 D.kept.length 0) hrest rfl rfl (.inl rfl) (fun j x hj => by rw [Nat.zero_add]; exact h.may j x hj) (by omega)
  rw [← hsplit] at hn
  have hL : { areaL 0 D.kept.length 0 with gen := if xs = [] then (areaL 0 D.kept.length 0).gen else g, seq := 0 + xs.length, fin := ([] : List UInt8).length + (encs g 0 xs).length } = ({ L with down := false } : LSt) := by
    rw [if_neg hx]
    simp only [areaL, Int.toNat_natCast, LSt.mk.injEq, List.length_nil, Nat.zero_add, and_true]
    exact ⟨by rw [h.bs]; rfl, h.bl.symm, h.gen.symm, h.seq.symm, hfin.symm⟩
  rw [hL] at hn
  unfold openN foundN
  rw [area_whole hK, hb, hn, ho]
  have : ¬ L.seq = 0 := by
    rw [h.seq]; intro e; exact hx (List.eq_nil_of_length_eq_zero e)
  simp [this]
end Go.Proofs.Ythglnbkfmmchnaa
namespace Go.Proofs.Ythglnbkfmmchnaa
open Go.RowKit
open Dsk (DSt chunk keepN)

def In64 (z : Int) : Prop := -9223372036854775808 ≤ z ∧ z ≤ 9223372036854775807
theorem wrap64_in (z : Int) : In64 (wrap64 z) := by unfold wrap64 In64; omega
theorem wrap64_zero {z : Int} (h : In64 z) : z = wrap64 (z + ((0 : Nat) : Int)) := by
  obtain ⟨h1, h2⟩ := h
  unfold wrap64
  omega
theorem wrap64_add (c : Int) (m n : Nat) : wrap64 (wrap64 (c + (m : Int)) + (n : Int)) = wrap64 (c + ((m + n : Nat) : Int)) := by unfold wrap64; omega
/-- The power stays there, and so many more Writes and Syncs were done. -/
structure Went (D E : DSt) (m : Nat) : Prop where
  out : E.out = false
  armed : E.armed = false
  calls : E.calls = wrap64 (D.calls + (m : Int))
theorem Went.refl {D : DSt} (ho : D.out = false) (ha : D.armed = false) (hc : In64 D.calls) : Went D D 0 := ⟨ho, ha, wrap64_zero hc⟩
theorem Went.trans {D E F : DSt} {m n : Nat} (h : Went D E m) (k : Went E F n) : Went D F (m + n) := ⟨k.out, k.armed, by rw [k.calls, h.calls, wrap64_add]⟩
theorem wrap64_ne {c : Int} {m : Nat} (hc : In64 c) (h1 : 1 ≤ m) (h2 : m ≤ 100000) : wrap64 (c + (m : Int)) ≠ c := by
  obtain ⟨h3, h4⟩ := hc
  unfold wrap64
  omega
theorem Went.ne {D E : DSt} {m : Nat} (h : Went D E m) (h1 : 1 ≤ m) (h2 : m ≤ 100000) (hc : In64 D.calls) : E.calls ≠ D.calls := by
  rw [h.calls]
  exact wrap64_ne hc h1 h2
theorem did_went {D : DSt} (ho : D.out = false) (ha : D.armed = false) : D.did.out = false ∧ D.did.armed = false ∧ D.did.calls = wrap64 (D.calls + 1) := by
  have e : D.did = { D with calls := wrap64 (D.calls + 1) } := by
    unfold DSt.did
    rw [if_neg (by rw [ha]; decide)]
  rw [e]
  exact ⟨ho, ha, rfl⟩
theorem write_went {D : DSt} {i : Nat} {bs : List UInt8} (ho : D.out = false) (ha : D.armed = false) (hi : i < D.kept.length) (hb : bs.length = 64) : (D.write (i : Int) bs).1 = 0 ∧ Went D (D.write (i : Int) bs).2 1 := by
  rcases write_in (D := D) hi hb with ⟨h, _⟩ | ⟨_, h1, _, _, h2⟩
  · rw [ho] at h; cases h
  · rw [h2]
    obtain ⟨d1, d2, d3⟩ := did_went (D := { D with mem := D.mem ++ [(i, bs)] }) ho ha
    exact ⟨h1, d1, d2, d3⟩
theorem sync_went {D : DSt} (ho : D.out = false) (ha : D.armed = false) : D.sync.1 = 0 ∧ Went D D.sync.2 1 := by
  rcases sync_in D with ⟨h, _⟩ | ⟨_, h1, _, _, h2⟩
  · rw [ho] at h; cases h
  · rw [h2]
    obtain ⟨d1, d2, d3⟩ := did_went (D := { D with kept := keepN (fun _ => true) D.kept D.mem D.mem.length, mem := [] }) ho ha
    exact ⟨h1, d1, d2, d3⟩
theorem lays_went {D : DSt} (ho : D.out = false) (ha : D.armed = false) (hc : In64 D.calls) {k0 : Nat} {all : List UInt8} (k : Nat) (hk : k0 + k < D.kept.length) (hch : ∀ i, i ≤ k → (chunk all i).length = 64) :
    (laysN D k0 all k).1 = 0 ∧ Went D (laysN D k0 all k).2 k := by
  induction k with
  | zero => exact ⟨rfl, Went.refl ho ha hc⟩
  | succ k ih =>
    obtain ⟨h1, h2⟩ := ih (by omega) (fun i hi => hch i (by omega))
    have hkp := (laysN_mem D k0 all k).2
    rw [laysN, if_pos h1]
    obtain ⟨h3, h4⟩ := write_went (i := k0 + (k + 1)) (bs := chunk all (k + 1)) h2.out h2.armed (by rw [hkp]; omega) (hch _ (Nat.le_refl _))
    exact ⟨h3, h2.trans h4⟩
theorem layF_went {D : DSt} (ho : D.out = false) (ha : D.armed = false) (hc : In64 D.calls) {k0 n : Nat} {all : List UInt8} (hal : all.length = n * 64) (hn : 1 ≤ n) (hf : k0 + n ≤ D.kept.length) :
    (layF D k0 all).1 = 0 ∧ ∃ m, 1 ≤ m ∧ m ≤ n + 3 ∧ Went D (layF D k0 all).2 m := by
  have hdiv : all.length / 64 = n := by omega
  obtain ⟨k, rfl⟩ : ∃ k, n = k + 1 := ⟨n - 1, by omega⟩
  have hch : ∀ i, i ≤ k → (chunk all i).length = 64 := fun i hi => Dsk.chunk_len (by omega)
  obtain ⟨h1, h2⟩ := lays_went ho ha hc (k0 := k0) (all := all) k (by omega) hch
  have hkp := (laysN_mem D k0 all k).2
  rw [layF, hdiv, show k + 1 - 1 = k from rfl]
  generalize laysN D k0 all k = r at h1 h2 hkp ⊢
  obtain ⟨e, E⟩ := r
  simp only at h1 h2 hkp
  subst h1
  have hB : (layOne (k + 1) (0, E)).1 = 0 ∧ (layOne (k + 1) (0, E)).2.kept.length = D.kept.length ∧ ∃ m, m ≤ k + 1 ∧ Went D (layOne (k + 1) (0, E)).2 m := by
    unfold layOne laySync
    simp only [if_true]
    split
    · obtain ⟨s1, s2⟩ := sync_went h2.out h2.armed
      refine ⟨s1, by rw [sync_keptL, hkp], k + 1, Nat.le_refl _, h2.trans s2⟩
    · exact ⟨rfl, by rw [hkp], k, by omega, h2⟩
  generalize layOne (k + 1) (0, E) = r at hB ⊢
  obtain ⟨e, F⟩ := r
  simp only at hB
  obtain ⟨rfl, hl, m, hm, hw⟩ := hB
  rw [layFst]
  simp only [if_true]
  obtain ⟨w1, w2⟩ := write_went (i := k0) (bs := chunk all 0) hw.out hw.armed (by rw [hl]; omega) (hch 0 (by omega))
  generalize F.write (k0 : Int) (chunk all 0) = r at w1 w2 ⊢
  obtain ⟨e, G⟩ := r
  simp only at w1 w2
  subst w1
  rw [laySync]
  simp only [if_true]
  obtain ⟨s1, s2⟩ := sync_went w2.out w2.armed
  exact ⟨s1, m + 1 + 1, by omega, by omega, (hw.trans w2).trans s2⟩
theorem layN_went {D : DSt} {L : LSt} {b : List UInt8} (ho : D.out = false) (ha : D.armed = false) (hc : In64 D.calls) (hK : ∀ b ∈ D.kept, b.length = 64) (hm : D.mem = []) (hbs : L.bs = 0) (hbl : L.bl = D.kept.length) (hb : 0 < b.length) (hfit : L.fin + b.length ≤ D.kept.length * 64) :
    (layN D L b).1 = 0 ∧ ∃ m, 1 ≤ m ∧ m ≤ b.length + 70 ∧ Went D (layN D L b).2 m := by
  have main : ∀ pre0 : List UInt8, pre0.length = L.fin % 64 → ∀ all, all = padN L b.length (pre0 ++ b) → (layF D (L.fin / 64) all).1 = 0 ∧ ∃ m, 1 ≤ m ∧ m ≤ b.length + 70 ∧ Went D (layF D (L.fin / 64) all).2 m := by
    intro pre0 hp0 all hall
    obtain ⟨a1, a2, a3⟩ := padN_length L b.length (pre0 ++ b)
    have hup : L.fin / 64 * 64 + (padN L b.length (pre0 ++ b)).length ≤ D.kept.length * 64 := by
      unfold padN
      rw [List.length_append, hp0, hbl]
      split
      · rw [List.length_append, List.length_append, List.length_replicate, hp0]; omega
      · split
        · rw [List.length_append, List.length_append, List.length_replicate, hp0]; omega
        · rw [List.length_append, hp0]; omega
    rw [← hall] at a1 a2 a3 hup
    rw [List.length_append, hp0] at a2 a3
    obtain ⟨n, hn⟩ : ∃ n, all.length = n * 64 := ⟨all.length / 64, by omega⟩
    obtain ⟨h1, m, h2, h3, h4⟩ := layF_went ho ha hc hn (by omega) (by omega) (k0 := L.fin / 64)
    exact ⟨h1, m, h2, by omega, h4⟩
  have hk0 : L.fin / 64 < D.kept.length := by omega
  unfold layN laidN
  have ek : L.bs + L.fin / 64 = L.fin / 64 := by omega
  rw [ek]
  by_cases h0 : L.fin % 64 = 0
  · rw [if_pos h0]
    simp only [if_true]
    exact main [] (by rw [h0]; rfl) _ rfl
  · rw [if_neg h0, read_at hm ho hk0]
    simp only [if_true]
    have hl := hK _ (List.getElem_mem hk0)
    refine main _ ?_ _ rfl
    rw [List.length_take, List.getD_eq_getElem?_getD, List.getElem?_eq_getElem hk0]
    simp only [Option.getD_some, hl]
    omega
/-- a log of these records, on a disk whose power is there -/
structure LogUp (D : DSt) (L : LSt) (g : Nat) (xs : List (List UInt8)) : Prop where
  ok : LogOk D.kept L g xs
  mem : D.mem = []
  out : D.out = false
  armed : D.armed = false
  calls : In64 D.calls
theorem sizeN_enc (g s : Nat) (b : List UInt8) (h : b.length ≤ 65536) : Go.Proofs.Ythglnbkfmmchnaa.sizeN (b.length : Int) = ((encN g s b).length : Int) := by
  rw [sizeN, if_pos (by omega), encN_len, Int.toNat_natCast]
  omega
/-- Append, told by the size alone. -/
theorem addN_up {D : DSt} {L : LSt} {g : Nat} {xs : List (List UInt8)} {b : List UInt8} (h : LogPre D.kept L g xs) (hm : D.mem = []) (ho : D.out = false) (ha : D.armed = false) (hc : In64 D.calls) (hmay : mayF g xs.length b.length = true) :
    (L.bl * 64 - L.fin < (encN g xs.length b).length ∧ addN D L b = (4, L, D)) ∨
    ((encN g xs.length b).length ≤ L.bl * 64 - L.fin ∧ (addN D L b).1 = 0 ∧ (addN D L b).2.1 = { L with seq := L.seq + 1, fin := L.fin + (encN g xs.length b).length } ∧ LogUp (addN D L b).2.2 (addN D L b).2.1 g (xs ++ [b]) ∧
      (addN D L b).2.2.calls ≠ D.calls) := by
  have hel := encN_len g xs.length b
  obtain ⟨-, -, hb6, -, -⟩ := mayF_parts hmay
  have hpl : (putN b.length).length ≤ 10 := putF_length 9 _
  rcases addN_spec (b := b) hm h with ⟨h1, h2⟩ | ⟨h1, h2, h3, h4, h5, h6⟩ | ⟨h1, h2, h3, h4, h5⟩
  · refine .inl ⟨?_, h2⟩
    rw [fitN, h.gen, h.seq, hmay, Bool.true_and, decide_eq_false_iff_not] at h1
    omega
  · have hf := h1
    rw [fitN, h.gen, h.seq, hmay, Bool.true_and, decide_eq_true_eq] at hf
    obtain ⟨-, m, w1, w2, w3⟩ := layN_went (L := L) (b := encN g xs.length b) ho ha hc h.len hm h.bs h.bl (by omega) (by have := h.bl; have := h.fits; omega)
    rw [← h4] at w3
    exact .inr ⟨hf, h2, h3, ⟨h6, h5, w3.out, w3.armed, by rw [w3.calls]; exact wrap64_in _⟩, w3.ne w1 (by omega) hc⟩
  · have hf := h1
    rw [fitN, h.gen, h.seq, hmay, Bool.true_and, decide_eq_true_eq] at hf
    obtain ⟨w0, -⟩ := layN_went (L := L) (b := encN g xs.length b) ho ha hc h.len hm h.bs h.bl (by omega) (by have := h.bl; have := h.fits; omega)
    have hz : (addN D L b).1 = (layN D L (encN g xs.length b)).1 := by
      unfold addN
      rw [if_pos h1, h.gen, h.seq, if_pos w0, w0]
    rw [h2, w0] at hz
    omega
theorem fresh_pre (n g : Nat) (hg : 1 ≤ g) : LogPre (DSt.fresh n).kept (areaL 0 (n : Int) g) g [] where
  len := by intro b hb; simp only [DSt.fresh] at hb; rw [List.eq_of_mem_replicate hb, List.length_replicate]
  bs := rfl
  bl := by simp [areaL, DSt.fresh]
  gen := rfl
  g1 := hg
  seq := rfl
  fin := rfl
  fits := Nat.zero_le _
  pre := by simp [areaL, encs]
  may := by intro i x h; simp at h
end Go.Proofs.Ythglnbkfmmchnaa
