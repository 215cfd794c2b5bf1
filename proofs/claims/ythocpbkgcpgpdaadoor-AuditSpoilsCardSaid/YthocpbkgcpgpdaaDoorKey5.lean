/- Plain: the parts of a key. -/
import Derived.Test.YthocpbkgcpgpdaaDoorKey4
namespace Go.Proofs.YthocpbkgcpgpdaaDoor
open Go.RowKit

/-- the parts: those found, the one that is read, what is left -/
def decM : List (List UInt8) → List UInt8 → List UInt8 → Option (List (List UInt8))
  | l, part, [] => if part = [] then some l else none
  | _, _, [_] => none
  | l, part, x :: y :: r => if x ≠ 0 then decM l (part ++ [x]) (y :: r) else if y = 1 then decM (l ++ [part]) [] r else if y = 255 then decM l (part ++ [0]) r else none
/-- one part, and what is left behind it -/
def partM : List UInt8 → List UInt8 → Option (List UInt8 × List UInt8)
  | _, [] => none
  | _, [_] => none
  | acc, x :: y :: r => if x ≠ 0 then partM (acc ++ [x]) (y :: r) else if y = 1 then some (acc, r) else if y = 255 then partM (acc ++ [0]) r else none
theorem decM_ne {l : List (List UInt8)} {part : List UInt8} {x : UInt8} {r : List UInt8} (hx : x ≠ 0) : decM l part (x :: r) = decM l (part ++ [x]) r := by
  cases r with
  | nil => simp [decM]
  | cons y r => rw [decM, if_pos hx]
theorem partM_ne {acc : List UInt8} {x : UInt8} {r : List UInt8} (hx : x ≠ 0) : partM acc (x :: r) = partM (acc ++ [x]) r := by
  cases r with
  | nil => simp [partM]
  | cons y r => rw [partM, if_pos hx]
theorem decM_one {l : List (List UInt8)} {part r : List UInt8} : decM l part (0 :: 1 :: r) = decM (l ++ [part]) [] r := by rw [decM, if_neg (by simp), if_pos rfl]
theorem decM_255 {l : List (List UInt8)} {part r : List UInt8} : decM l part (0 :: 255 :: r) = decM l (part ++ [0]) r := by rw [decM, if_neg (by simp), if_neg (by decide), if_pos rfl]
theorem decM_bad {l : List (List UInt8)} {part r : List UInt8} {y : UInt8} (h1 : y ≠ 1) (h2 : y ≠ 255) : decM l part (0 :: y :: r) = none := by rw [decM, if_neg (by simp), if_neg h1, if_neg h2]
theorem partM_one {acc r : List UInt8} : partM acc (0 :: 1 :: r) = some (acc, r) := by rw [partM, if_neg (by simp), if_pos rfl]
theorem partM_255 {acc r : List UInt8} : partM acc (0 :: 255 :: r) = partM (acc ++ [0]) r := by rw [partM, if_neg (by simp), if_neg (by decide), if_pos rfl]
theorem partM_bad {acc r : List UInt8} {y : UInt8} (h1 : y ≠ 1) (h2 : y ≠ 255) : partM acc (0 :: y :: r) = none := by rw [partM, if_neg (by simp), if_neg h1, if_neg h2]
theorem decM_part : ∀ (n : Nat) (l : List (List UInt8)) (part rest : List UInt8), rest.length ≤ n → (part ≠ [] ∨ rest ≠ []) →
    decM l part rest = match partM part rest with | none => none | some (p, r) => decM (l ++ [p]) [] r
  | _, l, part, [], _, h => by simp [decM, partM]; intro e; simp [e] at h
  | _, l, part, [x], _, _ => by simp [decM, partM]
  | 0, _, _, _ :: _ :: _, h, _ => by simp at h
  | n + 1, l, part, x :: y :: r, h, _ => by
    simp only [List.length_cons] at h
    by_cases hx : x = 0
    · subst hx
      by_cases h1 : y = 1
      · subst h1; rw [decM_one, partM_one]
      · by_cases h2 : y = 255
        · subst h2
          rw [decM_255, partM_255]
          exact decM_part n l (part ++ [0]) r (by omega) (.inl (by simp))
        · rw [decM_bad h1 h2, partM_bad h1 h2]
    · rw [decM_ne hx, partM_ne hx]
      exact decM_part n l (part ++ [x]) (y :: r) (by simp only [List.length_cons]; omega) (.inl (by simp))
theorem partM_none : ∀ (r acc : List UInt8), r.count 0 = 0 → partM acc r = none
  | [], _, _ => rfl
  | x :: r, acc, h => by
    rw [List.count_cons] at h
    have hx : x ≠ 0 := by intro e; subst e; simp at h
    rw [partM_ne hx, partM_none r _ (by omega)]
theorem partM_pre : ∀ (u acc r : List UInt8), u.count 0 = 0 → partM acc (u ++ r) = partM (acc ++ u) r
  | [], acc, r, _ => by simp
  | x :: u, acc, r, h => by
    rw [List.count_cons] at h
    have hx : x ≠ 0 := by intro e; subst e; simp at h
    rw [List.cons_append, partM_ne hx, partM_pre u _ r (by omega), List.append_assoc]; rfl
theorem partM_len : ∀ (n : Nat) (acc rest p r : List UInt8), rest.length ≤ n → partM acc rest = some (p, r) → r.length < rest.length ∧ p.length + r.length ≤ acc.length + rest.length
  | _, _, [], _, _, _, h => by simp [partM] at h
  | _, _, [_], _, _, _, h => by simp [partM] at h
  | 0, _, _ :: _ :: _, _, _, h, _ => by simp at h
  | n + 1, acc, x :: y :: r', p, r, hn, h => by
    simp only [List.length_cons] at hn ⊢
    by_cases hx : x = 0
    · subst hx
      by_cases h1 : y = 1
      · subst h1; rw [partM_one] at h; cases h; omega
      · by_cases h2 : y = 255
        · subst h2; rw [partM_255] at h
          have := partM_len n _ r' p r (by omega) h
          simp only [List.length_append, List.length_cons, List.length_nil] at this; omega
        · rw [partM_bad h1 h2] at h; cases h
    · rw [partM_ne hx] at h
      have := partM_len n _ (y :: r') p r (by simp only [List.length_cons]; omega) h
      simp only [List.length_append, List.length_cons, List.length_nil] at this; omega
theorem decM_esc : ∀ (p part : List UInt8) (l : List (List UInt8)) (rest : List UInt8), decM l part (esc p ++ rest) = decM l (part ++ p) rest
  | [], part, l, rest => by simp [esc]
  | x :: p, part, l, rest => by
    show decM l part ((if x = 0 then [0, 255] else [x]) ++ esc p ++ rest) = _
    by_cases hx : x = 0
    · subst hx
      rw [if_pos rfl, List.append_assoc]
      show decM l part (0 :: 255 :: (esc p ++ rest)) = _
      rw [decM_255, decM_esc p, List.append_assoc]; rfl
    · rw [if_neg hx, List.append_assoc]
      show decM l part (x :: (esc p ++ rest)) = _
      rw [decM_ne hx, decM_esc p, List.append_assoc]; rfl
theorem decM_encK : ∀ (ls l : List (List UInt8)) , decM l [] (encK ls) = some (l ++ ls)
  | [], l => by simp [encK, decM]
  | p :: ls, l => by
    show decM l [] (esc p ++ [0, 1] ++ encK ls) = _
    rw [List.append_assoc, decM_esc]
    show decM l ([] ++ p) (0 :: 1 :: encK ls) = _
    rw [decM_one, decM_encK ls, List.append_assoc]; rfl
theorem decM_back : ∀ (n : Nat) (l : List (List UInt8)) (part rest : List UInt8) (ls : List (List UInt8)), rest.length ≤ n → decM l part rest = some ls → encK ls = encK l ++ esc part ++ rest
  | _, l, part, [], ls, _, h => by
    rw [decM] at h
    split at h
    · rename_i hp; subst hp; cases h; simp [esc]
    · cases h
  | _, _, _, [_], _, _, h => by simp [decM] at h
  | 0, _, _, _ :: _ :: _, _, h, _ => by simp at h
  | n + 1, l, part, x :: y :: r, ls, hn, h => by
    simp only [List.length_cons] at hn
    by_cases hx : x = 0
    · subst hx
      by_cases h1 : y = 1
      · subst h1; rw [decM_one] at h
        rw [decM_back n _ [] r ls (by omega) h, encK_append]
        simp [encK, esc]
      · by_cases h2 : y = 255
        · subst h2; rw [decM_255] at h
          rw [decM_back n l _ r ls (by omega) h, esc_append]
          simp [esc]
        · rw [decM_bad h1 h2] at h; cases h
    · rw [decM_ne hx] at h
      rw [decM_back n l _ (y :: r) ls (by simp only [List.length_cons]; omega) h, esc_append]
      simp [esc, hx]
theorem encK_mem {ls : List (List UInt8)} {p : List UInt8} (h : p ∈ ls) : p.length ≤ (encK ls).length := by
  induction ls with
  | nil => cases h
  | cons q ls ih =>
    show _ ≤ (esc q ++ [0, 1] ++ encK ls).length
    rw [List.length_append, List.length_append, esc_length]
    rcases List.mem_cons.1 h with h | h
    · subst h; omega
    · have := ih h; omega
end Go.Proofs.YthocpbkgcpgpdaaDoor
