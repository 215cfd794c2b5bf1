/- Plain laws: what was encoded is decoded; a frame of which one byte is another one is none. -/
import Derived.Test.YthglnbkfmmchnaaFrame9
namespace Go.Proofs.Ythglnbkfmmchnaa
open Go.RowKit
set_option maxRecDepth 100000

theorem beN_be8 (x : Nat) (h : x < 18446744073709551616) : beN (be8 x) 8 = x := by
  simp only [beN, be8, List.getD_cons_zero, List.getD_cons_succ, UInt8.toNat_ofNat']
  omega
theorem narZ_be8 (x : Nat) (h : x ≤ 1152921504606846976) : narZ (be8 x) = x := by
  rw [narZ, beN_be8 x (by omega)]
  unfold wrap64
  omega
theorem mid_of {b p q r : List UInt8} {P Q : Nat} (hb : b = p ++ (q ++ r)) (hp : P = p.length) (hq : Q = P + q.length) : (b.take Q).drop P = q := by
  subst hb hp hq
  rw [List.take_length_add_append, List.drop_left, List.take_left]
theorem fst_of {b p q : List UInt8} {P : Nat} (hb : b = p ++ q) (hp : P = p.length) : b.take P = p := by
  subst hb hp
  rw [List.take_left]
theorem encN_len (g s : Nat) (d : List UInt8) : (encN g s d).length = 21 + (putN d.length).length + d.length := by
  simp [encN, sumB, bodyN, be8, byte4]
  omega
theorem dec_enc (g s : Nat) (d t : List UInt8) (hf : mayF g s d.length = true) : decN (encN g s d ++ t) = ((g : Int), (s : Int), d, (((encN g s d).length : Nat) : Int)) := by
  obtain ⟨h1, h2, h3, ⟨_, h5⟩, _, h7⟩ := mayF_parts hf
  have hl := encN_len g s d
  have hp := putN_pos d.length
  have hp9 : (putN d.length).length ≤ 10 := putF_length 9 _
  have e1 : encN g s d ++ t = [245] ++ (putN d.length ++ (be8 g ++ be8 s ++ d ++ byte4 (crc (bodyN g s d)) ++ t)) := by
    simp [encN, sumB, bodyN, List.append_assoc]
  have hlt : (encN g s d ++ t).length = (encN g s d).length + t.length := List.length_append
  have hg : getN ((encN g s d ++ t).drop 1) = (d.length, (putN d.length).length) := by
    rw [e1]
    show getN (putN d.length ++ _) = _
    exact getN_put _ _ (by omega)
  have h0 : (encN g s d ++ t).getD 0 0 = 245 := by rw [e1]; rfl
  rw [decN, if_neg (by rw [h0, hlt, hl]; simp; omega), hg]
  show decA _ d.length (putN d.length).length = _
  rw [decA, if_neg (by rw [hlt, hl]; omega), decB_eq (by rw [hlt, hl]; omega) h3]
  generalize hk : (putN d.length).length = k at *
  have m1 : ((encN g s d ++ t).take (1 + k + 8)).drop (1 + k) = be8 g :=
    mid_of (p := [245] ++ putN d.length) (q := be8 g) (r := be8 s ++ d ++ byte4 (crc (bodyN g s d)) ++ t) (by rw [e1]; simp [List.append_assoc]) (by simp [hk]; omega) rfl
  have m2 : ((encN g s d ++ t).take (1 + k + 16)).drop (1 + k + 8) = be8 s :=
    mid_of (p := [245] ++ putN d.length ++ be8 g) (q := be8 s) (r := d ++ byte4 (crc (bodyN g s d)) ++ t) (by rw [e1]; simp [List.append_assoc]) (by simp [hk, be8]; omega) (by simp [be8])
  have m3 : ((encN g s d ++ t).take (1 + k + 16 + d.length)).drop (1 + k + 16) = d :=
    mid_of (p := [245] ++ putN d.length ++ be8 g ++ be8 s) (q := d) (r := byte4 (crc (bodyN g s d)) ++ t) (by rw [e1]; simp [List.append_assoc]) (by simp [hk, be8]; omega) rfl
  have m4 : (encN g s d ++ t).take (1 + k + 16 + d.length) = bodyN g s d :=
    fst_of (q := byte4 (crc (bodyN g s d)) ++ t) (by simp [encN, sumB, List.append_assoc]) (by simp [bodyN, hk, be8]; omega)
  have m5 : ((encN g s d ++ t).take (1 + k + 20 + d.length)).drop (1 + k + 16 + d.length) = byte4 (crc (bodyN g s d)) :=
    mid_of (p := bodyN g s d) (r := t) (by simp [encN, sumB, List.append_assoc]) (by simp [bodyN, hk, be8]; omega) (by simp [byte4]; omega)
  rw [m1, m2, m3, m4, m5, narZ_be8 g (by omega), narZ_be8 s (by omega), if_pos ⟨hf, rfl⟩, hl]

/-! ### One byte -/
theorem crcBit_inj {x y : UInt32} (h : crcBit x = crcBit y) : x = y := by
  have hx : (x >>> UInt32.ofNat 1).toNat = x.toNat / 2 := by
    have := shr_u32 x 1 (by omega); omega
  have hy : (y >>> UInt32.ofNat 1).toNat = y.toNat / 2 := by
    have := shr_u32 y 1 (by omega); omega
  have lx := x.toNat_lt
  have ly := y.toNat_lt
  have top : ∀ a : UInt32, a.toNat < 2 ^ 31 → ¬ (a ^^^ 0xedb88320).toNat < 2 ^ 31 := fun a ha hb => by
    have t1 : (a ^^^ 0xedb88320).toNat.testBit 31 = true := by
      rw [UInt32.toNat_xor, Nat.testBit_xor, Nat.testBit_lt_two_pow ha]; rfl
    rw [Nat.testBit_lt_two_pow hb] at t1
    cases t1
  rcases Nat.mod_two_eq_zero_or_one x.toNat with ex | ex <;> rcases Nat.mod_two_eq_zero_or_one y.toNat with ey | ey
  · rw [crcBit_even ex, crcBit_even ey] at h
    have h2 := congrArg UInt32.toNat h
    rw [hx, hy] at h2
    exact UInt32.toNat_inj.1 (by omega)
  · rw [crcBit_even ex, crcBit_odd ey] at h
    exfalso
    refine top (y >>> UInt32.ofNat 1) (by rw [hy]; omega) ?_
    rw [← h, hx]; omega
  · rw [crcBit_odd ex, crcBit_even ey] at h
    exfalso
    refine top (x >>> UInt32.ofNat 1) (by rw [hx]; omega) ?_
    rw [h, hy]; omega
  · rw [crcBit_odd ex, crcBit_odd ey] at h
    have h1 : x >>> UInt32.ofNat 1 = y >>> UInt32.ofNat 1 := by
      have := congrArg (· ^^^ (0xedb88320 : UInt32)) h
      simpa [UInt32.xor_assoc] using this
    have h2 := congrArg UInt32.toNat h1
    rw [hx, hy] at h2
    exact UInt32.toNat_inj.1 (by omega)
theorem crcK_inj {x y : UInt32} : ∀ k, crcK x k = crcK y k → x = y
  | 0, h => h
  | k + 1, h => crcK_inj k (crcBit_inj h)
theorem xor_inj {a x y : UInt32} (h : a ^^^ x = a ^^^ y) : x = y := by
  have := congrArg (a ^^^ ·) h
  simpa [← UInt32.xor_assoc] using this
theorem crcN_set_le (l : List UInt8) (i : Nat) (x : UInt8) : ∀ t, t ≤ i → crcN (l.set i x) t = crcN l t
  | 0, _ => rfl
  | t + 1, h => by
    rw [crcN, crcN, crcN_set_le l i x t (by omega)]
    congr 2
    rw [List.getD_eq_getElem?_getD, List.getD_eq_getElem?_getD, List.getElem?_set_ne (by omega)]
theorem crcN_set_ne (l : List UInt8) (i : Nat) (x : UInt8) (hi : i < l.length) (hx : l.getD i 0 ≠ x) : ∀ t, i < t → crcN (l.set i x) t ≠ crcN l t
  | 0, h => by omega
  | t + 1, h => by
    intro e
    rw [crcN, crcN] at e
    have e := crcK_inj 8 e
    by_cases ht : t = i
    · subst ht
      rw [crcN_set_le l t x t (Nat.le_refl _)] at e
      have e := xor_inj e
      have e2 := congrArg UInt32.toNat e
      rw [UInt8.toNat_toUInt32, UInt8.toNat_toUInt32] at e2
      have e3 := UInt8.toNat_inj.1 e2
      refine hx ?_
      rw [← e3, List.getD_eq_getElem?_getD, List.getElem?_set_self hi]
      rfl
    · have e1 : (l.set i x).getD t 0 = l.getD t 0 := by
        rw [List.getD_eq_getElem?_getD, List.getD_eq_getElem?_getD, List.getElem?_set_ne (by omega)]
      rw [e1, UInt32.xor_comm (crcN (l.set i x) t), UInt32.xor_comm (crcN l t)] at e
      exact crcN_set_ne l i x hi hx t (by omega) (xor_inj e)
theorem crc_set_ne (l : List UInt8) (i : Nat) (x : UInt8) (hi : i < l.length) (hx : l.getD i 0 ≠ x) : crc (l.set i x) ≠ crc l := by
  intro e
  rw [crc, crc, List.length_set] at e
  refine crcN_set_ne l i x hi hx l.length hi ?_
  have := congrArg (fun z : UInt32 => ~~~ z) e
  simpa using this
theorem byte4_inj {x y : UInt32} (h : byte4 x = byte4 y) : x = y := by
  obtain ⟨a, b, c, d, h1, h2, h3, h4, e⟩ := byte4_of x
  obtain ⟨a', b', c', d', k1, k2, k3, k4, e'⟩ := byte4_of y
  rw [e, e'] at h
  simp only [List.cons.injEq, and_true] at h
  obtain ⟨rfl, rfl, rfl, rfl⟩ := h
  have lx := x.toNat_lt
  have ly := y.toNat_lt
  exact UInt32.toNat_inj.1 (by omega)
theorem decN_len (b : List UInt8) (h : (b.length : Int) ≤ (decN b).2.2.2) (hb : 0 < b.length) : 4 ≤ b.length ∧ sumB (b.take (b.length - 4)) = b := by
  rw [decN] at h
  split at h
  · simp at h; subst h; simp at hb
  rw [decA] at h
  split at h
  · simp at h; subst h; simp at hb
  rename_i h1 h2
  rw [decB] at h
  split at h
  · rename_i h3
    have hZ : b.length = 21 + (putN (getN (b.drop 1)).1).length + (getN (b.drop 1)).1 := by simp only at h; omega
    rw [← hZ] at h3
    have := h3.2.2
    rw [List.take_length] at this
    exact ⟨by omega, this⟩
  · simp at h; subst h; simp at hb
theorem spoil (l : List UInt8) (i : Nat) (x : UInt8) (hi : i < (sumB l).length) (hx : (sumB l).getD i 0 ≠ x) : (decN ((sumB l).set i x)).2.2.2 < (((sumB l).set i x).length : Int) := by
  refine Int.not_le.1 fun h => ?_
  have hl : ((sumB l).set i x).length = (sumB l).length := List.length_set
  obtain ⟨h4, hs⟩ := decN_len _ h (by omega)
  have hn : (sumB l).length = l.length + 4 := by simp [sumB, byte4]
  rw [hl, hn, Nat.add_sub_cancel] at hs
  by_cases hil : i < l.length
  · have e1 : (sumB l).set i x = l.set i x ++ byte4 (crc l) := by rw [sumB, List.set_append_left _ _ hil]
    rw [e1, List.take_left' (by simp)] at hs
    rw [sumB, List.append_cancel_left_eq] at hs
    refine crc_set_ne l i x hil ?_ (byte4_inj hs)
    intro e; refine hx ?_
    rw [← e, sumB, List.getD_eq_getElem?_getD, List.getD_eq_getElem?_getD, List.getElem?_append_left hil]
  · have e1 : (sumB l).set i x = l ++ (byte4 (crc l)).set (i - l.length) x := by rw [sumB, List.set_append_right _ _ (by omega)]
    rw [e1, List.take_left] at hs
    rw [sumB, List.append_cancel_left_eq] at hs
    refine hx ?_
    have : (byte4 (crc l)).getD (i - l.length) 0 = x := by
      rw [hs, List.getD_eq_getElem?_getD, List.getElem?_set_self (by simp [byte4]; omega)]; rfl
    rw [List.getD_eq_getElem?_getD] at this
    rw [sumB, List.getD_eq_getElem?_getD, List.getElem?_append_right (by omega)]
    exact this
end Go.Proofs.Ythglnbkfmmchnaa
