/- key.Encode. -/
import Derived.Test.YthocpbkgcpgpdaaDoorKey2
namespace Go.Proofs.YthocpbkgcpgpdaaDoor
open Go.RowKit

theorem build2 (a b : UInt8) (w : World) : (Instr.buildSlice 28 2 #[(0, .int .u8 (a.toNat : Int)), (1, .int .u8 (b.toNat : Int))]).run Tryd.prog w = .ok (.slice (some ⟨w.heap.size, 0, none⟩) 2 2) (w.alloc (.cells (bts [a, b]).toArray 5)) := by kernel_rfl
theorem rd_new1 (a : UInt8) (w : World) : Rd (w.alloc (.cells (bts [a]).toArray 5)) (.slice (some ⟨w.heap.size, 0, none⟩) 1 1) [a] := Rd.blk (n := 1) (c := 1) (l := [a]) (Blk.new w _ _) rfl (by omega) (by simp [maxLen])
theorem rd_new2 (a b : UInt8) (w : World) : Rd (w.alloc (.cells (bts [a, b]).toArray 5)) (.slice (some ⟨w.heap.size, 0, none⟩) 2 2) [a, b] := Rd.blk (n := 2) (c := 2) (l := [a, b]) (Blk.new w _ _) rfl (by omega) (by simp [maxLen])
theorem _root_.Go.RdL.below {w w' : World} {v : Value} {ls : List (List UInt8)} (h : RdL w v ls) (hb : Below w.heap.size w w') : RdL w' v ls := by
  obtain ⟨A, n, c, rfl, hn, hm, hall⟩ := h
  refine ⟨A, n, c, rfl, hn, hm, fun j hj => ?_⟩
  obtain ⟨b, o, vj, rfl, hc, hr⟩ := hall j hj
  exact ⟨b, o, vj, rfl, (Fr.of_below hb (fun _ => False)).cell hc (fun h => h), hr.below hb⟩
theorem _root_.Go.RdL.at {w : World} {A : Option Addr} {n c : Nat} {ls : List (List UInt8)} (h : RdL w (.slice A n c) ls) {j : Nat} (hj : j < ls.length) : ∃ b o vj, A = some ⟨b, o, none⟩ ∧ w.cell? ⟨b, o + j, none⟩ = some vj ∧ Rd w vj (ls.getD j []) := by
  obtain ⟨A', n', c', hv, hn, hm, hall⟩ := h
  simp only [Value.slice.injEq] at hv
  obtain ⟨rfl, rfl, rfl⟩ := hv
  obtain ⟨b, o, vj, h1, h2, h3⟩ := hall j hj
  refine ⟨b, o, vj, h1, h2, ?_⟩
  rw [List.getD_eq_getElem?_getD, List.getElem?_eq_getElem hj]
  exact h3
theorem _root_.Go.RdL.slice {w : World} {v : Value} {ls : List (List UInt8)} (h : RdL w v ls) : ∃ A c, v = .slice A ls.length c := by
  obtain ⟨A, n, c, rfl, rfl, _⟩ := h
  exact ⟨A, c, rfl⟩
theorem _root_.Go.RdL.max {w : World} {v : Value} {ls : List (List UInt8)} (h : RdL w v ls) : (ls.length : Int) ≤ 9223372036854775807 := by
  obtain ⟨A, n, c, rfl, rfl, hm, _⟩ := h
  simp only [maxLen] at hm; omega

/-- the key of parts -/
def encK (ls : List (List UInt8)) : List UInt8 := ls.flatMap fun p => esc p ++ [0, 1]
theorem encK_append (a b : List (List UInt8)) : encK (a ++ b) = encK a ++ encK b := by simp [encK]
theorem encK_take (ls : List (List UInt8)) (t : Nat) (h : t < ls.length) : encK (ls.take (t + 1)) = encK (ls.take t) ++ esc (ls.getD t []) ++ [0, 1] := by
  rw [List.take_add_one, List.getElem?_eq_getElem h, encK_append, List.getD_eq_getElem?_getD, List.getElem?_eq_getElem h]
  simp [encK]
theorem encK_le (ls : List (List UInt8)) (t : Nat) : (encK (ls.take t)).length ≤ (encK ls).length := by
  conv => rhs; rw [← List.take_append_drop t ls, encK_append, List.length_append]
  omega

theorem replaceAll_any {w : World} (v vo vn : Value) (l : List UInt8) (hv : Rd w v l) (ho : Rd w vo [0]) (hn : Rd w vn [0, 255]) (hm : l.length < 1000000) :
    Calls Tryd.prog 51 #[v, vo, vn] w fun e w' => ∃ v', e = .returned v' ∧ w'.ownsRow w.heap.size 5 1 v' (esc l).length (bts (esc l)) ∧ Below w.heap.size w w' := by
  go_enter Tryd.func51, Tryd.ntmps51
  go_wp2_with fail
  refine (replace_any _ _ _ l hv ho hn hm).mono ?_
  rintro e w1 ⟨v', rfl, o1, hb⟩
  go_wp2_with fail
  go_ret
  exact ⟨_, rfl, o1, hb⟩

set_option maxHeartbeats 3000000 in
set_option maxRecDepth 100000 in
theorem encode_any {w : World} (v : Value) (ls : List (List UInt8)) (hL : RdL w v ls) (hp : ∀ p ∈ ls, p.length < 1000000) (hm : (encK ls).length < 100000000) :
    Calls Tryd.prog 37 #[v] w fun e w' => ∃ v', e = .returned v' ∧ w'.ownsRow w.heap.size 5 1 v' (encK ls).length (bts (encK ls)) ∧ Below w.heap.size w w' := by
  obtain ⟨A, c, rfl⟩ := hL.slice
  have hmx := hL.max
  generalize hB0 : w.heap.size = B at *
  have HB := Lib.hid hB0
  clear hB0
  go_enter Tryd.func37, Tryd.ntmps37
  go_wp2_with fail
  go_loopw [3, 5, 8] (fun o _ i wr => ∃ t : Nat, i = .int .i64 t ∧ t ≤ ls.length ∧ wr.ownsRow B 5 1 o (encK (ls.take t)).length (bts (encK (ls.take t))) ∧ Below B w wr) (fun _ _ i _ => ls.length - (intOf i).toNat)
  case atStart => exact ⟨0, rfl, Nat.zero_le _, World.ownsRow_nil _ _ _ _, Below.refl _ _⟩
  case round =>
    obtain ⟨t, rfl, ht, ho, hB⟩ := hrel
    have hs := hB.size
    rw [HB.out] at hs
    by_cases hlt : t < ls.length
    · have hltI : (t : Int) < (ls.length : Int) := by omega
      have ht0 : (0 : Int) ≤ (t : Int) := by omega
      have hL' := hL.below (by rw [HB.out]; exact hB)
      obtain ⟨b, o', vj, rfl, hcj, hrj⟩ := hL'.at hlt
      have est := encK_take ls t hlt
      have hle := encK_le ls (t + 1)
      have hpj : (ls.getD t []).length < 1000000 := by
        rw [List.getD_eq_getElem?_getD, List.getElem?_eq_getElem hlt]; exact hp _ (List.getElem_mem hlt)
      rw [est, List.length_append, List.length_append] at hle
      generalize ls.getD t [] = p at *
      generalize encK (ls.take t) = E at *
      have EST := Lib.hid est
      have hEl : E.length + (esc p).length + 2 < 100000000 := by simp only [List.length_cons, List.length_nil] at hle; omega
      obtain ⟨Ap, cp, rfl⟩ := hrj.slice
      obtain ⟨Ao, co, rfl⟩ := own_form ho
      clear est hle hL'
      have f1 := (Below.refl wr.heap.size wr).alloc (Nat.le_refl _) (.cells (bts [0]).toArray 5)
      have r1 := rd_new1 0 wr
      replace hrj := hrj.below f1
      replace ho := own_fr ho (Fr.of_below f1 (fun _ => False)) (fun _ _ h => h)
      replace hB := hB.trans (f1.mono hs)
      replace hs := Nat.le_trans hs f1.size
      clear f1
      go_upto_region 6 with (first
        | (refine wpList_value rfl (exec_buildSlice (build1 0 _) rfl (by simp [Act.eval])) ?_; generalize wr.heap.size = g1 at *; generalize wr.alloc (.cells (bts [0]).toArray 5) = w1 at *)
        | (refine wpList_value rfl (exec_buildSlice (build2 0 255 _) rfl (by simp [Act.eval])) ?_))
      have f2 := (Below.refl w1.heap.size w1).alloc (Nat.le_refl _) (.cells (bts [0, 255]).toArray 5)
      have r2 := rd_new2 0 255 w1
      replace hrj := hrj.below f2; replace r1 := r1.below f2; skip; replace ho := own_fr ho (Fr.of_below f2 (fun _ => False)) (fun _ _ h => h); replace hB := hB.trans (f2.mono hs); replace hs := Nat.le_trans hs f2.size
      clear f2
      generalize w1.heap.size = g2 at *
      generalize w1.alloc (.cells (bts [0, 255]).toArray 5) = w2 at *
      refine (replaceAll_any _ _ _ p hrj r1 r2 hpj).mono ?_
      rintro e w3 ⟨v3, rfl, o3, hb3⟩
      skip; skip; replace ho := own_fr ho (Fr.of_below hb3 (fun _ => False)) (fun _ _ h => h); replace hB := hB.trans (hb3.mono hs); replace hs := Nat.le_trans hs hb3.size
      clear hb3 r1 r2 hrj
      go_simp
      refine (‹∀ (a : Act) (w : World), wpList _ _ _ _ a w → _›) _ _ ?_
      refine wpList_appRd (base := B) rfl rfl Tryd.underlying28 infoByte rfl rfl rfl ho (Rd.of_own o3) (by omega) hs (fun v4 w4 o4 g4 _ => ?_)
      replace hB := below_own hB ho g4 (Nat.le_refl _) hs
      replace hs := Nat.le_trans hs g4.size
      obtain ⟨A4, c4, rfl⟩ := own_form o4
      generalize esc p = Q at *
      clear ho o3 g4
      have f5 := (Below.refl w4.heap.size w4).alloc (Nat.le_refl _) (.cells (bts [0, 1]).toArray 5)
      have r5 := rd_new2 0 1 w4
      skip; skip; replace o4 := own_fr o4 (Fr.of_below f5 (fun _ => False)) (fun _ _ h => h); replace hB := hB.trans (f5.mono hs); replace hs := Nat.le_trans hs f5.size
      go_wp2_with (first
        | (refine wpList_value rfl (exec_buildSlice (build2 0 1 _) rfl (by simp [Act.eval])) ?_; generalize w4.heap.size = g5 at *; generalize w4.alloc (.cells (bts [0, 1]).toArray 5) = w5 at *)
        | (refine wpList_appRd (base := B) rfl rfl Tryd.underlying28 infoByte rfl rfl rfl o4 r5 (by simp; omega) hs (fun v6 w6 o6 g6 _ => ?_); replace hB := below_own hB o4 g6 (Nat.le_refl _) hs))
      go_roundw
      case rel => exact ⟨t + 1, by go_num, hlt, by rw [EST.out, List.length_append, List.length_append]; exact o6, hB⟩
      case measure => simp [intOf]; omega
    · obtain rfl : t = ls.length := by omega
      rw [List.take_length] at ho
      go_wp2_with fail
      go_ret
      exact ⟨_, rfl, ho, hB⟩
end Go.Proofs.YthocpbkgcpgpdaaDoor
