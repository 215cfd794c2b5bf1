/- The document's key Encode. -/
import Derived.Test.YthocpbkgcpgpdaaDoorKey3
namespace Go.Proofs.YthocpbkgcpgpdaaDoor
open Go.RowKit

theorem esc_take (p : List UInt8) (k : Nat) (h : k < p.length) : esc (p.take (k + 1)) = esc (p.take k) ++ (if p[k] = 0 then [0, 255] else [p[k]]) := by
  rw [List.take_add_one, List.getElem?_eq_getElem h, esc_append]
  simp [esc]

set_option maxHeartbeats 3000000 in
set_option maxRecDepth 100000 in
theorem rencode_any {w : World} (v : Value) (ls : List (List UInt8)) (hL : RdL w v ls) (hm : (encK ls).length < 100000000) :
    Calls Tryd.prog 43 #[v] w fun e w' => ∃ v', e = .returned v' ∧ w'.ownsRow w.heap.size 5 1 v' (encK ls).length (bts (encK ls)) ∧ Below w.heap.size w w' := by
  obtain ⟨A, c, rfl⟩ := hL.slice
  have hmx := hL.max
  generalize hB0 : w.heap.size = B at *
  have HB := Lib.hid hB0
  clear hB0
  go_enter Tryd.func43, Tryd.ntmps43
  go_wp2_with fail
  go_loopw [3, 4, 5] (fun o i _ wr => ∃ t : Nat, i = .int .i64 t ∧ t ≤ ls.length ∧ wr.ownsRow B 5 1 o (encK (ls.take t)).length (bts (encK (ls.take t))) ∧ Below B w wr) (fun _ i _ _ => ls.length - (intOf i).toNat)
  case atStart => exact ⟨0, rfl, Nat.zero_le _, World.ownsRow_nil _ _ _ _, Below.refl _ _⟩
  case round =>
    obtain ⟨t, rfl, ht, ho, hB⟩ := hrel
    by_cases hlt : t < ls.length
    · have hltI : (t : Int) < (ls.length : Int) := by omega
      have ht0 : (0 : Int) ≤ (t : Int) := by omega
      have est := encK_take ls t hlt
      have hle := encK_le ls (t + 1)
      rw [est, List.length_append, List.length_append] at hle
      obtain ⟨p, hp⟩ : ∃ p, p = ls.getD t [] := ⟨_, rfl⟩
      rw [← hp] at est hle
      have HP := Lib.hid hp
      have EST := Lib.hid est
      generalize encK (ls.take t) = E at *
      have hpl := esc_length p
      have hEl : E.length + (esc p).length + 2 < 100000000 := by simp only [List.length_cons, List.length_nil] at hle; omega
      have hplt : p.length < 100000000 := by omega
      clear est hle hp hpl
      go_wp2_with fail
      go_loopw [3, 5] (fun o i wq => ∃ k : Nat, i = .int .i64 k ∧ k ≤ p.length ∧ wq.ownsRow B 5 1 o (E ++ esc (p.take k)).length (bts (E ++ esc (p.take k))) ∧ Below B w wq) (fun _ i _ => p.length - (intOf i).toNat)
      case atStart => exact ⟨0, rfl, Nat.zero_le _, by simpa [esc] using ho, hB⟩
      case round =>
        clear ho hB
        obtain ⟨k, rfl, hk, ho, hB⟩ := hrel
        have hs := hB.size
        rw [HB.out] at hs
        have hL' := hL.below (by rw [HB.out]; exact hB)
        obtain ⟨b, o', vj, rfl, hcj, hrj⟩ := hL'.at hlt
        rw [← HP.out] at hrj
        obtain ⟨Ap, cp, rfl⟩ := hrj.slice
        clear hL'
        by_cases hlk : k < p.length
        · have hlkI : (k : Int) < (p.length : Int) := by omega
          have hk0 : (0 : Int) ≤ (k : Int) := by omega
          have hek := esc_take p k hlk
          have hel : (E ++ esc (p.take k)).length < 100000000 := by
            have h1 := esc_length (p.take k)
            have h2 := esc_length p
            have h3 : p.count 0 = (p.take k).count 0 + (p.drop k).count 0 := by rw [← List.count_append, List.take_append_drop]
            rw [List.length_append, h1, List.length_take]; omega
          obtain ⟨bp, op, rfl, hcp⟩ := hrj.at hlk
          obtain ⟨x, hxk⟩ : ∃ x, p[k] = x := ⟨_, rfl⟩
          rw [hxk] at hcp hek
          have HX := Lib.hid hxk
          clear hxk
          have hnew : E ++ esc (p.take (k + 1)) = (E ++ esc (p.take k)) ++ (if x = 0 then [0, 255] else [x]) := by rw [hek, List.append_assoc]
          generalize E ++ esc (p.take k) = L at *
          have HNEW := Lib.hid hnew
          clear hnew hek
          go_upto_region 9 with ((refine wpList_push (x := [x]) (l := L) (base := B) rfl rfl rfl (by first | rfl | (simp [Act.eval]; done) | (simp [Act.eval]; rfl)) (build1 x _) rfl rfl (by simp) (by simp) Tryd.underlying28 infoByte rfl rfl rfl ho (by omega) hs (fun v8 w8 o8 g8 _ => ?_); replace hB := below_own hB ho g8 (Nat.le_refl _) hs; replace hs := Nat.le_trans hs g8.size; clear ho g8))
          obtain ⟨b2, o2, vj2, hA, hcj2, hrj2⟩ := (hL.below (by rw [HB.out]; exact hB)).at hlt
          cases hA
          rw [← HP.out] at hrj2
          obtain ⟨Ap2, cp2, rfl⟩ := hrj2.slice
          obtain ⟨bp2, op2, rfl, hcp2⟩ := hrj2.at hlk
          rw [HX.out] at hcp2
          clear hcj hcp hrj hrj2
          by_cases hx : x = 0
          · subst hx
            replace hcp2 : w8.cell? ⟨bp2, op2 + k, none⟩ = some (.int .u8 0) := hcp2
            go_wp2_with ((refine wpList_push (x := [255]) (l := L ++ [0]) (base := B) rfl rfl rfl (by first | rfl | (simp [Act.eval]; done) | (simp [Act.eval]; rfl)) (build1 255 _) rfl rfl (by simp) (by simp) Tryd.underlying28 infoByte rfl rfl rfl o8 (by omega) hs (fun v10 w10 o10 g10 _ => ?_); replace hB := below_own hB o8 g10 (Nat.le_refl _) hs; replace hs := Nat.le_trans hs g10.size; clear o8 g10))
            go_roundw
            case rel => exact ⟨k + 1, by go_num, hlk, by rw [HNEW.out, if_pos rfl, List.length_append, show L ++ [0, 255] = L ++ [0] ++ [255] by simp]; exact o10, hB⟩
            case measure => simp [intOf]; omega
          · have hxb : ((x.toNat : Int) == 0) = false := beq_eq_false_iff_ne.2 (fun h => hx (UInt8.toNat_inj.1 (by show x.toNat = 0; omega)))
            go_wp2_with fail
            go_roundw
            case rel => exact ⟨k + 1, by go_num, hlk, by rw [HNEW.out, if_neg hx, List.length_append]; exact o8, hB⟩
            case measure => simp [intOf]; omega
        · obtain rfl : k = p.length := by omega
          rw [List.take_length] at ho
          have hel : (E ++ esc p).length < 100000000 := by rw [List.length_append]; omega
          generalize E ++ esc p = L at *
          go_wp2_with (first | (refine wpList_push (x := [0]) (l := L) (base := B) rfl rfl rfl (by first | rfl | (simp [Act.eval]; done) | (simp [Act.eval]; rfl)) (build1 0 _) rfl rfl (by simp) (by simp) Tryd.underlying28 infoByte rfl rfl rfl ho (by omega) hs (fun v8 w8 o8 g8 _ => ?_); replace hB := below_own hB ho g8 (Nat.le_refl _) hs; replace hs := Nat.le_trans hs g8.size; clear ho g8) | (refine wpList_push (x := [1]) (l := L ++ [0]) (base := B) rfl rfl rfl (by first | rfl | (simp [Act.eval]; done) | (simp [Act.eval]; rfl)) (build1 1 _) rfl rfl (by simp) (by simp) Tryd.underlying28 infoByte rfl rfl rfl o8 (by omega) hs (fun v10 w10 o10 g10 _ => ?_); replace hB := below_own hB o8 g10 (Nat.le_refl _) hs; replace hs := Nat.le_trans hs g10.size; clear o8 g10))
          go_roundw
          case rel => exact ⟨t + 1, by go_num, hlt, by rw [EST.out, List.length_append, show L ++ [0, 1] = L ++ [0] ++ [1] by simp]; exact o10, hB⟩
          case measure => simp [intOf]; omega
    · obtain rfl : t = ls.length := by omega
      rw [List.take_length] at ho
      go_wp2_with fail
      go_ret
      exact ⟨_, rfl, ho, hB⟩
end Go.Proofs.YthocpbkgcpgpdaaDoor
