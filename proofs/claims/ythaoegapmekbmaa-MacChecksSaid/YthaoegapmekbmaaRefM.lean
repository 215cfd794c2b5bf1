/- The document's mac: Mac. -/
import Derived.Test.YthaoegapmekbmaaMac3
import Derived.Test.YthaoegapmekbmaaLaw02Sums
namespace Go.Proofs.Ythaoegapmekbmaa
open Go.RowKit

def Sep (v u : Value) : Prop := ∀ k, v.ownBlock = some k → u.ownBlock ≠ some k
theorem Sep.symm {v u : Value} (h : Sep v u) : Sep u v := fun k h1 h2 => h k h2 h1
theorem Sep.push {w : World} {v v' u : Value} (h : Sep v u) (hn : NewOr w v v') (hu : ∀ k, u.ownBlock = some k → k < w.heap.size) : Sep v' u := by
  intro k h1 h2
  rcases hn with e | ⟨g, e, hg⟩
  · exact h k (e ▸ h1) h2
  · have := hu k h2
    rw [e] at h1
    cases h1
    omega
theorem sep_nil (u : Value) : Sep (.slice none 0 0) u := fun k h => by cases h

set_option maxHeartbeats 3000000 in
set_option maxRecDepth 100000 in
theorem rmac_any {w : World} (vk vb : Value) (key b : List UInt8) (hk : Rd w vk key) (hb : Rd w vb b) (hkm : key.length < 10000000000) (hbm : b.length < 10000000000) :
    Calls Try.prog 26 #[vk, vb] w fun e w' => ∃ v, e = .returned v ∧ w'.ownsRow w.heap.size 5 1 v 32 (bts (macN key b)) ∧ Below w.heap.size w w' := by
  have hbB := fun h => hb.lt h
  obtain ⟨Ak, ck, rfl⟩ := hk.slice
  have hmac : macN key b = digest (inN (keyN key) 92 64 ++ digest (inN (keyN key) 54 64 ++ b)) := rfl
  have hKl := keyN_length key
  have hkn : keyN key = keyH key ++ zeros (64 - (keyH key).length) := rfl
  have hkl := keyH_le key
  generalize macN key b = M at *
  generalize keyN key = K at *
  have HM := Lib.hid hmac
  clear hmac
  go_enter Try.func26, Try.ntmps26
  go_upto_region 2 with (refine wpList_appRd (base := w.heap.size) (v := .slice none 0 0) (l := []) rfl rfl Try.underlying22 infoByte rfl rfl rfl (World.ownsRow_nil _ _ _ _) hk (by omega) (Nat.le_refl _) (fun x1 w1 o1 g1 n1 => ?_))
  have t1 : ∀ i, ¬ some i = (Value.slice none 0 0).ownBlock := fun i e => by cases e
  have hB := g1.below (B := w.heap.size) (Nat.le_refl _) (fun k _ => t1 k)
  replace hb := hb.fr g1 (fun _ k _ => t1 k)
  rw [Nat.zero_add, List.nil_append] at o1
  clear g1 n1 t1 hk
  obtain ⟨A1, c1, rfl⟩ := own_form o1
  go_upto_if 13 with fail
  go_cut [5] from 9 to 51 (fun v5 w' => ∃ n, w'.ownsRow w.heap.size 5 1 v5 n (bts (keyH key)) ∧ Rd w' vb b ∧ Below w.heap.size w w')
  case rest =>
    obtain ⟨n, o1, hb, hB⟩ := hcut
    have hn : (keyH key).length = n := by have := o1.1; rw [bts_length] at this; omega
    rw [hn] at hkn hkl
    generalize keyH key = H at *
    have HN := Lib.hid hn
    clear hn
    go_wp2_with fail
    go_loopw [5] (fun v wr => ∃ j, n + j ≤ 64 ∧ wr.ownsRow w.heap.size 5 1 v (n + j) (bts (H ++ zeros j)) ∧ Rd wr vb b ∧ Below w.heap.size w wr) (fun v _ => 64 - slen v)
    case atStart => exact ⟨0, by omega, by simpa [zeros] using o1, hb, hB⟩
    case round =>
      clear o1 hb hB
      obtain ⟨j, hj, o1, hb, hB⟩ := hrel
      obtain ⟨A2, c2, rfl⟩ := own_form o1
      have hsz := hB.size
      by_cases hlt : n + j < 64
      · have hltI : ((n + j : Nat) : Int) < 64 := by omega
        generalize hnj : n + j = nj at *
        have HNJ := Lib.hid hnj
        clear hnj
        go_wp2_with (refine wpList_push (x := [0]) (l := H ++ zeros j) (base := w.heap.size) rfl rfl rfl (by simp [Act.eval]) (build1 0 _) rfl rfl (by simp) (by simp) Try.underlying22 infoByte rfl rfl rfl o1 (by omega) hsz (fun v' w' ho' f hno => ?_))
        have hb' := hb.fr f (fun h k hk e => by have := (o1.lt k e.symm).1; have := hbB h k hk; omega)
        have hB' := below_own hB o1 f (Nat.le_refl _) hsz
        go_roundw
        case rel =>
          refine ⟨j + 1, by have := HNJ.out; omega, ?_, hb', hB'⟩
          rw [zeros, ← List.append_assoc, ← Nat.add_assoc, HNJ.out]
          exact ho'
        case measure =>
          obtain ⟨A', c', rfl⟩ := own_form ho'
          simp only [slen]
          omega
      · have hnj : n + j = 64 := by omega
        have hjj : j = 64 - n := by omega
        rw [hjj, ← hkn, ← hjj, hnj] at o1
        rw [hnj]
        clear hjj hkn hlt hnj hj
        have rK := Rd.of_own o1
        have rKB : ∀ k, (Value.slice A2 64 c2).ownBlock = some k → k < wr.heap.size := fun k e => (o1.lt k e).2
        clear o1
        go_wp2_with fail
        obtain ⟨B1, hB1⟩ : ∃ B1, Hid (wr.heap.size = B1) := ⟨_, Lib.hid rfl⟩
        rw [hB1.out] at rKB hsz
        have hs := Nat.le_of_eq hB1.out.symm
        go_wp2_with fail
        go_loopw [6, 7, 8] (fun vi vo i wq => ∃ t : Nat, i = .int .i64 t ∧ t ≤ 64 ∧ wq.ownsRow B1 5 1 vi t (bts (inN K 54 t)) ∧ wq.ownsRow B1 5 1 vo t (bts (inN K 92 t)) ∧ Sep vi vo ∧ Rd wq (.slice A2 64 c2) K ∧ Rd wq vb b ∧ Below w.heap.size w wq ∧ B1 ≤ wq.heap.size) (fun _ _ i _ => 64 - (intOf i).toNat)
        case atStart => exact ⟨0, rfl, Nat.zero_le _, World.ownsRow_nil _ _ _ _, World.ownsRow_nil _ _ _ _, sep_nil _, rK, hb, hB, hs⟩
        case round =>
          clear rK hb hB hs
          obtain ⟨t, rfl, ht, ho1, ho2, hsep, rK, hb, hB, hs⟩ := hrel
          have hw0 := hB.size
          by_cases hlt : t < 64
          · have hltI : (t : Int) < 64 := by omega
            have ht0 : (0 : Int) ≤ (t : Int) := by omega
            obtain ⟨b', o', rfl, c0⟩ := rK.at (j := t) (by omega)
            have e0 : K[t]'(by omega) = K.getD t 0 := by rw [List.getD_eq_getElem?_getD, List.getElem?_eq_getElem (by omega)]; rfl
            rw [e0] at c0
            have hi1 : inN K 54 (t + 1) = inN K 54 t ++ [K.getD t 0 ^^^ 54] := rfl
            have hi2 : inN K 92 (t + 1) = inN K 92 t ++ [K.getD t 0 ^^^ 92] := rfl
            clear e0
            generalize K.getD t 0 = x at *
            have hx1 : bits BinOp.xor IntKind.u8 (x.toNat : Int) 54 = ((x ^^^ 54).toNat : Int) := xor_u8 x 54
            have hx2 : bits BinOp.xor IntKind.u8 (x.toNat : Int) 92 = ((x ^^^ 92).toNat : Int) := xor_u8 x 92
            generalize x ^^^ 54 = y1 at *
            generalize x ^^^ 92 = y2 at *
            go_wp2_with (first
            | (refine wpList_push (x := [y1]) (l := inN K 54 t) (base := B1) rfl rfl rfl (by simp [Act.eval]) (build1 y1 _) rfl rfl (by simp) (by simp) Try.underlying22 infoByte rfl rfl rfl ho1 (by omega) hs (fun v1 q1 p1 f1 n1 => ?_)
               have c0 := f1.cell c0 (fun e => by have := (ho1.lt b' e.symm).1; have := rKB b' rfl; omega)
               have rK := rK.fr f1 (fun _ k hk e => by have := (ho1.lt k e.symm).1; have := rKB k hk; omega)
               have hb := hb.fr f1 (fun h k hk e => by have := (ho1.lt k e.symm).1; have := hbB h k hk; omega)
               have hse1 := hsep.push n1 (fun k hk => (ho2.lt k hk).2)
               have ho2 := own_fr ho2 f1 (fun k hk e => hsep k e.symm hk)
               have hB := below_own hB ho1 f1 hsz hw0
               have hs := Nat.le_trans hs f1.size
               have hw0 := Nat.le_trans hw0 f1.size)
            | (refine wpList_push (x := [y2]) (l := inN K 92 t) (base := B1) rfl rfl rfl (by simp [Act.eval]) (build1 y2 _) rfl rfl (by simp) (by simp) Try.underlying22 infoByte rfl rfl rfl ho2 (by omega) hs (fun v2 q2 p2 f2 n2 => ?_)
               have c0 := f2.cell c0 (fun e => by have := (ho2.lt b' e.symm).1; have := rKB b' rfl; omega)
               have rK := rK.fr f2 (fun _ k hk e => by have := (ho2.lt k e.symm).1; have := rKB k hk; omega)
               have hb := hb.fr f2 (fun h k hk e => by have := (ho2.lt k e.symm).1; have := hbB h k hk; omega)
               have hse2 := (hse1.symm.push n2 (fun k hk => (p1.lt k hk).2)).symm
               have p1 := own_fr p1 f2 (fun k hk e => hse1 k hk e.symm)
               have hB := below_own hB ho2 f2 hsz hw0
               have hs := Nat.le_trans hs f2.size
               have hw0 := Nat.le_trans hw0 f2.size))
            go_roundw
            case rel =>
              refine ⟨t + 1, by go_num, by omega, ?_, ?_, hse2, rK, hb, hB, hs⟩
              · rw [hi1]; exact p1
              · rw [hi2]; exact p2
            case measure => simp [intOf]; omega
          · obtain rfl : t = 64 := by omega
            clear hlt ht rK rKB hKl
            have hIl : (inN K 54 64).length = 64 := inN_length _ _ _
            have hOl : (inN K 92 64).length = 64 := inN_length _ _ _
            generalize inN K 54 64 = I at *
            generalize inN K 92 64 = O at *
            go_wp2_with (refine wpList_appRd (base := B1) (l := I) rfl rfl Try.underlying22 infoByte rfl rfl rfl ho1 hb (by omega) hs (fun v1 q1 p1 f1 n1 => ?_))
            have ho2 := own_fr ho2 f1 (fun k hk e => hsep k e.symm hk)
            have hB := below_own hB ho1 f1 hsz hw0
            have hs := Nat.le_trans hs f1.size
            clear ho1 hb f1 n1 hsep
            refine (rsum_any _ (I ++ b) (Rd.of_own p1) (by rw [List.length_append]; omega)).mono ?_
            rintro e q2 ⟨r, rfl, or, hb2⟩
            have ho2 := own_fr ho2 (Fr.of_below hb2 (fun _ => False)) (fun _ _ h => h)
            have hB := hB.trans (hb2.mono hB.size)
            have hs := Nat.le_trans hs hb2.size
            obtain ⟨d1, D1⟩ := Dg.ex (I ++ b)
            rw [D1.eq] at or
            have rr := Rd.of_own or
            clear or p1 hb2
            go_simp
            refine (‹∀ (a : Act) (w : World), wpList _ _ _ _ a w → _›) _ _ ?_
            refine wpList_appRd (base := B1) (l := O) rfl rfl Try.underlying22 infoByte rfl rfl rfl ho2 rr (by rw [D1.len]; omega) hs (fun v3 q3 p3 f3 n3 => ?_)
            have hB := below_own hB ho2 f3 hsz hB.size
            clear ho2 rr f3 n3
            go_wp2_with fail
            refine (rsum_any _ (O ++ d1) (Rd.of_own p3) (by rw [List.length_append, D1.len]; omega)).mono ?_
            rintro e q4 ⟨v4, rfl, o4, hb4⟩
            go_wp2_with fail
            go_ret
            refine ⟨_, rfl, ?_, hB.trans (hb4.mono hB.size)⟩
            rw [HM.out, D1.eq]
            exact own_base o4 hB.size
  case first =>
    by_cases hlen : key.length ≤ 64
    · have hlI : decide ((64 : Int) < (key.length : Int)) = false := decide_eq_false (by omega)
      have hkh : keyH key = key := if_pos hlen
      go_wp2_with fail
      go_meet
      case rel => exact ⟨_, by rw [hkh]; exact o1, hb, hB⟩
    · have hlI : (64 : Int) < (key.length : Int) := by omega
      have hkh : keyH key = digest key := if_neg hlen
      go_wp2_with fail
      refine (rsum_any _ key (Rd.of_own o1) (by omega)).mono ?_
      rintro e w2 ⟨v2, rfl, o2, hb2⟩
      replace hb := hb.below hb2
      have o2 := own_base o2 hB.size
      have hB := hB.trans (hb2.mono hB.size)
      go_wp2_with fail
      go_meet
      case rel => exact ⟨_, by rw [hkh]; exact o2, hb, hB⟩

theorem rmacD_any {w : World} (vk vb : Value) {key b m : List UInt8} (hk : Rd w vk key) (hb : Rd w vb b) (hm : Mg key b m) (hkm : key.length < 10000000000) (hbm : b.length < 10000000000) :
    Calls Try.prog 26 #[vk, vb] w fun e w' => ∃ v, e = .returned v ∧ w'.ownsRow w.heap.size 5 1 v 32 (bts m) ∧ Rd w' v m ∧ Below w.heap.size w w' := by
  obtain ⟨rfl, _⟩ := hm
  refine (rmac_any vk vb key b hk hb hkm hbm).mono ?_
  rintro e w' ⟨v, h1, h2, h3⟩
  exact ⟨v, h1, h2, Rd.of_own h2, h3⟩
end Go.Proofs.Ythaoegapmekbmaa
