/- key.Behind, the document's. -/
import Derived.Test.YtkndmmgmoafffaaDoorKey9
namespace Go.Proofs.YtkndmmgmoafffaaDoor
open Go.RowKit

/-- how many bytes are left without the last ones that are 255 -/
def trimN (l : List UInt8) : Nat → Nat
  | 0 => 0
  | k + 1 => if l.getD k 0 = 255 then trimN l k else k + 1
def behK (l : List UInt8) : Nat → List UInt8
  | 0 => []
  | k + 1 => l.take k ++ [l.getD k 0 + 1]
def behN (l : List UInt8) : List UInt8 := behK l (trimN l l.length)
theorem trimN_le (l : List UInt8) : ∀ k, trimN l k ≤ k
  | 0 => Nat.le_refl _
  | k + 1 => by rw [trimN]; split; exact Nat.le_succ_of_le (trimN_le l k); exact Nat.le_refl _
theorem take_set (l : List UInt8) (k : Nat) (h : k < l.length) (x : UInt8) : (l.take (k + 1)).set k x = l.take k ++ [x] := by
  rw [List.take_add_one, List.getElem?_eq_getElem h]
  rw [List.set_append_right _ _ (by rw [List.length_take]; omega), List.length_take, Nat.min_eq_left (by omega), Nat.sub_self]
  rfl
theorem inc_u8 (x : UInt8) : ((x.toNat : Int) + 1) % 256 = ((x + 1).toNat : Int) := by
  rw [UInt8.toNat_add]; simp

set_option maxHeartbeats 2000000 in
theorem behind_any {w : World} (v : Value) (l : List UInt8) (hv : Rd w v l) (hA : ∀ n c, v = .slice none n c → n = 0 ∧ c = 0) (hm : l.length ≤ 140737488351232) :
    Calls Tryd.prog 18 #[v] w fun e w' => ∃ v', e = .returned v' ∧ w'.ownsRow w.heap.size 5 1 v' (behN l).length (bts (behN l)) ∧ Below w.heap.size w w' := by
  obtain ⟨T, hT⟩ : ∃ T, T = trimN l l.length := ⟨_, rfl⟩
  have hbeh : behN l = behK l T := by rw [behN, hT]
  have HT := Lib.hid hT
  have HBE := Lib.hid hbeh
  clear hT hbeh
  generalize hB0 : w.heap.size = B at *
  have HB := Lib.hid hB0
  clear hB0
  go_enter Tryd.func18, Tryd.ntmps18
  go_wp2_with fail
  refine (clone_any _ l hv hA (by omega)).mono ?_
  rintro e w1 ⟨v1, rfl, o1, hb1⟩
  rw [HB.out] at o1 hb1
  have hs : B ≤ w1.heap.size := by have := hb1.size; rw [HB.out] at this; exact this
  have hlI : (l.length : Int) ≤ 9223372036854775807 := hv.max
  obtain ⟨A1, c1, rfl⟩ := own_form o1
  go_wp2_with fail
  go_loopw [3] (fun o wr => ∃ (k : Nat) (A : Option Addr) (c : Nat), o = .slice A k c ∧ k ≤ l.length ∧ trimN l k = T ∧ wr.ownsRow B 5 1 (.slice A k c) k (bts (l.take k)) ∧ wr = w1) (fun o _ => slen o)
  case atStart => exact ⟨l.length, A1, c1, rfl, Nat.le_refl _, HT.out.symm, by rw [List.take_length]; exact o1, rfl⟩
  case round =>
    obtain ⟨k, A, c, rfl, hk, hT, ho, rfl⟩ := hrel
    cases k with
    | zero =>
      have hbe : behN l = [] := by rw [HBE.out, ← hT]; rfl
      clear hT
      go_wp2_with fail
      go_ret
      rw [hbe]
      exact ⟨_, rfl, ho, hb1⟩
    | succ k =>
      obtain ⟨g, c', hvd⟩ := own_some ho (by omega)
      simp only [Value.slice.injEq] at hvd
      obtain ⟨rfl, -, rfl⟩ := hvd
      have hcv := ho.cells (g := g) rfl k _ (by rw [bts_get, List.getElem?_take, if_pos (by omega), List.getElem?_eq_getElem (by omega)]; rfl)
      rw [Addr.add_mid, Nat.zero_add] at hcv
      obtain ⟨x, hx⟩ : ∃ x, l.getD k 0 = x := ⟨_, rfl⟩
      have hxe : l[k]'(by omega) = x := by rw [← hx, List.getD_eq_getElem?_getD, List.getElem?_eq_getElem (by omega)]; rfl
      rw [hxe] at hcv
      have hfr := (own_cell (l := l.take (k + 1)) ho (by omega : k < k + 1)).2
      have hcc : k + 1 ≤ c := by
        rcases ho.2 with ⟨h0, _⟩ | ⟨g', cap, cur, hv, hb, hg, hn, hc, hs, ht⟩
        · cases h0
        · simp only [Value.slice.injEq] at hv; omega
      have hTs : trimN l (k + 1) = if l.getD k 0 = 255 then trimN l k else k + 1 := rfl
      rw [hx] at hTs
      rw [hTs] at hT
      have HX := Lib.hid hx
      have hkI : (k : Int) + 1 ≤ (l.length : Int) := by omega
      have hk0 : (0 : Int) ≤ (k : Int) := by omega
      clear hx hxe hTs
      by_cases h255 : x = 255
      · subst h255
        rw [if_pos rfl] at hT
        have HTT := Lib.hid hT
        replace hcv : wr.cell? ⟨g, k, none⟩ = some (.int .u8 255) := hcv
        clear hT
        go_wp2_with (refine wpList_value rfl (exec_slice_h (H := k) rfl rfl rfl (by omega) (by omega) Tryd.underlying23 infoByte1 _) ?_)
        go_roundw
        case rel => exact ⟨k, _, c, rfl, by omega, HTT.out, by have := own_take ho (Nat.le_succ k); rwa [bts, ← List.map_take, List.take_take, Nat.min_eq_left (Nat.le_succ k)] at this, trivial⟩
        case measure => exact Nat.lt_succ_self k
      · have hxb : ((x.toNat : Int) == 255) = false := beq_eq_false_iff_ne.2 (fun h => h255 (UInt8.toNat_inj.1 (by show x.toNat = 255; omega)))
        rw [if_neg h255] at hT
        have hbe : behN l = l.take k ++ [x + 1] := by rw [HBE.out, ← hT, behK, HX.out]
        have hop := own_put ho k (x + 1)
        rw [take_set l k (by omega)] at hop
        have hB' : Below B w (wr.setCell ⟨g, k, none⟩ (.int .u8 ((x + 1).toNat : Int))) := hb1.trans (((Fr.refl (fun j => j = g) wr).setCell (p := ⟨g, k, none⟩) (fun _ => rfl) (.int .u8 ((x + 1).toNat : Int))).below (B := B) hs (fun j hj e => by have := (ho.lt g rfl).1; omega))
        have hlen : (l.take k ++ [x + 1]).length = k + 1 := by rw [List.length_append, List.length_take]; simp; omega
        rw [← inc_u8] at hop hB'
        clear hT h255 HX
        go_wp2_with fail
        go_ret
        exact ⟨_, rfl, hop, hB'⟩

set_option maxHeartbeats 2000000 in
theorem rbehind_any {w : World} (v : Value) (l : List UInt8) (hv : Rd w v l) (hm : l.length ≤ 140737488351232) :
    Calls Tryd.prog 19 #[v] w fun e w' => ∃ v', e = .returned v' ∧ w'.ownsRow w.heap.size 5 1 v' (behN l).length (bts (behN l)) ∧ Below w.heap.size w w' := by
  obtain ⟨T, hT⟩ : ∃ T, T = trimN l l.length := ⟨_, rfl⟩
  have hbeh : behN l = behK l T := by rw [behN, hT]
  have hTl : T ≤ l.length := by rw [hT]; exact trimN_le l _
  have HT := Lib.hid hT
  have HBE := Lib.hid hbeh
  clear hT hbeh
  obtain ⟨A, c, rfl⟩ := hv.slice
  have hlI : (l.length : Int) ≤ 9223372036854775807 := hv.max
  generalize hB0 : w.heap.size = B at *
  have HB := Lib.hid hB0
  clear hB0
  go_enter Tryd.func19, Tryd.ntmps19
  go_wp2_with fail
  go_loopw [3] (fun o wr => ∃ k : Nat, o = .int .i64 k ∧ k ≤ l.length ∧ trimN l k = T ∧ wr = w) (fun o _ => (intOf o).toNat)
  case atStart => exact ⟨l.length, rfl, Nat.le_refl _, HT.out.symm, rfl⟩
  case round =>
    obtain ⟨k, rfl, hk, hT, rfl⟩ := hrel
    cases k with
    | zero =>
      have hbe : behN l = [] := by rw [HBE.out, ← hT]; rfl
      have hs : B ≤ wr.heap.size := Nat.le_of_eq HB.out.symm
      have HBX := Lib.hid hbe
      clear hT hbe
      rw [show ((0 : Nat) : Int) = 0 from rfl]
      go_wp2_with (first
        | (refine wpList_rd_h rfl rfl rfl rfl hv (H := 0) rfl (by omega) Tryd.underlying23 infoByte1 (fun vp rp _ _ => ?_))
        | (refine wpList_appRd (base := B) (l := []) (n := 0) rfl rfl Tryd.underlying23 infoByte rfl rfl rfl (World.ownsRow_nil _ _ _ _) rp (by simp) hs (fun v4 w4 o4 g4 _ => ?_)))
      go_ret
      rw [HBX.out]
      exact ⟨_, rfl, by simpa using o4, g4.below (B := B) hs (fun k _ e => by cases e)⟩
    | succ k =>
      have hk1 : k < l.length := by omega
      obtain ⟨b, o, rfl, hcv⟩ := hv.at hk1
      obtain ⟨x, hx⟩ : ∃ x, l.getD k 0 = x := ⟨_, rfl⟩
      have hxe : l[k]'(by omega) = x := by rw [← hx, List.getD_eq_getElem?_getD, List.getElem?_eq_getElem (by omega)]; rfl
      rw [hxe] at hcv
      have hTs : trimN l (k + 1) = if l.getD k 0 = 255 then trimN l k else k + 1 := rfl
      rw [hx] at hTs
      rw [hTs] at hT
      have HX := Lib.hid hx
      have hkI : (k : Int) < (l.length : Int) := by omega
      have hk0 : (0 : Int) ≤ (k : Int) := by omega
      clear hx hxe hTs
      by_cases h255 : x = 255
      · subst h255
        rw [if_pos rfl] at hT
        have HTT := Lib.hid hT
        replace hcv : wr.cell? ⟨b, o + k, none⟩ = some (.int .u8 255) := hcv
        clear hT
        go_wp2_with fail
        go_roundw
        case rel => exact ⟨k, by go_num, by omega, HTT.out, trivial⟩
        case measure => simp [intOf]
      · have hxb : ((x.toNat : Int) == 255) = false := beq_eq_false_iff_ne.2 (fun h => h255 (UInt8.toNat_inj.1 (by show x.toNat = 255; omega)))
        rw [if_neg h255] at hT
        have hbe : behN l = l.take k ++ [x + 1] := by rw [HBE.out, ← hT, behK, HX.out]
        have hlen : (behN l).length = k + 1 := by rw [hbe, List.length_append, List.length_take]; simp; omega
        have HBX := Lib.hid hbe
        have HLN := Lib.hid hlen
        have hs : B ≤ wr.heap.size := Nat.le_of_eq HB.out.symm
        have hlt : (l.take (k + 1)).length = k + 1 := by rw [List.length_take]; omega
        have HLT := Lib.hid hlt
        clear hT h255 hbe hlen hlt
        go_upto_region 5 with (first
          | (refine wpList_rd_h rfl rfl rfl rfl hv (H := k + 1) (by omega) (by omega) Tryd.underlying23 infoByte1 (fun vp rp _ _ => ?_))
          | (refine wpList_appRd (base := B) (l := []) (n := 0) rfl rfl Tryd.underlying23 infoByte rfl rfl rfl (World.ownsRow_nil _ _ _ _) rp (by rw [HLT.out]; omega) hs (fun v4 w4 o4 g4 _ => ?_); rw [List.nil_append, HLT.out, Nat.zero_add] at o4))
        have hB4 := g4.below (B := B) hs (fun k _ e => by cases e)
        have hs4 := Nat.le_trans hs g4.size
        obtain ⟨g, c', rfl⟩ := own_some o4 (by omega)
        have hcx := o4.cells (g := g) rfl k _ (by rw [bts_get, List.getElem?_take, if_pos (by omega), List.getElem?_eq_getElem (by omega)]; rfl)
        rw [Addr.add_mid, Nat.zero_add] at hcx
        have hxe : l[k]'(by omega) = x := by rw [← HX.out, List.getD_eq_getElem?_getD, List.getElem?_eq_getElem (by omega)]; rfl
        rw [hxe] at hcx
        have hfr := (own_cell (l := l.take (k + 1)) o4 (by omega : k < k + 1)).2
        have hop := own_put o4 k (x + 1)
        rw [take_set l k (by omega)] at hop
        have hB' : Below B wr (w4.setCell ⟨g, k, none⟩ (.int .u8 ((x + 1).toNat : Int))) := hB4.trans (((Fr.refl (fun j => j = g) w4).setCell (p := ⟨g, k, none⟩) (fun _ => rfl) (.int .u8 ((x + 1).toNat : Int))).below (B := B) hs4 (fun j hj e => by have := (o4.lt g rfl).1; omega))
        rw [← inc_u8] at hop hB'
        clear hxe g4 rp
        go_wp2_with fail
        go_ret
        rw [HLN.out, HBX.out]
        exact ⟨_, rfl, hop, hB'⟩
end Go.Proofs.YtkndmmgmoafffaaDoor
