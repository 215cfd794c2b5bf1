/- The document's key Decode. -/
import Derived.Test.YthocpbkgcpgpdaaDoorKey7
namespace Go.Proofs.YthocpbkgcpgpdaaDoor
open Go.RowKit

/-- a row of rows, its values told -/
def OwS (w : World) (B : Nat) (v : Value) (vals : List Value) (ps : List (List UInt8)) : Prop :=
  w.ownsRow B 28 1 v ps.length vals ∧ vals.length = ps.length ∧ ∀ j, j < ps.length → w.ownsRow B 5 1 (vals.getD j undef) (ps.getD j []).length (bts (ps.getD j []))
def Sep (vals : List Value) (n : Nat) (pv : Value) : Prop := ∀ j, j < n → ∀ k, (vals.getD j undef).ownBlock = some k → pv.ownBlock ≠ some k
theorem OwS.fr {w w' : World} {B : Nat} {v : Value} {vals : List Value} {ps : List (List UInt8)} (h : OwS w B v vals ps) {T : Nat → Prop} (f : Fr T w w') (ht : ∀ k, k < w.heap.size → B ≤ k → ¬ T k) : OwS w' B v vals ps :=
  ⟨own_fr h.1 f (fun k hk => ht k (h.1.lt k hk).2 (h.1.lt k hk).1), h.2.1, fun j hj => own_fr (h.2.2 j hj) f (fun k hk => ht k ((h.2.2 j hj).lt k hk).2 ((h.2.2 j hj).lt k hk).1)⟩
theorem OwS.below {w w' : World} {B : Nat} {v : Value} {vals : List Value} {ps : List (List UInt8)} (h : OwS w B v vals ps) (hb : Below w.heap.size w w') : OwS w' B v vals ps := h.fr (Fr.of_below hb (fun _ => False)) (fun _ _ _ h => h)
theorem OwS.part {w w' : World} {B n : Nat} {v pv : Value} {vals : List Value} {ps : List (List UInt8)} {xs : List Value} (h : OwS w B v vals ps) (hp : w.ownsRow B 5 1 pv n xs) (hs : Sep vals ps.length pv) (f : Fr (fun i => some i = pv.ownBlock) w w') : OwS w' B v vals ps :=
  ⟨own_fr h.1 f (fun k hk e => own_ne h.1 hp (by decide) k hk e.symm), h.2.1, fun j hj => own_fr (h.2.2 j hj) f (fun k hk e => hs j hj k hk e.symm)⟩
theorem OwS.sep {w : World} {B : Nat} {v pv pv' : Value} {vals : List Value} {ps : List (List UInt8)} (h : OwS w B v vals ps) (hs : Sep vals ps.length pv) (hn : NewOr w pv pv') : Sep vals ps.length pv' := by
  intro j hj k hk e
  rcases hn with hn | ⟨g, hg, hge⟩
  · rw [hn] at e; exact hs j hj k hk e
  · rw [hg] at e
    have := ((h.2.2 j hj).lt k hk).2
    cases e
    omega
theorem Sep.nil {vals : List Value} {n : Nat} : Sep vals n (.slice none 0 0) := fun _ _ _ _ e => by cases e

set_option maxHeartbeats 3000000 in
set_option maxRecDepth 100000 in
theorem rdecode_any {w : World} (v : Value) (b : List UInt8) (hv : Rd w v b) (hm : b.length < 1000000) :
    Calls Tryd.prog 41 #[v] w (DecP w.heap.size w (decM [] [] b)) := by
  obtain ⟨A, c, rfl⟩ := hv.slice
  generalize hR : decM [] [] b = R
  have HR := Lib.hid hR
  clear hR
  generalize hB0 : w.heap.size = B at *
  have HB := Lib.hid hB0
  clear hB0
  go_enter Tryd.func41, Tryd.ntmps41
  go_wp2_with fail
  go_loopw [4, 5, 6, 7] (fun lv pv opn iv wr => ∃ (i : Nat) (ps : List (List UInt8)) (part : List UInt8) (vals : List Value), iv = .int .i64 i ∧ i ≤ b.length ∧ decM ps part (b.drop i) = R ∧ OwS wr B lv vals ps ∧ wr.ownsRow B 5 1 pv part.length (bts part) ∧ Sep vals ps.length pv ∧ opn = .bool (!part.isEmpty) ∧ ps.length ≤ i ∧ part.length ≤ i ∧ Below B w wr) (fun _ _ _ iv _ => b.length - (intOf iv).toNat)
  case atStart => exact ⟨0, [], [], [], rfl, Nat.zero_le _, HR.out, ⟨World.ownsRow_nil _ _ _ _, rfl, fun j h => absurd h (by simp)⟩, World.ownsRow_nil _ _ _ _, Sep.nil, rfl, Nat.le_refl _, Nat.le_refl _, Below.refl _ _⟩
  case round =>
    obtain ⟨i, ps, part, vals, rfl, hi, hd, hl, hp, hsep, rfl, hpi, hqi, hB⟩ := hrel
    have hs := hB.size
    rw [HB.out] at hs
    have hb := hv.below (by rw [HB.out]; exact hB)
    have HD := Lib.hid hd
    clear hd
    have hi0 : (0 : Int) ≤ (i : Int) := by omega
    by_cases hlt : i < b.length
    · have hltI : (i : Int) < (b.length : Int) := by omega
      have hdr : b.drop i = b[i] :: b.drop (i + 1) := List.drop_eq_getElem_cons hlt
      obtain ⟨bp, op, rfl, hcp⟩ := hb.at hlt
      obtain ⟨x, hx⟩ : ∃ x, x = b[i] := ⟨_, rfl⟩
      rw [← hx] at hcp hdr
      have hd := HD.out
      rw [hdr] at hd
      clear hx hdr HD
      by_cases hx0 : x = 0
      rotate_left
      · rw [decM_ne hx0] at hd
        have hxb : ((x.toNat : Int) == 0) = false := beq_eq_false_iff_ne.2 (fun h => hx0 (UInt8.toNat_inj.1 (by show x.toNat = 0; omega)))
        have HD := Lib.hid hd
        clear hd hx0
        generalize (!part.isEmpty) = opn at *
        go_wp2_with (refine wpList_push (x := [x]) (l := part) (base := B) rfl rfl rfl (by first | rfl | (simp [Act.eval]; done) | (simp [Act.eval]; rfl)) (build1 x _) rfl rfl (by simp) (by simp) Tryd.underlying28 infoByte rfl rfl rfl hp (by omega) hs (fun v6 w6 o6 g6 no6 => ?_); replace hl := And.intro (hl.part hp hsep g6) (hl.sep hsep no6); replace hB := below_own hB hp g6 (Nat.le_refl _) hs; replace hs := Nat.le_trans hs g6.size; clear hp g6 no6)
        obtain ⟨hl, hsep'⟩ := hl
        go_roundw
        case rel => exact ⟨i + 1, ps, part ++ [x], vals, by go_num, hlt, HD.out, hl, by rw [List.length_append]; exact o6, hsep', by simp, by omega, by rw [List.length_append, List.length_singleton]; omega, hB⟩
        case measure => simp [intOf]; omega
      subst hx0
      replace hcp : wr.cell? ⟨bp, op + i, none⟩ = some (.int .u8 0) := hcp
      generalize (!part.isEmpty) = opn at *
      by_cases he : i + 1 = b.length
      · have hR2 : R = none := by rw [← hd, he, List.drop_length]; rfl
        have hge : (b.length : Int) ≤ (i : Int) + 1 := by omega
        clear hd he
        go_wp2_with fail
        refine bodyPost_ret (v := .tuple #[.slice none 0 0, .int .i64 3]) (by simp [results, Tryd.results41, go_sem]) rfl ?_
        subst hR2
        exact ⟨rfl, hB⟩
      have hlt2 : i + 1 < b.length := by omega
      have hlt2I : (i : Int) + 1 < (b.length : Int) := by omega
      have hgeF : decide ((b.length : Int) ≤ (i : Int) + 1) = false := decide_eq_false (by omega)
      obtain ⟨bp2, op2, hA2, hcy⟩ := hb.at hlt2
      cases hA2
      have hdr : b.drop (i + 1) = b[i + 1] :: b.drop (i + 2) := List.drop_eq_getElem_cons hlt2
      obtain ⟨y, hy⟩ : ∃ y, y = b[i + 1] := ⟨_, rfl⟩
      rw [← hy] at hcy hdr
      rw [hdr] at hd
      replace hcy : wr.cell? ⟨bp, op + (i + 1), none⟩ = some (.int .u8 (y.toNat : Int)) := hcy
      clear hy hdr he
      by_cases hy1 : y = 1
      · subst hy1
        replace hcy : wr.cell? ⟨bp, op + (i + 1), none⟩ = some (.int .u8 1) := hcy
        rw [decM_one] at hd
        have HD := Lib.hid hd
        clear hd
        obtain ⟨ov, hvl2, hps⟩ := hl
        have HVL := Lib.hid hvl2
        have HPS := Lib.hid hps
        have HSEP := Lib.hid hsep
        clear hvl2 hps hsep
        obtain ⟨Ap, cp, rfl⟩ := own_form hp
        obtain ⟨Av, cv, rfl⟩ := own_form ov
        have f5 := (Below.refl wr.heap.size wr).alloc (Nat.le_refl _) (.cells #[.slice Ap part.length cp] 28)
        have ol := own_lit wr B hs (.slice Ap part.length cp) 28
        have HPS2 : Hid (∀ j, j < ps.length → (wr.alloc (.cells #[.slice Ap part.length cp] 28)).ownsRow B 5 1 (vals.getD j undef) (ps.getD j []).length (bts (ps.getD j []))) :=
          Lib.hid fun j hj => own_fr (HPS.out j hj) (Fr.of_below f5 (fun _ => False)) (fun _ _ h => h)
        skip; skip; replace hp := own_fr hp (Fr.of_below f5 (fun _ => False)) (fun _ _ h => h); replace ov := own_fr ov (Fr.of_below f5 (fun _ => False)) (fun _ _ h => h); replace hB := hB.trans (f5.mono hs); replace hs := Nat.le_trans hs f5.size
        clear f5 HPS
        go_upto_region 17 with (first
          | (refine wpList_value rfl (exec_buildSlice (build_row Ap part.length cp _) rfl (by simp [Act.eval])) ?_; generalize wr.heap.size = g5 at *; generalize wr.alloc (.cells #[.slice Ap part.length cp] 28) = w5 at *)
          | (refine wpList_appRow (base := B) rfl rfl Tryd.underlying56 infoRow rfl rfl rfl ov ol (by simp [Value.oneCell']) (by simp only [maxLen]; omega) (by omega) hs (fun v6 w6 o6 g6 _ => ?_)))
        have hpush := OwL.push ov HVL.out HPS2.out hp o6 g6
        obtain ⟨vals', hv1, hv2, hv3⟩ := hpush
        have hB6 := below_own hB ov g6 (Nat.le_refl _) hs
        go_wp2_with fail
        go_roundw
        case rel => exact ⟨i + 2, ps ++ [part], [], vals', by go_num, by omega, HD.out, ⟨hv1, hv2, hv3⟩, World.ownsRow_nil _ _ _ _, Sep.nil, rfl, by rw [List.length_append, List.length_singleton]; omega, Nat.zero_le _, hB6⟩
        case measure => simp [intOf]; omega
      by_cases hy2 : y = 255
      · subst hy2
        replace hcy : wr.cell? ⟨bp, op + (i + 1), none⟩ = some (.int .u8 255) := hcy
        rw [decM_255] at hd
        have HD := Lib.hid hd
        clear hd hy1
        go_wp2_with (refine wpList_push (x := [0]) (l := part) (base := B) rfl rfl rfl (by first | rfl | (simp [Act.eval]; done) | (simp [Act.eval]; rfl)) (build1 0 _) rfl rfl (by simp) (by simp) Tryd.underlying28 infoByte rfl rfl rfl hp (by omega) hs (fun v6 w6 o6 g6 no6 => ?_); replace hl := And.intro (hl.part hp hsep g6) (hl.sep hsep no6); replace hB := below_own hB hp g6 (Nat.le_refl _) hs; replace hs := Nat.le_trans hs g6.size; clear hp g6 no6)
        obtain ⟨hl, hsep'⟩ := hl
        go_roundw
        case rel => exact ⟨i + 2, ps, part ++ [0], vals, by go_num, by omega, HD.out, hl, by rw [List.length_append]; exact o6, hsep', by simp, by omega, by rw [List.length_append, List.length_singleton]; omega, hB⟩
        case measure => simp [intOf]; omega
      · have hR2 : R = none := by rw [← hd]; exact decM_bad hy1 hy2
        have hyb1 : ((y.toNat : Int) == 1) = false := beq_eq_false_iff_ne.2 (fun h => hy1 (UInt8.toNat_inj.1 (by show y.toNat = 1; omega)))
        have hyb2 : ((y.toNat : Int) == 255) = false := beq_eq_false_iff_ne.2 (fun h => hy2 (UInt8.toNat_inj.1 (by show y.toNat = 255; omega)))
        have hyn1 : ¬ (y.toNat : Int) = 1 := fun h => hy1 (UInt8.toNat_inj.1 (by show y.toNat = 1; omega))
        have hyn2 : ¬ (y.toNat : Int) = 255 := fun h => hy2 (UInt8.toNat_inj.1 (by show y.toNat = 255; omega))
        have hym1 : ((y.toNat : Int) != 1) = true := by rw [bne_iff_ne]; exact hyn1
        have hym2 : ((y.toNat : Int) != 255) = true := by rw [bne_iff_ne]; exact hyn2
        clear hd hy1 hy2 hyn1 hyn2
        go_wp2_with fail
        refine bodyPost_ret (v := .tuple #[.slice none 0 0, .int .i64 3]) (by simp [results, Tryd.results41, go_sem]) rfl ?_
        subst hR2
        exact ⟨rfl, hB⟩
    · obtain rfl : i = b.length := by omega
      have hd := HD.out
      rw [List.drop_length] at hd
      by_cases hpe : part = []
      · subst hpe
        have hR2 : R = some ps := by rw [← hd]; rfl
        clear hd HD
        rw [show (!([] : List UInt8).isEmpty) = false from rfl]
        go_wp2_with fail
        go_ret2
        subst hR2
        exact ⟨_, rfl, ⟨vals, hl.1, hl.2.1, hl.2.2⟩, hB⟩
      · have hR2 : R = none := by rw [← hd, decM, if_neg hpe]
        have hpb : (!part.isEmpty) = true := by simpa using hpe
        rw [hpb]
        clear hd HD hpe hpb
        go_wp2_with fail
        refine bodyPost_ret (v := .tuple #[.slice none 0 0, .int .i64 3]) (by simp [results, Tryd.results41, go_sem]) rfl ?_
        subst hR2
        exact ⟨rfl, hB⟩
end Go.Proofs.YthocpbkgcpgpdaaDoor
