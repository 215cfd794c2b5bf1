/- sha: Write. -/
import Derived.Test.YthocpbkgcpgpdaaDoorSha6
namespace Go.Proofs.YthocpbkgcpgpdaaDoor.Sha
open Go.RowKit

def slen : Value → Nat
  | .slice _ n _ => n
  | _ => 0

theorem Rd.slen' {w : World} {v : Value} {l : List UInt8} (h : Rd w v l) : slen v = l.length := by
  obtain ⟨A, c, rfl⟩ := h.slice
  rfl
theorem ShaAt.rdOver {w : World} {p : Nat} {S : SSt} (h : ShaAt w p S) : Rd w (.slice (some ⟨p, 8, none⟩) 64 64) S.over := by
  have h8 := h.h8
  have h64 := h.o64
  refine ⟨by rw [h64]; simp [maxLen], .inr ⟨p, 8, 64, by rw [h64], by omega, h.blk.range' 8 _ (fun j v hv => ?_)⟩⟩
  have l8 : (wds S.h).length = 8 := by rw [wds_length, h8]
  simp only [SSt.cells, List.getElem?_toArray]
  rw [List.getElem?_append_right (by omega), l8, show 8 + j - 8 = j by omega, List.getElem?_append_left (List.getElem?_eq_some_iff.1 hv).1]
  exact hv
theorem sizeByte : (Tryd.prog.info? 5).map (·.size) = some 1 := by kernel_rfl

set_option maxHeartbeats 2000000 in
set_option maxRecDepth 100000 in
theorem write_any {w : World} {p : Nat} {m : List UInt8} (h : HoldsAt w p m) (v : Value) (l : List UInt8) (hv : Rd w v l) (hp : l ≠ [] → v.ownBlock ≠ some p) (hm : m.length + l.length < 4611686018427387904) :
    Calls Tryd.prog 46 #[.pointer (some ⟨p, 0, none⟩), v] w fun e w' => e = .returned (.tuple #[]) ∧ HoldsAt w' p (m ++ l) ∧ Fr (fun k => k = p) w w' := by
  go_enter Tryd.func46, Tryd.ntmps46
  go_wp2_with fail
  go_loopw [1, 4, 5] (fun b _ _ wr => ∃ d : Nat, d ≤ l.length ∧ Rd wr b (l.drop d) ∧ b.ownBlock = v.ownBlock ∧ HoldsAt wr p (m ++ l.take d) ∧ Fr (fun k => k = p) w wr) (fun b _ _ _ => slen b)
  case atStart => exact ⟨0, Nat.zero_le _, by simpa using hv, rfl, by simpa using h, Fr.refl _ _⟩
  case round =>
    clear h hv
    obtain ⟨d, hd, hR, hob, hH, hF⟩ := hrel
    obtain ⟨A, c, rfl⟩ := hR.slice
    have hmx := hR.max
    by_cases hlt : d < l.length
    · have h0 : (0 : Int) < ((l.drop d).length : Int) := by rw [List.length_drop]; omega
      replace hp := hp (by intro e; rw [e] at hlt; simp at hlt)
      generalize hr0 : l.drop d = r0 at *
      obtain ⟨S, hA, hS⟩ := hH
      have hn := hS.n
      have hn72 := hA.n72
      have ho64 := hA.o64
      have hrne : r0 ≠ [] := by rw [← hr0]; intro e; rw [List.drop_eq_nil_iff] at e; omega
      generalize hM : m ++ l.take d = M at *
      have hMl : M.length = m.length + d := by rw [← hM, List.length_append, List.length_take, Nat.min_eq_left hd]
      obtain ⟨b, o, rfl, -⟩ := hR.at (j := 0) (List.length_pos_iff.2 hrne)
      have hbp : b ≠ p := fun e => hp (by rw [← hob, e]; rfl)
      have hcap := rd_cap hR (List.length_pos_iff.2 hrne)
      have hN : S.n = M.length := hn
      generalize hq : M.length % 64 = q at *
      have hq64 : q < 64 := by omega
      have hk1 : ∃ k, k = Nat.min r0.length (64 - q) := ⟨_, rfl⟩
      obtain ⟨k, hk⟩ := hk1
      have hkr : k ≤ r0.length := by rw [hk]; exact Nat.min_le_left _ _
      have hkq' : k ≤ 64 - q := by rw [hk]; exact Nat.min_le_right _ _
      have hkq : q + k ≤ 64 := by omega
      have hrl : r0.length = l.length - d := by rw [← hr0, List.length_drop]
      have hxl : (bts (r0.take k)).length = k := by rw [bts_length, List.length_take]; omega
      have hsrc : wr.rangeAt b o (bts (r0.take k)) := by
        have := rd_range (k := 0) (s := r0.take k) hR (by rw [List.length_take]; omega) (fun j hj => by rw [List.length_take] at hj; rw [List.getElem?_take, if_pos (by omega), Nat.zero_add])
        rwa [Nat.add_zero] at this
      have hth : wr.there p (8 + q) k := hA.blk.there (8 + q) k (by simp [SSt.cells_length hA.h8 hA.o64]; omega)
      have hA2 := hA.over (q := q) (r0.take k) (by rw [List.length_take]; omega)
      have hR2 := hR.fr ((Fr.refl (fun i => i = p) wr).setCells (b := p) (bts (r0.take k)) (8 + q) (fun _ => rfl)) (fun _ i hi e => by cases hi; exact hbp e)
      have hF2 := hF.setCells (b := p) (bts (r0.take k)) (8 + q) (fun _ => rfl)
      have hq0 : ((S.n : Nat) : Int) % 64 = (q : Int) := by omega
      have hNI : (S.n : Int) + (k : Int) < 4611686018427387904 := by omega
      have hNb : S.n + k < 4611686018427387904 := by omega
      have hxk : (r0.take k).length = k := by rw [List.length_take]; omega
      rw [hxk] at hA2
      generalize hN0 : S.n = N at *
      clear hN hn
      have HRL := Lib.hid hrl
      have HML := Lib.hid hMl
      have HQ := Lib.hid hq
      have HK := Lib.hid hk
      clear hrl hMl hq hk hNI
      by_cases hfull : q + k = 64
      · have hfI : (q : Int) + (k : Int) = 64 := by omega
        go_wp2_with (first
          | (refine wpList_value rfl (exec_slice_arr (L := q) (n := 64) rfl rfl rfl hq0 hq64 Tryd.underlying79 sizeByte _) ?_)
          | (refine wpList_copy_k (k := k) (cs := bts (r0.take k)) rfl rfl Tryd.underlying28 sizeByte rfl rfl hxl HK.out hsrc hth (bts_one _) ?_
             generalize wr.setCells p (8 + q) (bts (r0.take k)) = w2 at *
             have hn72 := hA2.n72
             have hfz : w2.frozen? ⟨p, 72, none⟩ = false := hA2.blk.frozen 72
             have hA3 := hA2.setN (n := N + k); rw [Int.natCast_add] at hA3
             have hR3 := hR2.fr ((Fr.refl (fun i => i = p) w2).setCell (p := ⟨p, 72, none⟩) (fun _ => rfl) (.int .i64 ((N : Int) + (k : Int)))) (fun _ i hi e => by cases hi; exact hbp e)
             have hF3 := hF2.setCell (p := ⟨p, 72, none⟩) (fun _ => rfl) (.int .i64 ((N : Int) + (k : Int))))
          | (refine wpList_slice_rd (L := k) rfl rfl rfl rfl hR3 rfl hkr Tryd.underlying28 sizeByte (fun v' hR4 hob4 => ?_)))
        refine (block_any hA3 _ _ hA3.rdOver hA3.o64).mono ?_
        rintro e w3 ⟨rfl, hA4, hF4⟩
        have hob5 : _ = v.ownBlock := hob4.trans hob
        have hR5 := hR4.fr hF4 (fun _ i hi e => hp (by rw [← hob5, hi, e]))
        have hF5 := hF3.trans hF4
        clear hR3 hR4 hF3 hF4 hA3
        go_wp2_with fail
        go_roundw
        case rel =>
          have hMk : m ++ l.take (d + k) = M ++ r0.take k := by rw [← hM, ← hr0, List.append_assoc, List.take_add]
          refine ⟨d + k, by have := HRL.out; omega, by rw [← List.drop_drop, hr0]; exact hR5, hob4.trans hob, ?_, hF5⟩
          rw [hMk]
          refine ⟨_, hA4, ?_⟩
          have := hS.full (x := r0.take k) ho64 HQ.out (by rw [hxk]; exact hfull)
          simp only [SSt.put, hxk, hN0] at this
          exact this
        case measure =>
          have hl := Rd.slen' hR5
          rw [List.length_drop] at hl
          have hk := HK.out
          have hp0 := List.length_pos_iff.2 hrne
          have hk0 : 0 < k := by rw [hk]; exact Nat.lt_min.2 ⟨hp0, by omega⟩
          simp only [slen] at hl ⊢
          omega
      · have hfb : ((q : Int) + (k : Int) == 64) = false := by rw [beq_eq_false_iff_ne]; omega
        go_wp2_with (first
          | (refine wpList_value rfl (exec_slice_arr (L := q) (n := 64) rfl rfl rfl hq0 hq64 Tryd.underlying79 sizeByte _) ?_)
          | (refine wpList_copy_k (k := k) (cs := bts (r0.take k)) rfl rfl Tryd.underlying28 sizeByte rfl rfl hxl HK.out hsrc hth (bts_one _) ?_
             generalize wr.setCells p (8 + q) (bts (r0.take k)) = w2 at *
             have hn72 := hA2.n72
             have hfz : w2.frozen? ⟨p, 72, none⟩ = false := hA2.blk.frozen 72
             have hA3 := hA2.setN (n := N + k); rw [Int.natCast_add] at hA3
             have hR3 := hR2.fr ((Fr.refl (fun i => i = p) w2).setCell (p := ⟨p, 72, none⟩) (fun _ => rfl) (.int .i64 ((N : Int) + (k : Int)))) (fun _ i hi e => by cases hi; exact hbp e)
             have hF3 := hF2.setCell (p := ⟨p, 72, none⟩) (fun _ => rfl) (.int .i64 ((N : Int) + (k : Int))))
          | (refine wpList_slice_rd (L := k) rfl rfl rfl rfl hR3 rfl hkr Tryd.underlying28 sizeByte (fun v' hR4 hob4 => ?_)))
        clear hR3
        go_roundw
        case rel =>
          have hMk : m ++ l.take (d + k) = M ++ r0.take k := by rw [← hM, ← hr0, List.append_assoc, List.take_add]
          refine ⟨d + k, by have := HRL.out; omega, by rw [← List.drop_drop, hr0]; exact hR4, hob4.trans hob, ?_, hF3⟩
          rw [hMk]
          refine ⟨_, hA3, ?_⟩
          have := hS.put (x := r0.take k) ho64 HQ.out (by rw [hxk]; omega)
          simp only [SSt.put, hxk, hN0] at this
          exact this
        case measure =>
          have hl := Rd.slen' hR4
          rw [List.length_drop] at hl
          have hk := HK.out
          have hp0 := List.length_pos_iff.2 hrne
          have hk0 : 0 < k := by rw [hk]; exact Nat.lt_min.2 ⟨hp0, by omega⟩
          simp only [slen] at hl ⊢
          omega
    · have h0 : decide ((0 : Int) < ((l.drop d).length : Int)) = false := by rw [List.length_drop]; exact decide_eq_false (by omega)
      go_wp2_with fail
      go_end0
      obtain rfl : d = l.length := by omega
      rw [List.take_length] at hH
      exact ⟨rfl, hH, hF⟩
end Go.Proofs.YthocpbkgcpgpdaaDoor.Sha
