/- sha: what the end of the bytes is; the digest, in plain Lean. -/
import Derived.Test.YthocpbkgcpgpdaaDoorSha7
namespace Go.Proofs.YthocpbkgcpgpdaaDoor.Sha
open Go.RowKit

def zN (n : Nat) : Nat := (119 - n % 64) % 64
def be8 (x : Nat) : Nat → List UInt8
  | 0 => []
  | i + 1 => be8 x i ++ [UInt8.ofNat (x / 2 ^ (56 - 8 * i))]
def zeros : Nat → List UInt8
  | 0 => []
  | j + 1 => zeros j ++ [0]
theorem zeros_length : ∀ j, (zeros j).length = j
  | 0 => rfl
  | j + 1 => by rw [zeros, List.length_append, zeros_length j]; rfl
theorem be8_length (x : Nat) : ∀ j, (be8 x j).length = j
  | 0 => rfl
  | j + 1 => by rw [be8, List.length_append, be8_length x j]; rfl
def endN (n : Nat) : List UInt8 := (([128] ++ zeros (zN n)) ++ be8 (n * 8) 8)
def byte4 (x : UInt32) : List UInt8 := [(x >>> UInt32.ofNat 24).toUInt8, (x >>> UInt32.ofNat 16).toUInt8, (x >>> UInt32.ofNat 8).toUInt8, x.toUInt8]
def bytesN (h : List UInt32) : Nat → List UInt8
  | 0 => []
  | t + 1 => bytesN h t ++ byte4 (h.getD t 0)
theorem bytesN_length (h : List UInt32) : ∀ t, (bytesN h t).length = 4 * t
  | 0 => rfl
  | t + 1 => by rw [bytesN, List.length_append, bytesN_length h t, byte4, List.length_cons, List.length_cons, List.length_cons, List.length_cons, List.length_nil]; omega
def digest (m : List UInt8) : List UInt8 := bytesN (hashN (m ++ endN m.length) ((m ++ endN m.length).length / 64)) 8
theorem endN_length (n : Nat) : (endN n).length = 9 + zN n := by
  rw [endN, List.length_append, List.length_append, zeros_length, be8_length, List.length_cons, List.length_nil]; omega
theorem zN_le (n : Nat) : zN n < 64 := Nat.mod_lt _ (by omega)
theorem infoByte : (Tryd.prog.info? 5).map (fun i => (i.zero, i.size, i.bytes)) = some (some (.int .u8 0), 1, 1) := by kernel_rfl
theorem build1 (x : UInt8) (w : World) : (Instr.buildSlice 28 1 #[(0, .int .u8 (x.toNat : Int))]).run Tryd.prog w = .ok (.slice (some ⟨w.heap.size, 0, none⟩) 1 1) (w.alloc (.cells (bts [x]).toArray 5)) := by kernel_rfl
theorem build4 (a b c d : UInt8) (w : World) : (Instr.buildSlice 28 4 #[(0, .int .u8 (a.toNat : Int)), (1, .int .u8 (b.toNat : Int)), (2, .int .u8 (c.toNat : Int)), (3, .int .u8 (d.toNat : Int))]).run Tryd.prog w =
    .ok (.slice (some ⟨w.heap.size, 0, none⟩) 4 4) (w.alloc (.cells (bts [a, b, c, d]).toArray 5)) := by kernel_rfl
theorem byte_of (x : Nat) : ((x : Int) % 256) = ((UInt8.ofNat x).toNat : Int) := by
  rw [UInt8.toNat_ofNat']; omega
theorem shr_byte (x : UInt32) (s : Nat) (hs : s < 32) : (x.toNat : Int) / 2 ^ s % 256 = ((x >>> UInt32.ofNat s).toUInt8.toNat : Int) := by
  rw [shr_u32 x s hs, UInt32.toNat_toUInt8]; omega
theorem byte4_of (x : UInt32) : ∃ a b c d : UInt8, (x.toNat : Int) / 16777216 % 256 = a.toNat ∧ (x.toNat : Int) / 65536 % 256 = b.toNat ∧ (x.toNat : Int) / 256 % 256 = c.toNat ∧ (x.toNat : Int) % 256 = d.toNat ∧ byte4 x = [a, b, c, d] :=
  ⟨_, _, _, _, shr_byte x 24 (by omega), shr_byte x 16 (by omega), shr_byte x 8 (by omega), by rw [UInt32.toNat_toUInt8]; omega, rfl⟩
theorem make32 (w : World) : (Instr.makeSlice 28 (.int .i64 0) (.int .i64 32)).run Tryd.prog w = .ok (.slice (some ⟨w.heap.size, 0, none⟩) 0 32) (w.alloc (.cells (Array.replicate 32 (.int .u8 0)) 5)) := by kernel_rfl
theorem exec_makeSlice {P : Program} {o : Oper} {a : Act} {t : TypeId} {x y : Operand} {vx vy v : Value} {w w1 : World} (ho : o.op = .makeSlice t x y) (hx : a.eval x = vx) (hy : a.eval y = vy) (h : (Instr.makeSlice t vx vy).run P w = .ok v w1) : (execOp a.eval o).run P w = .ok (.value v) w1 := by
  subst hx hy
  unfold execOp
  simp only [ho]
  exact exec_v h
theorem scopy_any {w : World} {p : Nat} {m : List UInt8} (h : HoldsAt w p m) : Calls Tryd.prog 57 #[.pointer (some ⟨p, 0, none⟩)] w fun e w' => ∃ q, e = .returned (.pointer (some ⟨q, 0, none⟩)) ∧ w.heap.size ≤ q ∧ HoldsAt w' q m ∧ Below w.heap.size w w' := by
  obtain ⟨S, h1, h2⟩ := h
  refine (copy_any h1).mono ?_
  rintro e w' ⟨q, rfl, hq, hA, hb⟩
  exact ⟨q, rfl, hq, ⟨S, hA, h2⟩, hb⟩
theorem snewH_any (w : World) : Calls Tryd.prog 45 #[] w fun e w' => ∃ p, e = .returned (.pointer (some ⟨p, 0, none⟩)) ∧ w.heap.size ≤ p ∧ HoldsAt w' p [] ∧ Below w.heap.size w w' := by
  refine (snew_any w).mono ?_
  rintro e w' ⟨q, rfl, hq, hA, hb⟩
  exact ⟨q, rfl, hq, ⟨_, hA, SSt.fresh_holds⟩, hb⟩
theorem HoldsAt.n72 {w : World} {p : Nat} {m : List UInt8} (h : HoldsAt w p m) : w.cell? ⟨p, 72, none⟩ = some (.int .i64 m.length) := by
  obtain ⟨S, h1, h2⟩ := h
  have := h1.n72
  rwa [h2.n] at this
theorem HoldsAt.ne {w : World} {p base n : Nat} {m : List UInt8} {v : Value} {xs : List Value} (h : HoldsAt w p m) (ho : w.ownsRow base 5 1 v n xs) : v.ownBlock ≠ some p := by
  obtain ⟨S, h1, h2⟩ := h
  exact fun e => own_blk_ne ho h1.blk (by decide) e.symm
theorem HoldsAt.words {w : World} {p : Nat} {m : List UInt8} (h : HoldsAt w p m) : w.rangeAt p 0 (wds (hashN m (m.length / 64))) ∧ (wds (hashN m (m.length / 64))).length = 8 := by
  obtain ⟨S, h1, h2⟩ := h
  rw [← h2.h]
  refine ⟨h1.blk.range' 0 _ (fun j v hv => ?_), by rw [wds_length, h1.h8]⟩
  rw [Nat.zero_add]
  simp only [SSt.cells, List.getElem?_toArray]
  rw [List.getElem?_append_left (List.getElem?_eq_some_iff.1 hv).1]
  exact hv

set_option maxHeartbeats 2000000 in
set_option maxRecDepth 100000 in
theorem sum_any {w : World} {p : Nat} {m : List UInt8} (h : HoldsAt w p m) (hm : m.length < 1000000000000000) :
    Calls Tryd.prog 47 #[.pointer (some ⟨p, 0, none⟩)] w fun e w' => ∃ v, e = .returned v ∧ w'.ownsRow w.heap.size 5 1 v 32 (bts (digest m)) ∧ Below w.heap.size w w' := by
  have hpl := h.lt
  go_enter Tryd.func47, Tryd.ntmps47
  go_wp2_with fail
  refine (scopy_any h).mono ?_
  rintro e w1 ⟨q, rfl, hq, hQ, hb⟩
  have hsz := hb.size
  have hpq : p ≠ q := by omega
  replace h := h.below hb
  go_wp2_with (refine wpList_value rfl (exec_buildSlice (build1 128 _) rfl (by simp [Act.eval])) ?_)
  have ho := own_new w1 w.heap.size 5 1 1 (bts [128]).toArray (bts [128]) hsz rfl (by omega) (by simp [maxLen]) rfl
  have f1 : Fr (fun _ => False) w1 (w1.alloc (.cells (bts [128]).toArray 5)) := (Fr.refl _ w1).alloc _
  replace h := h.fr f1 (fun h => h)
  replace hQ := hQ.fr f1 (fun h => h)
  replace hb := hb.alloc hsz (.cells (bts [128]).toArray 5)
  generalize w1.alloc (.cells (bts [128]).toArray 5) = w2 at *
  have hn72 := h.n72
  have hE := endN_length m.length
  generalize hn : m.length = n at *
  have HN := Lib.hid hn
  clear hn hn72
  go_loopw [4] (fun e wr => ∃ k, 1 ≤ k ∧ k ≤ zN n + 1 ∧ wr.ownsRow w.heap.size 5 1 e k (bts ([128] ++ zeros (k - 1))) ∧ HoldsAt wr p m ∧ HoldsAt wr q m ∧ Below w.heap.size w wr) (fun e _ => 64 - slen e)
  case atStart => exact ⟨1, by omega, by omega, ho, h, hQ, hb⟩
  case round =>
    clear ho h hQ hb
    obtain ⟨k, hk1, hkz, ho, h, hQ, hb⟩ := hrel
    obtain ⟨A, c, rfl⟩ := own_form ho
    have hn72 := h.n72
    rw [HN.out] at hn72
    have hz64 := zN_le n
    have hsz := hb.size
    by_cases hlt : k < zN n + 1
    · have hIb : (((n : Int) + (k : Int)) % 64 == 56) = false := by rw [beq_eq_false_iff_ne]; unfold zN at *; omega
      clear hE
      go_wp2_with (refine wpList_push (x := [0]) (l := [128] ++ zeros (k - 1)) (base := w.heap.size) rfl rfl rfl (by simp [Act.eval]) (build1 0 _) rfl rfl (by simp) (by simp) Tryd.underlying28 infoByte rfl rfl rfl ho (by omega) hsz (fun v' w' ho' f hno => ?_))
      have h' := h.fr f (fun e => h.ne ho e.symm)
      have hQ' := hQ.fr f (fun e => hQ.ne ho e.symm)
      have hb' := below_own hb ho f (Nat.le_refl _) hsz
      go_roundw
      case rel =>
        refine ⟨k + 1, by omega, by omega, ?_, h', hQ', hb'⟩
        have e : zeros (k + 1 - 1) = zeros (k - 1) ++ [0] := by rw [show k + 1 - 1 = (k - 1) + 1 by omega]; rfl
        rw [e, ← List.append_assoc]
        exact ho'
      case measure =>
        obtain ⟨A', c', rfl⟩ := own_form ho'
        simp only [slen]
        omega
    · have hke : k = zN n + 1 := by omega
      have hIb : (((n : Int) + (k : Int)) % 64 == 56) = true := by rw [beq_iff_eq]; unfold zN at *; omega
      have hke1 : k - 1 = zN n := by omega
      rw [hke1] at ho
      have hk64 : k ≤ 64 := by omega
      have HKE := Lib.hid hke
      clear hke hke1 hE hkz hlt
      go_wp2_with fail
      clear h hn72 hIb
      generalize (((n : Int) + (k : Int)) % 64 != 56) = b21 at *
      obtain rfl : b21 = false := by assumption
      have hn8 : ((n : Int) * 8) = ((n * 8 : Nat) : Int) := by omega
      have hN8 : n * 8 < 8000000000000000 := by omega
      rw [hn8]
      clear hn8
      generalize hn8 : n * 8 = N8 at *
      have HN8 := Lib.hid hn8
      clear hn8
      go_loopw [4, 6, 31] (fun e _ i wr => ∃ t : Nat, i = .int .i64 t ∧ t ≤ 8 ∧ wr.ownsRow w.heap.size 5 1 e (k + t) (bts (([128] ++ zeros (zN n)) ++ be8 N8 t)) ∧ HoldsAt wr q m ∧ Below w.heap.size w wr) (fun _ _ i _ => 8 - (intOf i).toNat)
      case atStart => exact ⟨0, rfl, Nat.zero_le _, by simpa [be8] using ho, hQ, hb⟩
      case round =>
        clear ho hQ hb hsz
        obtain ⟨t, rfl, ht, ho, hQ, hb⟩ := hrel
        have hsz := hb.size
        by_cases hlt : t < 8
        · have hltI : (t : Int) < 8 := by omega
          have ht0 : (0 : Int) ≤ (t : Int) := by omega
          have h56 : (0 : Int) ≤ 56 - 8 * (t : Int) := by omega
          obtain ⟨A2, c2, rfl⟩ := own_form ho
          obtain ⟨x, hx, hxe⟩ : ∃ x : UInt8, ((N8 : Int) / 2 ^ (56 - 8 * t) % 256) = (x.toNat : Int) ∧ be8 N8 (t + 1) = be8 N8 t ++ [x] := ⟨UInt8.ofNat (N8 / 2 ^ (56 - 8 * t)), by rw [← byte_of]; simp, rfl⟩
          go_wp2_with (refine wpList_push (x := [x]) (l := ([128] ++ zeros (zN n)) ++ be8 N8 t) (base := w.heap.size) rfl rfl rfl (by simp [Act.eval, hx]) (build1 x _) rfl rfl (by simp) (by simp) Tryd.underlying28 infoByte rfl rfl rfl ho (by omega) hsz (fun v' w' ho' f hno => ?_))
          have hQ' := hQ.fr f (fun e => hQ.ne ho e.symm)
          have hb' := below_own hb ho f (Nat.le_refl _) hsz
          go_roundw
          case rel =>
            refine ⟨t + 1, by go_num, by omega, ?_, hQ', hb'⟩
            rw [hxe, ← List.append_assoc]
            exact ho'
          case measure => simp [intOf]; omega
        · obtain rfl : t = 8 := by omega
          obtain ⟨A2, c2, rfl⟩ := own_form ho
          have hEn : ([128] ++ zeros (zN n)) ++ be8 N8 8 = endN n := by rw [endN, HN8.out]
          rw [hEn] at ho
          have hEl := endN_length n
          go_wp2_with fail
          refine (write_any hQ _ _ (Rd.of_own ho) (fun _ => hQ.ne ho) (by rw [HN.out, hEl]; omega)).mono ?_
          rintro e w3 ⟨rfl, hQ3, f3⟩
          have hb3 := hb.trans (f3.below (B := w.heap.size) hsz (fun i hi e => by omega))
          clear ho hb hQ f3 hsz
          have hsz := hb3.size
          obtain ⟨hr8, hl8⟩ := hQ3.words
          have hdg : bytesN (hashN (m ++ endN n) ((m ++ endN n).length / 64)) 8 = digest m := by rw [digest, HN.out]
          generalize hashN (m ++ endN n) ((m ++ endN n).length / 64) = hs at *
          have ho := own_new w3 w.heap.size 5 0 32 (Array.replicate 32 (.int .u8 0)) [] hsz (by simp) (by omega) (by simp [maxLen]) rfl
          have f4 : Fr (fun _ => False) w3 (w3.alloc (.cells (Array.replicate 32 (.int .u8 0)) 5)) := (Fr.refl _ w3).alloc _
          have hb := hb3.alloc hsz (.cells (Array.replicate 32 (.int .u8 0)) 5)
          replace hr8 := hr8.fr f4 (fun h => h)
          go_wp2_with (first
            | (refine wpList_value rfl (exec_makeSlice rfl rfl rfl (make32 _)) ?_; generalize w3.alloc (.cells (Array.replicate 32 (.int .u8 0)) 5) = w4 at *)
            | (refine wpList_loadN rfl rfl rfl (by assumption) (by assumption) (by kernel_rfl) (by kernel_rfl) ?_))
          clear hr8 hQ3 hb3 f4
          have HDG := Lib.hid hdg
          clear hdg
          have hhl : hs.length = 8 := by rw [wds_length] at hl8; exact hl8
          go_loopw [7, 9, 52] (fun o _ i wr => ∃ t : Nat, i = .int .i64 t ∧ t ≤ 8 ∧ wr.ownsRow w.heap.size 5 1 o (4 * t) (bts (bytesN hs t)) ∧ Below w.heap.size w wr) (fun _ _ i _ => 8 - (intOf i).toNat)
          case atStart => exact ⟨0, rfl, Nat.zero_le _, ho, hb⟩
          case round =>
            clear ho hb hsz
            obtain ⟨t, rfl, ht, ho, hb⟩ := hrel
            have hsz := hb.size
            obtain ⟨A3, c3, rfl⟩ := own_form ho
            by_cases hlt : t < 8
            · have hltI : (t : Int) < 8 := by omega
              have ht0 : (0 : Int) ≤ (t : Int) := by omega
              have hix : (wds hs).toArray[t]? = some (W32 (hs.getD t 0)) := wds_get (by omega)
              have hbn : bytesN hs (t + 1) = bytesN hs t ++ byte4 (hs.getD t 0) := rfl
              generalize hs.getD t 0 = x at *
              obtain ⟨a, b, c', d, ha, hb', hc, hd, h4⟩ : ∃ a b c d : UInt8, (x.toNat : Int) / 16777216 % 256 = a.toNat ∧ (x.toNat : Int) / 65536 % 256 = b.toNat ∧ (x.toNat : Int) / 256 % 256 = c.toNat ∧ (x.toNat : Int) % 256 = d.toNat ∧ byte4 x = [a, b, c, d] := byte4_of x
              rw [h4] at hbn
              go_wp2_with (first
                | (refine wpList_value rfl (exec_index_arr (k := t) rfl rfl rfl hlt Tryd.underlying77 (by kernel_rfl) (by kernel_rfl) hix) ?_)
                | refine wpList_push (x := [a, b, c', d]) (l := bytesN hs t) (base := w.heap.size) rfl rfl rfl (by simp [Act.eval, ha, hb', hc, hd]) (build4 a b c' d _) rfl rfl (by simp) (by simp) Tryd.underlying28 infoByte rfl rfl rfl ho (by omega) hsz (fun v' w' ho' f hno => ?_))
              have hb2 := below_own hb ho f (Nat.le_refl _) hsz
              go_roundw
              case rel =>
                refine ⟨t + 1, by go_num, by omega, ?_, hb2⟩
                rw [hbn]
                exact ho'
              case measure => simp [intOf]; omega
            · obtain rfl : t = 8 := by omega
              go_wp2_with fail
              go_ret
              rw [HDG.out] at ho
              exact ⟨_, rfl, ho, hb⟩

end Go.Proofs.YthocpbkgcpgpdaaDoor.Sha
