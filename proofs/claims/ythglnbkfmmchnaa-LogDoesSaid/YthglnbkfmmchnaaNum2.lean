/- num: Put, Wide, Clone; the document's Put, Wide. -/
import Derived.Test.YthglnbkfmmchnaaNum1
namespace Go.Proofs.Ythglnbkfmmchnaa
open Go.RowKit
set_option maxRecDepth 100000

def putF : Nat → Nat → List UInt8
  | 0, n => [UInt8.ofNat n]
  | f + 1, n => if n < 128 then [UInt8.ofNat n] else UInt8.ofNat (n % 128 + 128) :: putF f (n / 128)
def putN (n : Nat) : List UInt8 := putF 9 n
theorem putF_small {f n : Nat} (h : n < 128) : putF f n = [UInt8.ofNat n] := by
  cases f with
  | zero => rfl
  | succ f => rw [putF, if_pos h]
theorem putF_big {f n : Nat} (h : 128 ≤ n) : putF (f + 1) n = UInt8.ofNat (n % 128 + 128) :: putF f (n / 128) := by rw [putF, if_neg (by omega)]
theorem putF_length : ∀ (f n : Nat), (putF f n).length ≤ f + 1
  | 0, _ => by simp [putF]
  | f + 1, n => by
    rw [putF]
    split
    · simp
    · have := putF_length f (n / 128)
      rw [List.length_cons]; omega
theorem or128_all : (List.range 256).all (fun x => (x ||| 128) == x % 128 + 128) = true := by kernel_rfl
theorem or128 (m : Nat) : bits BinOp.or IntKind.u8 ((m : Int) % 256) 128 = ((UInt8.ofNat (m % 128 + 128)).toNat : Int) := by
  have h1 := eq_of_beq (List.all_eq_true.1 or128_all (m % 256) (List.mem_range.2 (by omega)))
  have h2 := u8_or_nat (m % 256) 128 (by omega) (by omega)
  rw [h1] at h2
  rw [UInt8.toNat_ofNat']
  have e : ((m % 256 : Nat) : Int) = (m : Int) % 256 := by omega
  rw [e] at h2
  rw [show ((128 : Nat) : Int) = 128 from rfl] at h2
  rw [h2]
  omega

theorem nil_eq (k : Tmp) (w : World) : (do eqGuard .eql 32 (.tmp k) (.const (.slice none 0 0)) (.slice none 0 0) (.slice none 0 0); binOp .eql 32 (.slice none 0 0) (.slice none 0 0) : Sem Value).run Try.prog w = .ok (.bool true) w := by kernel_rfl
theorem some_eq (k : Tmp) (a : Addr) (n c : Nat) (w : World) : (do eqGuard .eql 32 (.tmp k) (.const (.slice none 0 0)) (.slice (some a) n c) (.slice none 0 0); binOp .eql 32 (.slice (some a) n c) (.slice none 0 0) : Sem Value).run Try.prog w = .ok (.bool false) w := by kernel_rfl
theorem exec_binOp {P : Program} {o : Oper} {a : Act} {b : BinOp} {t t2 : TypeId} {x y : Operand} {vx vy v : Value} {w w1 : World} (ho : o.op = .binOp b t x y t2) (hx : a.eval x = vx) (hy : a.eval y = vy) (h : (do eqGuard b t x y vx vy; binOp b t vx vy : Sem Value).run P w = .ok v w1) : (execOp a.eval o).run P w = .ok (.value v) w1 := by
  subst hx hy
  unfold execOp
  simp only [ho]
  exact exec_v h
set_option maxHeartbeats 1000000 in
set_option maxRecDepth 100000 in
theorem clone_any {w : World} (v : Value) (l : List UInt8) (hv : Rd w v l) (hA : ∀ n c, v = .slice none n c → n = 0 ∧ c = 0) (hm : l.length ≤ 140737488351232) :
    Calls Try.prog 50 #[v] w fun e w' => ∃ v', e = .returned v' ∧ w'.ownsRow w.heap.size 5 1 v' l.length (bts l) ∧ Below w.heap.size w w' := by
  obtain ⟨A, c, rfl⟩ := hv.slice
  cases A with
  | none =>
    obtain ⟨h1, rfl⟩ := hA _ _ rfl
    obtain rfl : l = [] := List.eq_nil_of_length_eq_zero h1
    go_enter Try.func50, Try.ntmps50
    go_wp2_with (refine wpList_value rfl (exec_binOp rfl rfl rfl (nil_eq 3 _)) ?_)
    go_ret
    exact ⟨_, rfl, World.ownsRow_nil _ _ _ _, Below.refl _ _⟩
  | some a =>
    have o0 := own_new w w.heap.size 5 0 0 #[] (bts []) (Nat.le_refl _) rfl (by omega) (by simp [maxLen]) rfl
    have f0 : Fr (fun _ => False) w (w.alloc (.cells #[] 5)) := (Fr.refl _ w).alloc _
    have hv2 := hv.fr f0 (fun _ _ _ h => h)
    have hB := f0.below (B := w.heap.size) (Nat.le_refl _) (fun _ _ h => h)
    go_enter Try.func50, Try.ntmps50
    go_wp2_with (first
      | (refine wpList_value rfl (exec_binOp rfl rfl rfl (some_eq 3 a _ c _)) ?_)
      | (refine wpList_value rfl (exec_buildSlice (build0 _) rfl (by simp)) ?_)
      | (refine wpList_appRd (base := w.heap.size) (l := []) rfl rfl Try.underlying32 infoByte rfl rfl rfl o0 hv2 (by omega) hB.size (fun x1 w2 o1 g1 n1 => ?_)))
    go_ret
    refine ⟨_, rfl, ?_, below_own hB o0 g1 (Nat.le_refl _) hB.size⟩
    rw [Nat.zero_add, List.nil_append] at o1
    exact o1

set_option maxHeartbeats 2000000 in
theorem put_any {w : World} (v : Value) (l : List UInt8) (n : Nat) (hv : Rd w v l) (hA : ∀ n c, v = .slice none n c → n = 0 ∧ c = 0) (hm : l.length < 10000000000) (hn : n < 9223372036854775808) :
    Calls Try.prog 36 #[v, .int .i64 n] w fun e w' => ∃ v', e = .returned v' ∧ w'.ownsRow w.heap.size 5 1 v' (l.length + (putN n).length) (bts (l ++ putN n)) ∧ Below w.heap.size w w' := by
  have h0 : (0 : Int) ≤ (n : Int) := by omega
  have hpl := putF_length 9 n
  have hp0 : putF 9 n = putN n := rfl
  rw [hp0] at hpl
  have hp128 : n < 128 ^ (9 + 1) := Nat.lt_of_lt_of_le hn (by decide)
  generalize hB0 : w.heap.size = B at *
  have HB := Lib.hid hB0
  clear hB0
  generalize hll : l.length = L at *
  have HL := Lib.hid hll
  clear hll
  go_enter Try.func36, Try.ntmps36
  go_wp2_with fail
  refine (clone_any v l hv hA (by have := HL.out; omega)).mono ?_
  rintro e w1 ⟨v1, rfl, o1, hb1⟩
  rw [HB.out] at o1 hb1
  rw [HL.out] at o1
  go_wp2_with fail
  go_loopw [1, 5] (fun nv o wr => ∃ (m f : Nat) (pre : List UInt8), nv = .int .i64 m ∧ m < 128 ^ (f + 1) ∧ m ≤ n ∧ pre ++ putF f m = putN n ∧ wr.ownsRow B 5 1 o (L + pre.length) (bts (l ++ pre)) ∧ Below B w wr ∧ B ≤ wr.heap.size) (fun nv _ _ => (intOf nv).toNat)
  case atStart => exact ⟨n, 9, [], rfl, hp128, Nat.le_refl _, hp0, by simpa using o1, hb1, by have := hb1.size; have := HB.out; omega⟩
  case round =>
    clear o1 hb1
    obtain ⟨m, f, pre, rfl, hmf, hmn, hpre, ho, hb, hs⟩ := hrel
    have hpln : pre.length ≤ 10 := by have := congrArg List.length hpre; rw [List.length_append] at this; omega
    by_cases h128 : 128 ≤ m
    · obtain ⟨f', rfl⟩ : ∃ f', f = f' + 1 := by
        cases f with
        | zero => simp at hmf; omega
        | succ f => exact ⟨f, rfl⟩
      have hmI : (128 : Int) ≤ (m : Int) := by omega
      have hm0 : (0 : Int) ≤ (m : Int) := by omega
      have hor := or128 m
      have hst := putF_big (f := f') h128
      rw [hst] at hpre
      have hdiv : m / 128 < 128 ^ (f' + 1) := Nat.div_lt_of_lt_mul (by rw [Nat.pow_succ, Nat.mul_comm] at hmf; exact hmf)
      generalize UInt8.ofNat (m % 128 + 128) = x at *
      clear hst hmf
      have HDV := Lib.hid hdiv
      clear hdiv
      go_wp2_with (refine wpList_push (x := [x]) (l := l ++ pre) (base := B) rfl rfl rfl (by simp [Act.eval]) (build1 x _) rfl rfl (by simp) (by simp) Try.underlying32 infoByte rfl rfl rfl ho (by omega) hs (fun v' w' ho' g1 n1 => ?_))
      have hb' := below_own hb ho g1 (Nat.le_refl _) hs
      have hs' := Nat.le_trans hs g1.size
      go_roundw
      case rel =>
        refine ⟨m / 128, f', pre ++ [x], by go_num, HDV.out, by omega, by rw [List.append_assoc]; exact hpre, ?_, hb', hs'⟩
        rw [← List.append_assoc, List.length_append, ← Nat.add_assoc]
        exact ho'
      case measure => simp [intOf]; omega
    · have hmI : decide ((128 : Int) ≤ (m : Int)) = false := decide_eq_false (by omega)
      rw [putF_small (by omega)] at hpre
      have hbx : (m : Int) = ((UInt8.ofNat m).toNat : Int) := by rw [UInt8.toNat_ofNat']; omega
      generalize UInt8.ofNat m = x at *
      have HBX := Lib.hid hbx
      clear hbx
      go_wp2_with (refine wpList_push (x := [x]) (l := l ++ pre) (base := B) rfl rfl rfl (by simp [Act.eval]; exact HBX.out) (build1 x _) rfl rfl (by simp) (by simp) Try.underlying32 infoByte rfl rfl rfl ho (by omega) hs (fun v' w' ho' g1 n1 => ?_))
      have hb' := below_own hb ho g1 (Nat.le_refl _) hs
      go_ret
      refine ⟨_, rfl, ?_, hb'⟩
      rw [← hpre, List.length_append, ← List.append_assoc, ← Nat.add_assoc]
      exact ho'
end Go.Proofs.Ythglnbkfmmchnaa
