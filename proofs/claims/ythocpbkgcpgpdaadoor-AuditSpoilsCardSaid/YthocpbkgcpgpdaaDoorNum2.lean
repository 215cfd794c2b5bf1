/- num: Put, Wide, Clone; the document's Put, Wide. -/
import Derived.Test.YthocpbkgcpgpdaaDoorNum1
namespace Go.Proofs.YthocpbkgcpgpdaaDoor
open Go.RowKit

def putF : Nat → Nat → List UInt8
  | 0, n => [UInt8.ofNat n]
  | f + 1, n => if n < 128 then [UInt8.ofNat n] else UInt8.ofNat (n % 128 + 128) :: putF f (n / 128)
def putN (n : Nat) : List UInt8 := putF 9 n
theorem putF_small {f n : Nat} (h : n < 128) : putF f n = [UInt8.ofNat n] := by
  cases f with
  | zero => rfl
  | succ f => rw [putF, if_pos h]
theorem putF_big {f n : Nat} (h : 128 ≤ n) : putF (f + 1) n = UInt8.ofNat (n % 128 + 128) :: putF f (n / 128) := by rw [putF, if_neg (by omega)]
theorem putF_length : ∀ (f n : Nat), (putF f n).length ≤ f + 1
  | 0, _ => by simp [putF]
  | f + 1, n => by
    rw [putF]
    split
    · simp
    · have := putF_length f (n / 128)
      rw [List.length_cons]; omega
theorem or128_all : (List.range 256).all (fun x => (x ||| 128) == x % 128 + 128) = true := by kernel_rfl
theorem or128 (m : Nat) : bits BinOp.or IntKind.u8 ((m : Int) % 256) 128 = ((UInt8.ofNat (m % 128 + 128)).toNat : Int) := by
  have h1 := eq_of_beq (List.all_eq_true.1 or128_all (m % 256) (List.mem_range.2 (by omega)))
  have h2 := u8_or_nat (m % 256) 128 (by omega) (by omega)
  rw [h1] at h2
  rw [UInt8.toNat_ofNat']
  have e : ((m % 256 : Nat) : Int) = (m : Int) % 256 := by omega
  rw [e] at h2
  rw [show ((128 : Nat) : Int) = 128 from rfl] at h2
  rw [h2]
  omega

theorem nil_eq (k : Tmp) (w : World) : (do eqGuard .eql 28 (.tmp k) (.const (.slice none 0 0)) (.slice none 0 0) (.slice none 0 0); binOp .eql 28 (.slice none 0 0) (.slice none 0 0) : Sem Value).run Tryd.prog w = .ok (.bool true) w := by kernel_rfl
theorem some_eq (k : Tmp) (a : Addr) (n c : Nat) (w : World) : (do eqGuard .eql 28 (.tmp k) (.const (.slice none 0 0)) (.slice (some a) n c) (.slice none 0 0); binOp .eql 28 (.slice (some a) n c) (.slice none 0 0) : Sem Value).run Tryd.prog w = .ok (.bool false) w := by kernel_rfl
theorem exec_binOp {P : Program} {o : Oper} {a : Act} {b : BinOp} {t t2 : TypeId} {x y : Operand} {vx vy v : Value} {w w1 : World} (ho : o.op = .binOp b t x y t2) (hx : a.eval x = vx) (hy : a.eval y = vy) (h : (do eqGuard b t x y vx vy; binOp b t vx vy : Sem Value).run P w = .ok v w1) : (execOp a.eval o).run P w = .ok (.value v) w1 := by
  subst hx hy
  unfold execOp
  simp only [ho]
  exact exec_v h
set_option maxHeartbeats 1000000 in
set_option maxRecDepth 100000 in
theorem clone_any {w : World} (v : Value) (l : List UInt8) (hv : Rd w v l) (hA : ∀ n c, v = .slice none n c → n = 0 ∧ c = 0) (hm : l.length ≤ 140737488351232) :
    Calls Tryd.prog 34 #[v] w fun e w' => ∃ v', e = .returned v' ∧ w'.ownsRow w.heap.size 5 1 v' l.length (bts l) ∧ Below w.heap.size w w' := by
  obtain ⟨A, c, rfl⟩ := hv.slice
  cases A with
  | none =>
    obtain ⟨h1, rfl⟩ := hA _ _ rfl
    obtain rfl : l = [] := List.eq_nil_of_length_eq_zero h1
    go_enter Tryd.func34, Tryd.ntmps34
    go_wp2_with (refine wpList_value rfl (exec_binOp rfl rfl rfl (nil_eq 3 _)) ?_)
    go_ret
    exact ⟨_, rfl, World.ownsRow_nil _ _ _ _, Below.refl _ _⟩
  | some a =>
    have o0 := own_new w w.heap.size 5 0 0 #[] (bts []) (Nat.le_refl _) rfl (by omega) (by simp [maxLen]) rfl
    have f0 : Fr (fun _ => False) w (w.alloc (.cells #[] 5)) := (Fr.refl _ w).alloc _
    have hv2 := hv.fr f0 (fun _ _ _ h => h)
    have hB := f0.below (B := w.heap.size) (Nat.le_refl _) (fun _ _ h => h)
    go_enter Tryd.func34, Tryd.ntmps34
    go_wp2_with (first
      | (refine wpList_value rfl (exec_binOp rfl rfl rfl (some_eq 3 a _ c _)) ?_)
      | (refine wpList_value rfl (exec_buildSlice (build0 _) rfl (by simp)) ?_)
      | (refine wpList_appRd (base := w.heap.size) (l := []) rfl rfl Tryd.underlying28 infoByte rfl rfl rfl o0 hv2 (by omega) hB.size (fun x1 w2 o1 g1 n1 => ?_)))
    go_ret
    refine ⟨_, rfl, ?_, below_own hB o0 g1 (Nat.le_refl _) hB.size⟩
    rw [Nat.zero_add, List.nil_append] at o1
    exact o1

end Go.Proofs.YthocpbkgcpgpdaaDoor
