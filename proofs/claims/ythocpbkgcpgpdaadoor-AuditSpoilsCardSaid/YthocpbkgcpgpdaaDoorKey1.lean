/- bytes: IndexByte, Count, Index of one byte. -/
import Derived.Test.YthocpbkgcpgpdaaDoorK12
import Derived.Test.YthocpbkgcpgpdaaDoorNum2
import Derived.Lib.Hide
namespace Go.Proofs.YthocpbkgcpgpdaaDoor
open Go.RowKit

theorem str_toList (a : List UInt8) : (str a).toList = a := by rw [ByteArray.toList_eq]; rfl
theorem infoByte1 : (Tryd.prog.info? 5).map (·.size) = some 1 := by kernel_rfl
theorem ext_indexByte {w : World} {v : Value} {l : List UInt8} (h : Rd w v l) (c : UInt8) : (callFunc 69 #[v, .int .u8 (c.toNat : Int)]).run Tryd.prog w = .ok (.value (.int .i64 (Lib.indexByte l c))) w := by
  rw [run_callFunc_extern (fn := Tryd.f69) (e := Extern.BytealgIndexByte.indexByte) (by kernel_rfl) (by kernel_rfl) (by kernel_rfl) (by kernel_rfl) (by kernel_rfl), run_indexByte h]
  rfl
theorem ext_count {w : World} {v : Value} {l : List UInt8} (h : Rd w v l) (c : UInt8) : (callFunc 72 #[v, .int .u8 (c.toNat : Int)]).run Tryd.prog w = .ok (.value (.int .i64 (l.count c : Nat))) w := by
  rw [run_callFunc_extern (fn := Tryd.f72) (e := Extern.BytealgCount.count) (by kernel_rfl) (by kernel_rfl) (by kernel_rfl) (by kernel_rfl) (by kernel_rfl), run_count h]
  rfl
theorem indexByte_any {w : World} (v : Value) (l : List UInt8) (c : UInt8) (hv : Rd w v l) :
    Calls Tryd.prog 62 #[v, .int .u8 (c.toNat : Int)] w fun e w' => e = .returned (.int .i64 (Lib.indexByte l c)) ∧ w' = w := by
  go_enter Tryd.func62, Tryd.ntmps62
  have e34 := ext_indexByte hv c
  go_wp2_with fail
  go_ret
  exact ⟨rfl, rfl⟩
theorem count1_any {w : World} (v vs : Value) (l : List UInt8) (c : UInt8) (hv : Rd w v l) (hs : Rd w vs [c]) :
    Calls Tryd.prog 66 #[v, vs] w fun e w' => e = .returned (.int .i64 (l.count c : Nat)) ∧ w' = w := by
  obtain ⟨A, k, rfl⟩ := hs.slice
  obtain ⟨b', o', rfl, hc⟩ := hs.at (j := 0) (by simp)
  rw [Nat.add_zero] at hc
  replace hc : w.cell? ⟨b', o', none⟩ = some (.int .u8 (c.toNat : Int)) := hc
  rw [show ([c] : List UInt8).length = 1 from rfl]
  go_enter Tryd.func66, Tryd.ntmps66
  have e36 := ext_count hv c
  go_wp2_with fail
  go_ret
  exact ⟨rfl, rfl⟩
set_option maxHeartbeats 1000000 in
set_option maxRecDepth 100000 in
theorem index1_any {w : World} (v vs : Value) (l : List UInt8) (c : UInt8) (hv : Rd w v l) (hs : Rd w vs [c]) :
    Calls Tryd.prog 67 #[v, vs] w fun e w' => e = .returned (.int .i64 (Lib.indexByte l c)) ∧ w' = w := by
  obtain ⟨A, k, rfl⟩ := hs.slice
  obtain ⟨b', o', rfl, hc⟩ := hs.at (j := 0) (by simp)
  rw [Nat.add_zero] at hc
  replace hc : w.cell? ⟨b', o', none⟩ = some (.int .u8 (c.toNat : Int)) := hc
  rw [show ([c] : List UInt8).length = 1 from rfl]
  go_enter Tryd.func67, Tryd.ntmps67
  go_wp2_with (refine (indexByte_any v l c hv).mono ?_; rintro e w' ⟨rfl, rfl⟩)
  go_ret
  exact ⟨rfl, rfl⟩

/-! ### Plain -/
theorem indexByte_none {l : List UInt8} {c : UInt8} (h : l.count c = 0) : Lib.indexByte l c = -1 := by
  induction l with
  | nil => rfl
  | cons b l ih =>
    rw [List.count_cons] at h
    have hb : (b == c) = false := by cases hb : (b == c) <;> simp_all
    have hl : l.count c = 0 := by omega
    rw [Lib.indexByte, hb, ih hl]
    rfl
theorem indexByte_some {l : List UInt8} {c : UInt8} (h : 0 < l.count c) : ∃ k : Nat, Lib.indexByte l c = (k : Int) ∧ k < l.length ∧ l[k]? = some c ∧ (l.take k).count c = 0 := by
  induction l with
  | nil => simp at h
  | cons b l ih =>
    rw [Lib.indexByte]
    by_cases hb : (b == c) = true
    · rw [if_pos hb]
      have : b = c := by simpa using hb
      subst this
      exact ⟨0, rfl, by simp, rfl, rfl⟩
    · rw [if_neg hb]
      have hl : 0 < l.count c := by rw [List.count_cons, if_neg hb] at h; omega
      obtain ⟨k, h1, h2, h3, h4⟩ := ih hl
      rw [h1, if_neg (by rw [beq_iff_eq]; omega)]
      refine ⟨k + 1, by omega, by simpa using h2, by simpa using h3, ?_⟩
      rw [List.take_succ_cons, List.count_cons, h4, if_neg hb]
def esc (l : List UInt8) : List UInt8 := l.flatMap fun c => if c = 0 then [0, 255] else [c]
theorem esc_append (a b : List UInt8) : esc (a ++ b) = esc a ++ esc b := by simp [esc]
theorem esc_none {l : List UInt8} (h : l.count 0 = 0) : esc l = l := by
  induction l with
  | nil => rfl
  | cons b l ih =>
    rw [List.count_cons] at h
    have hb : ¬ b = 0 := by intro e; subst e; simp at h
    have hl : l.count 0 = 0 := by omega
    show (if b = 0 then [0, 255] else [b]) ++ esc l = b :: l
    rw [if_neg hb, ih hl]
    rfl
theorem esc_length (l : List UInt8) : (esc l).length = l.length + l.count 0 := by
  induction l with
  | nil => rfl
  | cons b l ih =>
    show ((if b = 0 then [0, 255] else [b]) ++ esc l).length = _
    rw [List.length_append, ih, List.count_cons, List.length_cons]
    by_cases hb : b = 0
    · subst hb; simp; omega
    · rw [if_neg hb, if_neg (by simpa using hb)]; simp; omega
end Go.Proofs.YthocpbkgcpgpdaaDoor
