/- Same. -/
import Derived.Test.YthocpbkgcpgpdaaDoorAudA
namespace Go.Proofs.YthocpbkgcpgpdaaDoor
open Go.RowKit

theorem wpList_strh {P : Program} {ops : Array Oper} {Q : Exit → Act → World → Prop} {a : Act} {w : World} {o : Oper} {rest : List Oper} {src dst : TypeId} {x : Operand} {v : Value} {l : List UInt8} (ho : o.op = .convert src dst x) (hg : Region.wanted o (yielded ops a.tmps) = true)
    (hx : a.eval x = v) (h : Rd w v l)
    (hs : ((P.underlying src).bind fun d => match d with | .slice e => P.underlying e | _ => none) = some (.int .u8)) (hd : P.underlying dst = some .string)
    (hK : wpList P ops Q rest (a.put o.dst (.string (str l))) w) : wpList P ops Q (o :: rest) a w :=
  wpList_strg hg ho hx h hs hd hK
def sameE (a b : Ent) : Bool := (a.no == b.no) && ((a.time == b.time) && ((a.code == b.code) && ((a.who.toList == b.who.toList) && ((a.what.toList == b.what.toList) && ((a.prev == b.prev) && (a.hash == b.hash))))))
theorem sameE_self (a : Ent) : sameE a a = true := by simp [sameE]
set_option maxHeartbeats 3000000 in
set_option maxRecDepth 100000 in
theorem same_any {w : World} (a b : Ent) (vp1 vh1 vp2 vh2 : Value) (hp1 : Rd w vp1 a.prev) (hh1 : Rd w vh1 a.hash) (hp2 : Rd w vp2 b.prev) (hh2 : Rd w vh2 b.hash) :
    Calls Tryd.prog 13 #[.agg #[.int .i64 a.no, .int .i64 a.time, .int .i64 a.code, .string a.who, .string a.what, vp1, vh1], .agg #[.int .i64 b.no, .int .i64 b.time, .int .i64 b.code, .string b.who, .string b.what, vp2, vh2]] w
      fun en w' => en = .returned (.bool (sameE a b)) ∧ Below w.heap.size w w' := by
  obtain ⟨Ap1, cp1, rfl⟩ := hp1.slice
  obtain ⟨Ah1, ch1, rfl⟩ := hh1.slice
  obtain ⟨Ap2, cp2, rfl⟩ := hp2.slice
  obtain ⟨Ah2, ch2, rfl⟩ := hh2.slice
  obtain ⟨q, hq⟩ : ∃ q, q = sameE a b := ⟨_, rfl⟩
  rw [← hq]
  have HQ := Lib.hid hq
  clear hq
  have hB := (Below.refl w.heap.size w).alloc (Nat.le_refl _) (.cells #[.int .i64 a.no, .int .i64 a.time, .int .i64 a.code, .string a.who, .string a.what, .slice Ap1 a.prev.length cp1, .slice Ah1 a.hash.length ch1] 30)
  have hb1 := Blk.new w #[.int .i64 a.no, .int .i64 a.time, .int .i64 a.code, .string a.who, .string a.what, .slice Ap1 a.prev.length cp1, .slice Ah1 a.hash.length ch1] 30
  replace hp1 := hp1.below hB
  replace hh1 := hh1.below hB
  replace hp2 := hp2.below hB
  replace hh2 := hh2.below hB
  have hs := hB.size
  have hz : (w.alloc (.cells #[.int .i64 a.no, .int .i64 a.time, .int .i64 a.code, .string a.who, .string a.what, .slice Ap1 a.prev.length cp1, .slice Ah1 a.hash.length ch1] 30)).heap.size = w.heap.size + 1 := by simp
  have Hz := Lib.hid hz
  clear hz
  go_enter Tryd.func13, Tryd.ntmps13
  go_upto_region 1 with fail
  generalize w.alloc (.cells #[.int .i64 a.no, .int .i64 a.time, .int .i64 a.code, .string a.who, .string a.what, .slice Ap1 a.prev.length cp1, .slice Ah1 a.hash.length ch1] 30) = w1 at *
  generalize hb0 : w.heap.size = B at *
  have HB := Lib.hid hb0
  clear hb0
  have f := (Below.refl w1.heap.size w1).alloc (Nat.le_refl _) (.cells #[.int .i64 b.no, .int .i64 b.time, .int .i64 b.code, .string b.who, .string b.what, .slice Ap2 b.prev.length cp2, .slice Ah2 b.hash.length ch2] 30)
  have hb2 := Blk.new w1 #[.int .i64 b.no, .int .i64 b.time, .int .i64 b.code, .string b.who, .string b.what, .slice Ap2 b.prev.length cp2, .slice Ah2 b.hash.length ch2] 30
  replace hp1 := hp1.below f; replace hh1 := hh1.below f; replace hp2 := hp2.below f; replace hh2 := hh2.below f; replace hb1 := hb1.fr (Fr.of_below f (fun _ => False)) (fun h => h); skip; replace hB := hB.trans (f.mono hs); replace hs := Nat.le_trans hs f.size
  clear f
  generalize w1.alloc (.cells #[.int .i64 b.no, .int .i64 b.time, .int .i64 b.code, .string b.who, .string b.what, .slice Ap2 b.prev.length cp2, .slice Ah2 b.hash.length ch2] 30) = w2 at *
  rw [Hz.out] at hb2
  have a0 := hb1.cell 0
  have a1 := hb1.cell 1
  have a2 := hb1.cell 2
  have a3 := hb1.cell 3
  have a4 := hb1.cell 4
  have a5 := hb1.cell 5
  have a6 := hb1.cell 6
  have b0 := hb2.cell 0
  have b1 := hb2.cell 1
  have b2 := hb2.cell 2
  have b3 := hb2.cell 3
  have b4 := hb2.cell 4
  have b5 := hb2.cell 5
  have b6 := hb2.cell 6
  simp only [List.getElem?_toArray, List.getElem?_cons_zero, List.getElem?_cons_succ] at a0 a1 a2 a3 a4 a5 a6 b0 b1 b2 b3 b4 b5 b6
  have hq := HQ.out
  replace hq : q = ((a.no == b.no) && ((a.time == b.time) && ((a.code == b.code) && ((a.who.toList == b.who.toList) && ((a.what.toList == b.what.toList) && (((str a.prev).toList == (str b.prev).toList) && ((str a.hash).toList == (str b.hash).toList))))))) := by rw [str_toList, str_toList, str_toList, str_toList]; exact hq
  obtain ⟨q1, e1⟩ : ∃ x, (a.no == b.no) = x := ⟨_, rfl⟩
  obtain ⟨q2, e2⟩ : ∃ x, (a.time == b.time) = x := ⟨_, rfl⟩
  obtain ⟨q3, e3⟩ : ∃ x, (a.code == b.code) = x := ⟨_, rfl⟩
  obtain ⟨q4, e4⟩ : ∃ x, (a.who.toList == b.who.toList) = x := ⟨_, rfl⟩
  obtain ⟨q5, e5⟩ : ∃ x, (a.what.toList == b.what.toList) = x := ⟨_, rfl⟩
  obtain ⟨q6, e6⟩ : ∃ x, ((str a.prev).toList == (str b.prev).toList) = x := ⟨_, rfl⟩
  obtain ⟨q7, e7⟩ : ∃ x, ((str a.hash).toList == (str b.hash).toList) = x := ⟨_, rfl⟩
  rw [e1, e2, e3, e4, e5, e6, e7] at hq
  clear HQ
  subst hq
  cases q1
  · go_wp2_with fail
    go_ret
    exact ⟨rfl, by first | exact hB | (rw [HB.out]; exact hB)⟩
  cases q2
  · go_wp2_with fail
    go_ret
    exact ⟨rfl, by first | exact hB | (rw [HB.out]; exact hB)⟩
  cases q3
  · go_wp2_with fail
    go_ret
    exact ⟨rfl, by first | exact hB | (rw [HB.out]; exact hB)⟩
  cases q4
  · go_wp2_with fail
    go_ret
    exact ⟨rfl, by first | exact hB | (rw [HB.out]; exact hB)⟩
  cases q5
  · go_wp2_with fail
    go_ret
    exact ⟨rfl, by first | exact hB | (rw [HB.out]; exact hB)⟩
  cases q6
  · go_wp2_with ((refine wpList_strh rfl rfl rfl (by assumption) (by kernel_rfl) (by kernel_rfl) ?_))
    go_ret
    exact ⟨rfl, by first | exact hB | (rw [HB.out]; exact hB)⟩
  go_wp2_with ((refine wpList_strh rfl rfl rfl (by assumption) (by kernel_rfl) (by kernel_rfl) ?_))
  go_ret
  exact ⟨by rw [← e7]; rfl, by first | exact hB | (rw [HB.out]; exact hB)⟩
end Go.Proofs.YthocpbkgcpgpdaaDoor
