/- frame: awake. -/
import Derived.Test.YtdhllelldlkdfaaFrame5
import Derived.Lib.SlBytesConst
namespace Go.Proofs.Ytdhllelldlkdfaa
open Go.RowKit

theorem exec_convert {P : Program} {o : Oper} {a : Act} {src dst : TypeId} {x : Operand} {v v' : Value} {w w1 : World} (ho : o.op = .convert src dst x) (hx : a.eval x = v) (h : (convert src dst v).run P w = .ok v' w1) : (execOp a.eval o).run P w = .ok (.value v') w1 := by
  subst hx
  unfold execOp
  simp only [ho]
  exact exec_v h
theorem rd_rowF {w : World} {g n c : Nat} {cs : Array Value} {t : TypeId} {fz : Nat × Nat} {l : List UInt8} (h : w.heap[g]? = some (.cells cs t fz)) (hl : cs = (bts l).toArray) (hn : l.length = n) (hc : n ≤ c) (hm : n ≤ maxLen) : Rd w (.slice (some ⟨g, 0, none⟩) n c) l := by
  subst hn hl
  refine ⟨hm, .inr ⟨g, 0, c, rfl, hc, fun j v hv => ?_⟩⟩
  rw [cell_of_row w g _ _ t fz h, Nat.zero_add]
  simpa using hv
theorem fr_lit (w : World) : (Instr.build 24 #[(0, .int .i64 1)]).run Try.prog w = .ok (.agg #[.int .i64 1, .int .i64 0, .slice none 0 0]) w := by kernel_rfl
theorem fb_lit (A A' : Option Addr) (n c n' c' : Nat) (w : World) : (Instr.build 45 #[(0, .slice A n c), (1, .slice A' n' c')]).run Try.prog w = .ok (.agg #[.slice A n c, .slice A' n' c', .bool false]) w := by kernel_rfl
theorem fbs_lit (A A' : Option Addr) (n c n' c' : Nat) (w : World) : (Instr.buildSlice 36 1 #[(0, .agg #[.slice A n c, .slice A' n' c', .bool false])]).run Try.prog w =
    .ok (.slice (some ⟨w.heap.size, 0, none⟩) 1 1) (w.alloc (.cells #[.slice A n c, .slice A' n' c', .bool false] 45)) := by kernel_rfl
theorem enc0_facts : ∃ E, Hid (encN 1 0 [] = E) ∧ E.length = 22 ∧ E[0]? = some 245 ∧ E[9]? = some 1 := ⟨_, Lib.hid rfl, by kernel_rfl, by kernel_rfl, by kernel_rfl⟩
theorem bat_facts : ∃ s, Hid (str (batchN [⟨[97], [98], false⟩] 1) = s) ∧ (s.toList == [1, 0, 1, 97, 1, 98]) = true := ⟨_, Lib.hid rfl, by kernel_rfl⟩
theorem size0 : sizeN 0 = 22 := by kernel_rfl

set_option maxHeartbeats 3000000 in
set_option maxRecDepth 100000 in
theorem awake_any (w : World) : Calls Try.prog 9 #[] w fun e w' => e = .returned (.bool true) ∧ Below w.heap.size w w' := by
  obtain ⟨E, HE, hel, e0, e9⟩ := enc0_facts
  obtain ⟨s0, HS, hs0⟩ := bat_facts
  have hsz0 := size0
  have henc := enc_any (w := w) 1 0 (.slice none 0 0) [] (Rd.nil w) (by decide) (by decide) (by simp)
  rw [HE.out] at henc
  go_enter Try.func9, Try.ntmps9
  go_wp2_with (refine wpList_value rfl (exec_build (fr_lit _) rfl (by simp [Act.eval])) ?_)
  refine henc.mono ?_
  rintro e w1 ⟨v1, n, rfl, o1, hb1⟩
  have hn : n = 22 := by have := o1.1; rw [bts_length, hel] at this; omega
  subst hn
  obtain ⟨g, c, cs, rfl, hg, hc, -, bg, hcs, hcc⟩ := own_blk o1 (by omega)
  have q0 : w1.cell? ⟨g, 0, none⟩ = some (.int .u8 245) := (bg.cell 0).trans ((hcc 0 (by omega)).trans (by rw [bts_get, e0]; rfl))
  have q9 : w1.cell? ⟨g, 9, none⟩ = some (.int .u8 1) := (bg.cell 9).trans ((hcc 9 (by omega)).trans (by rw [bts_get, e9]; rfl))
  clear henc o1 hcc bg HE
  go_wp2_with fail
  refine (size_any (w := w1) 0 (by omega)).mono ?_
  rintro e w2 ⟨rfl, hb2⟩
  rw [hsz0]
  have hb := hb1.trans (hb2.mono hb1.size)
  clear hb1 hb2 q0 q9
  have ra := rd_rowF (n := 1) (c := 1) (l := [97]) (heap_alloc_new w2 (.cells #[.int .u8 97] 5 (1, 1 + 1))) rfl rfl (by omega) (by simp [maxLen])
  have ba := hb.alloc hb.size (.cells #[.int .u8 97] 5 (1, 1 + 1))
  have hcv := Lib.run_convert_bytes_const (P := Try.prog) w2 22 5 #[.int .u8 97] 1 1 Try.underlying22 Try.underlying5
  generalize hw3 : w2.alloc (.cells #[.int .u8 97] 5 (1, 1 + 1)) = w3 at *
  have f4 : Fr (fun _ => False) w3 (w3.alloc (.cells #[.int .u8 98] 5 (1, 1 + 1))) := (Fr.refl _ w3).alloc _
  have rb := rd_rowF (n := 1) (c := 1) (l := [98]) (heap_alloc_new w3 (.cells #[.int .u8 98] 5 (1, 1 + 1))) rfl rfl (by omega) (by simp [maxLen])
  have bb := ba.alloc ba.size (.cells #[.int .u8 98] 5 (1, 1 + 1))
  have hcv2 := Lib.run_convert_bytes_const (P := Try.prog) w3 22 5 #[.int .u8 98] 1 1 Try.underlying22 Try.underlying5
  have ra4 := ra.fr f4 (fun _ _ _ h => h)
  generalize hw4 : w3.alloc (.cells #[.int .u8 98] 5 (1, 1 + 1)) = w4 at *
  have f5 : Fr (fun _ => False) w4 (w4.alloc (.cells #[.slice (some ⟨w2.heap.size, 0, none⟩) 1 1, .slice (some ⟨w3.heap.size, 0, none⟩) 1 1, .bool false] 45)) := (Fr.refl _ w4).alloc _
  have b5 := Blk.new w4 #[.slice (some ⟨w2.heap.size, 0, none⟩) 1 1, .slice (some ⟨w3.heap.size, 0, none⟩) 1 1, .bool false] 45
  have bc := bb.alloc bb.size (.cells #[.slice (some ⟨w2.heap.size, 0, none⟩) 1 1, .slice (some ⟨w3.heap.size, 0, none⟩) 1 1, .bool false] 45)
  have ra5 := ra4.fr f5 (fun _ _ _ h => h)
  have rb5 := rb.fr f5 (fun _ _ _ h => h)
  have hP : RdP (w4.alloc (.cells #[.slice (some ⟨w2.heap.size, 0, none⟩) 1 1, .slice (some ⟨w3.heap.size, 0, none⟩) 1 1, .bool false] 45)) (.slice (some ⟨w4.heap.size, 0, none⟩) 1 1) [⟨[97], [98], false⟩] := by
    refine ⟨_, 1, 1, rfl, rfl, by simp [maxLen], fun j hj => ?_⟩
    obtain rfl : j = 0 := by simp at hj; omega
    exact ⟨_, 0, _, _, rfl, b5.range' 0 _ (fun j v hv => by rw [Nat.zero_add]; simpa using hv), ra5, rb5⟩
  go_wp2_with (first
    | (refine wpList_valueg rfl (exec_convert rfl rfl hcv) ?_)
    | (refine wpList_valueg rfl (exec_convert rfl rfl hcv2) ?_)
    | (refine wpList_valueg rfl (exec_build (fb_lit _ _ 1 1 1 1 w4) rfl (by simp [Act.eval, Act.put])) ?_)
    | (refine wpList_valueg rfl (exec_buildSlice (fbs_lit _ _ 1 1 1 1 w4) rfl (by simp [Act.eval, Act.put])) ?_))
  refine (batch_any _ _ hP (by simp) (by simp)).mono ?_
  rintro e w6 ⟨v6, n6, rfl, o6, hb6⟩
  have r6 := Rd.of_own o6
  have hb := bc.trans (hb6.mono bc.size)
  rw [show ([⟨[97], [98], false⟩] : List PutL).length = 1 from rfl] at r6
  go_simp
  refine (‹∀ (a : Act) (w : World), wpList _ _ _ _ a w → _›) _ _ ?_
  refine wpList_strg rfl rfl rfl r6 (by kernel_rfl) (by kernel_rfl) ?_
  rw [HS.out]
  go_wp2_with fail
  go_ret
  exact ⟨rfl, hb⟩
end Go.Proofs.Ytdhllelldlkdfaa
