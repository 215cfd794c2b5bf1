/- Hex; awake. -/
import Derived.Test.YthaoegapmekbmaaSha9
import Derived.Test.YthaoegapmekbmaaSha10
import Derived.Lib.SlBytesConst
namespace Go.Proofs.Ythaoegapmekbmaa
open Go.RowKit

def signL : List UInt8 := [48, 49, 50, 51, 52, 53, 54, 55, 56, 57, 97, 98, 99, 100, 101, 102]
def hexN (l : List UInt8) : Nat → List UInt8
  | 0 => []
  | t + 1 => (hexN l t ++ [signL.getD ((l.getD t 0).toNat / 16) 0]) ++ [signL.getD ((l.getD t 0).toNat % 16) 0]
theorem div16 (n : Nat) : ((n : Int) / 16) = ((n / 16 : Nat) : Int) := by omega
theorem mod16 (n : Nat) : ((n : Int) % 16) = ((n % 16 : Nat) : Int) := by omega
theorem sign_all : (List.range 16).all (fun k => (⟨#[48, 49, 50, 51, 52, 53, 54, 55, 56, 57, 97, 98, 99, 100, 101, 102]⟩ : ByteArray)[k]? == some (signL.getD k 0)) = true := by kernel_rfl
theorem sign_at (k : Nat) (h : k < 16) : (⟨#[48, 49, 50, 51, 52, 53, 54, 55, 56, 57, 97, 98, 99, 100, 101, 102]⟩ : ByteArray)[k]? = some (signL.getD k 0) :=
  eq_of_beq (List.all_eq_true.1 sign_all k (List.mem_range.2 h))

set_option maxHeartbeats 1000000 in
theorem hex_any {w : World} (v : Value) (l : List UInt8) (hv : Rd w v l) (hm : l.length < 1000000000) :
    Calls Try.prog 30 #[v] w fun e w' => e = .returned (.string (str (hexN l l.length))) ∧ Below w.heap.size w w' := by
  obtain ⟨A, c, rfl⟩ := hv.slice
  go_enter Try.func30, Try.ntmps30
  go_wp2_with (refine wpList_make0 (c := 2 * l.length) (base := w.heap.size) rfl rfl rfl rfl rfl (by simp) Try.underlying22 infoByte (by omega) (Nat.le_refl _) (fun v0 w1 ho f => ?_))
  have hlt0 := fun h => hv.lt h
  have hb := f.below (Nat.le_refl _) (fun _ _ h => h)
  replace hv := hv.below hb
  go_loopw [4, 5] (fun o i wr => ∃ t : Nat, i = .int .i64 t ∧ t ≤ l.length ∧ wr.ownsRow w.heap.size 5 1 o (2 * t) (bts (hexN l t)) ∧ Rd wr (.slice A l.length c) l ∧ (∀ k, (Value.slice A l.length c).ownBlock = some k → l ≠ [] → k < w.heap.size) ∧ Below w.heap.size w wr) (fun _ i _ => l.length - (intOf i).toNat)
  case atStart => exact ⟨0, rfl, Nat.zero_le _, ho, hv, fun k hk hl => hlt0 hl k hk, hb⟩
  case round =>
    clear ho hv hb f
    obtain ⟨t, rfl, ht, ho, hv, hvb, hb⟩ := hrel
    obtain ⟨A2, c2, rfl⟩ := own_form ho
    have hsz := hb.size
    by_cases hlt : t < l.length
    · have hltI : (t : Int) < (l.length : Int) := by omega
      have ht0 : (0 : Int) ≤ (t : Int) := by omega
      obtain ⟨b', o', rfl, hcell⟩ := hv.at hlt
      have hlt8 : (l[t]).toNat < 256 := (l[t]).toNat_lt
      have hN : hexN l (t + 1) = (hexN l t ++ [signL.getD ((l[t]).toNat / 16) 0]) ++ [signL.getD ((l[t]).toNat % 16) 0] := by
        have e : l.getD t 0 = l[t] := by rw [List.getD_eq_getElem?_getD, List.getElem?_eq_getElem hlt]; rfl
        rw [hexN, e]
      have s1 := sign_at ((l[t]).toNat / 16) (by omega)
      have s2 := sign_at ((l[t]).toNat % 16) (by omega)
      have hbw : b' < w.heap.size := hvb b' rfl (by intro e; rw [e] at hlt; simp at hlt)
      generalize hc0 : (l[t]).toNat = c0 at *
      generalize signL.getD (c0 / 16) 0 = x1 at *
      generalize signL.getD (c0 % 16) 0 = x2 at *
      go_wp2_with (first
        | (refine wpList_value rfl (exec_index_str (n := c0 / 16) rfl rfl rfl (div16 c0) Try.underlying9 s1) ?_)
        | (refine wpList_value rfl (exec_index_str (n := c0 % 16) rfl rfl rfl (mod16 c0) Try.underlying9 s2) ?_)
        | (refine wpList_push (x := [x1]) (l := hexN l t) (base := w.heap.size) rfl rfl rfl (by simp [Act.eval, Act.put]) (build1 x1 _) rfl rfl (by simp) (by simp [Act.put]) Try.underlying22 infoByte rfl rfl rfl ho (by omega) hsz (fun v' w' ho' f hno => ?_)
           have hcell' := f.cell hcell (fun e => by have := (ho.lt b' e.symm).1; omega)
           have hv' := hv.fr f (fun _ k hk e => by cases hk; have := (ho.lt b' e.symm).1; omega)
           have hb' := below_own hb ho f (Nat.le_refl _) hsz
           have hsz' := hb'.size
           obtain ⟨A3, c3, rfl⟩ := own_form ho')
        | (refine wpList_push (x := [x2]) (l := hexN l t ++ [x1]) (base := w.heap.size) rfl rfl rfl (by simp [Act.eval, Act.put]) (build1 x2 _) rfl rfl (by simp) (by simp [Act.put]) Try.underlying22 infoByte rfl rfl rfl ho' (by omega) hsz' (fun v2 w2 ho2 f2 hno2 => ?_)))
      have hv2 := hv'.fr f2 (fun _ k hk e => by cases hk; have := (ho'.lt b' e.symm).1; omega)
      have hb2 := below_own hb' ho' f2 (Nat.le_refl _) hsz'
      go_roundw
      case rel =>
        refine ⟨t + 1, by go_num, by omega, ?_, hv2, hvb, hb2⟩
        rw [hN]
        exact ho2
      case measure => simp [intOf]; omega
    · obtain rfl : t = l.length := by omega
      go_wp2_with (refine wpList_str rfl rfl rfl (Rd.of_own ho) (by kernel_rfl) (by kernel_rfl) ?_)
      go_ret
      exact ⟨rfl, hb⟩

theorem hex_nil : ((str (hexN (digest []) 32)).toList == [101, 51, 98, 48, 99, 52, 52, 50, 57, 56, 102, 99, 49, 99, 49, 52, 57, 97, 102, 98, 102, 52, 99, 56, 57, 57, 54, 102, 98, 57, 50, 52, 50, 55, 97, 101, 52, 49, 101, 52, 54, 52, 57, 98, 57, 51, 52, 99, 97, 52, 57, 53, 57, 57, 49, 98, 55, 56, 53, 50, 98, 56, 53, 53]) = true := by rw [digest_nil]; kernel_rfl
theorem hex_abc : ((str (hexN (digest [97, 98, 99]) 32)).toList == [98, 97, 55, 56, 49, 54, 98, 102, 56, 102, 48, 49, 99, 102, 101, 97, 52, 49, 52, 49, 52, 48, 100, 101, 53, 100, 97, 101, 50, 50, 50, 51, 98, 48, 48, 51, 54, 49, 97, 51, 57, 54, 49, 55, 55, 97, 57, 99, 98, 52, 49, 48, 102, 102, 54, 49, 102, 50, 48, 48, 49, 53, 97, 100]) = true := by rw [digest_abc]; kernel_rfl
theorem exec_convert {P : Program} {o : Oper} {a : Act} {src dst : TypeId} {x : Operand} {v v' : Value} {w w1 : World} (ho : o.op = .convert src dst x) (hx : a.eval x = v) (h : (convert src dst v).run P w = .ok v' w1) : (execOp a.eval o).run P w = .ok (.value v') w1 := by
  subst hx
  unfold execOp
  simp only [ho]
  exact exec_v h
theorem rd_rowF {w : World} {g n c : Nat} {cs : Array Value} {t : TypeId} {fz : Nat × Nat} {l : List UInt8} (h : w.heap[g]? = some (.cells cs t fz)) (hl : cs = (bts l).toArray) (hn : l.length = n) (hc : n ≤ c) (hm : n ≤ maxLen) : Rd w (.slice (some ⟨g, 0, none⟩) n c) l := by
  subst hn hl
  refine ⟨hm, .inr ⟨g, 0, c, rfl, hc, fun j v hv => ?_⟩⟩
  rw [cell_of_row w g _ _ t fz h, Nat.zero_add]
  simpa using hv
theorem awake_facts : ∃ s0 s1, Hid (str (hexN (digest []) 32) = s0) ∧ Hid (str (hexN (digest [97, 98, 99]) 32) = s1) ∧ (s0.toList == [101, 51, 98, 48, 99, 52, 52, 50, 57, 56, 102, 99, 49, 99, 49, 52, 57, 97, 102, 98, 102, 52, 99, 56, 57, 57, 54, 102, 98, 57, 50, 52, 50, 55, 97, 101, 52, 49, 101, 52, 54, 52, 57, 98, 57, 51, 52, 99, 97, 52, 57, 53, 57, 57, 49, 98, 55, 56, 53, 50, 98, 56, 53, 53]) = true ∧ (s1.toList == [98, 97, 55, 56, 49, 54, 98, 102, 56, 102, 48, 49, 99, 102, 101, 97, 52, 49, 52, 49, 52, 48, 100, 101, 53, 100, 97, 101, 50, 50, 50, 51, 98, 48, 48, 51, 54, 49, 97, 51, 57, 54, 49, 55, 55, 97, 57, 99, 98, 52, 49, 48, 102, 102, 54, 49, 102, 50, 48, 48, 49, 53, 97, 100]) = true :=
  ⟨_, _, Lib.hid rfl, Lib.hid rfl, hex_nil, hex_abc⟩
theorem hexd_any {w : World} {v : Value} {base : Nat} (m : List UInt8) (hv : w.ownsRow base 5 1 v 32 (bts (digest m))) :
    Calls Try.prog 30 #[v] w fun e w' => e = .returned (.string (str (hexN (digest m) 32))) ∧ Below w.heap.size w w' := by
  have hl : (digest m).length = 32 := by rw [digest, bytesN_length]
  have := hex_any v (digest m) (Rd.of_own hv) (by rw [hl]; omega)
  rwa [hl] at this

set_option maxHeartbeats 1000000 in
theorem awake_any (w : World) : Calls Try.prog 11 #[] w fun e w' => e = .returned (.bool true) ∧ Below w.heap.size w w' := by
  obtain ⟨s0, s1, HD0, HD1, h1, h2⟩ := awake_facts
  go_enter Try.func11, Try.ntmps11
  go_wp2_with fail
  refine (shasum_any (.slice none 0 0) [] (Rd.nil w) (by simp)).mono ?_
  rintro e w1 ⟨v1, rfl, ho1, hb1⟩
  go_wp2_with fail
  refine (hexd_any _ ho1).mono ?_
  rintro e w2 ⟨rfl, hb2⟩
  rw [HD0.out]
  have hb := below_then hb1 hb2
  clear ho1 hb1 hb2
  have hR := rd_rowF (n := 3) (c := 3) (l := [97, 98, 99]) (heap_alloc_new w2 (.cells #[.int .u8 97, .int .u8 98, .int .u8 99] 5 (3, 3 + 1))) rfl rfl (by omega) (by simp [maxLen])
  replace hb := hb.alloc hb.size (.cells #[.int .u8 97, .int .u8 98, .int .u8 99] 5 (3, 3 + 1))
  go_wp2_with (refine wpList_valueg rfl (exec_convert rfl rfl (Lib.run_convert_bytes_const w2 22 5 #[.int .u8 97, .int .u8 98, .int .u8 99] 3 3 Try.underlying22 Try.underlying5)) ?_)
  refine (shasum_any _ _ hR (by simp)).mono ?_
  rintro e w3 ⟨v3, rfl, ho3, hb3⟩
  go_wp2_with fail
  refine (hexd_any _ ho3).mono ?_
  rintro e w4 ⟨rfl, hb4⟩
  rw [HD1.out]
  have hb := hb.trans ((below_then hb3 hb4).mono hb.size)
  clear ho3 hb3 hb4
  go_wp2_with fail
  go_ret
  exact ⟨by rw [← h2]; rfl, hb⟩
end Go.Proofs.Ythaoegapmekbmaa
