/- New, Arm, the looks, a Write that is refused. -/
import Derived.Test.YthglnbkfmmchnaaDisk4
namespace Go.Proofs.Ythglnbkfmmchnaa.Dsk
open Go.RowKit
set_option maxRecDepth 100000

def DSt.arm (D : DSt) (n : Int) : DSt := { D with armed := decide (0 < n), left := n, out := D.out || decide (n < 1) }
def DSt.fresh (n : Nat) : DSt := ⟨List.replicate n (List.replicate 64 0), [], false, false, 0, 0⟩

set_option maxHeartbeats 400000 in
theorem arm_any {w : World} {p kb : Nat} {mv : Value} {D : DSt} (h : DiskAt w p kb mv D) (n : Int) :
    Calls Try.prog 18 #[.pointer (some ⟨p, 0, none⟩), .int .i64 n] w fun e w' => e = .returned (.tuple #[]) ∧ DiskAt w' p kb mv (D.arm n) ∧ Fr (dk p kb mv) w w' := by
  have hne : kb ≠ p := Ne.symm (h.blk.ne h.kept (by decide))
  obtain ⟨c0, c1, c2, c3, c4, c5, f0, f1, f2, f3, f4, f5⟩ := dcells_all h.blk
  have hfin : ∀ (o a : Bool) (w1 : World), w1 = ((w.setCell ⟨p, 3, none⟩ (.bool a)).setCell ⟨p, 4, none⟩ (.int .i64 n)).setCell ⟨p, 2, none⟩ (.bool o) → o = (D.out || decide (n < 1)) → a = decide (0 < n) → DiskAt w1 p kb mv (D.arm n) ∧ Fr (dk p kb mv) w w1 := by
    rintro o a w1 rfl rfl rfl
    have hf : Fr (fun k => k = p) w (((w.setCell ⟨p, 3, none⟩ (.bool (decide (0 < n)))).setCell ⟨p, 4, none⟩ (.int .i64 n)).setCell ⟨p, 2, none⟩ (.bool (D.out || decide (n < 1)))) := by (repeat (first | exact Fr.refl _ _ | (refine Fr.setCell ?_ (by exact fun _ => rfl) _)))
    exact ⟨⟨((h.blk.set 3 _).set 4 _).set 2 _, h.kept.fr hf hne, own_fr h.mem hf (fun k hk e => own_blk_ne h.mem h.blk (by decide) (e ▸ hk.symm)), h.len, h.idx, h.few⟩, hf.mono (fun _ _ e => .inl e)⟩
  cases ho : D.out with
  | true =>
    rw [ho] at c2 hfin
    go_enter Try.func18, Try.ntmps18
    go_wp2
    go_end0
    exact ⟨rfl, hfin _ _ _ rfl (by simp) rfl⟩
  | false =>
    rw [ho] at c2 hfin
    go_enter Try.func18, Try.ntmps18
    go_wp2
    go_end0
    exact ⟨rfl, hfin _ _ _ rfl (by simp) rfl⟩

theorem calls_any {w : World} {p kb : Nat} {mv : Value} {D : DSt} (h : DiskAt w p kb mv D) :
    Calls Try.prog 13 #[.pointer (some ⟨p, 0, none⟩)] w fun e w' => e = .returned (.int .i64 D.calls) ∧ w' = w := by
  obtain ⟨c0, c1, c2, c3, c4, c5, f0, f1, f2, f3, f4, f5⟩ := dcells_all h.blk
  go_enter Try.func13, Try.ntmps13
  go_wp2
  go_ret
  exact ⟨rfl, rfl⟩
theorem blocks_any {w : World} {p kb : Nat} {mv : Value} {D : DSt} (h : DiskAt w p kb mv D) :
    Calls Try.prog 47 #[.pointer (some ⟨p, 0, none⟩)] w fun e w' => e = .returned (.int .i64 D.kept.length) ∧ w' = w := by
  obtain ⟨c0, c1, c2, c3, c4, c5, f0, f1, f2, f3, f4, f5⟩ := dcells_all h.blk
  go_enter Try.func47, Try.ntmps47
  go_wp2
  go_ret
  exact ⟨rfl, rfl⟩

theorem kcells_fresh (n : Nat) : (madeCells (Array.replicate 64 (Value.int .u8 0)) (n * 64)) = (kcells (List.replicate n (List.replicate 64 0))).toArray := by
  have h1 : kcells (List.replicate n (List.replicate 64 0)) = List.replicate (n * 64) (Value.int .u8 0) := by
    induction n with
    | zero => simp [kcells]
    | succ n ih =>
      rw [kcells] at *
      rw [List.replicate_succ, List.flatMap_cons, ih, Nat.add_mul, Nat.one_mul, Nat.add_comm, ← List.replicate_append_replicate]
      simp [bts]
  rw [h1]
  apply Array.ext_getElem?
  intro j
  simp only [madeCells, Array.getElem?_map, Array.getElem?_range, List.getElem?_toArray, List.getElem?_replicate]
  split <;> rename_i hj
  · simp only [Option.map_some, Option.some.injEq, Array.size_replicate]
    rw [getElem!_pos _ _ (by simp; omega)]
    simp
  · simp

set_option maxHeartbeats 400000 in
theorem new_ok (n : Nat) (w : World) (h1 : 1 ≤ n) (h2 : n ≤ 4096) :
    Calls Try.prog 10 #[.int .i64 n] w fun e w' => e = .returned (.tuple #[.pointer (some ⟨w.heap.size + 1, 0, none⟩), .int .i64 0]) ∧
      DiskAt w' (w.heap.size + 1) w.heap.size (.slice none 0 0) (DSt.fresh n) ∧ Below w.heap.size w w' := by
  obtain ⟨i0, hi, hz0, hz1, hz2⟩ := info_parts infoBlock
  have hmk := fun w => run_make (P := Try.prog) w 65 81 i0 _ Try.underlying65 hi hz0 .i64 .i64 n n (by omega) (by omega) (by rw [hz2]; omega) (by omega)
  have e1 : madeCells (Value.agg (Array.replicate 64 (Value.int .u8 0))).cells ((n : Int).toNat * i0.size) = (kcells (List.replicate n (List.replicate 64 0))).toArray := by
    rw [hz1]; exact kcells_fresh n
  rw [e1] at hmk
  simp only [Int.toNat_natCast] at hmk
  have h1' : (1 : Int) ≤ n := by omega
  have h2' : (n : Int) ≤ 4096 := by omega
  clear e1 hz0 hz1 hz2 hi
  generalize hK : (kcells (List.replicate n (List.replicate 64 0))).toArray = KC at *
  have HK := Lib.hid hK
  clear hK
  go_enter Try.func10, Try.ntmps10
  go_wp2
  go_ret2
  refine ⟨rfl, ⟨?_, ?_, World.ownsRow_nil _ _ _ _, by simp [DSt.fresh], by simp [DSt.fresh], by simpa [DSt.fresh] using h2⟩, ?_⟩
  · have := Blk.new (w.alloc (.cells KC 81)) (dcells w.heap.size n (.slice none 0 0) false false 0 0) 68
    have e : (w.alloc (.cells KC 81)).heap.size = w.heap.size + 1 := by simp
    rw [e] at this
    simp only [DSt.fresh, List.length_replicate]
    exact this
  · have := (Blk.new w KC 81).alloc (.cells (dcells w.heap.size n (.slice none 0 0) false false 0 0) 68)
    simp only [DSt.fresh]
    rw [HK.out]
    exact this
  · exact ((Below.refl _ _).alloc (Nat.le_refl _) _).alloc (by simp) _

theorem new_bad (n : Int) (w : World) (h : n < 1 ∨ 4096 < n) :
    Calls Try.prog 10 #[.int .i64 n] w fun e w' => e = .returned (.tuple #[.pointer none, .int .i64 1]) ∧ w' = w := by
  rcases h with h | h
  · go_enter Try.func10, Try.ntmps10
    go_wp2
    go_ret2
    exact ⟨rfl, rfl⟩
  · have h' : (1 : Int) ≤ n := by omega
    go_enter Try.func10, Try.ntmps10
    go_wp2
    go_ret2
    exact ⟨rfl, rfl⟩

/-- A Write, whatever it is asked. -/
def DSt.write (D : DSt) (i : Int) (bs : List UInt8) : Int × DSt :=
  if 0 ≤ i ∧ i < D.kept.length ∧ bs.length = 64 then if D.out then (5, D) else (0, D.wrote i.toNat bs) else (1, D)

set_option maxHeartbeats 1000000 in
theorem write_any {w : World} {p kb : Nat} {mv : Value} {D : DSt} (h : DiskAt w p kb mv D) (hm : D.mem.length < 2 ^ 30) (i : Int) (v : Value) (bs : List UInt8) (hv : Rd w v bs) :
    Calls Try.prog 77 #[.pointer (some ⟨p, 0, none⟩), .int .i64 i, v] w fun e w' => e = .returned (.int .i64 (D.write i bs).1) ∧
      ∃ mv', DiskAt w' p kb mv' (D.write i bs).2 ∧ Fr (dk p kb mv) w w' ∧ NewOr w mv mv' := by
  have hne : kb ≠ p := Ne.symm (h.blk.ne h.kept (by decide))
  have hlen := hv.max
  by_cases hi : 0 ≤ i ∧ i < D.kept.length ∧ bs.length = 64
  · cases ho : D.out with
    | false =>
      have e : D.write i bs = (0, D.wrote i.toNat bs) := by simp [DSt.write, hi, ho]
      rw [e]
      obtain ⟨hi0, hi1, hi2⟩ := hi
      obtain ⟨n, rfl⟩ := Int.eq_ofNat_of_zero_le hi0
      rcases hv.2 with ⟨A, c, _, rfl⟩ | ⟨b, o, c, rfl, hc, hr⟩
      · simp at hi2
      rw [hi2]
      refine (write_ok n hi1 b o c bs hi2 hr h.blk h.mem hm ho).mono ?_
      rintro e w' ⟨rfl, mv', hb, hmm, hf, hn⟩
      rw [Int.toNat_natCast]
      have ek : (D.wrote n bs).kept = D.kept := by unfold DSt.wrote; rw [DSt.did_kept]
      have em : (D.wrote n bs).mem = D.mem ++ [(n, bs)] := by unfold DSt.wrote; rw [DSt.did_mem]
      have hf' : Fr (dk p kb mv) w w' := hf.mono (fun k _ hk => by rcases hk with hk | hk; exact .inl hk; exact .inr (.inr hk))
      refine ⟨rfl, mv', ⟨by rw [ek]; exact hb, ?_, hmm, by rw [ek]; exact h.len, ?_, by rw [ek]; exact h.few⟩, hf', hn⟩
      · rw [ek]
        exact h.kept.fr hf (fun hk => by rcases hk with hk | hk; exact hne hk; exact own_blk_ne h.mem h.kept (by decide) hk)
      · rw [ek, em]
        intro x hx
        rcases List.mem_append.1 hx with hx | hx
        · exact h.idx x hx
        · obtain rfl := List.mem_singleton.1 hx
          exact ⟨by omega, hi2⟩
    | true =>
      have e : D.write i bs = (5, D) := by simp [DSt.write, hi, ho]
      rw [e]
      obtain ⟨hi0, hi1, hi2⟩ := hi
      obtain ⟨A, c, rfl⟩ := hv.slice
      rw [hi2]
      obtain ⟨c0, c1, c2, c3, c4, c5, f0, f1, f2, f3, f4, f5⟩ := dcells_all h.blk
      rw [ho] at c2
      go_enter Try.func77, Try.ntmps77
      go_wp2
      go_ret
      exact ⟨rfl, mv, h, Fr.refl _ _, .inl rfl⟩
  · have e : D.write i bs = (1, D) := by simp only [DSt.write]; rw [if_neg hi]
    rw [e]
    obtain ⟨A, c, rfl⟩ := hv.slice
    obtain ⟨c0, c1, c2, c3, c4, c5, f0, f1, f2, f3, f4, f5⟩ := dcells_all h.blk
    by_cases h1 : 0 ≤ i
    · by_cases h2 : i < D.kept.length
      · have h3 : ((bs.length : Int) != 64) = true := by
          rw [bne_iff_ne]
          intro h3
          exact hi ⟨h1, h2, by omega⟩
        go_enter Try.func77, Try.ntmps77
        go_wp2
        go_ret
        exact ⟨rfl, mv, h, Fr.refl _ _, .inl rfl⟩
      · have h2' : (D.kept.length : Int) ≤ i := by omega
        go_enter Try.func77, Try.ntmps77
        go_wp2
        go_ret
        exact ⟨rfl, mv, h, Fr.refl _ _, .inl rfl⟩
    · have h1' : i < 0 := by omega
      go_enter Try.func77, Try.ntmps77
      go_wp2
      go_ret
      exact ⟨rfl, mv, h, Fr.refl _ _, .inl rfl⟩

end Go.Proofs.Ythglnbkfmmchnaa.Dsk
