/- The document's disk: Read, Write. -/
import Derived.Test.YtnnhelknpnkphaaRDisk1
namespace Go.Proofs.Ytnnhelknpnkphaa
open Go.RowKit

theorem wvals_length (l : List (Nat × Value)) : (wvals l).length = l.length * 2 := flatMap_length _ 2 l (fun _ _ => rfl)
theorem wvals_get (l : List (Nat × Value)) (k : Nat) (hk : k < l.length) : (wvals l)[k * 2]? = some (.int .i64 ((l.getD k (0, undef)).1 : Int)) ∧ (wvals l)[k * 2 + 1]? = some (l.getD k (0, undef)).2 := by
  have h := flatMap_get (fun x : Nat × Value => [Value.int .i64 (x.1 : Int), x.2]) 2 l (fun _ _ => rfl) k hk
  have e : l.getD k (0, undef) = l[k] := by rw [List.getD_eq_getElem?_getD, List.getElem?_eq_getElem hk]; rfl
  refine ⟨?_, ?_⟩
  · have := h 0 (by omega); rw [e]; simpa [wvals] using this
  · have := h 1 (by omega); rw [e]; simpa [wvals] using this

set_option maxHeartbeats 2000000 in
set_option maxRecDepth 100000 in
theorem rread_s {S : Nat → Prop} {w : World} {p : Nat} {D : DSt} (h : RDS S w p D) (hm : D.mem.length < 2 ^ 30) (i : Int) :
    Calls Try.prog 20 #[.pointer (some ⟨p, 0, none⟩), .int .i64 i] w fun e w' => ∃ v, e = .returned (.tuple #[v, .int .i64 (D.read i).2]) ∧ Rd w' v (D.read i).1 ∧ Below w.heap.size w w' := by
  obtain ⟨kv, mv, ks, ms, h⟩ := h
  obtain ⟨Ak, ck, rfl⟩ := own_form h.kept
  obtain ⟨Am, cm, rfl⟩ := own_form h.mem
  have hkm : D.kept.length ≤ 4096 := h.few
  obtain ⟨c0, c1, c2, -⟩ := rcells_all h.blk
  by_cases hi : 0 ≤ i ∧ i < D.kept.length
  rotate_left
  · have hr : D.read i = ([], 1) := by rw [DSt.read, if_neg hi]
    rw [hr]
    clear hr c2 c1
    by_cases h0 : i < 0
    · go_enter Try.func20, Try.ntmps20
      go_wp2_with fail
      go_ret2
      exact ⟨_, rfl, Rd.nil _, Below.refl _ _⟩
    · have h0d : decide (i < 0) = false := decide_eq_false h0
      have h1 : (D.kept.length : Int) ≤ i := by omega
      go_enter Try.func20, Try.ntmps20
      go_wp2_with fail
      go_ret2
      exact ⟨_, rfl, Rd.nil _, Below.refl _ _⟩
  have h0d : decide (i < 0) = false := decide_eq_false (by omega)
  have h1d : decide ((D.kept.length : Int) ≤ i) = false := decide_eq_false (by omega)
  cases ho : D.out with
  | true =>
    have hr : D.read i = ([], 5) := by rw [DSt.read, if_pos hi, if_pos ho]
    rw [hr]
    rw [ho] at c2
    clear hr c1 ho
    go_enter Try.func20, Try.ntmps20
    go_wp2_with fail
    go_ret2
    exact ⟨_, rfl, Rd.nil _, Below.refl _ _⟩
  | false =>
    have hr : D.read i = (D.at i.toNat, 0) := by rw [DSt.read, if_pos hi, if_neg (by rw [ho]; exact Bool.false_ne_true)]
    rw [hr]
    rw [ho] at c2
    obtain ⟨j, rfl⟩ := Int.eq_ofNat_of_zero_le hi.1
    rw [Int.toNat_natCast]
    have hj : j < D.kept.length := by omega
    have HR : Hid (D.at j = readN D.kept D.mem j D.mem.length) := Lib.hid rfl
    generalize D.at j = V at *
    have hj0 : (0 : Int) ≤ (j : Int) := by omega
    have hjN : j < D.kept.length := hj
    have hjd : decide (D.kept.length ≤ j) = false := decide_eq_false (by omega)
    have HH := Lib.hid h
    clear hr ho hi h h0d h1d
    go_enter Try.func20, Try.ntmps20
    go_wp2_with fail
    go_loopw [6] (fun kv wr => ∃ k : Nat, kv = .int .i64 ((k : Int) - 1) ∧ k ≤ D.mem.length ∧ V = readN D.kept D.mem j k ∧ wr = w) (fun kv _ => (intOf kv + 1).toNat)
    case atStart => exact ⟨D.mem.length, rfl, Nat.le_refl _, HR.out, rfl⟩
    case round =>
      obtain ⟨k, rfl, hk, hV, rfl⟩ := hrel
      cases k with
      | zero =>
        have hV0 : V = D.kept.getD j [] := hV
        obtain ⟨g, c', hvd⟩ := own_some HH.out.kept (by omega)
        simp only [Value.slice.injEq] at hvd
        obtain ⟨rfl, -, rfl⟩ := hvd
        have hcv := HH.out.kept.cells (g := g) rfl j _ (List.getElem?_eq_getElem (by rw [HH.out.kl]; exact hj))
        rw [Addr.add_mid, Nat.zero_add] at hcv
        have hkr := HH.out.kr j hj
        rw [List.getD_eq_getElem?_getD, List.getElem?_eq_getElem (by rw [HH.out.kl]; exact hj), ← hV0] at hkr
        have rk := Rd.of_own hkr
        have hkl := HH.out.kl
        generalize ks[j]'(by rw [hkl]; exact hj) = vt at *
        replace rk : Rd wr vt V := rk
        have hVl : V.length ≤ 64 := by have := hkr.1; rw [bts_length] at this; omega
        clear hV hV0 hkr hkl
        go_wp2_with (refine wpList_appRd (base := wr.heap.size) (l := []) (n := 0) rfl rfl Try.underlying29 infoByte rfl rfl rfl (World.ownsRow_nil _ _ _ _) rk (by omega) (Nat.le_refl _) (fun v6 w6 o6 g6 _ => ?_))
        go_ret2
        rw [List.nil_append, Nat.zero_add] at o6
        exact ⟨_, rfl, Rd.of_own o6, g6.below (B := wr.heap.size) (Nat.le_refl _) (fun k _ e => by cases e)⟩
      | succ k =>
        have hkl : k < D.mem.length := by omega
        have hstep : readN D.kept D.mem j (k + 1) = if (D.mem.getD k (0, [])).1 = j then (D.mem.getD k (0, [])).2 else readN D.kept D.mem j k := by
          rw [readN, List.getD_eq_getElem?_getD, List.getElem?_eq_getElem hkl]; rfl
        rw [hstep] at hV
        obtain ⟨g, c', hvd⟩ := own_some HH.out.mem (by omega)
        simp only [Value.slice.injEq] at hvd
        obtain ⟨rfl, -, rfl⟩ := hvd
        obtain ⟨hg1, hg2⟩ := wvals_get ms k (by rw [HH.out.ml]; exact hkl)
        have hq1 := HH.out.mem.cells (g := g) rfl _ _ hg1
        have hq2 := HH.out.mem.cells (g := g) rfl _ _ hg2
        rw [Addr.add_mid, Nat.zero_add] at hq1 hq2
        obtain ⟨hm1, hm2⟩ := HH.out.mr k hkl
        rw [hm1] at hq1
        generalize (ms.getD k (0, undef)).2 = vt at *
        generalize D.mem.getD k (0, []) = xb at *
        obtain ⟨x, bs⟩ := xb
        simp only at hq1 hm1 hV hm2
        have rk := Rd.of_own hm2
        have hbl : bs.length ≤ 64 := by have := hm2.1; rw [bts_length] at this; omega
        have hkI : (k : Int) < (D.mem.length : Int) := by omega
        have hk0 : (0 : Int) ≤ (k : Int) := by omega
        by_cases hx : x = j
        · subst hx
          rw [if_pos rfl] at hV
          subst hV
          clear hm1 hm2 hg1 hg2 hstep
          go_wp2_with (refine wpList_appRd (base := wr.heap.size) (l := []) (n := 0) rfl rfl Try.underlying29 infoByte rfl rfl rfl (World.ownsRow_nil _ _ _ _) rk (by omega) (Nat.le_refl _) (fun v6 w6 o6 g6 _ => ?_))
          go_ret2
          rw [List.nil_append, Nat.zero_add] at o6
          exact ⟨_, rfl, Rd.of_own o6, g6.below (B := wr.heap.size) (Nat.le_refl _) (fun k _ e => by cases e)⟩
        · have hxb : ((x : Int) == (j : Int)) = false := beq_eq_false_iff_ne.2 (by omega)
          have hxn : (x == j) = false := beq_eq_false_iff_ne.2 hx
          rw [if_neg hx] at hV
          have HV := Lib.hid hV
          clear hm1 hm2 hg1 hg2 hstep hV
          go_wp2_with fail
          go_roundw
          case rel => exact ⟨k, by go_num, by omega, HV.out, trivial⟩
          case measure => simp [intOf]
end Go.Proofs.Ytnnhelknpnkphaa
