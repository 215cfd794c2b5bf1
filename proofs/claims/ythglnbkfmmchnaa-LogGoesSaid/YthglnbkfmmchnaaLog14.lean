/- conciergelaw07: begun. -/
import Derived.Test.YthglnbkfmmchnaaLog13
import Derived.Test.YthglnbkfmmchnaaFR4
namespace Go.Proofs.Ythglnbkfmmchnaa
open Go.RowKit
open Dsk (DSt DiskS chunk)

/-- the values of a row that came in -/
theorem _root_.Go.RdL.vals {w : World} {A : Option Addr} {n c : Nat} {ls : List (List UInt8)} (h : RdL w (.slice A n c) ls) :
    ∃ vals : List Value, vals.length = n ∧ n = ls.length ∧ (n = 0 ∨ ∃ ad, A = some ad ∧ ∀ j u, vals[j]? = some u → w.cell? (ad.add j) = some u) ∧ (∀ u ∈ vals, u.oneCell' = true) ∧ ∀ j, j < n → Rd w (vals.getD j undef) (ls.getD j []) := by
  obtain ⟨A', n', c', hv, hn, hm, hall⟩ := h
  simp only [Value.slice.injEq] at hv
  obtain ⟨rfl, rfl, rfl⟩ := hv
  have each : ∀ j, ∃ v, j < n → (∃ b o, A = some ⟨b, o, none⟩ ∧ w.cell? ⟨b, o + j, none⟩ = some v) ∧ Rd w v (ls.getD j []) := by
    intro j
    by_cases hj : j < n
    · obtain ⟨b, o, vj, h1, h2, h3⟩ := hall j (by omega)
      refine ⟨vj, fun _ => ⟨⟨b, o, h1, h2⟩, ?_⟩⟩
      rw [List.getD_eq_getElem?_getD, List.getElem?_eq_getElem (by omega)]
      exact h3
    · exact ⟨undef, fun h => absurd h hj⟩
  obtain ⟨f, hf⟩ := Classical.axiomOfChoice each
  have hget : ∀ j, j < n → ((List.range n).map f)[j]? = some (f j) := fun j hj => by
    rw [List.getElem?_map, List.getElem?_range hj]; rfl
  refine ⟨(List.range n).map f, by simp, hn.symm, ?_, ?_, ?_⟩
  · rcases Nat.eq_zero_or_pos n with h0 | h0
    · exact .inl h0
    · right
      obtain ⟨⟨b, o, hA, _⟩, _⟩ := hf 0 h0
      refine ⟨_, hA, fun j u hu => ?_⟩
      have hj : j < n := by
        rcases Nat.lt_or_ge j n with h | h
        · exact h
        · rw [List.getElem?_eq_none (by simpa using h)] at hu; cases hu
      rw [hget j hj] at hu
      cases hu
      obtain ⟨⟨b2, o2, hA2, hc⟩, _⟩ := hf j hj
      rw [hA] at hA2
      cases hA2
      rw [Addr.add_mid]
      exact hc
  · intro u hu
    obtain ⟨j, hj, rfl⟩ := List.mem_map.1 hu
    obtain ⟨_, hr⟩ := hf j (List.mem_range.1 hj)
    obtain ⟨A3, c3, e⟩ := hr.slice
    rw [e]; rfl
  · intro j hj
    rw [List.getD_eq_getElem?_getD, hget j hj]
    exact (hf j hj).2
/-- A row of rows of bytes; the bytes read in the world of the start. -/
structure HadP (w0 w : World) (A : Option Addr) (vals : List Value) (ls : List (List UInt8)) : Prop where
  len : vals.length = ls.length
  max : ls.length ≤ maxLen
  row : ls.length = 0 ∨ ∃ b o, A = some ⟨b, o, none⟩ ∧ ∀ (j : Nat) (u : Value), vals[j]? = some u → w.cell? ⟨b, o + j, none⟩ = some u
  one : ∀ u ∈ vals, u.oneCell' = true
  each : ∀ j, j < ls.length → Rd w0 (vals.getD j undef) (ls.getD j [])
theorem HadP.of {w : World} {A : Option Addr} {n c : Nat} {ls : List (List UInt8)} (h : RdL w (.slice A n c) ls) : ∃ vals, HadP w w A vals ls := by
  have hmx := h
  obtain ⟨vals, h1, h2, h3, h4, h5⟩ := h.vals
  subst h2
  obtain ⟨_, n', _, hv, hn, hm, _⟩ := hmx
  refine ⟨vals, h1, by omega, ?_, h4, h5⟩
  rcases h3 with h3 | ⟨ad, rfl, h3⟩
  · exact .inl h3
  · rcases Nat.eq_zero_or_pos ls.length with h0 | h0
    · exact .inl h0
    · obtain ⟨u, hu⟩ : ∃ u, vals[0]? = some u := ⟨_, List.getElem?_eq_getElem (by omega)⟩
      have hs := add_none (h3 0 u hu)
      obtain ⟨b, o, sp⟩ := ad
      simp only at hs
      subst hs
      exact .inr ⟨b, o, rfl, fun j u hu => by have := h3 j u hu; rwa [Addr.add_mid] at this⟩
theorem HadP.fr {w0 w w' : World} {A : Option Addr} {n c : Nat} {vals : List Value} {ls : List (List UInt8)} (h : HadP w0 w A vals ls) {T : Nat → Prop} (f : Fr T w w') (ht : ∀ k, (Value.slice A n c).ownBlock = some k → ¬ T k) : HadP w0 w' A vals ls := by
  refine ⟨h.len, h.max, ?_, h.one, h.each⟩
  rcases h.row with h0 | ⟨b, o, rfl, h3⟩
  · exact .inl h0
  · exact .inr ⟨b, o, rfl, fun j u hu => f.cell (h3 j u hu) (ht b rfl)⟩
theorem HadP.below {w0 w w' : World} {A : Option Addr} {vals : List Value} {ls : List (List UInt8)} (h : HadP w0 w A vals ls) (hb : Below w.heap.size w w') : HadP w0 w' A vals ls := h.fr (n := 0) (c := 0) (Fr.of_below hb (fun _ => False)) (fun _ _ h => h)
theorem HadP.rdl {w0 w : World} {A : Option Addr} {c : Nat} {vals : List Value} {ls : List (List UInt8)} (h : HadP w0 w A vals ls) (hb : Below w0.heap.size w0 w) : RdL w (.slice A ls.length c) ls := by
  refine ⟨A, ls.length, c, rfl, rfl, h.max, fun j hj => ?_⟩
  have hl := h.len
  rcases h.row with h0 | ⟨b, o, rfl, h3⟩
  · omega
  · refine ⟨b, o, vals[j], rfl, h3 j _ (List.getElem?_eq_getElem (by omega)), ?_⟩
    have := (h.each j hj).below hb
    rw [List.getD_eq_getElem?_getD, List.getElem?_eq_getElem (by omega), List.getD_eq_getElem?_getD, List.getElem?_eq_getElem hj] at this
    exact this
/-- append(append(nil, had..), x..): an own row -/
theorem HadP.own {w0 w : World} {B c : Nat} {A : Option Addr} {vals : List Value} {ls : List (List UInt8)} {v : Value} {x : List UInt8} (h : HadP w0 w A vals ls) {w' : World} {A' : Option Addr} (ho : w'.ownsRow B 32 1 (.slice A' (ls.length + 1) c) (ls.length + 1) (vals ++ [v])) (hx : Rd w0 v x) : HadP w0 w' A' (vals ++ [v]) (ls ++ [x]) := by
  have hm : ls.length + 1 ≤ maxLen := by
    rcases ho.2 with ⟨_, h0⟩ | ⟨g, cap, cur, hv, hb, hg, hn, hc, _⟩
    · omega
    · omega
  refine ⟨by simp [h.len], by simpa using hm, .inr ?_, ?_, fun j hj => ?_⟩
  · obtain ⟨g, c', hv⟩ := own_some ho (by omega)
    simp only [Value.slice.injEq] at hv
    obtain ⟨rfl, -, rfl⟩ := hv
    exact ⟨g, 0, rfl, fun j u hu => by have := ho.cells (g := g) rfl j u hu; rwa [Addr.add_mid] at this⟩
  · intro u hu
    rcases List.mem_append.1 hu with hu | hu
    · exact h.one u hu
    · obtain rfl := List.mem_singleton.1 hu
      obtain ⟨A3, c3, e⟩ := hx.slice
      rw [e]; rfl
  · have hl := h.len
    rw [List.length_append, List.length_singleton] at hj
    rcases Nat.lt_or_ge j ls.length with h1 | h1
    · rw [List.getD_eq_getElem?_getD, List.getD_eq_getElem?_getD, List.getElem?_append_left (by omega), List.getElem?_append_left h1, ← List.getD_eq_getElem?_getD, ← List.getD_eq_getElem?_getD]
      exact h.each j h1
    · obtain rfl : j = ls.length := by omega
      rw [List.getD_eq_getElem?_getD, List.getD_eq_getElem?_getD, List.getElem?_append_right (by omega), List.getElem?_append_right (by omega), hl]
      simpa using hx
theorem HadP.take {w0 w : World} {A : Option Addr} {vals : List Value} {ls : List (List UInt8)} (h : HadP w0 w A vals ls) (k : Nat) : HadP w0 w A (vals.take k) (ls.take k) := by
  have hl := h.len
  refine ⟨by simp [hl], by rw [List.length_take]; have := h.max; omega, ?_, fun u hu => h.one u (List.mem_of_mem_take hu), fun j hj => ?_⟩
  · rcases h.row with h0 | ⟨b, o, rfl, h3⟩
    · exact .inl (by rw [List.length_take]; omega)
    · refine .inr ⟨b, o, rfl, fun j u hu => h3 j u ?_⟩
      rw [List.getElem?_take] at hu
      split at hu
      · exact hu
      · cases hu
  · rw [List.length_take] at hj
    have := h.each j (by omega)
    have hjk : j < k := by omega
    rw [List.getD_eq_getElem?_getD, List.getD_eq_getElem?_getD, List.getElem?_take, List.getElem?_take, if_pos hjk, if_pos hjk, ← List.getD_eq_getElem?_getD, ← List.getD_eq_getElem?_getD]
    exact this
theorem exec_slice_ho {P : Program} {o : Oper} {a : Act} {t e : TypeId} {x h : Operand} {A : Option Addr} {n c H s : Nat} {kh : IntKind} {zh : Int} (ho : o.op = .slice t x none (some h) none)
    (hx : a.eval x = .slice A n c) (hh : a.eval h = .int kh zh) (eh : zh = (H : Int)) (hc : H ≤ c) (hsp : ∀ ad, A = some ad → ad.spot = none)
    (ht : P.underlying t = some (.slice e)) (hs : (P.info? e).map (·.size) = some s) (w : World) : (execOp a.eval o).run P w = .ok (.value (.slice A H c)) w := by
  subst eh
  have hel : P.elem t = e := by simp [Program.elem, ht]
  subst hel
  unfold execOp
  simp only [ho]
  refine exec_v ?_
  simp only [Option.map_some, Option.map_none, hx, hh]
  rw [run_sliceAt_slice _ t _ _ _ _ ht, run_slice_h _ t _ _ _ ht kh H (by omega) (by omega), run_size1 hs]
  simp only [Result.andThen, Int.toNat_natCast, sliced]
  cases A with
  | none => simp
  | some ad =>
    obtain ⟨b, o, sp⟩ := ad
    have := hsp _ rfl
    simp only at this
    subst this
    by_cases h0 : c = 0
    · subst h0; simp
    · simp [Addr.add]
theorem sizeRowL : (Try.prog.info? 32).map (·.size) = some 1 := by kernel_rfl

def BegunP (w : World) (n : Nat) (e : Ending) (w' : World) : Prop := Below w.heap.size w w' ∧ (e = .returned (.tuple #[.pointer none, .pointer none, .slice none 0 0]) ∨
  ∃ (p lp : Nat) (A : Option Addr) (c : Nat) (vals : List Value) (D : DSt) (L : LSt) (had : List (List UInt8)), e = .returned (.tuple #[.pointer (some ⟨p, 0, none⟩), .pointer (some ⟨lp, 0, none⟩), .slice A had.length c]) ∧
    DiskS (fun k => w.heap.size ≤ k ∧ k ≠ lp ∧ some k ≠ (Value.slice A had.length c).ownBlock) w' p D ∧ Blk w' lp (lcells p L) 72 ∧ w.heap.size ≤ lp ∧ (Value.slice A had.length c).ownBlock ≠ some lp ∧ HadP w w' A vals had ∧ LogUp D L 1 had ∧ L.down = false ∧
    D.kept.length = n ∧ had ≠ [] ∧ had.length ≤ 40)
set_option maxHeartbeats 1000000 in
set_option maxRecDepth 100000 in
theorem begun_any (n : Nat) (v : Value) (l : List (List UInt8)) (w : World) (hv : RdL w v l) (hn1 : 1 ≤ n) (hn2 : n ≤ 60) (hl40 : l.length ≤ 40) (hlp : ∀ x ∈ l, x.length ≤ 1000) (hcap : ∀ A m c, v = .slice A m c → m ≤ c) :
    Calls Try.prog 17 #[.int .i64 (n : Int), v] w (BegunP w n) := by
  obtain ⟨A, c, rfl⟩ := hv.slice
  obtain ⟨vals, hP⟩ := HadP.of hv
  have hlc := hcap _ _ _ rfl
  have HLP := Lib.hid hlp
  clear hlp hcap
  go_enter Try.func17, Try.ntmps17
  go_wp2_with fail
  refine (Dsk.new_s n w hn1 (by omega)).mono ?_
  rintro en w2 ⟨p, rfl, hd, hb2⟩
  by_cases h3 : l.length = 0
  · have h3d : ((l.length : Int) == 0) = true := by rw [h3]; rfl
    clear h3 hP
    go_wp2_with fail
    go_ret3
    exact ⟨hb2, .inl rfl⟩
  have h3d : ((l.length : Int) == 0) = false := beq_eq_false_iff_ne.2 (by omega)
  obtain ⟨b0, o0, vj, rfl, hc0, hr0⟩ := (hv.below hb2).at (j := 0) (by omega)
  rw [Nat.add_zero] at hc0
  obtain ⟨x, hx⟩ : ∃ x, x = l.getD 0 [] := ⟨_, rfl⟩
  have hx1 : x.length ≤ 1000 := by
    rw [hx, List.getD_eq_getElem?_getD, List.getElem?_eq_getElem (by omega)]
    exact HLP.out _ (List.getElem_mem _)
  rw [← hx] at hr0
  have HX0 := Lib.hid hx
  clear hx
  obtain ⟨Aj, cj, rfl⟩ := hr0.slice
  have hkl : (DSt.fresh n).kept.length = n := by simp [DSt.fresh]
  have hbg := begin_any hd (fun k hk => Nat.le_trans hb2.size hk) (by simp [DSt.fresh]) 0 (n : Int) 1 _ x hr0
  have hbe := begN_fresh (g := 1) hn1 (Nat.le_refl _) (by omega) hkl x
  rw [show ((1 : Nat) : Int) = 1 from rfl] at hbe
  rw [hbe] at hbg
  clear hbe
  have hau := addN_up (b := x) (fresh_pre n 1 (Nat.le_refl _)) rfl rfl rfl (by simp [In64, DSt.fresh]) (may_small (s := 0) (by omega) (by omega) (by omega))
  clear hd
  rcases hau with ⟨-, hno⟩ | ⟨-, hz, hL, hup, -⟩
  · rw [hno] at hbg
    simp only [show ¬ ((4 : Int) = 0) by decide, if_false] at hbg
    clear hno hP hx1
    go_wp2_with fail
    refine hbg.mono ?_
    rintro en w3 ⟨hd3, f3, rfl⟩
    clear hbg
    go_wp2_with fail
    go_ret3
    exact ⟨hb2.trans (f3.below hb2.size (fun k hk h => by omega)), .inl rfl⟩
  · rw [if_pos hz] at hbg
    have hdn := addN_down (DSt.fresh n) (areaL 0 (n : Int) 1) x hz
    have hbl1 : (addN (DSt.fresh n) (areaL 0 (n : Int) 1) x).2.1.bl = n := by rw [hL]; simp [areaL]
    obtain ⟨⟨z1, L1, D1⟩, hzz⟩ : ∃ r, r = addN (DSt.fresh n) (areaL 0 (n : Int) 1) x := ⟨_, rfl⟩
    rw [← hzz] at hbg hup hdn hbl1
    simp only at hbg hup hdn hbl1
    have hk1 : D1.kept.length = n := by rw [← hup.ok.bl]; exact hbl1
    have HU := Lib.hid (show _ ∧ _ ∧ _ from ⟨hup, hdn.trans rfl, hk1⟩)
    have hlc1 : 1 ≤ c := by omega
    clear hz hL hzz hup hdn hk1 hbl1 hx1
    go_wp2_with fail
    refine hbg.mono ?_
    rintro en w3 ⟨-, f3, lp, hlp3, rfl, hl3, hd3⟩
    clear hbg hc0 hr0
    have hB3 := hb2.trans (f3.below hb2.size (fun k hk h => by omega))
    have hlw : w.heap.size ≤ lp := Nat.le_trans hb2.size hlp3
    have hb0 : b0 < w.heap.size := by
      rcases hP.row with h | ⟨b, o, he, h⟩
      · omega
      · cases he
        have hlen := hP.len
        exact block_lt_of_cell (h 0 _ (List.getElem?_eq_getElem (by omega)))
    have hP3 := (hP.below hB3).take 1
    have ht1 : (l.take 1).length = 1 := by rw [List.length_take]; omega
    have hxs : l.take 1 = [x] := by
      rw [HX0.out]
      cases l with
      | nil => simp at h3
      | cons a r => rfl
    rw [hxs] at hP3
    clear f3 hxs ht1 hb2
    go_upto_region 8 with (refine wpList_value rfl (exec_slice_ho (H := 1) rfl rfl rfl rfl hlc1 (fun ad h => by cases h; rfl) Try.underlying22 sizeRowL _) ?_)
    obtain ⟨B, hBB⟩ : ∃ B, B = w.heap.size := ⟨_, rfl⟩
    have HB := Lib.hid hBB.symm
    rw [← hBB] at hB3 hlw hb0 hd3
    have HV : Hid (∀ w', Below B w w' → RdL w' (.slice (some ⟨b0, o0, none⟩) l.length c) l) := Lib.hid (fun w' h => hv.below (by rw [HB.out]; exact h))
    have hl0 : 0 < l.length := by omega
    clear hBB hv hP
    obtain ⟨hup1, hdw1, hk1⟩ := HU.out
    have hd3' : DiskS (fun k => B ≤ k ∧ k ≠ lp ∧ some k ≠ (Value.slice (some ⟨b0, o0, none⟩) 1 c).ownBlock) w3 p D1 := hd3.but (fun k _ h => ⟨h.1, h.2, fun e => by have hk : k = b0 := Option.some.inj e; have := h.1; omega⟩)
    go_wp2_with fail
    go_loopw [10, 11, 12] (fun _ hval i wr => ∃ (t : Nat) (D : DSt) (L : LSt) (xs : List (List UInt8)) (Ah : Option Addr) (ch : Nat) (vs : List Value), i = .int .i64 t ∧ t ≤ l.length ∧ hval = .slice Ah xs.length ch ∧ DiskS (fun k => B ≤ k ∧ k ≠ lp ∧ some k ≠ (Value.slice Ah xs.length ch).ownBlock) wr p D ∧
      Blk wr lp (lcells p L) 72 ∧ (Value.slice Ah xs.length ch).ownBlock ≠ some lp ∧ HadP w wr Ah vs xs ∧ LogUp D L 1 xs ∧ L.down = false ∧ D.kept.length = n ∧ 0 < xs.length ∧ xs.length ≤ t ∧ Below B w wr) (fun _ _ i _ => l.length - (intOf i).toNat)
    case atStart => exact ⟨1, D1, L1, [x], _, c, _, rfl, hl0, rfl, hd3', hl3, (fun e => by have hk : b0 = lp := Option.some.inj e; omega), hP3, hup1, hdw1, hk1, by simp, Nat.le_refl _, hB3⟩
    case round =>
      obtain ⟨t, D, L, xs, Ah, ch, vs, rfl, ht, rfl, hdr, hlr, hne, hPr, hur, hdw, hkr, hx0, hxs, hBr⟩ := hrel
      clear hd3 hd3' hl3 hP3 hup1 hdw1 hk1 hB3
      by_cases hlt : t < l.length
      · have hltI : (t : Int) < (l.length : Int) := by omega
        have ht0 : (0 : Int) ≤ (t : Int) := by omega
        obtain ⟨b1, o1, vj1, he1, hc1, hr1⟩ := (HV.out _ hBr).at hlt
        cases he1
        obtain ⟨y, hy⟩ : ∃ y, y = l.getD t [] := ⟨_, rfl⟩
        have hy1 : y.length ≤ 1000 := by
          rw [hy, List.getD_eq_getElem?_getD, List.getElem?_eq_getElem hlt]
          exact HLP.out _ (List.getElem_mem _)
        rw [← hy] at hr1
        have HY := Lib.hid hy
        clear hy
        obtain ⟨A1, c1, rfl⟩ := hr1.slice
        have hau := addN_up (b := y) hur.ok.toLogPre hur.mem hur.out hur.armed hur.calls (may_small (by omega) (by omega) (by omega))
        have hBs := hBr.size
        rw [HB.out] at hBs
        have hlpl := hlr.lt
        have hap := append_any hdr (fun k hk => ⟨Nat.le_trans hBs hk, by omega, fun e => by
            rcases hPr.row with h | ⟨b, o, he, h⟩
            · omega
            · subst he
              have hk2 : k = b := Option.some.inj e
              have := hPr.len
              have hlt3 : b < wr.heap.size := block_lt_of_cell (h 0 _ (List.getElem?_eq_getElem (by omega)))
              omega⟩) (by rw [hur.mem]; decide) hlr (fun h => h.2.1 rfl) _ y hr1 (hur.logB (by omega) (by omega) (by omega))
        have happ : appN D L y = addN D L y := by rw [appN, if_neg (by rw [hdw]; decide)]
        rw [happ] at hap
        have HLT := Lib.hid hlt
        clear happ hlt
        go_wp2_with fail
        refine hap.mono ?_
        rintro en w7 ⟨rfl, hd7, hl7, f7⟩
        have hB7 : Below B w w7 := hBr.trans (f7.below (B := B) hBs (fun k hk h => by rcases h with h | h; exact Nat.not_lt.2 h.1 hk; omega))
        have hP7 := hPr.fr (n := xs.length) (c := ch) f7 (fun k hk h => by rcases h with h | h; exact h.2.2 hk.symm; exact hne (h ▸ hk))
        clear hap hc1 hr1 hBr hdr hlr f7 hPr
        rcases hau with ⟨-, hno⟩ | ⟨-, hz, hL, hup, -⟩
        · rw [hno] at hd7 hl7 ⊢
          simp only at hd7 hl7 ⊢
          have HUR := Lib.hid (show _ ∧ _ ∧ _ ∧ _ from ⟨hur, hdw, hkr, hxs⟩)
          clear hno hur hdw hkr hxs
          go_wp2_with fail
          go_roundw
          case rel => exact ⟨t + 1, D, L, xs, Ah, ch, vs, by go_num, HLT.out, rfl, hd7, hl7, hne, hP7, HUR.out.1, HUR.out.2.1, HUR.out.2.2.1, hx0, Nat.le_succ_of_le HUR.out.2.2.2, hB7⟩
          case measure => simp [intOf]; have := HLT.out; omega
        · have hdn2 := addN_down D L y hz
          have hkp : (addN D L y).2.2.kept.length = (addN D L y).2.1.bl := hup.ok.bl.symm
          have hbl2 : (addN D L y).2.1.bl = L.bl := by rw [hL]
          obtain ⟨⟨z2, L2, D2⟩, hzz⟩ : ∃ r, r = addN D L y := ⟨_, rfl⟩
          rw [← hzz] at hd7 hl7 hz hup hdn2 hkp hbl2 ⊢
          simp only at hd7 hl7 hz hup hdn2 hkp hbl2 ⊢
          clear hzz hL
          subst hz
          have hk2 : D2.kept.length = n := by rw [hkp, hbl2, hur.ok.bl]; exact hkr
          have HUR := Lib.hid (show _ ∧ _ ∧ _ ∧ _ from ⟨hup, hdn2.trans hdw, hk2, hxs⟩)
          clear hup hdn2 hk2 hkp hbl2 hur hdw hkr
          obtain ⟨b2, o2, vj2, he2, hc2, hr2⟩ := (HV.out _ hB7).at HLT.out
          cases he2
          go_wp2_with fail
          have hB7s := hB7.size
          rw [HB.out] at hB7s
          refine wp_region_pre (Fr (fun _ => False)) [(0, 0), (2, 0), (3, 0), (4, 0), (5, 1), (1, 2), (6, 2), (7, 3), (8, 0)] [(0, 0), (2, 0), (3, 0), (4, 0), (5, 1)] _ 4 #[true, false, true, true, true, true, false, false, false] (by kernel_rfl) (by kernel_rfl) (by simp only [List.map_cons, List.map_nil, Array.getD_eq_getD_getElem?, List.getElem?_toArray, List.getElem?_cons_succ, List.getElem?_cons_zero, Option.getD_some]; rfl) rfl (by kernel_rfl) (fun _ _ d _ _ h => by cases d <;> exact h) (Fr.refl _) (fun _ _ _ => Fr.trans) ?_
          replace hc2 : w7.drew.cell? ⟨b0, o0 + t, none⟩ = some vj2 := hc2
          replace hd7 := hd7.below (Below.refl _ _).drew
          replace hl7 := hl7.drew
          replace hP7 := hP7.below (Below.refl _ _).drew
          replace hB7 := hB7.drew
          replace hB7s : B ≤ w7.drew.heap.size := hB7s
          generalize w7.drew = w8 at *
          obtain ⟨bw, ow, vjw, hew, hcw, hrw⟩ := (HV.out _ (Below.refl _ _)).at HLT.out
          cases hew
          rw [← HY.out] at hrw
          have hcw8 := (Fr.of_below (show Below w.heap.size w w8 by rw [HB.out]; exact hB7) (fun _ => False)).cell hcw (fun h => h)
          obtain ⟨Ay, cy, rfl⟩ := hrw.slice
          have HRW := Lib.hid hrw
          have hx48 : xs.length ≤ 40 := by have := HUR.out.2.2.2; omega
          have hA1 : xs.length = 0 ∨ ∃ ad, Ah = some ad ∧ ∀ (j : Nat) (u : Value), vs[j]? = some u → w8.cell? (ad.add j) = some u := by
            rcases hP7.row with h | ⟨b, o, he, h⟩
            · exact .inl h
            · exact .inr ⟨_, he, fun j u hu => by rw [Addr.add_mid]; exact h j u hu⟩
          clear hc2 hr2 hrw hcw
          repeat (first | (refine wpF_f0 (fun K hK => ?_); go_simp; refine hK _ ?_; clear hK K) | (refine wpF_load1 rfl rfl rfl (by kernel_rfl) (by assumption) (by simp) (fun K hK => ?_); go_simp; refine hK _ ?_; clear hK K) | (refine wpF_loadN rfl rfl rfl (by assumption) (by assumption) (by kernel_rfl) (by kernel_rfl) (by simp) (fun K hK => ?_); go_simp; refine hK _ ?_; clear hK K))
          refine wpF_nil ?_
          refine wpAnyR_ready (rs := [1, 6]) (by kernel_rfl) (by simp) ?_; refine AllR.cons rfl (fun K hK => ?_) (AllR.cons rfl (fun K hK => ?_) AllR.nil)
          · rw [if_pos (by rfl)]
            refine wp_append_k rfl w8.heap.size Try.underlying22 infoRowL rfl (by omega) rfl (World.ownsRow_nil _ _ _ _) rfl (by rw [hP7.len, Nat.mul_one]) hA1 hP7.one (by simp only [maxLen]; omega) (by omega) (Nat.le_refl _) (fun v1 w9 o1 g1 _ => ?_)
            rw [Nat.zero_add, List.nil_append] at o1
            have f1 : Fr (fun _ => False) w8 w9 := (Fr.of_grown g1).mono (fun k _ h => by cases h)
            obtain ⟨A1', c1', rfl⟩ := own_form o1
            refine hK _ _ (fun _ => f1) ?_
            clear hK K g1
            refine wpAnyR_ready (rs := [6]) (by kernel_rfl) (by simp) ?_; refine AllR.cons rfl (fun K hK => ?_) AllR.nil
            rw [if_pos (by rfl)]
            refine wp_value (exec_buildSlice (build_row Ay y.length cy w9) rfl (by simp [Act.eval, Act.put])) ?_
            have f2 : Fr (fun _ => False) w9 (w9.alloc (.cells #[.slice Ay y.length cy] 32)) := (Fr.refl _ w9).alloc _
            have hlit : ∀ (j : Nat) (u : Value), ([.slice Ay y.length cy] : List Value)[j]? = some u → (w9.alloc (.cells #[.slice Ay y.length cy] 32)).cell? ((⟨w9.heap.size, 0, none⟩ : Addr).add j) = some u := fun j u hu => by
              rw [Addr.add_mid, Nat.zero_add, (Blk.new w9 _ _).cell]; simpa using hu
            have o2 := own_fr o1 f2 (fun _ _ h => h)
            have b2 : Below w8.heap.size w8 (w9.alloc (.cells #[.slice Ay y.length cy] 32)) := (f1.trans f2).below (Nat.le_refl _) (fun _ _ h => h)
            go_simp
            refine hK _ _ (fun _ => f2) ?_
            clear hK K f1 f2 o1
            generalize w9.alloc (.cells #[.slice Ay y.length cy] 32) = w10 at *
            generalize w9.heap.size = g9 at *
            refine wpAnyR_ready (rs := [7]) (by kernel_rfl) (by simp) ?_; refine AllR.cons rfl (fun K hK => ?_) AllR.nil; (rw [if_pos (by rfl)]); refine wp_append_k rfl w8.heap.size Try.underlying22 infoRowL rfl (by omega) rfl o2 rfl rfl (.inr ⟨_, rfl, hlit⟩) (by simp [Value.oneCell']) (by simp only [maxLen]; omega) (by omega) b2.size (fun v7 w11 o7 g7 _ => ?_); (have b7 : Below w8.heap.size w8 w11 := below_append b2 o2 g7 (Nat.le_refl _) b2.size); (obtain ⟨A7, c7, rfl⟩ := own_form o7); refine hK _ _ (fun h => by simp [rqOf] at h) ?_; clear hK K g7 o2 hlit; refine wpAnyR_ready (rs := [8]) (by kernel_rfl) (by simp) ?_; refine AllR.cons rfl (fun K hK => ?_) AllR.nil; (rw [if_pos (by rfl)]); go_simp; refine hK _ _ (fun _ => Fr.refl _ _) ?_; clear hK K; refine wpAnyR_end (by kernel_rfl) ?_; go_wp2_with fail; (have hB11 := hB7.trans (b7.mono hB7s)); (have hd11 : DiskS (fun k => B ≤ k ∧ k ≠ lp ∧ some k ≠ (Value.slice A7 (xs.length + 1) c7).ownBlock) w11 p D2 := (hd7.but (fun k hk h => ⟨h.1, h.2.1, fun e => by have := (o7.lt k e.symm).1; omega⟩)).below b7); (have hl11 := hl7.fr (Fr.of_below b7 (fun _ => False)) (fun h => h)); (have hl8 := hl7.lt); (have hne7 : (Value.slice A7 (xs.length + 1) c7).ownBlock ≠ some lp := fun e => by have := (o7.lt lp e).1; omega); (have hP11 := hP7.own o7 HRW.out); (have hlen7 : (xs ++ [y]).length = xs.length + 1 := by simp); rw [← hlen7] at hd11 hne7; (have hsl : Value.slice A7 (xs.length + 1) c7 = .slice A7 (xs ++ [y]).length c7 := by rw [hlen7]); go_roundw; (case rel => exact ⟨t + 1, D2, L2, xs ++ [y], A7, c7, _, by go_num, HLT.out, hsl, hd11, hl11, hne7, hP11, HUR.out.1, HUR.out.2.1, HUR.out.2.2.1, by simp, by have := HUR.out.2.2.2; simp; omega, hB11⟩); (case measure => simp [intOf]; have := HLT.out; omega)
          · rw [if_pos (by rfl)]
            refine wp_value (exec_buildSlice (build_row Ay y.length cy w8) rfl (by simp [Act.eval])) ?_
            have f1 : Fr (fun _ => False) w8 (w8.alloc (.cells #[.slice Ay y.length cy] 32)) := (Fr.refl _ w8).alloc _
            have hlit0 := Blk.new w8 #[.slice Ay y.length cy] 32
            have hA2 : xs.length = 0 ∨ ∃ ad, Ah = some ad ∧ ∀ (j : Nat) (u : Value), vs[j]? = some u → (w8.alloc (.cells #[.slice Ay y.length cy] 32)).cell? (ad.add j) = some u := by
              rcases hA1 with h | ⟨ad, h1, h2⟩
              · exact .inl h
              · exact .inr ⟨ad, h1, fun j u hu => f1.cell (h2 j u hu) (fun h => h)⟩
            go_simp
            refine hK _ _ (fun _ => f1) ?_
            clear hK K hA1
            have hs9 := f1.size
            generalize w8.alloc (.cells #[.slice Ay y.length cy] 32) = w9 at *
            refine wpAnyR_ready (rs := [1]) (by kernel_rfl) (by simp) ?_; refine AllR.cons rfl (fun K hK => ?_) AllR.nil
            rw [if_pos (by rfl)]
            refine wp_append_k rfl w8.heap.size Try.underlying22 infoRowL rfl (by omega) rfl (World.ownsRow_nil _ _ _ _) rfl (by rw [hP7.len, Nat.mul_one]) hA2 hP7.one (by simp only [maxLen]; omega) (by omega) hs9 (fun v1 w10 o2 g1 _ => ?_)
            rw [Nat.zero_add, List.nil_append] at o2
            have f2 : Fr (fun _ => False) w9 w10 := (Fr.of_grown g1).mono (fun k _ h => by cases h)
            obtain ⟨A1', c1', rfl⟩ := own_form o2
            have hlit : ∀ (j : Nat) (u : Value), ([.slice Ay y.length cy] : List Value)[j]? = some u → w10.cell? ((⟨w8.heap.size, 0, none⟩ : Addr).add j) = some u := fun j u hu => by
              rw [Addr.add_mid, Nat.zero_add, (hlit0.fr f2 (fun h => h)).cell]; simpa using hu
            have b2 : Below w8.heap.size w8 w10 := (f1.trans f2).below (Nat.le_refl _) (fun _ _ h => h)
            refine hK _ _ (fun _ => f2) ?_
            clear hK K f1 f2 g1 hlit0 hs9 hA2
            refine wpAnyR_ready (rs := [7]) (by kernel_rfl) (by simp) ?_; refine AllR.cons rfl (fun K hK => ?_) AllR.nil; (rw [if_pos (by rfl)]); refine wp_append_k rfl w8.heap.size Try.underlying22 infoRowL rfl (by omega) rfl o2 rfl rfl (.inr ⟨_, rfl, hlit⟩) (by simp [Value.oneCell']) (by simp only [maxLen]; omega) (by omega) b2.size (fun v7 w11 o7 g7 _ => ?_); (have b7 : Below w8.heap.size w8 w11 := below_append b2 o2 g7 (Nat.le_refl _) b2.size); (obtain ⟨A7, c7, rfl⟩ := own_form o7); refine hK _ _ (fun h => by simp [rqOf] at h) ?_; clear hK K g7 o2 hlit; refine wpAnyR_ready (rs := [8]) (by kernel_rfl) (by simp) ?_; refine AllR.cons rfl (fun K hK => ?_) AllR.nil; (rw [if_pos (by rfl)]); go_simp; refine hK _ _ (fun _ => Fr.refl _ _) ?_; clear hK K; refine wpAnyR_end (by kernel_rfl) ?_; go_wp2_with fail; (have hB11 := hB7.trans (b7.mono hB7s)); (have hd11 : DiskS (fun k => B ≤ k ∧ k ≠ lp ∧ some k ≠ (Value.slice A7 (xs.length + 1) c7).ownBlock) w11 p D2 := (hd7.but (fun k hk h => ⟨h.1, h.2.1, fun e => by have := (o7.lt k e.symm).1; omega⟩)).below b7); (have hl11 := hl7.fr (Fr.of_below b7 (fun _ => False)) (fun h => h)); (have hl8 := hl7.lt); (have hne7 : (Value.slice A7 (xs.length + 1) c7).ownBlock ≠ some lp := fun e => by have := (o7.lt lp e).1; omega); (have hP11 := hP7.own o7 HRW.out); (have hlen7 : (xs ++ [y]).length = xs.length + 1 := by simp); rw [← hlen7] at hd11 hne7; (have hsl : Value.slice A7 (xs.length + 1) c7 = .slice A7 (xs ++ [y]).length c7 := by rw [hlen7]); go_roundw; (case rel => exact ⟨t + 1, D2, L2, xs ++ [y], A7, c7, _, by go_num, HLT.out, hsl, hd11, hl11, hne7, hP11, HUR.out.1, HUR.out.2.1, HUR.out.2.2.1, by simp, by have := HUR.out.2.2.2; simp; omega, hB11⟩); (case measure => simp [intOf]; have := HLT.out; omega)
      · obtain rfl : t = l.length := by omega
        have HUR := Lib.hid (show _ ∧ _ ∧ _ ∧ _ from ⟨hur, hdw, hkr, hxs⟩)
        clear hur hdw hkr hxs
        go_wp2_with fail
        go_ret3
        exact ⟨by rw [HB.out]; exact hBr, .inr ⟨p, lp, Ah, ch, vs, D, L, xs, rfl, by rw [HB.out]; exact hdr, hlr, by rw [HB.out]; exact hlw, hne, hPr, HUR.out.1, HUR.out.2.1, HUR.out.2.2.1, List.ne_nil_of_length_pos hx0, by have := HUR.out.2.2.2; omega⟩⟩
end Go.Proofs.Ythglnbkfmmchnaa
