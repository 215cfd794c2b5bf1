/- sha: a block is worked in. -/
import Derived.Test.YthocpbkgcpgpdaaDoorSha4
import Derived.Test.YthocpbkgcpgpdaaDoorFR2
import Derived.Deep.CutRange
namespace Go.Proofs.YthocpbkgcpgpdaaDoor.Sha
open Go.RowKit

def sig0 (x : UInt32) : UInt32 := rotr x 7 ^^^ rotr x 18 ^^^ x >>> UInt32.ofNat 3
def sig1 (x : UInt32) : UInt32 := rotr x 17 ^^^ rotr x 19 ^^^ x >>> UInt32.ofNat 10
def schedNext (b : List UInt8) (l : List UInt32) (t : Nat) : UInt32 :=
  if t < 16 then wideN (b.drop (4 * t)) 4 else sig1 (l.getD (t - 2) 0) + l.getD (t - 7) 0 + sig0 (l.getD (t - 15) 0) + l.getD (t - 16) 0
def schedN (b : List UInt8) : Nat → List UInt32
  | 0 => []
  | t + 1 => schedN b t ++ [schedNext b (schedN b t) t]
theorem schedN_length (b : List UInt8) : ∀ t, (schedN b t).length = t
  | 0 => rfl
  | t + 1 => by simp [schedN, schedN_length b t]

theorem wadd_u32 (a b : UInt32) : IntKind.u32.wrap ((a.toNat : Int) + (b.toNat : Int)) = ((a + b).toNat : Int) := by rw [IntKind.wrap_u32', add_u32]
theorem sched_word (y v x z : UInt32) : IntKind.u32.wrap (IntKind.u32.wrap (IntKind.u32.wrap (bits BinOp.xor IntKind.u32 (bits BinOp.xor IntKind.u32 ((rotr y 17).toNat : Int) ((rotr y 19).toNat : Int)) ((y.toNat : Int) / 1024) + (v.toNat : Int)) +
    bits BinOp.xor IntKind.u32 (bits BinOp.xor IntKind.u32 ((rotr x 7).toNat : Int) ((rotr x 18).toNat : Int)) ((x.toNat : Int) / 8)) + (z.toNat : Int)) = ((sig1 y + v + sig0 x + z).toNat : Int) := by
  have e1 : (y.toNat : Int) / 1024 = ((y >>> UInt32.ofNat 10).toNat : Int) := shr_u32 y 10 (by omega)
  have e2 : (x.toNat : Int) / 8 = ((x >>> UInt32.ofNat 3).toNat : Int) := shr_u32 x 3 (by omega)
  rw [e1, e2, xor_u32, xor_u32, xor_u32, xor_u32, wadd_u32, wadd_u32, wadd_u32]
  rfl
structure V8 where
  (a b c d e f g h : UInt32)
def V8.list (V : V8) : List UInt32 := [V.a, V.b, V.c, V.d, V.e, V.f, V.g, V.h]
def V8.of (l : List UInt32) : V8 := ⟨l.getD 0 0, l.getD 1 0, l.getD 2 0, l.getD 3 0, l.getD 4 0, l.getD 5 0, l.getD 6 0, l.getD 7 0⟩
theorem V8.of_list {l : List UInt32} (h : l.length = 8) : (V8.of l).list = l := by
  match l, h with
  | [_, _, _, _, _, _, _, _], _ => rfl
def V8.x (V : V8) (k w : UInt32) : UInt32 := V.h + (rotr V.e 6 ^^^ rotr V.e 11 ^^^ rotr V.e 25) + (V.e &&& V.f ^^^ ~~~V.e &&& V.g) + k + w
def V8.y (V : V8) : UInt32 := (rotr V.a 2 ^^^ rotr V.a 13 ^^^ rotr V.a 22) + (V.a &&& V.b ^^^ V.a &&& V.c ^^^ V.b &&& V.c)
def V8.round (V : V8) (k w : UInt32) : V8 := ⟨V.x k w + V.y, V.a, V.b, V.c, V.d + V.x k w, V.e, V.f, V.g⟩
theorem V8.round_list (V : V8) (k w : UInt32) : wds (V.round k w).list = [W32 (V.x k w + V.y), W32 V.a, W32 V.b, W32 V.c, W32 (V.d + V.x k w), W32 V.e, W32 V.f, W32 V.g] := rfl
def roundsN (V : V8) (ws : List UInt32) : Nat → V8
  | 0 => V
  | t + 1 => (roundsN V ws t).round (kW.getD t 0) (ws.getD t 0)
def addN (h v : List UInt32) : Nat → List UInt32
  | 0 => h
  | t + 1 => (addN h v t).set t ((addN h v t).getD t 0 + v.getD t 0)
def blockN (h : List UInt32) (b : List UInt8) : List UInt32 := addN h (roundsN (V8.of h) (schedN b 64) 64).list 8
theorem kW_len : kW.length = 64 := rfl
theorem wds_get {l : List UInt32} {t : Nat} (h : t < l.length) : (wds l).toArray[t]? = some (W32 (l.getD t 0)) := by
  rw [List.getElem?_toArray, wds, List.getElem?_map, List.getD_eq_getElem?_getD, List.getElem?_eq_getElem h]; rfl
theorem not_u32 (e : UInt32) : bits BinOp.xor IntKind.u32 (if IntKind.u32.signed = true then -1 else IntKind.u32.max) (e.toNat : Int) = ((~~~e).toNat : Int) := by
  have h : (if IntKind.u32.signed = true then (-1 : Int) else IntKind.u32.max) = (((0xFFFFFFFF : UInt32).toNat : Nat) : Int) := by rfl
  rw [h, xor_u32]
  congr 1
theorem x_word (V : V8) (k w : UInt32) : IntKind.u32.wrap (IntKind.u32.wrap (IntKind.u32.wrap (IntKind.u32.wrap ((V.h.toNat : Int) + bits BinOp.xor IntKind.u32 (bits BinOp.xor IntKind.u32 ((rotr V.e 6).toNat : Int) ((rotr V.e 11).toNat : Int)) ((rotr V.e 25).toNat : Int)) +
    bits BinOp.xor IntKind.u32 (bits BinOp.and IntKind.u32 (V.e.toNat : Int) (V.f.toNat : Int)) (bits BinOp.and IntKind.u32 (bits BinOp.xor IntKind.u32 (if IntKind.u32.signed = true then -1 else IntKind.u32.max) (V.e.toNat : Int)) (V.g.toNat : Int))) + (k.toNat : Int)) + (w.toNat : Int)) = ((V.x k w).toNat : Int) := by
  rw [not_u32, xor_u32, xor_u32, and_u32, and_u32, xor_u32, wadd_u32, wadd_u32, wadd_u32, wadd_u32]
  rfl
theorem y_word (V : V8) : (bits BinOp.xor IntKind.u32 (bits BinOp.xor IntKind.u32 ((rotr V.a 2).toNat : Int) ((rotr V.a 13).toNat : Int)) ((rotr V.a 22).toNat : Int) +
    bits BinOp.xor IntKind.u32 (bits BinOp.xor IntKind.u32 (bits BinOp.and IntKind.u32 (V.a.toNat : Int) (V.b.toNat : Int)) (bits BinOp.and IntKind.u32 (V.a.toNat : Int) (V.c.toNat : Int))) (bits BinOp.and IntKind.u32 (V.b.toNat : Int) (V.c.toNat : Int))) % 4294967296 = (V.y.toNat : Int) := by
  rw [xor_u32, xor_u32, and_u32, and_u32, and_u32, xor_u32, xor_u32, add_u32]
  rfl
theorem build_v (x0 x1 x2 x3 x4 x5 x6 x7 : UInt32) (w : World) : (Instr.build 77 #[(0, W32 x0), (1, W32 x1), (2, W32 x2), (3, W32 x3), (4, W32 x4), (5, W32 x5), (6, W32 x6), (7, W32 x7)]).run Tryd.prog w = .ok (.agg [W32 x0, W32 x1, W32 x2, W32 x3, W32 x4, W32 x5, W32 x6, W32 x7].toArray) w := by kernel_rfl
theorem sched_set {l : List UInt8} {t : Nat} {cs : Array Value} {x : UInt32} (hs : cs.size = 64) (ht : t < 64) (hc : ∀ j, j < t → cs[j]? = some (W32 ((schedN l t).getD j 0))) (hx : schedNext l (schedN l t) t = x) :
    ∀ j, j < t + 1 → (cs.setIfInBounds t (W32 x))[j]? = some (W32 ((schedN l (t + 1)).getD j 0)) := by
  intro j hj
  have hl := schedN_length l t
  rw [Array.getElem?_setIfInBounds, schedN, hx]
  by_cases e : t = j
  · subst e
    rw [if_pos rfl, if_pos (by omega), List.getD_eq_getElem?_getD, List.getElem?_append_right (by omega), hl]
    simp
  · rw [if_neg e, hc j (by omega), List.getD_eq_getElem?_getD, List.getD_eq_getElem?_getD, List.getElem?_append_left (by omega)]

theorem ShaAt.word {w : World} {p t : Nat} {S : SSt} (h : ShaAt w p S) (ht : t < 8) : w.drew.cell? ⟨p, t, none⟩ = some (W32 (S.h.getD t 0)) := by
  refine (h.blk.cell t).trans ?_
  have h8 := h.h8
  simp only [SSt.cells, List.getElem?_toArray]
  rw [List.getElem?_append_left (by rw [wds_length]; omega), ← List.getElem?_toArray]
  exact wds_get (by omega)
theorem ShaAt.setWord {w : World} {p t : Nat} {S : SSt} {x : UInt32} (h : ShaAt w p S) (ht : t < 8) : ShaAt (w.setCell ⟨p, t, none⟩ (W32 x)) p { S with h := S.h.set t x } := by
  have h8 := h.h8
  refine ⟨?_, by simpa using h8, h.o64⟩
  have := h.blk.set t (W32 x)
  have e : S.cells.toArray.setIfInBounds t (W32 x) = (SSt.cells { S with h := S.h.set t x }).toArray := by
    apply Array.toList_inj.1
    rw [Array.toList_setIfInBounds]
    simp only [SSt.cells]
    rw [List.set_append_left _ _ (by rw [wds_length]; omega)]
    simp [wds, List.map_set]
  rw [← e]
  exact this

set_option maxHeartbeats 8000000 in
set_option maxRecDepth 100000 in
theorem block_any {w : World} {p : Nat} {S : SSt} (h : ShaAt w p S) (v : Value) (l : List UInt8) (hv : Rd w v l) (hl : l.length = 64) :
    Calls Tryd.prog 56 #[.pointer (some ⟨p, 0, none⟩), v] w fun e w' => e = .returned (.tuple #[]) ∧ ShaAt w' p { S with h := blockN S.h l } ∧ Fr (fun k => k = p) w w' := by
  obtain ⟨A, c, rfl⟩ := hv.slice
  have hcap := rd_cap hv (by omega)
  obtain ⟨b, o, rfl, -⟩ := hv.at (j := 0) (by omega)
  rw [hl] at hv hcap ⊢
  have hcI : (64 : Int) ≤ (c : Int) := by omega
  go_enter Tryd.func56, Tryd.ntmps56
  go_wp2_with (refine wpList_alloc1 (e := 86) (n := 64) rfl rfl (by kernel_rfl) (fun zc hzc => ?_))
  have hbel := (Below.refl w.heap.size w).alloc (Nat.le_refl _) (.cells zc 86)
  have hnew := Blk.new w zc 86
  generalize hw1 : w.alloc (.cells zc 86) = w1 at *
  clear hw1
  generalize hgw : w.heap.size = gw at *
  have HG := Lib.hid hgw
  clear hgw
  have hfr : Fr (fun _ => False) w w1 := Fr.of_below (by rw [HG.out]; exact hbel) _
  have hpg : p ≠ gw := by have := h.blk.lt; have := HG.out; omega
  have hbg : b ≠ gw := by have := hv.lt (by intro e; rw [e] at hl; simp at hl) b rfl; have := HG.out; omega
  replace h := h.fr hfr (fun h => h)
  replace hv := hv.fr hfr (fun _ _ _ h => h)
  go_loopw [5, 6, 7, 20] (fun _ _ _ i wr => ∃ t : Nat, i = .int .i64 t ∧ t ≤ 64 ∧ (∃ cs : Array Value, Blk wr gw cs 86 ∧ cs.size = 64 ∧ ∀ j, j < t → cs[j]? = some (W32 ((schedN l t).getD j 0))) ∧ ShaAt wr p S ∧ Rd wr (.slice (some ⟨b, o, none⟩) 64 c) l ∧ Fr (fun _ => False) w wr) (fun _ _ _ i _ => 64 - (intOf i).toNat)
  case atStart => exact ⟨0, rfl, Nat.zero_le _, ⟨zc, hnew, hzc, fun j hj => by omega⟩, h, hv, hfr⟩
  case round =>
    obtain ⟨t, rfl, ht, ⟨cs, hb, hs, hc⟩, hA, hR, hF⟩ := hrel
    by_cases hlt : t < 64
    ·
      -- <A
      have hltI : (t : Int) < 64 := by omega
      have ht0 : (0 : Int) ≤ (t : Int) := by omega
      by_cases h16 : t < 16
      · have h16I : (t : Int) < 16 := by omega
        have hdr : Rd wr (.slice (some ⟨b, o + 4 * t, none⟩) (64 - 4 * t) (c - 4 * t)) (l.drop (4 * t)) := by
          have := rd_part (s := l.drop (4 * t)) hR (k := 4 * t) (by rw [List.length_drop]; omega) (fun j hj => by rw [List.getElem?_drop]) (by rw [List.length_drop]; omega)
          rwa [List.length_drop, hl] at this
        go_wp2_with fail
        refine (wide_any _ _ wr hdr (by rw [List.length_drop]; omega)).mono ?_
        rintro e w2 ⟨rfl, hbb⟩
        replace hb := hb.fr (Fr.of_below hbb (fun _ => False)) (fun h => h)
        replace hA := hA.below hbb
        replace hR := hR.below hbb
        replace hF := hF.trans (Fr.of_below hbb _ |>.mono (fun _ _ h => h))
        clear hdr hbb
        have hb2 := hb.set t (W32 (wideN (l.drop (4 * t)) 4))
        have hst : Fr (fun k => k = gw) w2 (w2.setCell ⟨gw, t, none⟩ (W32 (wideN (l.drop (4 * t)) 4))) := (Fr.refl (fun k => k = gw) w2).setCell (p := ⟨gw, t, none⟩) (fun _ => rfl) _
        obtain ⟨v0, hcell⟩ : ∃ v0, w2.cell? ⟨gw, t, none⟩ = some v0 := ⟨_, (hb.cell t).trans (Array.getElem?_eq_getElem (by omega))⟩
        have hfz := hb.frozen t
        go_wp2_with fail
        go_roundw
        case rel =>
          refine ⟨t + 1, by go_num, by omega, ⟨_, hb2, by simpa using hs, fun j hj => ?_⟩, hA.fr hst (fun e => hpg e), hR.fr hst (fun _ q hq e => by cases hq; exact hbg e), hF.setCell (p := ⟨gw, t, none⟩) (fun hh => by have := HG.out; simp at hh; omega) _⟩
          exact sched_set hs hlt hc (by unfold schedNext; rw [if_pos h16]) j hj
        case measure => simp [intOf]; omega
      · have h16I : decide ((t : Int) < 16) = false := decide_eq_false (by omega)
        have hw15 : IntKind.i64.wrap ((t : Int) - 15) = ((t - 15 : Nat) : Int) := wrap_nat (by omega) (by omega)
        have hw2 : IntKind.i64.wrap ((t : Int) - 2) = ((t - 2 : Nat) : Int) := wrap_nat (by omega) (by omega)
        have hw7 : IntKind.i64.wrap ((t : Int) - 7) = ((t - 7 : Nat) : Int) := wrap_nat (by omega) (by omega)
        have hw16 : IntKind.i64.wrap ((t : Int) - 16) = ((t - 16 : Nat) : Int) := wrap_nat (by omega) (by omega)
        have c15 : wr.drew.cell? ⟨gw, t - 15, none⟩ = some (W32 ((schedN l t).getD (t - 15) 0)) := (hb.cell _).trans (hc _ (by omega))
        have c2 : wr.drew.cell? ⟨gw, t - 2, none⟩ = some (W32 ((schedN l t).getD (t - 2) 0)) := (hb.cell _).trans (hc _ (by omega))
        have c7 : wr.drew.cell? ⟨gw, t - 7, none⟩ = some (W32 ((schedN l t).getD (t - 7) 0)) := (hb.cell _).trans (hc _ (by omega))
        have c16 : wr.drew.cell? ⟨gw, t - 16, none⟩ = some (W32 ((schedN l t).getD (t - 16) 0)) := (hb.cell _).trans (hc _ (by omega))
        have hnx : schedNext l (schedN l t) t = sig1 ((schedN l t).getD (t - 2) 0) + (schedN l t).getD (t - 7) 0 + sig0 ((schedN l t).getD (t - 15) 0) + (schedN l t).getD (t - 16) 0 := by unfold schedNext; rw [if_neg h16]
        have l15 : ((t - 15 : Nat) : Int) < 64 := by omega
        have l2 : ((t - 2 : Nat) : Int) < 64 := by omega
        have l7 : ((t - 7 : Nat) : Int) < 64 := by omega
        have l16 : ((t - 16 : Nat) : Int) < 64 := by omega
        generalize (schedN l t).getD (t - 15) 0 = x15 at *
        generalize (schedN l t).getD (t - 2) 0 = x2 at *
        generalize (schedN l t).getD (t - 7) 0 = x7 at *
        generalize (schedN l t).getD (t - 16) 0 = x16 at *
        go_wp2_with fail
        refine wp_region_float (Fr (fun _ => False)) [(0, 0), (1, 0), (2, 0), (3, 1), (4, 0), (5, 0), (6, 0), (7, 1), (8, 0), (9, 0)] _ (by kernel_rfl) (by kernel_rfl) (by simp only [List.map_cons, List.map_nil, Array.getD_eq_getD_getElem?, List.getElem?_toArray, List.getElem?_cons_succ, List.getElem?_cons_zero, Option.getD_some]; rfl) rfl (by kernel_rfl) (fun _ _ d _ _ h => by cases d <;> exact h) (Fr.refl _) (fun _ _ _ => Fr.trans) ?_
        replace hb : Blk wr.drew gw cs 86 := hb
        replace hA : ShaAt wr.drew p S := ⟨hA.blk, hA.h8, hA.o64⟩
        replace hR := hR.drew
        replace hF := hF.drew
        generalize wr.drew = w3 at *
        repeat (first | (refine wpF_f0 (fun K hK => ?_); go_simp; refine hK _ ?_; clear hK K) | (refine wpF_load1 rfl rfl rfl (by kernel_rfl) (by assumption) (by simp) (fun K hK => ?_); go_simp; refine hK _ ?_; clear hK K) | (refine wpF_loadN rfl rfl rfl (by assumption) (by assumption) (by kernel_rfl) (by kernel_rfl) (by simp) (fun K hK => ?_); go_simp; refine hK _ ?_; clear hK K))
        refine wpF_nil ?_
        go_wp2_with fail
        refine wp_region_float (Fr (fun _ => False)) [(0, 0), (1, 0), (3, 0), (6, 0), (7, 0), (9, 0), (10, 0), (11, 0), (12, 1), (14, 0), (16, 0), (19, 0), (20, 0), (23, 0), (24, 0), (25, 0), (26, 1), (2, 2), (4, 2), (5, 0), (8, 0), (13, 0), (15, 2), (17, 2), (18, 0), (21, 0), (22, 0), (27, 0), (28, 0), (29, 3)] _ (by kernel_rfl) (by kernel_rfl) (by simp only [List.map_cons, List.map_nil, Array.getD_eq_getD_getElem?, List.getElem?_toArray, List.getElem?_cons_succ, List.getElem?_cons_zero, Option.getD_some]; rfl) rfl (by kernel_rfl) (fun _ _ d _ _ h => by cases d <;> exact h) (Fr.refl _) (fun _ _ _ => Fr.trans) ?_
        replace hb : Blk w3.drew gw cs 86 := hb
        replace hA : ShaAt w3.drew p S := ⟨hA.blk, hA.h8, hA.o64⟩
        replace c7 : w3.drew.cell? ⟨gw, t - 7, none⟩ = some (W32 x7) := c7
        replace c16 : w3.drew.cell? ⟨gw, t - 16, none⟩ = some (W32 x16) := c16
        clear c15 c2
        replace hR := hR.drew
        replace hF := hF.drew
        generalize w3.drew = w4 at *
        repeat (first | (refine wpF_f0 (fun K hK => ?_); go_simp; refine hK _ ?_; clear hK K) | (refine wpF_load1 rfl rfl rfl (by kernel_rfl) (by assumption) (by simp) (fun K hK => ?_); go_simp; refine hK _ ?_; clear hK K) | (refine wpF_loadN rfl rfl rfl (by assumption) (by assumption) (by kernel_rfl) (by kernel_rfl) (by simp) (fun K hK => ?_); go_simp; refine hK _ ?_; clear hK K))
        refine wpF_a2 (fun K hK => ?_); rw [if_pos (by rfl)]
        go_simp
        refine (turn_any x2 17 (by omega) (by omega) w4).mono ?_
        rintro e w5 ⟨rfl, rfl⟩
        refine hK _ _ (Fr.refl _ _) ?_
        clear hK K
        repeat (first | (refine wpF_f0 (fun K hK => ?_); go_simp; refine hK _ ?_; clear hK K) | (refine wpF_load1 rfl rfl rfl (by kernel_rfl) (by assumption) (by simp) (fun K hK => ?_); go_simp; refine hK _ ?_; clear hK K) | (refine wpF_loadN rfl rfl rfl (by assumption) (by assumption) (by kernel_rfl) (by kernel_rfl) (by simp) (fun K hK => ?_); go_simp; refine hK _ ?_; clear hK K))
        refine wpF_a2 (fun K hK => ?_); rw [if_pos (by rfl)]
        go_simp
        refine (turn_any x2 19 (by omega) (by omega) w5).mono ?_
        rintro e w6 ⟨rfl, rfl⟩
        refine hK _ _ (Fr.refl _ _) ?_
        clear hK K
        repeat (first | (refine wpF_f0 (fun K hK => ?_); go_simp; refine hK _ ?_; clear hK K) | (refine wpF_load1 rfl rfl rfl (by kernel_rfl) (by assumption) (by simp) (fun K hK => ?_); go_simp; refine hK _ ?_; clear hK K) | (refine wpF_loadN rfl rfl rfl (by assumption) (by assumption) (by kernel_rfl) (by kernel_rfl) (by simp) (fun K hK => ?_); go_simp; refine hK _ ?_; clear hK K))
        refine wpF_a2 (fun K hK => ?_); rw [if_pos (by rfl)]
        go_simp
        refine (turn_any x15 7 (by omega) (by omega) w6).mono ?_
        rintro e w7 ⟨rfl, rfl⟩
        refine hK _ _ (Fr.refl _ _) ?_
        clear hK K
        repeat (first | (refine wpF_f0 (fun K hK => ?_); go_simp; refine hK _ ?_; clear hK K) | (refine wpF_load1 rfl rfl rfl (by kernel_rfl) (by assumption) (by simp) (fun K hK => ?_); go_simp; refine hK _ ?_; clear hK K) | (refine wpF_loadN rfl rfl rfl (by assumption) (by assumption) (by kernel_rfl) (by kernel_rfl) (by simp) (fun K hK => ?_); go_simp; refine hK _ ?_; clear hK K))
        refine wpF_a2 (fun K hK => ?_); rw [if_pos (by rfl)]
        go_simp
        refine (turn_any x15 18 (by omega) (by omega) w7).mono ?_
        rintro e w8 ⟨rfl, rfl⟩
        refine hK _ _ (Fr.refl _ _) ?_
        clear hK K
        repeat (first | (refine wpF_f0 (fun K hK => ?_); go_simp; refine hK _ ?_; clear hK K) | (refine wpF_load1 rfl rfl rfl (by kernel_rfl) (by assumption) (by simp) (fun K hK => ?_); go_simp; refine hK _ ?_; clear hK K) | (refine wpF_loadN rfl rfl rfl (by assumption) (by assumption) (by kernel_rfl) (by kernel_rfl) (by simp) (fun K hK => ?_); go_simp; refine hK _ ?_; clear hK K))
        obtain ⟨v0, hcell⟩ : ∃ v0, w8.cell? ⟨gw, t, none⟩ = some v0 := ⟨_, (hb.cell t).trans (Array.getElem?_eq_getElem (by omega))⟩
        have hfz := hb.frozen t
        refine wpF_a3 (fun K hK => ?_); rw [if_pos (by rfl)]
        go_simp
        rw [sched_word x2 x7 x15 x16, ← hnx]
        have hb2 := hb.set t (W32 (schedNext l (schedN l t) t))
        have hst : Fr (fun k => k = gw) w8 (w8.setCell ⟨gw, t, none⟩ (W32 (schedNext l (schedN l t) t))) := (Fr.refl (fun k => k = gw) w8).setCell (p := ⟨gw, t, none⟩) (fun _ => rfl) _
        have hF2 := hF.setCell (p := ⟨gw, t, none⟩) (fun hh => by have := HG.out; simp at hh; omega) (W32 (schedNext l (schedN l t) t))
        clear hw15 hw2 hw7 hw16 c7 c16 l15 l2 l7 l16
        replace hA := hA.fr hst (fun e => hpg e)
        replace hR := hR.fr hst (fun _ q hq e => by cases hq; exact hbg e)
        have hc2 := sched_set hs hlt hc rfl
        clear hst hF hb hcell hfz hnx
        generalize schedNext l (schedN l t) t = x at *
        generalize w8.setCell ⟨gw, t, none⟩ (W32 x) = w9 at *
        refine hK _ _ ?_
        clear hK K
        refine wpF_nil ?_
        go_wp2
        go_roundw
        case rel => exact ⟨t + 1, by go_num, by omega, ⟨_, hb2, by simpa using hs, hc2⟩, hA, hR, hF2⟩
        case measure => simp [intOf]; omega
      -- >A
    · obtain rfl : t = 64 := by omega
      go_wp2_with fail
      go_cut [8, 9] from 20 (fun s8 s9 w' => ∃ gv gk : Nat, s8 = .pointer (some ⟨gv, 0, none⟩) ∧ s9 = .pointer (some ⟨gk, 0, none⟩) ∧ Blk w' gv (wds S.h).toArray 77 ∧ Blk w' gk (wds kW).toArray 86 ∧ Blk w' gw cs 86 ∧ ShaAt w' p S ∧ gk ≠ gw ∧ w.heap.size ≤ gv ∧ Fr (fun _ => False) w w')
      case rest =>
        obtain ⟨gv, gk, rfl, rfl, bv, bk, bw, hA, hne, hgv, hF⟩ := hcut
        clear hb hR
        go_wp2_with fail
        go_loopw [10, 11, 12, 13, 14, 15, 16, 17, 18, 75] (fun _ _ _ _ _ _ _ _ _ i wr => ∃ t : Nat, i = .int .i64 t ∧ t ≤ 64 ∧ Blk wr gv (wds (roundsN (V8.of S.h) (schedN l 64) t).list).toArray 77 ∧ Blk wr gk (wds kW).toArray 86 ∧ Blk wr gw cs 86 ∧ ShaAt wr p S ∧ Fr (fun _ => False) w wr) (fun _ _ _ _ _ _ _ _ _ i _ => 64 - (intOf i).toNat)
        case atStart => exact ⟨0, rfl, Nat.zero_le _, by rw [roundsN, V8.of_list hA.h8]; exact bv, bk, bw, hA, hF⟩
        case round =>
          clear bv bk bw hA hF
          obtain ⟨t, rfl, ht, bv, bk, bw, hA, hF⟩ := hrel
          by_cases hlt : t < 64
          ·
            -- <D
            have hltI : (t : Int) < 64 := by omega
            have ht0 : (0 : Int) ≤ (t : Int) := by omega
            have ck : wr.drew.cell? ⟨gk, t, none⟩ = some (W32 (kW.getD t 0)) := (bk.cell t).trans (wds_get (by rw [kW_len]; exact hlt))
            have cw : wr.drew.cell? ⟨gw, t, none⟩ = some (W32 ((schedN l 64).getD t 0)) := (bw.cell t).trans (hc t hlt)
            have hrn : roundsN (V8.of S.h) (schedN l 64) (t + 1) = (roundsN (V8.of S.h) (schedN l 64) t).round (kW.getD t 0) ((schedN l 64).getD t 0) := rfl
            generalize roundsN (V8.of S.h) (schedN l 64) t = V at *
            generalize kW.getD t 0 = kt at *
            generalize (schedN l 64).getD t 0 = wt at *
            have c0 : wr.drew.cell? ⟨gv, 0, none⟩ = some (W32 V.a) := bv.cell 0
            have c1 : wr.drew.cell? ⟨gv, 1, none⟩ = some (W32 V.b) := bv.cell 1
            have c2 : wr.drew.cell? ⟨gv, 2, none⟩ = some (W32 V.c) := bv.cell 2
            have c3 : wr.drew.cell? ⟨gv, 3, none⟩ = some (W32 V.d) := bv.cell 3
            have c4 : wr.drew.cell? ⟨gv, 4, none⟩ = some (W32 V.e) := bv.cell 4
            have c5 : wr.drew.cell? ⟨gv, 5, none⟩ = some (W32 V.f) := bv.cell 5
            have c6 : wr.drew.cell? ⟨gv, 6, none⟩ = some (W32 V.g) := bv.cell 6
            have c7 : wr.drew.cell? ⟨gv, 7, none⟩ = some (W32 V.h) := bv.cell 7
            go_wp2_with fail
            refine wp_region_float (Fr (fun _ => False)) [(0, 0), (1, 1), (2, 0), (3, 1), (4, 0), (5, 1), (6, 0), (7, 1), (8, 0), (9, 1), (10, 0), (11, 1), (12, 0), (13, 0), (14, 0), (15, 0), (16, 0), (17, 0)] _ (by kernel_rfl) (by kernel_rfl) (by simp only [List.map_cons, List.map_nil, Array.getD_eq_getD_getElem?, List.getElem?_toArray, List.getElem?_cons_succ, List.getElem?_cons_zero, Option.getD_some]; rfl) rfl (by kernel_rfl) (fun _ _ d _ _ h => by cases d <;> exact h) (Fr.refl _) (fun _ _ _ => Fr.trans) ?_
            replace bv : Blk wr.drew gv (wds V.list).toArray 77 := bv
            replace bk : Blk wr.drew gk (wds kW).toArray 86 := bk
            replace bw : Blk wr.drew gw cs 86 := bw
            replace hA : ShaAt wr.drew p S := ⟨hA.blk, hA.h8, hA.o64⟩
            replace hF := hF.drew
            generalize wr.drew = w3 at *
            repeat (first | (refine wpF_f0 (fun K hK => ?_); go_simp; refine hK _ ?_; clear hK K) | (refine wpF_load1 rfl rfl rfl (by kernel_rfl) (by assumption) (by simp) (fun K hK => ?_); go_simp; refine hK _ ?_; clear hK K) | (refine wpF_loadN rfl rfl rfl (by assumption) (by assumption) (by kernel_rfl) (by kernel_rfl) (by simp) (fun K hK => ?_); go_simp; refine hK _ ?_; clear hK K))
            refine wpF_nil ?_
            go_wp2_with fail
            refine wp_region_float (Fr (fun _ => False)) [(0, 0), (1, 1), (2, 0), (4, 0), (7, 0), (11, 0), (12, 0), (13, 0), (14, 0), (15, 0), (16, 0), (17, 0), (18, 0), (20, 0), (21, 0), (22, 1), (24, 0), (25, 0), (26, 1), (3, 2), (5, 2), (6, 0), (8, 2), (9, 0), (10, 0), (19, 0), (23, 0), (27, 0), (28, 0)] _ (by kernel_rfl) (by kernel_rfl) (by simp only [List.map_cons, List.map_nil, Array.getD_eq_getD_getElem?, List.getElem?_toArray, List.getElem?_cons_succ, List.getElem?_cons_zero, Option.getD_some]; rfl) rfl (by kernel_rfl) (fun _ _ d _ _ h => by cases d <;> exact h) (Fr.refl _) (fun _ _ _ => Fr.trans) ?_
            replace bv : Blk w3.drew gv (wds V.list).toArray 77 := bv
            replace bk : Blk w3.drew gk (wds kW).toArray 86 := bk
            replace bw : Blk w3.drew gw cs 86 := bw
            replace hA : ShaAt w3.drew p S := ⟨hA.blk, hA.h8, hA.o64⟩
            replace hF := hF.drew
            replace c7 : w3.drew.cell? ⟨gv, 7, none⟩ = some (W32 V.h) := c7
            replace c3 : w3.drew.cell? ⟨gv, 3, none⟩ = some (W32 V.d) := c3
            replace ck : w3.drew.cell? ⟨gk, t, none⟩ = some (W32 kt) := ck
            replace cw : w3.drew.cell? ⟨gw, t, none⟩ = some (W32 wt) := cw
            clear c0 c1 c2 c4 c5 c6
            generalize w3.drew = w4 at *
            repeat (first | (refine wpF_f0 (fun K hK => ?_); go_simp; refine hK _ ?_; clear hK K) | (refine wpF_load1 rfl rfl rfl (by kernel_rfl) (by assumption) (by simp) (fun K hK => ?_); go_simp; refine hK _ ?_; clear hK K) | (refine wpF_loadN rfl rfl rfl (by assumption) (by assumption) (by kernel_rfl) (by kernel_rfl) (by simp) (fun K hK => ?_); go_simp; refine hK _ ?_; clear hK K))
            refine wpF_a2 (fun K hK => ?_); rw [if_pos (by rfl)]
            go_simp
            refine (turn_any V.e 6 (by omega) (by omega) w4).mono ?_
            rintro e w5 ⟨rfl, rfl⟩
            refine hK _ _ (Fr.refl _ _) ?_
            clear hK K
            repeat (first | (refine wpF_f0 (fun K hK => ?_); go_simp; refine hK _ ?_; clear hK K) | (refine wpF_load1 rfl rfl rfl (by kernel_rfl) (by assumption) (by simp) (fun K hK => ?_); go_simp; refine hK _ ?_; clear hK K) | (refine wpF_loadN rfl rfl rfl (by assumption) (by assumption) (by kernel_rfl) (by kernel_rfl) (by simp) (fun K hK => ?_); go_simp; refine hK _ ?_; clear hK K))
            refine wpF_a2 (fun K hK => ?_); rw [if_pos (by rfl)]
            go_simp
            refine (turn_any V.e 11 (by omega) (by omega) w5).mono ?_
            rintro e w6 ⟨rfl, rfl⟩
            refine hK _ _ (Fr.refl _ _) ?_
            clear hK K
            repeat (first | (refine wpF_f0 (fun K hK => ?_); go_simp; refine hK _ ?_; clear hK K) | (refine wpF_load1 rfl rfl rfl (by kernel_rfl) (by assumption) (by simp) (fun K hK => ?_); go_simp; refine hK _ ?_; clear hK K) | (refine wpF_loadN rfl rfl rfl (by assumption) (by assumption) (by kernel_rfl) (by kernel_rfl) (by simp) (fun K hK => ?_); go_simp; refine hK _ ?_; clear hK K))
            refine wpF_a2 (fun K hK => ?_); rw [if_pos (by rfl)]
            go_simp
            refine (turn_any V.e 25 (by omega) (by omega) w6).mono ?_
            rintro e w7 ⟨rfl, rfl⟩
            refine hK _ _ (Fr.refl _ _) ?_
            clear hK K
            repeat (first | (refine wpF_f0 (fun K hK => ?_); go_simp; refine hK _ ?_; clear hK K) | (refine wpF_load1 rfl rfl rfl (by kernel_rfl) (by assumption) (by simp) (fun K hK => ?_); go_simp; refine hK _ ?_; clear hK K) | (refine wpF_loadN rfl rfl rfl (by assumption) (by assumption) (by kernel_rfl) (by kernel_rfl) (by simp) (fun K hK => ?_); go_simp; refine hK _ ?_; clear hK K))
            rw [x_word V kt wt]
            generalize hX : V.x kt wt = X at *
            refine wpF_nil ?_
            go_wp2_with fail
            refine (turn_any V.a 2 (by omega) (by omega) _).mono ?_
            rintro e w8 ⟨rfl, rfl⟩
            go_wp2_with fail
            refine (turn_any V.a 13 (by omega) (by omega) _).mono ?_
            rintro e w9 ⟨rfl, rfl⟩
            go_wp2_with fail
            refine (turn_any V.a 22 (by omega) (by omega) _).mono ?_
            rintro e w10 ⟨rfl, rfl⟩
            go_upto_region 16 with fail
            rw [y_word V]
            generalize hY : V.y = Y at *
            have exy : ((X.toNat : Int) + (Y.toNat : Int)) % 4294967296 = ((X + Y).toNat : Int) := add_u32 X Y
            have edx : ((V.d.toNat : Int) + (X.toNat : Int)) % 4294967296 = ((V.d + X).toNat : Int) := add_u32 V.d X
            have hth : w10.there gv 0 8 := bv.there 0 8 (by simp [wds_length, V8.list])
            go_wp2_with fail
            refine wp_value (exec_build (build_v (X + Y) V.a V.b V.c (V.d + X) V.e V.f V.g w10) rfl (by simp [Act.eval])) ?_
            clear exy edx
            refine (‹∀ (a : Act) (w : World), wpList _ _ _ _ a w → _›) _ _ ?_
            refine wpList_storeN (b := gv) (o := 0) (n := 8) (cs := [W32 (X + Y), W32 V.a, W32 V.b, W32 V.c, W32 (V.d + X), W32 V.e, W32 V.f, W32 V.g]) rfl rfl rfl rfl rfl hth (by kernel_rfl) (by simp [Value.oneCell']) ?_
            have e8 := V8.round_list V kt wt
            rw [hX, hY] at e8
            rw [← e8]
            have bv2 : Blk (w10.setCells gv 0 (wds (V.round kt wt).list)) gv (wds (V.round kt wt).list).toArray 77 := Blk.setCells (wds (V.round kt wt).list) 0 bv (by simp [wds_length, V8.list])
            have hf2 := Fr.setCells (T := (· = gv)) (b := gv) (wds (V.round kt wt).list) 0 (Fr.refl _ w10) (fun _ => rfl)
            have bk2 := bk.fr hf2 (fun e => bk.ne bv (by decide) e)
            have bw2 := bw.fr hf2 (fun e => bw.ne bv (by decide) e)
            have hA2 := hA.fr hf2 (fun e => hA.blk.ne bv (by decide) e)
            have hF2 := hF.step hf2 (fun i hi e => absurd hi (by rw [e]; omega))
            clear bk bw hA hF hf2 bv ck cw c3 c7 e8
            generalize w10.setCells gv 0 (wds (V.round kt wt).list) = w11 at *
            rw [← hrn] at bv2
            go_wp2_with fail
            go_roundw
            case rel => exact ⟨t + 1, by go_num, by omega, bv2, bk2, bw2, hA2, hF2⟩
            case measure => simp [intOf]; omega
            -- >D
          · obtain rfl : t = 64 := by omega
            clear bk bw
            -- <C
            generalize hV : (roundsN (V8.of S.h) (schedN l 64) 64).list = vs at *
            have hvl : vs.length = 8 := by rw [← hV]; rfl
            go_wp2_with fail
            go_loopw [19, 153] (fun _ i wr => ∃ t : Nat, i = .int .i64 t ∧ t ≤ 8 ∧ Blk wr gv (wds vs).toArray 77 ∧ ShaAt wr p { S with h := addN S.h vs t } ∧ Fr (fun k => k = p) w wr) (fun _ i _ => 8 - (intOf i).toNat)
            case atStart => exact ⟨0, rfl, Nat.zero_le _, bv, hA, hF.mono (fun _ _ h => h.elim)⟩
            case round =>
              clear bv hA hF
              obtain ⟨t, rfl, ht, bv, hA, hF⟩ := hrel
              by_cases hlt : t < 8
              · have hltI : (t : Int) < 8 := by omega
                have ht0 : (0 : Int) ≤ (t : Int) := by omega
                have cv : wr.drew.cell? ⟨gv, t, none⟩ = some (W32 (vs.getD t 0)) := (bv.cell t).trans (wds_get (by omega))
                have ch : wr.drew.cell? ⟨p, t, none⟩ = some (W32 ((addN S.h vs t).getD t 0)) := hA.word (by omega)
                have hst : addN S.h vs (t + 1) = (addN S.h vs t).set t ((addN S.h vs t).getD t 0 + vs.getD t 0) := rfl
                generalize (addN S.h vs t).getD t 0 = x1 at *
                generalize vs.getD t 0 = x2 at *
                go_wp2_with fail
                refine wp_region_float (Fr (fun _ => False)) [(0, 0), (1, 0), (2, 0), (3, 0), (4, 0), (5, 1), (6, 0), (7, 0), (8, 1), (9, 0), (10, 0), (11, 0), (12, 0), (13, 3)] _ (by kernel_rfl) (by kernel_rfl) (by simp only [List.map_cons, List.map_nil, Array.getD_eq_getD_getElem?, List.getElem?_toArray, List.getElem?_cons_succ, List.getElem?_cons_zero, Option.getD_some]; rfl) rfl (by kernel_rfl) (fun _ _ d _ _ h => by cases d <;> exact h) (Fr.refl _) (fun _ _ _ => Fr.trans) ?_
                replace bv : Blk wr.drew gv (wds vs).toArray 77 := bv
                replace hA : ShaAt wr.drew p { S with h := addN S.h vs t } := ⟨hA.blk, hA.h8, hA.o64⟩
                replace hF := hF.drew
                generalize wr.drew = w4 at *
                repeat (first | (refine wpF_f0 (fun K hK => ?_); go_simp; refine hK _ ?_; clear hK K) | (refine wpF_load1 rfl rfl rfl (by kernel_rfl) (by assumption) (by simp) (fun K hK => ?_); go_simp; refine hK _ ?_; clear hK K) | (refine wpF_loadN rfl rfl rfl (by assumption) (by assumption) (by kernel_rfl) (by kernel_rfl) (by simp) (fun K hK => ?_); go_simp; refine hK _ ?_; clear hK K))
                have hfz := hA.blk.frozen t
                refine wpF_a3 (fun K hK => ?_); rw [if_pos (by rfl)]
                go_simp
                rw [wadd_u32]
                have hA2 := hA.setWord (t := t) (x := x1 + x2) (by omega)
                have bv2 := bv.far (p := ⟨p, t, none⟩) (bv.ne hA.blk (by decide)) (W32 (x1 + x2))
                have hF2 := hF.setCell (p := ⟨p, t, none⟩) (fun _ => rfl) (W32 (x1 + x2))
                clear hA bv hF cv ch hfz
                generalize w4.setCell ⟨p, t, none⟩ (W32 (x1 + x2)) = w5 at *
                refine hK _ _ ?_
                clear hK K
                refine wpF_nil ?_
                go_wp2_with fail
                go_roundw
                case rel =>
                  refine ⟨t + 1, by go_num, by omega, ?_⟩
                  (repeat' apply And.intro) <;> first | exact bv2 | (rw [hst]; exact hA2) | exact hF2
                case measure => simp [intOf]; omega
              · obtain rfl : t = 8 := by omega
                go_wp2_with fail
                go_end0
                exact ⟨rfl, by rw [← hV] at hA; exact hA, hF⟩
            -- >C
      case first =>
        -- <B
        have hcon := constants_any
        have hKl : (wds kW).length = 64 := kW_length
        have hK1 := wds_one kW
        have hVl : (wds S.h).length = 8 := by rw [wds_length, hA.h8]
        have hV1 := wds_one S.h
        have h8r : wr.drew.rangeAt p 0 (wds S.h) := by
          refine hA.blk.range' 0 _ (fun j v hv => ?_)
          rw [Nat.zero_add]
          simp only [SSt.cells, List.getElem?_toArray]
          rw [List.getElem?_append_left (List.getElem?_eq_some_iff.1 hv).1]
          exact hv
        refine wp_region_pre (Fr (fun _ => False)) [(0, 0), (1, 0), (2, 0), (3, 1), (4, 2), (5, 2), (6, 2), (7, 3), (8, 3)] [(0, 0), (1, 0), (2, 0), (3, 1)] _ 5 #[true, true, true, true, false, false, false, false, false] (by kernel_rfl) (by kernel_rfl) (by simp only [List.map_cons, List.map_nil, Array.getD_eq_getD_getElem?, List.getElem?_toArray, List.getElem?_cons_succ, List.getElem?_cons_zero, Option.getD_some]; rfl) rfl (by kernel_rfl) (fun _ _ d _ _ h => by cases d <;> exact h) (Fr.refl _) (fun _ _ _ => Fr.trans) ?_
        replace hb : Blk wr.drew gw cs 86 := hb
        replace hA : ShaAt wr.drew p S := ⟨hA.blk, hA.h8, hA.o64⟩
        replace hF := hF.drew
        generalize wr.drew = wc at *
        repeat (first | (refine wpF_f0 (fun K hK => ?_); go_simp; refine hK _ ?_; clear hK K) | (refine wpF_load1 rfl rfl rfl (by kernel_rfl) (by assumption) (by simp) (fun K hK => ?_); go_simp; refine hK _ ?_; clear hK K) | (refine wpF_loadN rfl rfl rfl (by assumption) (by assumption) (by kernel_rfl) (by kernel_rfl) (by simp) (fun K hK => ?_); go_simp; refine hK _ ?_; clear hK K))
        clear h8r
        refine wpF_nil ?_
        refine wpAnyR_ready (rs := [4, 5, 6]) (by kernel_rfl) (by simp) ?_
        refine AllR.cons rfl (fun K hK => ?_) (AllR.cons rfl (fun K hK => ?_) (AllR.cons rfl (fun K hK => ?_) AllR.nil))
        · rw [if_pos (by rfl)]; go_simp; refine (hcon _).mono ?_; rintro e wc ⟨rfl, hbl⟩; have f := Fr.of_below hbl (fun _ => False); (try replace hA := hA.fr f (fun h => h)); (try replace hb := hb.fr f (fun h => h)); (try replace bv := bv.fr f (fun h => h)); (try replace bk := bk.fr f (fun h => h)); (try replace hF := hF.trans f); refine hK _ _ (fun _ => f) ?_; clear hK K f hbl
          refine wpAnyR_ready (rs := [5, 6]) (by kernel_rfl) (by simp) ?_
          refine AllR.cons rfl (fun K hK => ?_) (AllR.cons rfl (fun K hK => ?_) AllR.nil)
          · rw [if_pos (by rfl)]; refine wp_allocF (e := 77) (n := 8) rfl (by kernel_rfl) (fun zv gv wc hzv bv f hgv => ?_); replace hgv := Nat.le_trans hF.size hgv; (try replace hA := hA.fr f (fun h => h)); (try replace hb := hb.fr f (fun h => h)); (try replace bv := bv.fr f (fun h => h)); (try replace bk := bk.fr f (fun h => h)); (try replace hF := hF.trans f); go_simp; refine hK _ _ (fun _ => f) ?_; clear hK K f
            refine wpAnyR_ready (rs := [6]) (by kernel_rfl) (by simp) ?_
            refine AllR.cons rfl (fun K hK => ?_) AllR.nil
            rw [if_pos (by rfl)]; refine wp_allocF (e := 86) (n := 64) rfl (by kernel_rfl) (fun zk gk wc hzk bk f hgk => ?_); have hkw : gk ≠ gw := (by have := hb.lt; omega); replace hgk := Nat.le_trans hF.size hgk; (try replace hA := hA.fr f (fun h => h)); (try replace hb := hb.fr f (fun h => h)); (try replace bv := bv.fr f (fun h => h)); (try replace bk := bk.fr f (fun h => h)); (try replace hF := hF.trans f); go_simp; refine hK _ _ (fun _ => f) ?_; clear hK K f
            refine wpAnyR_ready (rs := [7]) (by kernel_rfl) (by simp) ?_; refine AllR.cons rfl (fun K hK => ?_) AllR.nil; rw [if_pos (by rfl)]; refine wp_storeF (n := 8) rfl rfl rfl bv hzv hVl (by kernel_rfl) hV1 (fun wc bv2 f => ?_); replace bk := bk.fr f (fun e => bv.ne bk (by decide) e.symm); replace hA := hA.fr f (fun e => hA.blk.ne bv (by decide) e); replace hb := hb.fr f (fun e => hb.ne bv (by decide) e); replace hF := hF.step f (fun i hi e => absurd hi (by rw [e]; omega)); clear bv; go_simp; refine hK _ _ (fun h => by simp [rqOf] at h) ?_; clear hK K f; refine wpAnyR_ready (rs := [8]) (by kernel_rfl) (by simp) ?_; refine AllR.cons rfl (fun K hK => ?_) AllR.nil; rw [if_pos (by rfl)]; refine wp_storeF (n := 64) rfl rfl rfl bk hzk hKl (by kernel_rfl) hK1 (fun wc bk2 f => ?_); replace bv2 := bv2.fr f (fun e => bv2.ne bk (by decide) e); replace hA := hA.fr f (fun e => hA.blk.ne bk (by decide) e); replace hb := hb.fr f (fun e => hkw e.symm); replace hF := hF.step f (fun i hi e => absurd hi (by rw [e]; omega)); clear bk; go_simp; refine hK _ _ (fun h => by simp [rqOf] at h) ?_; clear hK K f; refine wpAnyR_end (by kernel_rfl) ?_; go_wp2_with fail; go_meet; exact ⟨gv, gk, rfl, rfl, bv2, bk2, hb, hA, hkw, hgv, hF⟩
          · rw [if_pos (by rfl)]; refine wp_allocF (e := 86) (n := 64) rfl (by kernel_rfl) (fun zk gk wc hzk bk f hgk => ?_); have hkw : gk ≠ gw := (by have := hb.lt; omega); replace hgk := Nat.le_trans hF.size hgk; (try replace hA := hA.fr f (fun h => h)); (try replace hb := hb.fr f (fun h => h)); (try replace bv := bv.fr f (fun h => h)); (try replace bk := bk.fr f (fun h => h)); (try replace hF := hF.trans f); go_simp; refine hK _ _ (fun _ => f) ?_; clear hK K f
            refine wpAnyR_ready (rs := [5]) (by kernel_rfl) (by simp) ?_
            refine AllR.cons rfl (fun K hK => ?_) AllR.nil
            rw [if_pos (by rfl)]; refine wp_allocF (e := 77) (n := 8) rfl (by kernel_rfl) (fun zv gv wc hzv bv f hgv => ?_); replace hgv := Nat.le_trans hF.size hgv; (try replace hA := hA.fr f (fun h => h)); (try replace hb := hb.fr f (fun h => h)); (try replace bv := bv.fr f (fun h => h)); (try replace bk := bk.fr f (fun h => h)); (try replace hF := hF.trans f); go_simp; refine hK _ _ (fun _ => f) ?_; clear hK K f
            refine wpAnyR_ready (rs := [7]) (by kernel_rfl) (by simp) ?_; refine AllR.cons rfl (fun K hK => ?_) AllR.nil; rw [if_pos (by rfl)]; refine wp_storeF (n := 8) rfl rfl rfl bv hzv hVl (by kernel_rfl) hV1 (fun wc bv2 f => ?_); replace bk := bk.fr f (fun e => bv.ne bk (by decide) e.symm); replace hA := hA.fr f (fun e => hA.blk.ne bv (by decide) e); replace hb := hb.fr f (fun e => hb.ne bv (by decide) e); replace hF := hF.step f (fun i hi e => absurd hi (by rw [e]; omega)); clear bv; go_simp; refine hK _ _ (fun h => by simp [rqOf] at h) ?_; clear hK K f; refine wpAnyR_ready (rs := [8]) (by kernel_rfl) (by simp) ?_; refine AllR.cons rfl (fun K hK => ?_) AllR.nil; rw [if_pos (by rfl)]; refine wp_storeF (n := 64) rfl rfl rfl bk hzk hKl (by kernel_rfl) hK1 (fun wc bk2 f => ?_); replace bv2 := bv2.fr f (fun e => bv2.ne bk (by decide) e); replace hA := hA.fr f (fun e => hA.blk.ne bk (by decide) e); replace hb := hb.fr f (fun e => hkw e.symm); replace hF := hF.step f (fun i hi e => absurd hi (by rw [e]; omega)); clear bk; go_simp; refine hK _ _ (fun h => by simp [rqOf] at h) ?_; clear hK K f; refine wpAnyR_end (by kernel_rfl) ?_; go_wp2_with fail; go_meet; exact ⟨gv, gk, rfl, rfl, bv2, bk2, hb, hA, hkw, hgv, hF⟩
        · rw [if_pos (by rfl)]; refine wp_allocF (e := 77) (n := 8) rfl (by kernel_rfl) (fun zv gv wc hzv bv f hgv => ?_); replace hgv := Nat.le_trans hF.size hgv; (try replace hA := hA.fr f (fun h => h)); (try replace hb := hb.fr f (fun h => h)); (try replace bv := bv.fr f (fun h => h)); (try replace bk := bk.fr f (fun h => h)); (try replace hF := hF.trans f); go_simp; refine hK _ _ (fun _ => f) ?_; clear hK K f
          refine wpAnyR_ready (rs := [4, 6]) (by kernel_rfl) (by simp) ?_
          refine AllR.cons rfl (fun K hK => ?_) (AllR.cons rfl (fun K hK => ?_) AllR.nil)
          · rw [if_pos (by rfl)]; go_simp; refine (hcon _).mono ?_; rintro e wc ⟨rfl, hbl⟩; have f := Fr.of_below hbl (fun _ => False); (try replace hA := hA.fr f (fun h => h)); (try replace hb := hb.fr f (fun h => h)); (try replace bv := bv.fr f (fun h => h)); (try replace bk := bk.fr f (fun h => h)); (try replace hF := hF.trans f); refine hK _ _ (fun _ => f) ?_; clear hK K f hbl
            refine wpAnyR_ready (rs := [6]) (by kernel_rfl) (by simp) ?_
            refine AllR.cons rfl (fun K hK => ?_) AllR.nil
            rw [if_pos (by rfl)]; refine wp_allocF (e := 86) (n := 64) rfl (by kernel_rfl) (fun zk gk wc hzk bk f hgk => ?_); have hkw : gk ≠ gw := (by have := hb.lt; omega); replace hgk := Nat.le_trans hF.size hgk; (try replace hA := hA.fr f (fun h => h)); (try replace hb := hb.fr f (fun h => h)); (try replace bv := bv.fr f (fun h => h)); (try replace bk := bk.fr f (fun h => h)); (try replace hF := hF.trans f); go_simp; refine hK _ _ (fun _ => f) ?_; clear hK K f
            refine wpAnyR_ready (rs := [7]) (by kernel_rfl) (by simp) ?_; refine AllR.cons rfl (fun K hK => ?_) AllR.nil; rw [if_pos (by rfl)]; refine wp_storeF (n := 8) rfl rfl rfl bv hzv hVl (by kernel_rfl) hV1 (fun wc bv2 f => ?_); replace bk := bk.fr f (fun e => bv.ne bk (by decide) e.symm); replace hA := hA.fr f (fun e => hA.blk.ne bv (by decide) e); replace hb := hb.fr f (fun e => hb.ne bv (by decide) e); replace hF := hF.step f (fun i hi e => absurd hi (by rw [e]; omega)); clear bv; go_simp; refine hK _ _ (fun h => by simp [rqOf] at h) ?_; clear hK K f; refine wpAnyR_ready (rs := [8]) (by kernel_rfl) (by simp) ?_; refine AllR.cons rfl (fun K hK => ?_) AllR.nil; rw [if_pos (by rfl)]; refine wp_storeF (n := 64) rfl rfl rfl bk hzk hKl (by kernel_rfl) hK1 (fun wc bk2 f => ?_); replace bv2 := bv2.fr f (fun e => bv2.ne bk (by decide) e); replace hA := hA.fr f (fun e => hA.blk.ne bk (by decide) e); replace hb := hb.fr f (fun e => hkw e.symm); replace hF := hF.step f (fun i hi e => absurd hi (by rw [e]; omega)); clear bk; go_simp; refine hK _ _ (fun h => by simp [rqOf] at h) ?_; clear hK K f; refine wpAnyR_end (by kernel_rfl) ?_; go_wp2_with fail; go_meet; exact ⟨gv, gk, rfl, rfl, bv2, bk2, hb, hA, hkw, hgv, hF⟩
          · rw [if_pos (by rfl)]; refine wp_allocF (e := 86) (n := 64) rfl (by kernel_rfl) (fun zk gk wc hzk bk f hgk => ?_); have hkw : gk ≠ gw := (by have := hb.lt; omega); replace hgk := Nat.le_trans hF.size hgk; (try replace hA := hA.fr f (fun h => h)); (try replace hb := hb.fr f (fun h => h)); (try replace bv := bv.fr f (fun h => h)); (try replace bk := bk.fr f (fun h => h)); (try replace hF := hF.trans f); go_simp; refine hK _ _ (fun _ => f) ?_; clear hK K f
            refine wpAnyR_ready (rs := [4]) (by kernel_rfl) (by simp) ?_
            refine AllR.cons rfl (fun K hK => ?_) AllR.nil
            rw [if_pos (by rfl)]; go_simp; refine (hcon _).mono ?_; rintro e wc ⟨rfl, hbl⟩; have f := Fr.of_below hbl (fun _ => False); (try replace hA := hA.fr f (fun h => h)); (try replace hb := hb.fr f (fun h => h)); (try replace bv := bv.fr f (fun h => h)); (try replace bk := bk.fr f (fun h => h)); (try replace hF := hF.trans f); refine hK _ _ (fun _ => f) ?_; clear hK K f hbl
            refine wpAnyR_ready (rs := [7]) (by kernel_rfl) (by simp) ?_; refine AllR.cons rfl (fun K hK => ?_) AllR.nil; rw [if_pos (by rfl)]; refine wp_storeF (n := 8) rfl rfl rfl bv hzv hVl (by kernel_rfl) hV1 (fun wc bv2 f => ?_); replace bk := bk.fr f (fun e => bv.ne bk (by decide) e.symm); replace hA := hA.fr f (fun e => hA.blk.ne bv (by decide) e); replace hb := hb.fr f (fun e => hb.ne bv (by decide) e); replace hF := hF.step f (fun i hi e => absurd hi (by rw [e]; omega)); clear bv; go_simp; refine hK _ _ (fun h => by simp [rqOf] at h) ?_; clear hK K f; refine wpAnyR_ready (rs := [8]) (by kernel_rfl) (by simp) ?_; refine AllR.cons rfl (fun K hK => ?_) AllR.nil; rw [if_pos (by rfl)]; refine wp_storeF (n := 64) rfl rfl rfl bk hzk hKl (by kernel_rfl) hK1 (fun wc bk2 f => ?_); replace bv2 := bv2.fr f (fun e => bv2.ne bk (by decide) e); replace hA := hA.fr f (fun e => hA.blk.ne bk (by decide) e); replace hb := hb.fr f (fun e => hkw e.symm); replace hF := hF.step f (fun i hi e => absurd hi (by rw [e]; omega)); clear bk; go_simp; refine hK _ _ (fun h => by simp [rqOf] at h) ?_; clear hK K f; refine wpAnyR_end (by kernel_rfl) ?_; go_wp2_with fail; go_meet; exact ⟨gv, gk, rfl, rfl, bv2, bk2, hb, hA, hkw, hgv, hF⟩
        · rw [if_pos (by rfl)]; refine wp_allocF (e := 86) (n := 64) rfl (by kernel_rfl) (fun zk gk wc hzk bk f hgk => ?_); have hkw : gk ≠ gw := (by have := hb.lt; omega); replace hgk := Nat.le_trans hF.size hgk; (try replace hA := hA.fr f (fun h => h)); (try replace hb := hb.fr f (fun h => h)); (try replace bv := bv.fr f (fun h => h)); (try replace bk := bk.fr f (fun h => h)); (try replace hF := hF.trans f); go_simp; refine hK _ _ (fun _ => f) ?_; clear hK K f
          refine wpAnyR_ready (rs := [4, 5]) (by kernel_rfl) (by simp) ?_
          refine AllR.cons rfl (fun K hK => ?_) (AllR.cons rfl (fun K hK => ?_) AllR.nil)
          · rw [if_pos (by rfl)]; go_simp; refine (hcon _).mono ?_; rintro e wc ⟨rfl, hbl⟩; have f := Fr.of_below hbl (fun _ => False); (try replace hA := hA.fr f (fun h => h)); (try replace hb := hb.fr f (fun h => h)); (try replace bv := bv.fr f (fun h => h)); (try replace bk := bk.fr f (fun h => h)); (try replace hF := hF.trans f); refine hK _ _ (fun _ => f) ?_; clear hK K f hbl
            refine wpAnyR_ready (rs := [5]) (by kernel_rfl) (by simp) ?_
            refine AllR.cons rfl (fun K hK => ?_) AllR.nil
            rw [if_pos (by rfl)]; refine wp_allocF (e := 77) (n := 8) rfl (by kernel_rfl) (fun zv gv wc hzv bv f hgv => ?_); replace hgv := Nat.le_trans hF.size hgv; (try replace hA := hA.fr f (fun h => h)); (try replace hb := hb.fr f (fun h => h)); (try replace bv := bv.fr f (fun h => h)); (try replace bk := bk.fr f (fun h => h)); (try replace hF := hF.trans f); go_simp; refine hK _ _ (fun _ => f) ?_; clear hK K f
            refine wpAnyR_ready (rs := [7]) (by kernel_rfl) (by simp) ?_; refine AllR.cons rfl (fun K hK => ?_) AllR.nil; rw [if_pos (by rfl)]; refine wp_storeF (n := 8) rfl rfl rfl bv hzv hVl (by kernel_rfl) hV1 (fun wc bv2 f => ?_); replace bk := bk.fr f (fun e => bv.ne bk (by decide) e.symm); replace hA := hA.fr f (fun e => hA.blk.ne bv (by decide) e); replace hb := hb.fr f (fun e => hb.ne bv (by decide) e); replace hF := hF.step f (fun i hi e => absurd hi (by rw [e]; omega)); clear bv; go_simp; refine hK _ _ (fun h => by simp [rqOf] at h) ?_; clear hK K f; refine wpAnyR_ready (rs := [8]) (by kernel_rfl) (by simp) ?_; refine AllR.cons rfl (fun K hK => ?_) AllR.nil; rw [if_pos (by rfl)]; refine wp_storeF (n := 64) rfl rfl rfl bk hzk hKl (by kernel_rfl) hK1 (fun wc bk2 f => ?_); replace bv2 := bv2.fr f (fun e => bv2.ne bk (by decide) e); replace hA := hA.fr f (fun e => hA.blk.ne bk (by decide) e); replace hb := hb.fr f (fun e => hkw e.symm); replace hF := hF.step f (fun i hi e => absurd hi (by rw [e]; omega)); clear bk; go_simp; refine hK _ _ (fun h => by simp [rqOf] at h) ?_; clear hK K f; refine wpAnyR_end (by kernel_rfl) ?_; go_wp2_with fail; go_meet; exact ⟨gv, gk, rfl, rfl, bv2, bk2, hb, hA, hkw, hgv, hF⟩
          · rw [if_pos (by rfl)]; refine wp_allocF (e := 77) (n := 8) rfl (by kernel_rfl) (fun zv gv wc hzv bv f hgv => ?_); replace hgv := Nat.le_trans hF.size hgv; (try replace hA := hA.fr f (fun h => h)); (try replace hb := hb.fr f (fun h => h)); (try replace bv := bv.fr f (fun h => h)); (try replace bk := bk.fr f (fun h => h)); (try replace hF := hF.trans f); go_simp; refine hK _ _ (fun _ => f) ?_; clear hK K f
            refine wpAnyR_ready (rs := [4]) (by kernel_rfl) (by simp) ?_
            refine AllR.cons rfl (fun K hK => ?_) AllR.nil
            rw [if_pos (by rfl)]; go_simp; refine (hcon _).mono ?_; rintro e wc ⟨rfl, hbl⟩; have f := Fr.of_below hbl (fun _ => False); (try replace hA := hA.fr f (fun h => h)); (try replace hb := hb.fr f (fun h => h)); (try replace bv := bv.fr f (fun h => h)); (try replace bk := bk.fr f (fun h => h)); (try replace hF := hF.trans f); refine hK _ _ (fun _ => f) ?_; clear hK K f hbl
            refine wpAnyR_ready (rs := [7]) (by kernel_rfl) (by simp) ?_; refine AllR.cons rfl (fun K hK => ?_) AllR.nil; rw [if_pos (by rfl)]; refine wp_storeF (n := 8) rfl rfl rfl bv hzv hVl (by kernel_rfl) hV1 (fun wc bv2 f => ?_); replace bk := bk.fr f (fun e => bv.ne bk (by decide) e.symm); replace hA := hA.fr f (fun e => hA.blk.ne bv (by decide) e); replace hb := hb.fr f (fun e => hb.ne bv (by decide) e); replace hF := hF.step f (fun i hi e => absurd hi (by rw [e]; omega)); clear bv; go_simp; refine hK _ _ (fun h => by simp [rqOf] at h) ?_; clear hK K f; refine wpAnyR_ready (rs := [8]) (by kernel_rfl) (by simp) ?_; refine AllR.cons rfl (fun K hK => ?_) AllR.nil; rw [if_pos (by rfl)]; refine wp_storeF (n := 64) rfl rfl rfl bk hzk hKl (by kernel_rfl) hK1 (fun wc bk2 f => ?_); replace bv2 := bv2.fr f (fun e => bv2.ne bk (by decide) e); replace hA := hA.fr f (fun e => hA.blk.ne bk (by decide) e); replace hb := hb.fr f (fun e => hkw e.symm); replace hF := hF.step f (fun i hi e => absurd hi (by rw [e]; omega)); clear bk; go_simp; refine hK _ _ (fun h => by simp [rqOf] at h) ?_; clear hK K f; refine wpAnyR_end (by kernel_rfl) ?_; go_wp2_with fail; go_meet; exact ⟨gv, gk, rfl, rfl, bv2, bk2, hb, hA, hkw, hgv, hF⟩
        -- >B

end Go.Proofs.YthocpbkgcpgpdaaDoor.Sha
