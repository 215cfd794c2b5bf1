/- The log's small methods, walked: bytes, Gen, Seq, Room, area, write. -/
import Derived.Test.YthglnbkfmmchnaaLog1
import Derived.ArgAppend
import Derived.Test.YthglnbkfmmchnaaK12
namespace Go.Proofs.Ythglnbkfmmchnaa
open Go.RowKit
open Dsk (DSt DiskS chunk)

def lcells (p : Nat) (L : LSt) : Array Value := #[.pointer (some ⟨p, 0, none⟩), .int .i64 L.bs, .int .i64 L.bl, .int .i64 L.gen, .int .i64 L.seq, .int .i64 L.fin, .bool L.down]
theorem lcells_all {w : World} {lp p : Nat} {L : LSt} {t : TypeId} (h : Blk w lp (lcells p L) t) :
    w.cell? ⟨lp, 0, none⟩ = some (.pointer (some ⟨p, 0, none⟩)) ∧ w.cell? ⟨lp, 1, none⟩ = some (.int .i64 L.bs) ∧ w.cell? ⟨lp, 2, none⟩ = some (.int .i64 L.bl) ∧ w.cell? ⟨lp, 3, none⟩ = some (.int .i64 L.gen) ∧
    w.cell? ⟨lp, 4, none⟩ = some (.int .i64 L.seq) ∧ w.cell? ⟨lp, 5, none⟩ = some (.int .i64 L.fin) ∧ w.cell? ⟨lp, 6, none⟩ = some (.bool L.down) :=
  ⟨h.cell 0, h.cell 1, h.cell 2, h.cell 3, h.cell 4, h.cell 5, h.cell 6⟩
theorem lbytes_any {w : World} {lp p : Nat} {L : LSt} (h : Blk w lp (lcells p L) 72) (hb : L.bl ≤ 4096) :
    Calls Try.prog 37 #[.pointer (some ⟨lp, 0, none⟩)] w fun e w' => e = .returned (.int .i64 ((L.bl * 64 : Nat) : Int)) ∧ w' = w := by
  obtain ⟨-, -, c2, -⟩ := lcells_all h
  go_enter Try.func37, Try.ntmps37
  go_wp2_with fail
  go_ret
  exact ⟨by rw [Int.natCast_mul]; rfl, rfl⟩
theorem lgen_any {w : World} {lp p : Nat} {L : LSt} (h : Blk w lp (lcells p L) 72) :
    Calls Try.prog 22 #[.pointer (some ⟨lp, 0, none⟩)] w fun e w' => e = .returned (.int .i64 L.gen) ∧ w' = w := by
  obtain ⟨-, -, -, c3, -⟩ := lcells_all h
  go_enter Try.func22, Try.ntmps22
  go_wp2_with fail
  go_ret
  exact ⟨rfl, rfl⟩
theorem lseq_any {w : World} {lp p : Nat} {L : LSt} (h : Blk w lp (lcells p L) 72) :
    Calls Try.prog 15 #[.pointer (some ⟨lp, 0, none⟩)] w fun e w' => e = .returned (.int .i64 L.seq) ∧ w' = w := by
  obtain ⟨-, -, -, -, c4, -⟩ := lcells_all h
  go_enter Try.func15, Try.ntmps15
  go_wp2_with fail
  go_ret
  exact ⟨rfl, rfl⟩
set_option maxHeartbeats 1000000 in
theorem lroom_any {w : World} {lp p : Nat} {L : LSt} (h : Blk w lp (lcells p L) 72) (hb : L.bl ≤ 4096) (hf : L.fin ≤ L.bl * 64) :
    Calls Try.prog 14 #[.pointer (some ⟨lp, 0, none⟩)] w fun e w' => e = .returned (.int .i64 ((L.bl * 64 - L.fin : Nat) : Int)) ∧ Below w.heap.size w w' := by
  obtain ⟨-, -, -, -, -, c5, -⟩ := lcells_all h
  have hbel := (Below.refl w.heap.size w).drew
  go_enter Try.func14, Try.ntmps14
  go_wp2_with fail
  refine wp_region_float (Fr (fun _ => False)) [(0, 0), (2, 0), (3, 0), (4, 0), (5, 1), (1, 2), (6, 0), (7, 0)] _ (by kernel_rfl) (by kernel_rfl) (by simp only [List.map_cons, List.map_nil, Array.getD_eq_getD_getElem?, List.getElem?_toArray, List.getElem?_cons_succ, List.getElem?_cons_zero, Option.getD_some]; rfl) rfl (by kernel_rfl) (fun _ _ d _ _ h => by cases d <;> exact h) (Fr.refl _) (fun _ _ _ => Fr.trans) ?_
  replace h := h.drew
  replace c5 : w.drew.cell? ⟨lp, 5, none⟩ = some (.int .i64 L.fin) := c5
  generalize w.drew = w1 at *
  repeat (first | (refine wpF_f0 (fun K hK => ?_); go_simp; refine hK _ ?_; clear hK K) | (refine wpF_load1 rfl rfl rfl (by kernel_rfl) (by assumption) (by simp) (fun K hK => ?_); go_simp; refine hK _ ?_; clear hK K) | (refine wpF_loadN rfl rfl rfl (by assumption) (by assumption) (by kernel_rfl) (by kernel_rfl) (by simp) (fun K hK => ?_); go_simp; refine hK _ ?_; clear hK K))
  refine wpF_a2 (fun K hK => ?_); rw [if_pos (by rfl)]
  go_simp
  refine (lbytes_any h hb).mono ?_
  rintro e w2 ⟨rfl, rfl⟩
  refine hK _ _ (Fr.refl _ _) ?_
  clear hK K
  repeat (first | (refine wpF_f0 (fun K hK => ?_); go_simp; refine hK _ ?_; clear hK K) | (refine wpF_load1 rfl rfl rfl (by kernel_rfl) (by assumption) (by simp) (fun K hK => ?_); go_simp; refine hK _ ?_; clear hK K) | (refine wpF_loadN rfl rfl rfl (by assumption) (by assumption) (by kernel_rfl) (by kernel_rfl) (by simp) (fun K hK => ?_); go_simp; refine hK _ ?_; clear hK K))
  refine wpF_nil ?_
  go_wp2_with fail
  go_ret
  refine ⟨?_, hbel⟩
  rw [wrap_nat (n := L.bl * 64 - L.fin) (by omega) (by omega)]
  rfl

def areaPost (w : World) (p : Nat) (z n : Int) (b : Bool) (e : Ending) (w' : World) : Prop :=
  if b then e = .returned (.tuple #[.pointer (some ⟨w.heap.size, 0, none⟩), .bool true]) ∧ Blk w' w.heap.size (lcells p (areaL z n 0)) 72 ∧ Below w.heap.size w w'
  else e = .returned (.tuple #[.pointer none, .bool false]) ∧ w' = w
set_option maxHeartbeats 1000000 in
theorem area_any {S : Nat → Prop} {w : World} {p : Nat} {D : DSt} (h : DiskS S w p D) (z n : Int) :
    Calls Try.prog 34 #[.pointer (some ⟨p, 0, none⟩), .int .i64 z, .int .i64 n] w (areaPost w p z n (areaB D z n)) := by
  have hfew := h.few
  have hbl := Dsk.blocks_s h
  generalize hF : areaB D z n = F
  have HF := Lib.hid hF
  clear hF
  by_cases h1 : n < 1
  · have hF : F = false := by rw [← HF.out, areaB, decide_eq_false (by omega : ¬ 1 ≤ n)]; rfl
    rw [hF]
    go_enter Try.func34, Try.ntmps34
    go_wp2_with fail
    go_ret2
    exact ⟨rfl, rfl⟩
  have h1d : decide (n < 1) = false := decide_eq_false h1
  by_cases h2 : (D.kept.length : Int) < n
  · have hF : F = false := by rw [← HF.out, areaB, decide_eq_false (by omega : ¬ n ≤ D.kept.length), Bool.and_false]; rfl
    rw [hF]
    go_enter Try.func34, Try.ntmps34
    go_wp2_with fail
    refine hbl.mono ?_
    rintro e w1 ⟨rfl, rfl⟩
    go_wp2_with fail
    go_ret2
    exact ⟨rfl, rfl⟩
  have h2d : decide ((D.kept.length : Int) < n) = false := decide_eq_false h2
  by_cases h3 : z < 0
  · have hF : F = false := by rw [← HF.out, areaB, decide_eq_false (by omega : ¬ 0 ≤ z), Bool.and_false]; rfl
    rw [hF]
    go_enter Try.func34, Try.ntmps34
    go_wp2_with fail
    refine hbl.mono ?_
    rintro e w1 ⟨rfl, rfl⟩
    go_wp2_with fail
    go_ret2
    exact ⟨rfl, rfl⟩
  have h3d : decide (z < 0) = false := decide_eq_false h3
  by_cases h4 : (D.kept.length : Int) - n < z
  · have hF : F = false := by rw [← HF.out, areaB, decide_eq_false (by omega : ¬ z ≤ D.kept.length - n), Bool.and_false]
    rw [hF]
    go_enter Try.func34, Try.ntmps34
    go_wp2_with fail
    refine hbl.mono ?_
    rintro e w1 ⟨rfl, rfl⟩
    go_wp2_with fail
    refine hbl.mono ?_
    rintro e w2 ⟨rfl, rfl⟩
    go_wp2_with fail
    go_ret2
    exact ⟨rfl, rfl⟩
  have h4d : decide ((D.kept.length : Int) - n < z) = false := decide_eq_false h4
  have hF : F = true := by rw [← HF.out]; simp only [areaB, Bool.and_eq_true, decide_eq_true_eq]; omega
  rw [hF]
  obtain ⟨n, rfl⟩ := Int.eq_ofNat_of_zero_le (show 0 ≤ n by omega)
  obtain ⟨z, rfl⟩ := Int.eq_ofNat_of_zero_le (show 0 ≤ z by omega)
  go_enter Try.func34, Try.ntmps34
  go_wp2_with fail
  refine hbl.mono ?_
  rintro e w1 ⟨rfl, rfl⟩
  go_wp2_with fail
  refine hbl.mono ?_
  rintro e w2 ⟨rfl, rfl⟩
  go_wp2_with fail
  go_ret2
  exact ⟨rfl, Blk.new _ _ _, (Below.refl _ _).alloc (Nat.le_refl _) _⟩

theorem sizeByteL : (Try.prog.info? 5).map (·.size) = some 1 := by kernel_rfl
set_option maxHeartbeats 1000000 in
theorem lwrite_any {S : Nat → Prop} {w : World} {lp p : Nat} {D : DSt} {L : LSt} (hd : DiskS S w p D) (hS : ∀ k, w.heap.size ≤ k → S k) (hm : D.mem.length < 2 ^ 30) (h : Blk w lp (lcells p L) 72) (v : Value) (all : List UInt8) (hv : Rd w v all) (k0 k : Nat)
    (hk : k * 64 + 64 ≤ all.length) (ha : all.length ≤ 1000000) (hb : L.bs + k0 + k < 100000000) :
    Calls Try.prog 65 #[.pointer (some ⟨lp, 0, none⟩), v, .int .i64 k0, .int .i64 k] w fun e w' =>
      e = .returned (.int .i64 (D.write ((L.bs + k0 + k : Nat) : Int) (chunk all k)).1) ∧ DiskS S w' p (D.write ((L.bs + k0 + k : Nat) : Int) (chunk all k)).2 ∧ Fr S w w' := by
  obtain ⟨c0, c1, -⟩ := lcells_all h
  have hch : (all.take (k * 64 + 64)).drop (k * 64) = chunk all k := by
    rw [chunk, List.drop_take]
    congr 1
    omega
  have hfr := (Fr.refl S w).drew
  go_enter Try.func65, Try.ntmps65
  go_wp2_with fail
  refine wp_region_float (Fr (fun _ => False)) [(0, 0), (1, 0), (2, 0), (3, 1), (4, 0), (5, 0), (6, 0), (7, 1), (8, 0), (9, 0), (10, 0), (11, 0), (12, 0), (13, 0), (14, 0), (15, 0), (16, 0), (17, 0), (18, 0), (19, 3), (20, 0)] _ (by kernel_rfl) (by kernel_rfl) (by simp only [List.map_cons, List.map_nil, Array.getD_eq_getD_getElem?, List.getElem?_toArray, List.getElem?_cons_succ, List.getElem?_cons_zero, Option.getD_some]; rfl) rfl (by kernel_rfl) (fun _ _ d _ _ h => by cases d <;> exact h) (Fr.refl _) (fun _ _ _ => Fr.trans) ?_
  replace hd : DiskS S w.drew p D := hd.below (Below.refl _ _).drew
  replace hS : ∀ k, w.drew.heap.size ≤ k → S k := hS
  replace hv := hv.drew
  replace c0 : w.drew.cell? ⟨lp, 0, none⟩ = some (.pointer (some ⟨p, 0, none⟩)) := c0
  replace c1 : w.drew.cell? ⟨lp, 1, none⟩ = some (.int .i64 L.bs) := c1
  clear h
  generalize w.drew = w1 at *
  repeat (first | (refine wpF_f0 (fun K hK => ?_); go_simp; refine hK _ ?_; clear hK K) | (refine wpF_load1 rfl rfl rfl (by kernel_rfl) (by assumption) (by simp) (fun K hK => ?_); go_simp; refine hK _ ?_; clear hK K) | (refine wpF_loadN rfl rfl rfl (by assumption) (by assumption) (by kernel_rfl) (by kernel_rfl) (by simp) (fun K hK => ?_); go_simp; refine hK _ ?_; clear hK K))
  have hw1 : IntKind.i64.wrap ((k : Int) * 64) = ((k * 64 : Nat) : Int) := wrap_nat (by omega) (by omega)
  have hw2 : IntKind.i64.wrap (IntKind.i64.wrap ((k : Int) + 1) * 64) = ((k * 64 + 64 : Nat) : Int) := wrap_nat (by rw [wrap_nat (z := (k : Int) + 1) (n := k + 1) (by omega) (by omega)]; omega) (by omega)
  have hw3 : IntKind.i64.wrap (IntKind.i64.wrap ((L.bs : Int) + (k0 : Int)) + (k : Int)) = ((L.bs + k0 + k : Nat) : Int) := wrap_nat (by rw [wrap_nat (z := (L.bs : Int) + (k0 : Int)) (n := L.bs + k0) (by omega) (by omega)]; omega) (by omega)
  refine wpF_rd_lh (by rfl) rfl rfl rfl rfl hv hw1 hw2 (by omega) hk Try.underlying32 sizeByteL (fun K v' hv' _ _ hK => ?_)
  rw [hch] at hv'
  go_simp
  refine hK _ ?_
  clear hK K hw1 hw2 hv hch
  repeat (first | (refine wpF_f0 (fun K hK => ?_); go_simp; refine hK _ ?_; clear hK K) | (refine wpF_load1 rfl rfl rfl (by kernel_rfl) (by assumption) (by simp) (fun K hK => ?_); go_simp; refine hK _ ?_; clear hK K) | (refine wpF_loadN rfl rfl rfl (by assumption) (by assumption) (by kernel_rfl) (by kernel_rfl) (by simp) (fun K hK => ?_); go_simp; refine hK _ ?_; clear hK K))
  have hw4 : (L.bs : Int) + (k0 : Int) + (k : Int) = ((L.bs + k0 + k : Nat) : Int) := by omega
  rw [hw4]
  clear hw4
  refine wpF_a3 (fun K hK => ?_); rw [if_pos (by rfl)]
  go_simp
  refine (Dsk.write_s hd hS hm _ v' _ hv').mono ?_
  rintro e w2 ⟨rfl, hd2, f2⟩
  refine hK _ _ ?_
  clear hK K hv' hd hS c0 c1 hw3
  replace hfr := hfr.trans f2
  clear f2
  repeat (first | (refine wpF_f0 (fun K hK => ?_); go_simp; refine hK _ ?_; clear hK K) | (refine wpF_load1 rfl rfl rfl (by kernel_rfl) (by assumption) (by simp) (fun K hK => ?_); go_simp; refine hK _ ?_; clear hK K) | (refine wpF_loadN rfl rfl rfl (by assumption) (by assumption) (by kernel_rfl) (by kernel_rfl) (by simp) (fun K hK => ?_); go_simp; refine hK _ ?_; clear hK K))
  refine wpF_nil ?_
  go_wp2_with fail
  go_ret
  exact ⟨rfl, hd2, hfr⟩
end Go.Proofs.Ythglnbkfmmchnaa
namespace Go
open Go.RowKit
theorem exec_slice_hm {P : Program} {o : Oper} {a : Act} {t e : TypeId} {x h m : Operand} {g n c H : Nat} {kh km : IntKind} {zh zm : Int} (ho : o.op = .slice t x none (some h) (some m))
    (hx : a.eval x = .slice (some ⟨g, 0, none⟩) n c) (hh : a.eval h = .int kh zh) (hm : a.eval m = .int km zm) (eh : zh = (H : Int)) (em : zm = (H : Int)) (hc : H ≤ c)
    (ht : P.underlying t = some (.slice e)) (hs : (P.info? e).map (·.size) = some 1) (w : World) : (execOp a.eval o).run P w = .ok (.value (.slice (some ⟨g, 0, none⟩) H H)) w := by
  subst eh em
  have hel : P.elem t = e := by simp [Program.elem, ht]
  subst hel
  unfold execOp
  simp only [ho]
  refine exec_v ?_
  simp only [Option.map_some, Option.map_none, hx, hh, hm]
  rw [run_sliceAt_slice _ t _ _ _ _ ht, run_slice_hm _ t _ _ _ ht kh km H H (by omega) (by omega) (by omega), run_size1 hs]
  simp only [Result.andThen, Int.toNat_natCast, sliced]
  by_cases h0 : H = 0
  · subst h0; simp
  · rw [if_neg h0]; simp [Addr.add]
/-- append to a row without room: it is one's own behind it. -/
theorem wpList_appFull {P : Program} {ops : Array Oper} {rest : List Oper} {o : Oper} {a : Act} {w : World} {Q : Exit → Act → World → Prop} {t e : TypeId} {s x : Operand} {l r : List UInt8} {z : Value} {b off n c : Nat} {vx : Value}
    (hgd : o.guard = none) (ho : o.op = .call { callee := .builtin .append, args := #[s, x], argTypes := #[t, t] }) (ht : P.underlying t = some (.slice e)) (hinfo : (P.info? e).map (fun i => (i.zero, i.size, i.bytes)) = some (some z, 1, 1)) (hz : z.cells.size = 1)
    (hs : a.eval s = .slice (some ⟨b, off, none⟩) n c) (hx : a.eval x = vx) (hl : l.length = n) (hra : w.rangeAt b off (bts l)) (hr : Rd w vx r) (hr0 : 0 < r.length) (hg : c < n + r.length) (h63 : n + r.length ≤ 140737488355328)
    (h : ∀ v' w', w'.ownsRow w.heap.size e 1 v' (n + r.length) (bts (l ++ r)) → Below w.heap.size w w' → wpList P ops Q rest (a.put o.dst v') w') : wpList P ops Q (o :: rest) a w := by
  subst hl
  obtain ⟨i, hi, hz0, hsz, hby⟩ := info_parts hinfo
  rcases hr.2 with ⟨A, c', rfl, h0⟩ | ⟨b', o', c', rfl, hc', hra'⟩
  · rw [h0] at hr0; simp at hr0
  obtain ⟨v', w', h1, h2, h3⟩ := run_append_arg_grows (P := P) w t o.type e i z 1 1 ht hi hz0 hsz hby hz (by omega) ⟨b, off, none⟩ l.length c (bts l) (by rw [bts_length, Nat.mul_one]) (fun j u hu => by rw [Addr.add_mid]; exact hra j u hu)
    ⟨b', o', none⟩ r.length c' (bts r) (by rw [bts_length, Nat.mul_one]) (fun j u hu => by rw [Addr.add_mid]; exact hra' j u hu) hg (by simp only [maxLen]; omega) (by omega)
  refine wpList_plain hgd fun K hK => ?_
  unfold Oper.wp execOp
  simp only [ho, resolve, invoke, builtin, Sem.run_bind, Sem.run_pure, Result.andThen_ok, List.map_toArray, List.map_cons, List.map_nil, hs, hx, h1]
  refine hK _ _ (h v' w' (by rw [bts_append]; exact h2) ?_)
  exact (Fr.of_grown (row := none) h3).below (Nat.le_refl _) (fun k _ e => by cases e)
end Go
namespace Go.Proofs.Ythglnbkfmmchnaa
open Go.RowKit
open Dsk (DSt DiskS chunk)

def LaidP (w : World) (r : List UInt8 × Int) (e : Ending) (w' : World) : Prop := ∃ v, e = .returned (.tuple #[v, .int .i64 r.2]) ∧ w'.ownsRow w.heap.size 5 1 v r.1.length (bts r.1) ∧ Below w.heap.size w w'
theorem LaidP.mk {B : Nat} {w w' : World} {r : List UInt8 × Int} {v : Value} {e : Ending} {n : Nat} {k : Int} {l : List UInt8} (he : e = .returned (.tuple #[v, .int .i64 k])) (hr : r = (l, k)) (ho : w'.ownsRow B 5 1 v n (bts l)) (hb : Below B w w') (hB : w.heap.size = B) : LaidP w r e w' := by
  subst hB hr
  have h1 := ho.1
  rw [bts_length, Nat.mul_one] at h1
  subst h1
  exact ⟨v, he, ho, hb⟩
theorem at_len {S : Nat → Prop} {w : World} {p : Nat} {D : DSt} (hd : DiskS S w p D) (i : Nat) (hi : i < D.kept.length) : (D.at i).length = 64 := by
  obtain ⟨kb, mv, h, -⟩ := hd
  exact Dsk.readN_len hi h.len (fun x hx => (h.idx x hx).2) _

set_option maxHeartbeats 2000000 in
set_option maxRecDepth 100000 in
theorem laid_any {S : Nat → Prop} {w : World} {lp p : Nat} {D : DSt} {L : LSt} (hd : DiskS S w p D) (hm : D.mem.length < 2 ^ 30) (h : Blk w lp (lcells p L) 72) (v : Value) (b : List UInt8) (hv : Rd w v b) (hb0 : 0 < b.length) (hbl : b.length ≤ 100000)
    (hL : L.bl ≤ 4096) (hbs : L.bs ≤ 4096) (hfin : L.fin ≤ 300000) (hin : L.bs + L.fin / 64 < D.kept.length) :
    Calls Try.prog 64 #[.pointer (some ⟨lp, 0, none⟩), v] w (LaidP w (laidN D L b)) := by
  obtain ⟨A, c, rfl⟩ := hv.slice
  have hv' := hv
  obtain ⟨-, -, -, -, -, c5, -⟩ := lcells_all h
  generalize hb0' : w.heap.size = B at *
  have HB := Lib.hid hb0'
  have HV := Lib.hid hv
  have HD := Lib.hid hd
  have hB : Below B w w := by rw [← hb0']; exact Below.refl _ _
  clear hb0' hv hd
  generalize hR : laidN D L b = R
  have HR := Lib.hid hR
  clear hR
  have hmB := hv'.max
  by_cases h0 : L.fin % 64 = 0
  · have h0I : (L.fin : Int) % 64 = 0 := by omega
    go_enter Try.func64, Try.ntmps64
    go_upto_region 9 with (refine wpList_appRd (base := B) (l := []) (n := 0) rfl rfl Try.underlying32 infoByte rfl rfl rfl (World.ownsRow_nil _ _ _ _) HV.out (by omega) (Nat.le_of_eq HB.out.symm) (fun v1 w1 o1 g1 _ => ?_))
    rw [List.nil_append, Nat.zero_add] at o1
    replace hB := below_own hB (World.ownsRow_nil _ B 5 1) g1 (Nat.le_refl _) (Nat.le_of_eq HB.out.symm)
    have hs := hB.size
    rw [HB.out] at hs
    replace h := h.fr g1 (fun e => by cases e)
    clear g1 c5
    have HE : Hid (∀ Z, padN L b.length b = Z → R = (Z, 0)) := Lib.hid (fun Z hZ => by rw [← HR.out, laidN, if_pos h0, hZ])
    have HX := Lib.hid (show b.length = b.length from rfl)
    obtain ⟨X, hXX⟩ : ∃ X, X = b := ⟨_, rfl⟩
    obtain ⟨N, hN⟩ : ∃ N, N = b.length := ⟨_, rfl⟩
    rw [← hN, ← hXX] at o1
    replace HE : Hid (∀ Z, padN L b.length X = Z → R = (Z, 0)) := by rw [hXX]; exact HE
    replace HX : Hid (X.length = N) := Lib.hid (by rw [hXX, hN])
    have hNb : N ≤ 200000 := by omega
    obtain ⟨A1, c1, rfl⟩ := own_form o1
    clear hXX hN h0 h0I
    by_cases hp : 0 < N % 64; (case pos => (have hpI : (0 : Int) < (N : Int) % 64 := (by omega)); (go_wp2_with (refine wpList_append_zeros (base := B) (k := 64 - N % 64) rfl rfl Try.underlying32 Try.underlying3 infoByte rfl rfl (by omega) o1 (by omega) hs (fun v2 w2 o2 g2 => ?_))); go_ret2; exact LaidP.mk rfl (HE.out _ (by rw [padN, HX.out, if_pos hp])) o2 (below_own hB o1 g2 (Nat.le_refl _) hs) HB.out); (case neg => (have hpI : (N : Int) % 64 = 0 := (by omega)); go_wp2_with fail; refine wp_region_float (Fr (fun _ => False)) [(0, 0), (1, 0), (2, 0), (3, 1), (4, 0), (5, 0), (6, 0), (7, 0), (8, 2), (9, 0)] _ (by kernel_rfl) (by kernel_rfl) (by simp only [List.map_cons, List.map_nil, Array.getD_eq_getD_getElem?, List.getElem?_toArray, List.getElem?_cons_succ, List.getElem?_cons_zero, Option.getD_some]; rfl) rfl (by kernel_rfl) (fun _ _ d _ _ h => by cases d <;> exact h) (Fr.refl _) (fun _ _ _ => Fr.trans) ?_; replace h := h.drew; replace o1 := own_drew o1; replace hB := hB.drew; (have hs := hB.size); rw [HB.out] at hs; (have c5 := (lcells_all h).2.2.2.2.2.1); generalize w1.drew = w2 at *; (repeat (first | (refine wpF_f0 (fun K hK => ?_); go_simp; refine hK _ ?_; clear hK K) | (refine wpF_load1 rfl rfl rfl (by kernel_rfl) (by assumption) (by simp) (fun K hK => ?_); go_simp; refine hK _ ?_; clear hK K) | (refine wpF_loadN rfl rfl rfl (by assumption) (by assumption) (by kernel_rfl) (by kernel_rfl) (by simp) (fun K hK => ?_); go_simp; refine hK _ ?_; clear hK K))); refine wpF_a2 (fun K hK => ?_); rw [if_pos (by rfl)]; go_simp; refine (lbytes_any h hL).mono ?_; rintro e w3 ⟨rfl, rfl⟩; refine hK _ _ (Fr.refl _ _) ?_; clear hK K c5; (repeat (first | (refine wpF_f0 (fun K hK => ?_); go_simp; refine hK _ ?_; clear hK K) | (refine wpF_load1 rfl rfl rfl (by kernel_rfl) (by assumption) (by simp) (fun K hK => ?_); go_simp; refine hK _ ?_; clear hK K) | (refine wpF_loadN rfl rfl rfl (by assumption) (by assumption) (by kernel_rfl) (by kernel_rfl) (by simp) (fun K hK => ?_); go_simp; refine hK _ ?_; clear hK K))); refine wpF_nil ?_; (generalize hQ : decide (IntKind.i64.wrap ((L.fin : Int) + (b.length : Int)) < (L.bl : Int) * 64) = q); rw [wrap_nat (n := L.fin + b.length) (by omega) (by omega)] at hQ; cases q; (case true => (have hq : L.fin + b.length < L.bl * 64 := (by have := of_decide_eq_true hQ; omega)); clear hQ; (have HQ := Lib.hid hq); clear hq; (go_wp2_with (refine wpList_append_zeros (base := B) (k := 64) rfl rfl Try.underlying32 Try.underlying3 infoByte rfl rfl rfl o1 (by omega) hs (fun v2 w2 o2 g2 => ?_))); go_ret2; exact LaidP.mk rfl (HE.out _ (by rw [padN, HX.out, if_neg hp, if_pos HQ.out])) o2 (below_own hB o1 g2 (Nat.le_refl _) hs) HB.out); (case false => (have hq : ¬ L.fin + b.length < L.bl * 64 := (by have := of_decide_eq_false hQ; omega)); clear hQ; (have HQ := Lib.hid hq); clear hq; go_wp2_with fail; go_ret2; exact LaidP.mk rfl (HE.out _ (by rw [padN, HX.out, if_neg hp, if_neg HQ.out])) o1 hB HB.out))
  · have h0I : (0 : Int) < (L.fin : Int) % 64 := by omega
    obtain ⟨c0, c1, -⟩ := lcells_all h
    go_enter Try.func64, Try.ntmps64
    go_wp2_with fail
    refine wp_region_float (Fr (fun _ => False)) [(0, 0), (1, 0), (2, 0), (3, 1), (4, 0), (5, 0), (6, 0), (7, 1), (8, 0), (9, 0), (10, 0), (11, 1), (12, 0), (13, 0), (14, 3), (15, 0), (16, 0), (17, 0), (18, 0), (19, 0)] _ (by kernel_rfl) (by kernel_rfl) (by simp only [List.map_cons, List.map_nil, Array.getD_eq_getD_getElem?, List.getElem?_toArray, List.getElem?_cons_succ, List.getElem?_cons_zero, Option.getD_some]; rfl) rfl (by kernel_rfl) (fun _ _ d _ _ h => by cases d <;> exact h) (Fr.refl _) (fun _ _ _ => Fr.trans) ?_
    have hv1 := HV.out.drew
    have hd1 : DiskS S w.drew p D := HD.out.below (Below.refl _ _).drew
    replace h := h.drew
    replace c0 : w.drew.cell? ⟨lp, 0, none⟩ = some (.pointer (some ⟨p, 0, none⟩)) := c0
    replace c1 : w.drew.cell? ⟨lp, 1, none⟩ = some (.int .i64 L.bs) := c1
    replace c5 : w.drew.cell? ⟨lp, 5, none⟩ = some (.int .i64 L.fin) := c5
    have hs : B ≤ w.drew.heap.size := Nat.le_of_eq HB.out.symm
    replace hB := hB.drew
    generalize w.drew = w1 at *
    repeat (first | (refine wpF_f0 (fun K hK => ?_); go_simp; refine hK _ ?_; clear hK K) | (refine wpF_load1 rfl rfl rfl (by kernel_rfl) (by assumption) (by simp) (fun K hK => ?_); go_simp; refine hK _ ?_; clear hK K) | (refine wpF_loadN rfl rfl rfl (by assumption) (by assumption) (by kernel_rfl) (by kernel_rfl) (by simp) (fun K hK => ?_); go_simp; refine hK _ ?_; clear hK K))
    obtain ⟨I, hI⟩ : ∃ I, I = L.bs + L.fin / 64 := ⟨_, rfl⟩
    have hwi : IntKind.i64.wrap ((L.bs : Int) + IntKind.i64.wrap ((L.fin : Int) / 64)) = (I : Int) := wrap_nat (by rw [wrap_nat (z := (L.fin : Int) / 64) (n := L.fin / 64) (by omega) (by omega)]; omega) (by omega)
    rw [hwi]
    have HI := Lib.hid hI
    clear hwi hI
    refine wpF_a3 (fun K hK => ?_); rw [if_pos (by rfl)]
    go_simp
    refine (Dsk.read_s hd1 hm _).mono ?_
    rintro e w2 ⟨vr, rfl, rr, hform, hb2⟩
    refine hK _ _ ?_
    clear hK K c0 c1 c5
    have hI := HI.out
    replace hv1 := hv1.below hb2
    replace h := h.fr (Fr.of_below hb2 (fun _ => False)) (fun h => h)
    replace hB := hB.trans (hb2.mono hs)
    replace hs := Nat.le_trans hs hb2.size
    clear hb2 hd1
    have hrI : (0 : Int) ≤ (I : Int) ∧ (I : Int) < D.kept.length := ⟨by omega, by omega⟩
    by_cases ho : D.out = true
    · have hr : D.read (I : Int) = ([], 5) := by rw [DSt.read, if_pos hrI, if_pos ho]
      have hRR : R = ([], 5) := by rw [← HR.out, laidN, if_neg h0, ← hI, hr]; rfl
      rw [hr] at rr hform ⊢
      obtain rfl : vr = .slice none 0 0 := by
        rcases hform with ⟨h1, _⟩ | ⟨g, _, _, _, h1⟩
        · exact h1
        · simp at h1
      clear hr hrI hform rr hv1 h0I hI
      repeat (first | (refine wpF_f0 (fun K hK => ?_); go_simp; refine hK _ ?_; clear hK K) | (refine wpF_load1 rfl rfl rfl (by kernel_rfl) (by assumption) (by simp) (fun K hK => ?_); go_simp; refine hK _ ?_; clear hK K) | (refine wpF_loadN rfl rfl rfl (by assumption) (by assumption) (by kernel_rfl) (by kernel_rfl) (by simp) (fun K hK => ?_); go_simp; refine hK _ ?_; clear hK K))
      refine wpF_nil ?_
      go_wp2_with fail
      go_ret2
      exact LaidP.mk rfl hRR (World.ownsRow_nil _ _ _ _) hB HB.out
    · have hr : D.read (I : Int) = (D.at I, 0) := by rw [DSt.read, if_pos hrI, if_neg ho, Int.toNat_natCast]
      have hl64 := at_len HD.out I (by omega)
      have hRR : ∀ Z, padN L b.length ((D.at I).take (L.fin % 64) ++ b) = Z → R = (Z, 0) := fun Z hZ => by
        rw [← HR.out, laidN, if_neg h0, ← hI, hr, if_pos rfl, hZ]
      rw [hr] at rr hform ⊢
      generalize D.at I = old at *
      obtain ⟨g, rfl, hblk, -, -⟩ : ∃ g, vr = .slice (some ⟨g, 0, none⟩) 64 64 ∧ Blk w2 g (bts old).toArray 81 ∧ True ∧ True := by
        rcases hform with ⟨_, h1⟩ | ⟨g, h1, h2, _, _⟩
        · simp only at h1; rw [h1] at hl64; simp at hl64
        · exact ⟨g, h1, h2, trivial, trivial⟩
      have hlt : (old.take (L.fin % 64)).length = L.fin % 64 := by rw [List.length_take]; omega
      have hrt : w2.rangeAt g 0 (bts (old.take (L.fin % 64))) := by
        refine hblk.range' 0 _ (fun j u hu => ?_)
        rw [Nat.zero_add, List.getElem?_toArray]
        rw [bts_get, List.getElem?_take] at hu
        rw [bts_get]
        split at hu
        · exact hu
        · simp at hu
      clear hr hrI hform rr hblk hI
      repeat (first | (refine wpF_f0 (fun K hK => ?_); go_simp; refine hK _ ?_; clear hK K) | (refine wpF_load1 rfl rfl rfl (by kernel_rfl) (by assumption) (by simp) (fun K hK => ?_); go_simp; refine hK _ ?_; clear hK K) | (refine wpF_loadN rfl rfl rfl (by assumption) (by assumption) (by kernel_rfl) (by kernel_rfl) (by simp) (fun K hK => ?_); go_simp; refine hK _ ?_; clear hK K))
      refine wpF_nil ?_
      go_upto_region 9 with (first
        | (refine wpList_value rfl (exec_slice_hm (H := L.fin % 64) rfl rfl rfl rfl (by omega) (by omega) (by omega) Try.underlying32 sizeByteL _) ?_)
        | (refine wpList_appFull rfl rfl Try.underlying32 infoByte rfl rfl rfl hlt hrt hv1 hb0 (by omega) (by omega) (fun v1 w3 o1 hb3 => ?_)))
      replace h := h.fr (Fr.of_below hb3 (fun _ => False)) (fun h => h)
      replace hB := hB.trans (hb3.mono hs)
      replace o1 := own_base o1 hs
      replace hs := Nat.le_trans hs hb3.size
      clear hb3 hrt
      have HE : Hid (∀ Z, padN L b.length (old.take (L.fin % 64) ++ b) = Z → R = (Z, 0)) := Lib.hid hRR
      have HX : Hid ((old.take (L.fin % 64) ++ b).length = L.fin % 64 + b.length) := Lib.hid (by rw [List.length_append, hlt])
      generalize old.take (L.fin % 64) ++ b = X at *
      have hNb : L.fin % 64 + b.length ≤ 200000 := by omega
      obtain ⟨A1, c1, rfl⟩ := own_form o1
      clear h0I hRR hlt hv1
      generalize w3 = w1 at *
      generalize L.fin % 64 + b.length = N at *
      by_cases hp : 0 < N % 64; (case pos => (have hpI : (0 : Int) < (N : Int) % 64 := (by omega)); (go_wp2_with (refine wpList_append_zeros (base := B) (k := 64 - N % 64) rfl rfl Try.underlying32 Try.underlying3 infoByte rfl rfl (by omega) o1 (by omega) hs (fun v2 w2 o2 g2 => ?_))); go_ret2; exact LaidP.mk rfl (HE.out _ (by rw [padN, HX.out, if_pos hp])) o2 (below_own hB o1 g2 (Nat.le_refl _) hs) HB.out); (case neg => (have hpI : (N : Int) % 64 = 0 := (by omega)); go_wp2_with fail; refine wp_region_float (Fr (fun _ => False)) [(0, 0), (1, 0), (2, 0), (3, 1), (4, 0), (5, 0), (6, 0), (7, 0), (8, 2), (9, 0)] _ (by kernel_rfl) (by kernel_rfl) (by simp only [List.map_cons, List.map_nil, Array.getD_eq_getD_getElem?, List.getElem?_toArray, List.getElem?_cons_succ, List.getElem?_cons_zero, Option.getD_some]; rfl) rfl (by kernel_rfl) (fun _ _ d _ _ h => by cases d <;> exact h) (Fr.refl _) (fun _ _ _ => Fr.trans) ?_; replace h := h.drew; replace o1 := own_drew o1; replace hB := hB.drew; (have hs := hB.size); rw [HB.out] at hs; (have c5 := (lcells_all h).2.2.2.2.2.1); generalize w1.drew = w2 at *; (repeat (first | (refine wpF_f0 (fun K hK => ?_); go_simp; refine hK _ ?_; clear hK K) | (refine wpF_load1 rfl rfl rfl (by kernel_rfl) (by assumption) (by simp) (fun K hK => ?_); go_simp; refine hK _ ?_; clear hK K) | (refine wpF_loadN rfl rfl rfl (by assumption) (by assumption) (by kernel_rfl) (by kernel_rfl) (by simp) (fun K hK => ?_); go_simp; refine hK _ ?_; clear hK K))); refine wpF_a2 (fun K hK => ?_); rw [if_pos (by rfl)]; go_simp; refine (lbytes_any h hL).mono ?_; rintro e w3 ⟨rfl, rfl⟩; refine hK _ _ (Fr.refl _ _) ?_; clear hK K c5; (repeat (first | (refine wpF_f0 (fun K hK => ?_); go_simp; refine hK _ ?_; clear hK K) | (refine wpF_load1 rfl rfl rfl (by kernel_rfl) (by assumption) (by simp) (fun K hK => ?_); go_simp; refine hK _ ?_; clear hK K) | (refine wpF_loadN rfl rfl rfl (by assumption) (by assumption) (by kernel_rfl) (by kernel_rfl) (by simp) (fun K hK => ?_); go_simp; refine hK _ ?_; clear hK K))); refine wpF_nil ?_; (generalize hQ : decide (IntKind.i64.wrap ((L.fin : Int) + (b.length : Int)) < (L.bl : Int) * 64) = q); rw [wrap_nat (n := L.fin + b.length) (by omega) (by omega)] at hQ; cases q; (case true => (have hq : L.fin + b.length < L.bl * 64 := (by have := of_decide_eq_true hQ; omega)); clear hQ; (have HQ := Lib.hid hq); clear hq; (go_wp2_with (refine wpList_append_zeros (base := B) (k := 64) rfl rfl Try.underlying32 Try.underlying3 infoByte rfl rfl rfl o1 (by omega) hs (fun v2 w2 o2 g2 => ?_))); go_ret2; exact LaidP.mk rfl (HE.out _ (by rw [padN, HX.out, if_neg hp, if_pos HQ.out])) o2 (below_own hB o1 g2 (Nat.le_refl _) hs) HB.out); (case false => (have hq : ¬ L.fin + b.length < L.bl * 64 := (by have := of_decide_eq_false hQ; omega)); clear hQ; (have HQ := Lib.hid hq); clear hq; go_wp2_with fail; go_ret2; exact LaidP.mk rfl (HE.out _ (by rw [padN, HX.out, if_neg hp, if_neg HQ.out])) o1 hB HB.out))
end Go.Proofs.Ythglnbkfmmchnaa
namespace Go.Proofs.Ythglnbkfmmchnaa
open Go.RowKit
open Dsk (DSt DiskS chunk)

def LayP (S : Nat → Prop) (w : World) (p : Nat) (r : Int × DSt) (e : Ending) (w' : World) : Prop := e = .returned (.int .i64 r.1) ∧ DiskS S w' p r.2 ∧ Fr S w w'
theorem LayP.mk {S S1 : Nat → Prop} {w w1 w' : World} {p : Nat} {r : Int × DSt} {e : Ending} {z : Int} {D : DSt} (he : e = .returned (.int .i64 z)) (hr : r = (z, D)) (hd : DiskS S1 w' p D) (f : Fr S1 w1 w') (f0 : Below w.heap.size w w1) (h1 : ∀ k, S1 k → S k) : LayP S w p r e w' := by
  subst hr
  exact ⟨he, hd.but (fun k _ => h1 k), (Fr.of_below f0 S).trans (f.mono (fun k _ => h1 k))⟩
theorem laidN_len {D : DSt} {L : LSt} {b all : List UInt8} (h : laidN D L b = (all, 0)) (hb : 0 < b.length) : all.length % 64 = 0 ∧ 0 < all.length ∧ all.length ≤ b.length + 128 := by
  have key : ∀ X : List UInt8, b.length ≤ X.length → X.length ≤ b.length + 64 → (padN L b.length X).length % 64 = 0 ∧ 0 < (padN L b.length X).length ∧ (padN L b.length X).length ≤ b.length + 128 := fun X h1 h2 => by
    obtain ⟨a1, a2, a3⟩ := padN_length L b.length X
    omega
  unfold laidN at h
  split at h
  · simp only [Prod.mk.injEq, and_true] at h
    rw [← h]
    exact key _ (Nat.le_refl _) (by omega)
  · split at h
    · simp only [Prod.mk.injEq, and_true] at h
      rw [← h]
      refine key _ (by rw [List.length_append]; omega) ?_
      rw [List.length_append, List.length_take]
      omega
    · simp only [Prod.mk.injEq] at h
      omega
def layF' (D : DSt) (k0 : Nat) (all : List UInt8) (n : Nat) : Int × DSt := laySync (layFst k0 all (layOne n (laysN D k0 all (n - 1))))
theorem laidN_none {D : DSt} {L : LSt} {b all : List UInt8} {z : Int} (h : laidN D L b = (all, z)) (hz : z ≠ 0) : all = [] := by
  unfold laidN at h
  split at h
  · simp only [Prod.mk.injEq] at h
    exact absurd h.2.symm hz
  · split at h
    · simp only [Prod.mk.injEq] at h
      exact absurd h.2.symm hz
    · simp only [Prod.mk.injEq] at h
      exact h.1.symm
theorem layF_err {D E : DSt} {k0 n : Nat} {all : List UInt8} {e : Int} (hl : laysN D k0 all (n - 1) = (e, E)) (he : e ≠ 0) : layF' D k0 all n = (e, E) := by
  simp [layF', hl, layOne, laySync, layFst, he]
theorem layF_one {D E : DSt} {k0 n : Nat} {all : List UInt8} (hl : laysN D k0 all (n - 1) = (0, E)) (h1 : 1 < n) : layF' D k0 all n = laySync (layFst k0 all E.sync) := by
  simp [layF', hl, layOne, laySync, h1]
theorem layF_none {D E : DSt} {k0 n : Nat} {all : List UInt8} (hl : laysN D k0 all (n - 1) = (0, E)) (h1 : ¬ 1 < n) : layF' D k0 all n = laySync (layFst k0 all (0, E)) := by
  simp [layF', hl, layOne, h1]
set_option maxHeartbeats 2000000 in
set_option maxRecDepth 100000 in
theorem lay_any {S : Nat → Prop} {w : World} {lp p : Nat} {D : DSt} {L : LSt} (hd : DiskS S w p D) (hS : ∀ k, w.heap.size ≤ k → S k) (hm : D.mem.length < 2 ^ 20) (h : Blk w lp (lcells p L) 72) (hn : ¬ S lp) (v : Value) (b : List UInt8) (hv : Rd w v b) (hb0 : 0 < b.length) (hbl : b.length ≤ 100000)
    (hL : L.bl ≤ 4096) (hbs : L.bs ≤ 4096) (hfin : L.fin ≤ 300000) (hin : L.bs + L.fin / 64 < D.kept.length) :
    Calls Try.prog 49 #[.pointer (some ⟨lp, 0, none⟩), v] w (LayP S w p (layN D L b)) := by
  have hla := laid_any hd (by omega) h v b hv hb0 hbl hL hbs hfin hin
  obtain ⟨A, c, rfl⟩ := hv.slice
  obtain ⟨c0, -, -, -, -, c5, -⟩ := lcells_all h
  have HD := Lib.hid (show _ ∧ _ from ⟨hd, hS⟩)
  have HM := Lib.hid hm
  clear hd hS hv hm
  generalize hR : layN D L b = R
  have HR := Lib.hid hR
  clear hR
  obtain ⟨⟨all, z⟩, hlr⟩ : ∃ r, r = laidN D L b := ⟨_, rfl⟩
  rw [← hlr] at hla
  have HLR := Lib.hid hlr.symm
  clear hlr
  go_enter Try.func49, Try.ntmps49
  go_wp2_with fail
  refine hla.mono ?_
  rintro e w1 ⟨va, rfl, o1, hb1⟩
  simp only at o1
  clear hla
  have h1 := h.fr (Fr.of_below hb1 (fun _ => False)) (fun h => h)
  have rall := Rd.of_own o1
  obtain ⟨Aa, ca, rfl⟩ := own_form o1
  by_cases hz : z = 0
  · subst hz
    have hd1 := HD.out.1.past hb1 (.slice Aa all.length ca) (fun k hk => (o1.lt k hk).1)
    have hS1 : ∀ k, w1.heap.size ≤ k → S k ∧ some k ≠ (Value.slice Aa all.length ca).ownBlock := fun k hk => ⟨HD.out.2 k (Nat.le_trans hb1.size hk), fun e => by have := (o1.lt k e.symm).2; omega⟩
    obtain ⟨S1, hS1d⟩ : ∃ S1 : Nat → Prop, S1 = fun k => S k ∧ some k ≠ (Value.slice Aa all.length ca).ownBlock := ⟨_, rfl⟩
    have hsub : ∀ k, S1 k → S k := by rw [hS1d]; exact fun k h => h.1
    have hal : ∀ k, (Value.slice Aa all.length ca).ownBlock = some k → ¬ S1 k := by rw [hS1d]; exact fun k hk h => h.2 hk.symm
    replace hd1 : DiskS S1 w1 p D := by rw [hS1d]; exact hd1
    replace hS1 : ∀ k, w1.heap.size ≤ k → S1 k := by rw [hS1d]; exact hS1
    clear hS1d
    have hn1 : ¬ S1 lp := fun h => hn (hsub _ h)
    obtain ⟨n, hnn⟩ : ∃ n, n = all.length / 64 := ⟨_, rfl⟩
    have hlen := laidN_len HLR.out hb0
    have hn64 : all.length = n * 64 := by omega
    have hnI : IntKind.i64.wrap ((all.length : Int) / 64) = (n : Int) := wrap_nat (by omega) (by omega)
    have hnI2 : (all.length : Int) / 64 = (n : Int) := by omega
    obtain ⟨k0, hk0⟩ : ∃ k0, k0 = L.bs + L.fin / 64 := ⟨_, rfl⟩
    have HF : Hid (∀ r, layF' D k0 all n = r → R = r) := Lib.hid (fun r hr => by rw [← HR.out, layN, HLR.out, ← hr, hk0, hnn]; rfl)
    have HK0 := Lib.hid hk0
    have HN := Lib.hid (show 0 < n ∧ n ≤ 5000 by omega)
    have HN64 := Lib.hid hn64
    have HB1 := Lib.hid hb1
    clear hk0 hnn hlen hn64 hb1
    have hn5 : n ≤ 5000 := HN.out.2
    generalize hN1 : all.length = N1 at *
    have HN1 := Lib.hid hN1
    clear hN1
    go_wp2_with fail
    have hF0 := Fr.refl S1 w1
    have hn0 := HN.out.1
    go_loopw [7, 9] (fun ev i wr => ∃ s : Nat, i = .int .i64 ((s + 1 : Nat) : Int) ∧ s < n ∧ ev = .int .i64 (laysN D k0 all s).1 ∧ DiskS S1 wr p (laysN D k0 all s).2 ∧ Fr S1 w1 wr) (fun _ i _ => n + 1 - (intOf i).toNat)
    case atStart => exact ⟨0, rfl, hn0, rfl, hd1, hF0⟩
    case round =>
      obtain ⟨s, rfl, hs, rfl, hdr, hfr⟩ := hrel
      clear hF0 hd1 o1
      have hk := h1.fr hfr hn1
      have hr := rall.fr hfr (fun _ => hal)
      have hSr : ∀ k, wr.heap.size ≤ k → S1 k := fun k hk => hS1 k (Nat.le_trans hfr.size hk)
      have hmm : (laysN D k0 all s).2.mem.length < 2 ^ 30 := by have := (laysN_mem D k0 all s).1; have := HM.out; have := HN.out.2; omega
      have HMM : Hid ((laysN D k0 all s).2.mem.length < 2 ^ 29) := Lib.hid (by have := (laysN_mem D k0 all s).1; have := HM.out; have := HN.out.2; omega)
      have hst : ∀ j, s ≤ j → (laysN D k0 all s).1 ≠ 0 → laysN D k0 all j = laysN D k0 all s := fun j hj h => laysN_stop h j hj
      have hsu : (laysN D k0 all s).1 = 0 → laysN D k0 all (s + 1) = (laysN D k0 all s).2.write ((k0 + (s + 1) : Nat) : Int) (chunk all (s + 1)) := fun h => by rw [laysN, if_pos h]
      have HST := Lib.hid hst
      have HSU := Lib.hid hsu
      clear hst hsu
      obtain ⟨⟨e1, E1⟩, hE⟩ : ∃ r, r = laysN D k0 all s := ⟨_, rfl⟩
      rw [← hE] at hdr hmm HMM HST HSU ⊢
      simp only at hdr hmm HMM HST HSU ⊢
      have HE := Lib.hid hE
      clear hE
      by_cases hlt : s + 1 < n
      · have hltI : (s : Int) + 1 < (n : Int) := by omega
        by_cases he : e1 = 0
        · subst he
          have hwr : Calls Try.prog 65 #[.pointer (some ⟨lp, 0, none⟩), .slice Aa N1 ca, .int .i64 ((L.fin / 64 : Nat) : Int), .int .i64 ((s + 1 : Nat) : Int)] wr fun e w' =>
              e = .returned (.int .i64 (laysN D k0 all (s + 1)).1) ∧ DiskS S1 w' p (laysN D k0 all (s + 1)).2 ∧ Fr S1 wr w' := by
            rw [HSU.out rfl, HK0.out]
            exact lwrite_any (L := L) hdr hSr hmm hk _ all hr (L.fin / 64) (s + 1) (by have := HN64.out; have := HN1.out; omega) (by have := HN64.out; have := HN1.out; have := HN.out.2; omega) (by have := HN.out.2; omega)
          clear hmm hk hr hdr hSr
          have HLT := Lib.hid hlt
          clear hlt
          go_wp2_with fail
          refine hwr.mono ?_
          rintro e w2 ⟨rfl, hd2, f2⟩
          have hfr2 := hfr.trans f2
          clear hwr f2 hfr
          go_wp2_with fail
          go_roundw
          case rel => exact ⟨s + 1, by go_num, HLT.out, rfl, hd2, hfr2⟩
          case measure => simp [intOf]; have := HLT.out; omega
        · have heI : (e1 == 0) = false := beq_eq_false_iff_ne.2 he
          have hout := layF_err (HST.out (n - 1) (by omega) he) he
          have HO := Lib.hid hout
          clear hout hmm hk hr hSr
          go_wp2_with fail
          go_ret
          exact LayP.mk rfl (HF.out _ HO.out) hdr hfr HB1.out hsub
      · obtain rfl : n = s + 1 := by omega
        by_cases he : e1 = 0
        · subst he
          by_cases hn1' : 1 < s + 1
          · have hnI3 : (1 : Int) < (s : Int) + 1 := by omega
            have hlo := layF_one HE.out.symm hn1'
            have HT := Lib.hid hlo
            clear hlo
            obtain ⟨d0, -⟩ := lcells_all hk
            have hsy := Dsk.sync_s hdr hmm
            have hm2 : E1.sync.2.mem.length < 2 ^ 29 := Nat.lt_of_le_of_lt (sync_lenL E1) (HMM.out)
            clear hmm hdr hr hk hSr
            go_wp2_with fail
            refine hsy.mono ?_
            rintro e w2 ⟨rfl, hd2, f2⟩
            have hfr2 := hfr.trans f2
            clear hsy f2 hfr
            obtain ⟨⟨e2, E2⟩, hE2⟩ : ∃ r, r = E1.sync := ⟨_, rfl⟩
            rw [← hE2] at hd2 hm2 HT ⊢
            simp only at hd2 hm2 HT ⊢
            clear hE2
            by_cases he2 : e2 = 0
            · subst he2
              generalize w2 = w9 at *
              generalize E2 = E9 at *
              (have hk9 := h1.fr hfr2 hn1); (have hr9 := rall.fr hfr2 (fun _ => hal)); (have hS9 : ∀ k, w9.heap.size ≤ k → S1 k := fun k hk => hS1 k (Nat.le_trans hfr2.size hk)); (have hw9 := lwrite_any (L := L) hd2 hS9 (by omega) hk9 _ all hr9 (L.fin / 64) 0 (by have := HN64.out; have := HN1.out; omega) (by have := HN64.out; have := HN1.out; have := HN.out.2; omega) (by omega)); rw [Nat.add_zero, ← HK0.out] at hw9; (have hm4 := Dsk.DSt.write_len E9 (k0 : Int) (chunk all 0)); (have hm5 : (E9.write (k0 : Int) (chunk all 0)).2.mem.length < 2 ^ 30 := (by omega)); clear hm4 hr9 hS9 hd2; go_wp2_with fail; refine hw9.mono ?_; rintro e w8 ⟨rfl, hd8, f8⟩; (have hk8 := hk9.fr f8 hn1); (have hfr8 := hfr2.trans f8); clear hw9 hk9 f8 hfr2; (replace HT : Hid (∀ r, laySync (E9.write (k0 : Int) (chunk all 0)) = r → R = r) := Lib.hid (fun r hr => HF.out _ (by rw [HT.out, layFst, if_pos (by rfl)]; exact hr))); (obtain ⟨⟨e3, E3⟩, hE3⟩ : ∃ r, r = E9.write (k0 : Int) (chunk all 0) := ⟨_, rfl⟩); rw [← hE3] at hd8 hm5 HT ⊢; simp only at hd8 hm5 HT ⊢; clear hE3; by_cases he3 : e3 = 0; (case pos => subst he3; (obtain ⟨g0, -⟩ := lcells_all hk8); (have hsy := Dsk.sync_s hd8 hm5); clear hm5 hd8; go_wp2_with fail; refine hsy.mono ?_; rintro e w7 ⟨rfl, hd7, f7⟩; go_wp2_with fail; go_ret; exact LayP.mk rfl (HT.out _ (by rw [laySync, if_pos (by rfl)])) hd7 (hfr8.trans f7) HB1.out hsub); (case neg => (have heI3 : (e3 == 0) = false := beq_eq_false_iff_ne.2 he3); go_wp2_with fail; go_ret; exact LayP.mk rfl (HT.out _ (by rw [laySync, if_neg he3])) hd8 hfr8 HB1.out hsub)
            · have heI2 : (e2 == 0) = false := beq_eq_false_iff_ne.2 he2
              go_wp2_with fail
              go_ret
              exact LayP.mk rfl (HF.out _ (by rw [HT.out, layFst, if_neg he2, laySync, if_neg he2])) hd2 hfr2 HB1.out hsub
          · obtain rfl : s = 0 := by omega
            have hlo := layF_none HE.out.symm hn1'
            have HT := Lib.hid hlo
            clear hlo hr hk hSr hmm
            have hm2 := HMM.out
            have hfr2 := hfr
            have hd2 := hdr
            clear hfr hdr
            generalize wr = w9 at *
            generalize E1 = E9 at *
            (have hk9 := h1.fr hfr2 hn1); (have hr9 := rall.fr hfr2 (fun _ => hal)); (have hS9 : ∀ k, w9.heap.size ≤ k → S1 k := fun k hk => hS1 k (Nat.le_trans hfr2.size hk)); (have hw9 := lwrite_any (L := L) hd2 hS9 (by omega) hk9 _ all hr9 (L.fin / 64) 0 (by have := HN64.out; have := HN1.out; omega) (by have := HN64.out; have := HN1.out; have := HN.out.2; omega) (by omega)); rw [Nat.add_zero, ← HK0.out] at hw9; (have hm4 := Dsk.DSt.write_len E9 (k0 : Int) (chunk all 0)); (have hm5 : (E9.write (k0 : Int) (chunk all 0)).2.mem.length < 2 ^ 30 := (by omega)); clear hm4 hr9 hS9 hd2; go_wp2_with fail; refine hw9.mono ?_; rintro e w8 ⟨rfl, hd8, f8⟩; (have hk8 := hk9.fr f8 hn1); (have hfr8 := hfr2.trans f8); clear hw9 hk9 f8 hfr2; (replace HT : Hid (∀ r, laySync (E9.write (k0 : Int) (chunk all 0)) = r → R = r) := Lib.hid (fun r hr => HF.out _ (by rw [HT.out, layFst, if_pos (by rfl)]; exact hr))); (obtain ⟨⟨e3, E3⟩, hE3⟩ : ∃ r, r = E9.write (k0 : Int) (chunk all 0) := ⟨_, rfl⟩); rw [← hE3] at hd8 hm5 HT ⊢; simp only at hd8 hm5 HT ⊢; clear hE3; by_cases he3 : e3 = 0; (case pos => subst he3; (obtain ⟨g0, -⟩ := lcells_all hk8); (have hsy := Dsk.sync_s hd8 hm5); clear hm5 hd8; go_wp2_with fail; refine hsy.mono ?_; rintro e w7 ⟨rfl, hd7, f7⟩; go_wp2_with fail; go_ret; exact LayP.mk rfl (HT.out _ (by rw [laySync, if_pos (by rfl)])) hd7 (hfr8.trans f7) HB1.out hsub); (case neg => (have heI3 : (e3 == 0) = false := beq_eq_false_iff_ne.2 he3); go_wp2_with fail; go_ret; exact LayP.mk rfl (HT.out _ (by rw [laySync, if_neg he3])) hd8 hfr8 HB1.out hsub)
        · have heI : (e1 == 0) = false := beq_eq_false_iff_ne.2 he
          have hout := layF_err (n := s + 1) HE.out.symm he
          have HO := Lib.hid hout
          clear hout hmm hk hr hSr
          go_wp2_with fail
          all_goals go_ret
          all_goals exact LayP.mk rfl (HF.out _ HO.out) hdr hfr HB1.out hsub
  · have hzI : (z == 0) = false := beq_eq_false_iff_ne.2 hz
    have hall0 : all = [] := laidN_none HLR.out hz
    subst hall0
    have hRR : R = (z, D) := by rw [← HR.out, layN, HLR.out, if_neg hz]
    have HRR := Lib.hid hRR
    have hd1 := HD.out.1.below hb1
    clear hRR
    go_wp2_with fail
    go_loopw [7, 9] (fun ev i wr => ev = .int .i64 z ∧ i = .int .i64 1 ∧ wr = w1) (fun _ _ _ => 1)
    case atStart => exact ⟨rfl, rfl, rfl⟩
    case round =>
      obtain ⟨rfl, rfl, rfl⟩ := hrel
      go_wp2_with fail
      go_ret
      exact LayP.mk rfl HRR.out hd1 (Fr.refl _ _) hb1 (fun _ h => h)
end Go.Proofs.Ythglnbkfmmchnaa
