/- append(s, make([]byte, n)..) on an owned row. -/
import Derived.Test.YthglnbkfmmchnaaK7
import Derived.Lib.AppendZerosOnto
namespace Go
open Go.RowKit

theorem zeroCells_u8 (k : Nat) : Builtin.zeroCells #[.int .u8 0] k = (bts (List.replicate k 0)).toArray := by
  apply Array.ext
  · simp [Builtin.zeroCells, bts]
  · intro i h1 h2
    simp [Builtin.zeroCells, bts]
    rw [Nat.mod_one]
    rfl
theorem run_append_zeros {P : Program} (w : World) (base : Nat) (t tn ty e : TypeId) (i : TypeInfo) (kq kn : IntKind) (ht : P.underlying t = some (.slice e)) (htn : P.underlying tn = some (.int kn)) (hi : P.info? e = some i) (hz : i.zero = some (.int .u8 0)) (hsz : i.size = 1) (hby : i.bytes = 1)
    (v : Value) (n k : Nat) (l : List UInt8) (hown : w.ownsRow base e 1 v n (bts l)) (h63 : n + k ≤ 70368744177664) (hbase : base ≤ w.heap.size) :
    ∃ v' w', (Builtin.append_ #[t, tn] ty #[v, .int kq (k : Int)]).run P w = .ok v' w' ∧ w'.ownsRow base e 1 v' (n + k) (bts (l ++ List.replicate k 0)) ∧ Fr (fun j => some j = v.ownBlock) w w' := by
  have hll : l.length = n := by have := hown.1; rw [bts_length] at this; omega
  have hw : IntKind.i64.wrap (k : Int) = k := by rw [IntKind.wrap_i64]; omega
  have hneg : ¬ ((k : Int) < 0) := by omega
  have h48 : ¬ ((281474976710656 : Int) < (k : Int)) := by omega
  rcases Nat.eq_zero_or_pos k with hk | hk
  · subst hk
    refine ⟨v, w, ?_, by simpa using hown, Fr.refl _ _⟩
    rcases hown.2 with ⟨rfl, rfl⟩ | ⟨g, cap, cur, rfl, hbg, hg, hnc, hcm, hcs, htake⟩
    · simp [Builtin.append_, run_underlying ht, run_underlying htn, sizeOf, typeInfo, zeroValue, hi, hz, hby, asInt, asIntOf, IntKind.wrap_i64]
    · simp [Builtin.append_, run_underlying ht, run_underlying htn, sizeOf, typeInfo, zeroValue, hi, hz, hby, asInt, asIntOf, IntKind.wrap_i64, hnc, storeCells]
  · have hk0 : k ≠ 0 := by omega
    have hzc : Builtin.zeroCells (Value.int .u8 0).cells k = (bts (List.replicate k 0)).toArray := zeroCells_u8 k
    have h63m : n + k ≤ maxLen := by simp only [maxLen]; omega
    have hlen : (bts l ++ bts (List.replicate k 0)).length = (n + k) * 1 := by rw [List.length_append, bts_length, bts_length, List.length_replicate, hll, Nat.mul_one]
    have grown : ∀ (old : Nat), old < n + k → ∀ T : Nat → Prop,
        (w.drew.alloc (.cells ((bts l).toArray ++ (bts (List.replicate k 0)).toArray ++ Builtin.zeroCells (Value.int .u8 0).cells (grownCap w (n + k) old e - (n + k))) e)).ownsRow base e 1
          (.slice (some ⟨w.heap.size, 0, none⟩) (n + k) (grownCap w (n + k) old e)) (n + k) (bts (l ++ List.replicate k 0)) ∧
        Fr T w (w.drew.alloc (.cells ((bts l).toArray ++ (bts (List.replicate k 0)).toArray ++ Builtin.zeroCells (Value.int .u8 0).cells (grownCap w (n + k) old e - (n + k))) e)) := by
      intro old ho T
      have hge := grownCap_ge w (n + k) old e
      have hcm : grownCap w (n + k) old e ≤ maxLen := grownCap_le_maxLen w (n + k) old e h63m
      rw [bts_append]
      refine ⟨⟨hlen, .inr ⟨w.heap.size, _, _, rfl, hbase, heap_alloc_new w.drew _, hge, hcm, ?_, ?_⟩⟩, ((Fr.refl T w).drew).alloc _⟩
      · simp only [Array.size_append, List.size_toArray, size_zeroCells, bts_length, List.length_replicate, hll]
        rw [show (Value.int .u8 0).cells.size = 1 from rfl]
        omega
      · simp only [Array.toList_append, List.append_assoc]
        rw [← List.append_assoc, ← hlen]
        exact List.take_left
    rcases hown.2 with ⟨rfl, rfl⟩ | ⟨g, cap, cur, rfl, hbg, hg, hnc, hcm, hcs, htake⟩
    · have hl0 : l = [] := List.eq_nil_of_length_eq_zero hll
      subst hl0
      have hr := Lib.run_append_nil_zeros (P := P) w t tn ty e i (.int .u8 0) kq kn ht htn hi hz k hk (by omega) (by omega) (by rw [hby]; omega)
      have hgr := grown 0 (by omega) (fun j => some j = Value.ownBlock (.slice none 0 0))
      rw [hzc] at hr
      simp only [Nat.zero_add, bts, List.map_nil, Array.empty_append] at hgr hr ⊢
      exact ⟨_, _, hr, hgr.1, hgr.2⟩
    · by_cases hroom : n + k ≤ cap
      · have hfit : n + (bts (List.replicate k 0)).length ≤ cur.size := by rw [bts_length, List.length_replicate]; omega
        have hst := run_storeCells_at P g n e (bts (List.replicate k 0)) 0 cur w hg (by simpa using hfit) (bts_one _)
        simp only [Nat.add_zero] at hst
        refine ⟨.slice (some ⟨g, 0, none⟩) (n + k) cap, w.setRow g (cur.toList.take n ++ bts (List.replicate k 0) ++ cur.toList.drop (n + (bts (List.replicate k 0)).length)).toArray, ?_, ⟨by rw [bts_append]; exact hlen, .inr ⟨g, cap, _, rfl, hbg, setRow_heap w g cur _ e _ hg, hroom, hcm, ?_, ?_⟩⟩, ?_⟩
        · simp [Builtin.append_, run_underlying ht, run_underlying htn, sizeOf, typeInfo, zeroValue, hi, hz, hsz, hby, asInt, asIntOf, hw, hneg, h48, hk0, hroom, hzc, Addr.add_lit, hst]
        · simp only [List.size_toArray, List.length_append, List.length_take, List.length_drop, Array.length_toList]
          omega
        · rw [Nat.mul_one] at htake ⊢
          rw [bts_append, htake, show n + k = (bts l ++ bts (List.replicate k 0)).length by rw [hlen, Nat.mul_one]]
          exact List.take_left
        · exact ⟨rfl, rfl, rfl, by simp, fun j _ hj => setRow_other w g j _ (fun e => hj (by simp [Value.ownBlock, e]))⟩
      · have holds : ∀ j u, (bts l)[j]? = some u → w.drew.cell? ((⟨g, 0, none⟩ : Addr).add j) = some u := hown.cells (g := g) rfl
        have hfc := run_firstCells_some (P := P) w.drew 1 n ⟨g, 0, none⟩ n cap (bts l) (by rw [bts_length, hll, Nat.mul_one]) holds
        rw [← hsz] at hfc
        have hr := Lib.run_append_grow_zeros (P := P) w t tn ty e i (.int .u8 0) kq kn ht htn hi hz (some ⟨g, 0, none⟩) n cap (bts l) hfc k hk (by omega) (by omega) (by omega) (by rw [hby]; omega) (growslice_fits (by omega) (by rw [hby]; omega))
        have hgr := grown cap (by omega) (fun j => some j = Value.ownBlock (.slice (some ⟨g, 0, none⟩) n cap))
        rw [hzc] at hr
        exact ⟨_, _, hr, hgr.1, hgr.2⟩
theorem wpList_append_zeros {P : Program} {ops : Array Oper} {rest : List Oper} {o : Oper} {a : Act} {w : World} {Q : Exit → Act → World → Prop} {t tn e : TypeId} {s x : Operand} {l : List UInt8} {base n k : Nat} {v : Value} {kq kn : IntKind} {zk : Int}
    (hg : o.guard = none) (ho : o.op = .call { callee := .builtin .append, args := #[s, x], argTypes := #[t, tn] }) (ht : P.underlying t = some (.slice e)) (htn : P.underlying tn = some (.int kn)) (hinfo : (P.info? e).map (fun i => (i.zero, i.size, i.bytes)) = some (some (.int .u8 0), 1, 1))
    (hs : a.eval s = v) (hx : a.eval x = .int kq zk) (ek : zk = (k : Int)) (hown : w.ownsRow base e 1 v n (bts l)) (h63 : n + k ≤ 70368744177664) (hbase : base ≤ w.heap.size)
    (h : ∀ v' w', w'.ownsRow base e 1 v' (n + k) (bts (l ++ List.replicate k 0)) → Fr (fun i => some i = v.ownBlock) w w' → wpList P ops Q rest (a.put o.dst v') w') : wpList P ops Q (o :: rest) a w := by
  subst ek
  obtain ⟨i, hi, hz, hsz, hby⟩ := info_parts hinfo
  obtain ⟨v', w', hr, h1, h2⟩ := run_append_zeros (P := P) w base t tn o.type e i kq kn ht htn hi hz hsz hby v n k l hown h63 hbase
  exact Lib.wpList_append_run w hg s x t tn ho v (.int kq (k : Int)) hs hx v' w' hr (h v' w' h1 h2)
end Go
