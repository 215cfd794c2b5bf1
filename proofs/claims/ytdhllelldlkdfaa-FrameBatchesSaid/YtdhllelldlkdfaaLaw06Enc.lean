/- FrameEncodes: the walk. -/
import Derived.Test.YtdhllelldlkdfaaFrame6
namespace Go.Proofs.Ytdhllelldlkdfaa
open Go.RowKit

def encZ (g s : Int) (d : List UInt8) : List UInt8 := if mayF g s d.length then encN g.toNat s.toNat d else []
theorem mayF_parts {g s : Int} {n : Nat} (h : mayF g s n = true) : mayN g = true ∧ mayN s = true ∧ n ≤ 65536 ∧ (0 ≤ g ∧ g ≤ 1152921504606846976) ∧ (0 ≤ s ∧ s ≤ 1152921504606846976) := by
  simp only [mayF, mayN, Bool.and_eq_true, decide_eq_true_eq] at h
  obtain ⟨⟨⟨a, b⟩, c, d⟩, e⟩ := h
  refine ⟨by simp [mayN, a, b], by simp [mayN, c, d], by omega, ⟨a, b⟩, ⟨c, d⟩⟩
theorem encR_any {w : World} (g s : Int) (v : Value) (d : List UInt8) (hv : Rd w v d) :
    Calls Try.prog 10 #[.agg #[.int .i64 g, .int .i64 s, v]] w fun e w' => ∃ v', e = .returned v' ∧ Rd w' v' (encZ g s d) ∧ Below w.heap.size w w' := by
  by_cases hf : mayF g s d.length = true
  · obtain ⟨h1, h2, h3, ⟨h4, _⟩, h5, _⟩ := mayF_parts hf
    obtain ⟨g, rfl⟩ := Int.eq_ofNat_of_zero_le h4
    obtain ⟨s, rfl⟩ := Int.eq_ofNat_of_zero_le h5
    refine (enc_any g s v d hv h1 h2 h3).mono ?_
    rintro e w' ⟨v', n, rfl, o, hb⟩
    refine ⟨v', rfl, ?_, hb⟩
    rw [encZ, if_pos hf]
    exact Rd.of_own o
  · rw [Bool.not_eq_true] at hf
    refine (enc_none g s v d hv hf).mono ?_
    rintro e w' ⟨rfl, hb⟩
    refine ⟨_, rfl, ?_, hb⟩
    rw [encZ, if_neg (by rw [hf]; exact Bool.false_ne_true)]
    exact Rd.nil _
theorem rencR_any {w : World} (g s : Int) (v : Value) (d : List UInt8) (hv : Rd w v d) :
    Calls Try.prog 11 #[.agg #[.int .i64 g, .int .i64 s, v]] w fun e w' => ∃ v', e = .returned v' ∧ Rd w' v' (encZ g s d) ∧ Below w.heap.size w w' := by
  by_cases hf : mayF g s d.length = true
  · obtain ⟨h1, h2, h3, ⟨h4, h6⟩, h5, h7⟩ := mayF_parts hf
    obtain ⟨g, rfl⟩ := Int.eq_ofNat_of_zero_le h4
    obtain ⟨s, rfl⟩ := Int.eq_ofNat_of_zero_le h5
    refine (renc_any g s v d hv hf (by omega) (by omega) h3).mono ?_
    rintro e w' ⟨v', n, rfl, o, hb⟩
    refine ⟨v', rfl, ?_, hb⟩
    rw [encZ, if_pos hf]
    exact Rd.of_own o
  · rw [Bool.not_eq_true] at hf
    refine (renc_none g s v d hv hf).mono ?_
    rintro e w' ⟨rfl, hb⟩
    refine ⟨_, rfl, ?_, hb⟩
    rw [encZ, if_neg (by rw [hf]; exact Bool.false_ne_true)]
    exact Rd.nil _

set_option maxHeartbeats 3000000 in
set_option maxRecDepth 100000 in
theorem encodes_walk (g s z : Int) (v : Value) (d : List UInt8) (w : World) (hv : Rd w v d) (hz : -9223372036854775808 ≤ z ∧ z ≤ 9223372036854775807) :
    Calls Try.prog 3 #[.agg #[.int .i64 g, .int .i64 s, v], .int .i64 z] w fun e w' => e = .returned (.bool true) ∧ Below w.heap.size w w' := by
  obtain ⟨A, c, rfl⟩ := hv.slice
  have hm := hv.max
  have hB := (Below.refl w.heap.size w).alloc (Nat.le_refl _) (.cells #[.int .i64 g, .int .i64 s, .slice A d.length c] 24)
  have hb := Blk.new w #[.int .i64 g, .int .i64 s, .slice A d.length c] 24
  have hv := hv.below hB
  go_enter Try.func3, Try.ntmps3
  go_upto_region 1 with fail
  generalize w.alloc (.cells #[.int .i64 g, .int .i64 s, .slice A d.length c] 24) = w1 at *
  generalize hb0 : w.heap.size = B at *
  have HB := Lib.hid hb0
  clear hb0
  go_wp2_with fail
  refine (awake_any w1).mono ?_
  rintro e w2 ⟨rfl, hb2⟩
  have hs1 := hB.size
  rw [HB.out] at hs1
  replace hB := hB.trans (hb2.mono hs1)
  replace hb := hb.fr (Fr.of_below hb2 (fun _ => False)) (fun h => h)
  replace hv := hv.below hb2
  have c2 := hb.cell 2
  simp only [List.getElem?_toArray, List.getElem?_cons_zero, List.getElem?_cons_succ] at c2
  clear hb2 hs1
  by_cases h7 : 70000 < d.length
  · have h7I : (70000 : Int) < (d.length : Int) := by omega
    go_wp2_with fail
    go_ret
    exact ⟨rfl, by rw [HB.out]; exact hB⟩
  have h7I : decide ((70000 : Int) < (d.length : Int)) = false := decide_eq_false (by omega)
  go_wp2_with fail
  refine wp_region_float (Fr (fun _ => False)) [(0, 0), (1, 0), (2, 1), (5, 1), (3, 2), (4, 1), (6, 2), (7, 1), (8, 0), (9, 0), (10, 0), (11, 0), (13, 0), (12, 2), (14, 2), (15, 0), (16, 0), (17, 0)] _ (by kernel_rfl) (by kernel_rfl) (by simp only [List.map_cons, List.map_nil, Array.getD_eq_getD_getElem?, List.getElem?_toArray, List.getElem?_cons_succ, List.getElem?_cons_zero, Option.getD_some]; rfl) rfl (by kernel_rfl) (fun _ _ d _ _ h => by cases d <;> exact h) (Fr.refl _) (fun _ _ _ => Fr.trans) ?_
  replace hb : Blk w2.drew B #[.int .i64 g, .int .i64 s, .slice A d.length c] 24 := hb
  replace hv := hv.drew
  replace hB := hB.drew
  generalize w2.drew = w3 at *
  have hra : w3.rangeAt B 0 [.int .i64 g, .int .i64 s, .slice A d.length c] := hb.range' 0 _ (fun j v hv => by rw [Nat.zero_add]; simpa using hv)
  have hl3 : ([.int .i64 g, .int .i64 s, .slice A d.length c] : List Value).length = 3 := rfl
  clear c2
  repeat (first | (refine wpF_f0 (fun K hK => ?_); go_simp; refine hK _ ?_; clear hK K) | (refine wpF_load1 rfl rfl rfl (by kernel_rfl) (by assumption) (by simp) (fun K hK => ?_); go_simp; refine hK _ ?_; clear hK K) | (refine wpF_str rfl rfl rfl (by assumption) (by simp) (by kernel_rfl) (by kernel_rfl) (fun K hK => ?_); go_simp; refine hK _ ?_; clear hK K))
  refine wpF_loadN (n := 3) rfl rfl rfl hra hl3 (by kernel_rfl) (by kernel_rfl) (by simp) (fun K hK => ?_)
  go_simp
  refine hK _ ?_
  clear hK K
  repeat (first | (refine wpF_f0 (fun K hK => ?_); go_simp; refine hK _ ?_; clear hK K) | (refine wpF_load1 rfl rfl rfl (by kernel_rfl) (by assumption) (by simp) (fun K hK => ?_); go_simp; refine hK _ ?_; clear hK K) | (refine wpF_str rfl rfl rfl (by assumption) (by simp) (by kernel_rfl) (by kernel_rfl) (fun K hK => ?_); go_simp; refine hK _ ?_; clear hK K))
  refine wpF_loadN (n := 3) rfl rfl rfl hra hl3 (by kernel_rfl) (by kernel_rfl) (by simp) (fun K hK => ?_)
  go_simp
  refine hK _ ?_
  clear hK K
  repeat (first | (refine wpF_f0 (fun K hK => ?_); go_simp; refine hK _ ?_; clear hK K) | (refine wpF_load1 rfl rfl rfl (by kernel_rfl) (by assumption) (by simp) (fun K hK => ?_); go_simp; refine hK _ ?_; clear hK K) | (refine wpF_str rfl rfl rfl (by assumption) (by simp) (by kernel_rfl) (by kernel_rfl) (fun K hK => ?_); go_simp; refine hK _ ?_; clear hK K))
  refine wpF_a2 (fun K hK => ?_); rw [if_pos (by rfl)]
  go_simp
  refine (encR_any g s _ d hv).mono ?_
  rintro e w4 ⟨v4, rfl, r4, hb4⟩
  have hs3 := hB.size
  rw [HB.out] at hs3
  replace hB := hB.trans (hb4.mono hs3)
  replace hv := hv.below hb4
  refine hK _ _ (Fr.of_below hb4 _) ?_
  clear hK K hb4 hs3 hra hl3 hb
  repeat (first | (refine wpF_f0 (fun K hK => ?_); go_simp; refine hK _ ?_; clear hK K) | (refine wpF_load1 rfl rfl rfl (by kernel_rfl) (by assumption) (by simp) (fun K hK => ?_); go_simp; refine hK _ ?_; clear hK K) | (refine wpF_str rfl rfl rfl (by assumption) (by simp) (by kernel_rfl) (by kernel_rfl) (fun K hK => ?_); go_simp; refine hK _ ?_; clear hK K))
  refine wpF_a2 (fun K hK => ?_); rw [if_pos (by rfl)]
  go_simp
  refine (rencR_any (w := w4) g s _ d hv).mono ?_
  rintro e w5 ⟨v5, rfl, r5, hb5⟩
  have hs4 := hB.size
  rw [HB.out] at hs4
  replace hB := hB.trans (hb5.mono hs4)
  refine hK _ _ (Fr.of_below hb5 _) ?_
  clear hK K hb5 hs4 r4
  generalize encZ g s d = X at *
  repeat (first | (refine wpF_f0 (fun K hK => ?_); go_simp; refine hK _ ?_; clear hK K) | (refine wpF_load1 rfl rfl rfl (by kernel_rfl) (by assumption) (by simp) (fun K hK => ?_); go_simp; refine hK _ ?_; clear hK K) | (refine wpF_str rfl rfl rfl (by assumption) (by simp) (by kernel_rfl) (by kernel_rfl) (fun K hK => ?_); go_simp; refine hK _ ?_; clear hK K))
  refine wpF_a2 (fun K hK => ?_); rw [if_pos (by rfl)]
  go_simp
  refine (size_any (w := w5) z hz).mono ?_
  rintro e w6 ⟨rfl, hb6⟩
  have hs5 := hB.size
  rw [HB.out] at hs5
  replace hB := hB.trans (hb6.mono hs5)
  refine hK _ _ (Fr.of_below hb6 _) ?_
  clear hK K hb6 hs5
  repeat (first | (refine wpF_f0 (fun K hK => ?_); go_simp; refine hK _ ?_; clear hK K) | (refine wpF_load1 rfl rfl rfl (by kernel_rfl) (by assumption) (by simp) (fun K hK => ?_); go_simp; refine hK _ ?_; clear hK K) | (refine wpF_str rfl rfl rfl (by assumption) (by simp) (by kernel_rfl) (by kernel_rfl) (fun K hK => ?_); go_simp; refine hK _ ?_; clear hK K))
  refine wpF_a2 (fun K hK => ?_); rw [if_pos (by rfl)]
  go_simp
  refine (rsize_any (w := w6) z hz).mono ?_
  rintro e w7 ⟨rfl, hb7⟩
  have hs6 := hB.size
  rw [HB.out] at hs6
  replace hB := hB.trans (hb7.mono hs6)
  refine hK _ _ (Fr.of_below hb7 _) ?_
  clear hK K hb7 hs6
  repeat (first | (refine wpF_f0 (fun K hK => ?_); go_simp; refine hK _ ?_; clear hK K) | (refine wpF_load1 rfl rfl rfl (by kernel_rfl) (by assumption) (by simp) (fun K hK => ?_); go_simp; refine hK _ ?_; clear hK K) | (refine wpF_str rfl rfl rfl (by assumption) (by simp) (by kernel_rfl) (by kernel_rfl) (fun K hK => ?_); go_simp; refine hK _ ?_; clear hK K))
  refine wpF_nil ?_
  go_wp2_with fail
  go_ret
  exact ⟨rfl, by rw [HB.out]; exact hB⟩
end Go.Proofs.Ytdhllelldlkdfaa
