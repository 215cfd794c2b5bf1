/- The document's text, one. -/
import Derived.Test.YtdhllelldlkdfaaFrame18
import Derived.Test.YtdhllelldlkdfaaK12
namespace Go.Proofs.Ytdhllelldlkdfaa
open Go.RowKit

def TextP (B : Nat) (w : World) (v : Value) (o : Option (List UInt8 × List UInt8)) (e : Ending) (w' : World) : Prop := Below B w w' ∧ match o with
  | some (k, r) => ∃ v1 v2, e = .returned (.tuple #[v1, v2, .bool true]) ∧ w'.ownsRow B 5 1 v1 k.length (bts k) ∧ Rd w' v2 r ∧ v2.ownBlock = v.ownBlock
  | none => e = .returned (.tuple #[.slice none 0 0, .slice none 0 0, .bool false])
set_option maxHeartbeats 2000000 in
theorem rtext_any {w : World} (v : Value) (b : List UInt8) (hv : Rd w v b) (hm : b.length < 10000000) :
    Calls Try.prog 48 #[v] w (TextP w.heap.size w v (textN b)) := by
  obtain ⟨A, c, rfl⟩ := hv.slice
  obtain ⟨hg1, hg2⟩ := getN_le b
  have hc := rget_any _ b hv
  have h1 : (getN b).1 < 9223372036854775808 := by have : (128 : Nat) ^ 9 = 9223372036854775808 := by decide
                                                   omega
  have HC := Lib.hid hc
  have ht : textN b = if 0 < (getN b).2 ∧ (getN b).1 ≤ b.length - (getN b).2 then some ((b.drop (getN b).2).take (getN b).1, (b.drop (getN b).2).drop (getN b).1) else none := by
    rw [textN, manyN]
    split <;> rename_i h <;> split at h <;> simp_all
  rw [ht]
  clear hc ht
  generalize (getN b).1 = x at *
  generalize (getN b).2 = k at *
  clear hg2
  go_enter Try.func48, Try.ntmps48
  by_cases h0 : 0 < k
  · have hi2 : ((k : Int) == 0) = false := beq_eq_false_iff_ne.2 (by omega)
    have hi3 : (k == 0) = false := beq_eq_false_iff_ne.2 (by omega)
    by_cases hk2 : x ≤ b.length - k
    · have hi1 : decide (b.length - k < x) = false := decide_eq_false (by omega)
      have hi4 : decide ((b.length : Int) - (k : Int) < (x : Int)) = false := decide_eq_false (by omega)
      rw [if_pos ⟨h0, hk2⟩]
      go_wp2_with (go_at_call 36; refine HC.out.mono ?_; rintro e w1 ⟨rfl, rfl⟩)
      refine wp_region_float (Fr (fun _ => False)) [(0, 0), (1, 0), (2, 0), (3, 0), (4, 0), (5, 0), (7, 0), (8, 0), (9, 0), (10, 0), (11, 0), (6, 3), (12, 0), (13, 0), (14, 0)] _ (by kernel_rfl) (by kernel_rfl) (by simp only [List.map_cons, List.map_nil, Array.getD_eq_getD_getElem?, List.getElem?_toArray, List.getElem?_cons_succ, List.getElem?_cons_zero, Option.getD_some]; rfl) rfl (by kernel_rfl) (fun _ _ d _ _ h => by cases d <;> exact h) (Fr.refl _) (fun _ _ _ => Fr.trans) ?_
      replace hv := hv.drew
      have hB := (Below.refl w1.heap.size w1).drew
      generalize hw2 : w1.drew = w2 at *
      have hsz : w2.heap.size = w1.heap.size := by rw [← hw2]; rfl
      clear hw2 hi1 hi4 hi2 hi3
      repeat (first | (refine wpF_f0 (fun K hK => ?_); go_simp; refine hK _ ?_; clear hK K) | (refine wpF_load1 rfl rfl rfl (by kernel_rfl) (by assumption) (by simp) (fun K hK => ?_); go_simp; refine hK _ ?_; clear hK K) | (refine wpF_str rfl rfl rfl (by assumption) (by simp) (by kernel_rfl) (by kernel_rfl) (fun K hK => ?_); go_simp; refine hK _ ?_; clear hK K))
      refine wpF_rd_lh rfl rfl rfl rfl rfl hv (L := k) (H := k + x) rfl (by simp only [IntKind.wrap_i64]; omega) (by omega) (by omega) Try.underlying22 infoByte1 (fun K va ra oa na hK => ?_)
      rw [show (b.take (k + x)).drop k = (b.drop k).take x by rw [List.drop_take]; congr 1; omega] at ra
      go_simp
      refine hK _ ?_
      clear hK K
      repeat (first | (refine wpF_f0 (fun K hK => ?_); go_simp; refine hK _ ?_; clear hK K) | (refine wpF_load1 rfl rfl rfl (by kernel_rfl) (by assumption) (by simp) (fun K hK => ?_); go_simp; refine hK _ ?_; clear hK K) | (refine wpF_str rfl rfl rfl (by assumption) (by simp) (by kernel_rfl) (by kernel_rfl) (fun K hK => ?_); go_simp; refine hK _ ?_; clear hK K))
      refine wpF_rd_l rfl rfl rfl rfl hv (L := k + x) (by simp only [IntKind.wrap_i64]; omega) (by omega) Try.underlying22 infoByte1 (fun K vb rb ob nb hK => ?_)
      rw [show b.drop (k + x) = (b.drop k).drop x by rw [List.drop_drop]] at rb
      go_simp
      refine hK _ ?_
      clear hK K
      refine wpF_a3 (fun K hK => ?_); rw [if_pos (by rfl)]
      refine wp_appRd (base := w1.heap.size) (l := []) (n := 0) rfl Try.underlying22 infoByte rfl rfl rfl (World.ownsRow_nil _ _ _ _) ra (by rw [List.length_take]; omega) (by omega) (fun v4 w4 o4 g4 _ => ?_)
      rw [List.nil_append, Nat.zero_add] at o4
      replace rb := rb.fr g4 (fun _ k hk e => by cases e)
      replace hB := hB.trans (g4.below (by omega) (fun k _ e => by cases e))
      go_simp
      refine hK _ _ ?_
      clear hK K
      repeat (first | (refine wpF_f0 (fun K hK => ?_); go_simp; refine hK _ ?_; clear hK K) | (refine wpF_load1 rfl rfl rfl (by kernel_rfl) (by assumption) (by simp) (fun K hK => ?_); go_simp; refine hK _ ?_; clear hK K) | (refine wpF_str rfl rfl rfl (by assumption) (by simp) (by kernel_rfl) (by kernel_rfl) (fun K hK => ?_); go_simp; refine hK _ ?_; clear hK K))
      refine wpF_nil ?_
      go_wp2_with fail
      refine bodyPost_ret (v := .tuple #[v4, vb, .bool true]) (by simp [results, Try.results48, go_sem]) rfl ?_
      exact ⟨hB, _, _, rfl, o4, rb, ob⟩
    · have hi1 : decide (b.length - k < x) = true := decide_eq_true (by omega)
      have hi4 : decide ((b.length : Int) - (k : Int) < (x : Int)) = true := decide_eq_true (by omega)
      rw [if_neg (fun h => hk2 h.2)]
      go_wp2_with (go_at_call 36; refine HC.out.mono ?_; rintro e w1 ⟨rfl, rfl⟩)
      refine bodyPost_ret (v := .tuple #[.slice none 0 0, .slice none 0 0, .bool false]) (by simp [results, Try.results48, go_sem]) rfl ?_
      exact ⟨Below.refl _ _, rfl⟩
  · obtain rfl : k = 0 := by omega
    rw [if_neg (fun h => h0 h.1)]
    go_wp2_with (go_at_call 36; refine HC.out.mono ?_; rintro e w1 ⟨rfl, rfl⟩)
    refine bodyPost_ret (v := .tuple #[.slice none 0 0, .slice none 0 0, .bool false]) (by simp [results, Try.results48, go_sem]) rfl ?_
    exact ⟨Below.refl _ _, rfl⟩
end Go.Proofs.Ytdhllelldlkdfaa
