/- The contracts of Grow. -/
import Derived.Test.YtjhbkbbmhmfkbaaS6
namespace VL
open Go
attribute [local irreducible] CallsV
variable {h : Heap}
theorem grow34_0 : CallsV Go.Proofs.Try.prog 34 [.vs 3 [] .full, .int .i64 0] h (fun r h' => r = .vs 3 [] .full ∧ h' = h) := by
  refine callsV_of_vc hP k34 ?_
  repeat' ((conv => whnf); first
    | (refine br_intro (fun hc => ?_) (fun hc => ?_) <;> (try simp only [decide_eq_true_eq, decide_eq_false_iff_not, if_true, if_false, Bool.and_true, Bool.not_eq_true', Bool.not_eq_false', Bool.and_eq_true, Bool.and_eq_false_iff, beq_iff_eq, beq_eq_false_iff_ne, ne_eq] at hc) <;> (try (exfalso; omega)))
    | (refine optK_intro (by first | assumption | exact hput_same | fail) ?_)
    | (refine fun t ht => ?_)
    | (refine And.intro (by first | exact rfl | exact addT_same | omega | exact Nat.le_of_ble_eq_true rfl | decide | exact ⟨by omega, by omega⟩ | (simp; done) | (simp; omega; done) | fail) ?_)
    | fail)
  all_goals (conv => whnf)
  exact ⟨_, Heap.sub_refl _, rfl, rfl⟩
theorem grow34_1 {k : Int} (h0 : 0 < k) (h1 : k ≤ 1073741824) : CallsV Go.Proofs.Try.prog 34 [.vs 3 [] .full, .int .i64 k] h
    (fun r h' => ∃ id, h.obj id = none ∧ r = .rs 3 id 0 ∧ h' = h.put id (List.replicate k.toNat [.int .i64 0, .int .i64 0, .int .i64 0])) := by
  refine callsV_of_vc hP k34 ?_
  repeat' ((conv => whnf); first
    | (refine br_intro (fun hc => ?_) (fun hc => ?_) <;> (try simp only [decide_eq_true_eq, decide_eq_false_iff_not] at hc) <;> (try (exfalso; omega)))
    | (refine optK_intro (by first | assumption | exact hput_same | fail) ?_)
    | (refine fun t ht => ?_)
    | (refine And.intro (by first | exact rfl | exact addT_same | omega | exact Nat.le_of_ble_eq_true rfl | decide | exact ⟨by omega, by omega⟩ | (simp; done) | (simp; omega; done) | fail) ?_)
    | fail)
  all_goals (conv => whnf)
  refine ⟨_, Heap.sub_refl _, t, ht, rfl, ?_⟩
  have e : (k - (((([] : Rows).length : Nat) : Int) - ((([] : Rows).length : Nat) : Int))).toNat = k.toNat := by simp
  rw [e]
theorem grow35_0 : CallsV Go.Proofs.Try.prog 35 [.vs 1 [] .full, .int .i64 0] h (fun r h' => r = .vs 1 [] .full ∧ h' = h) := by
  refine callsV_of_vc hP k35 ?_
  repeat' ((conv => whnf); first
    | (refine br_intro (fun hc => ?_) (fun hc => ?_) <;> (try simp only [decide_eq_true_eq, decide_eq_false_iff_not, if_true, if_false, Bool.and_true, Bool.not_eq_true', Bool.not_eq_false', Bool.and_eq_true, Bool.and_eq_false_iff, beq_iff_eq, beq_eq_false_iff_ne, ne_eq] at hc) <;> (try (exfalso; omega)))
    | (refine optK_intro (by first | assumption | exact hput_same | fail) ?_)
    | (refine fun t ht => ?_)
    | (refine And.intro (by first | exact rfl | exact addT_same | omega | exact Nat.le_of_ble_eq_true rfl | decide | exact ⟨by omega, by omega⟩ | (simp; done) | (simp; omega; done) | fail) ?_)
    | fail)
  all_goals (conv => whnf)
  exact ⟨_, Heap.sub_refl _, rfl, rfl⟩
theorem grow35_1 {k : Int} (h0 : 0 < k) (h1 : k ≤ 1073741824) : CallsV Go.Proofs.Try.prog 35 [.vs 1 [] .full, .int .i64 k] h
    (fun r h' => ∃ id, h.obj id = none ∧ r = .rs 1 id 0 ∧ h' = h.put id (List.replicate k.toNat [.vs 3 [] .full])) := by
  refine callsV_of_vc hP k35 ?_
  repeat' ((conv => whnf); first
    | (refine br_intro (fun hc => ?_) (fun hc => ?_) <;> (try simp only [decide_eq_true_eq, decide_eq_false_iff_not] at hc) <;> (try (exfalso; omega)))
    | (refine optK_intro (by first | assumption | exact hput_same | fail) ?_)
    | (refine fun t ht => ?_)
    | (refine And.intro (by first | exact rfl | exact addT_same | omega | exact Nat.le_of_ble_eq_true rfl | decide | exact ⟨by omega, by omega⟩ | (simp; done) | (simp; omega; done) | fail) ?_)
    | fail)
  all_goals (conv => whnf)
  refine ⟨_, Heap.sub_refl _, t, ht, rfl, ?_⟩
  have e : (k - (((([] : Rows).length : Nat) : Int) - ((([] : Rows).length : Nat) : Int))).toNat = k.toNat := by simp
  rw [e]
end VL
