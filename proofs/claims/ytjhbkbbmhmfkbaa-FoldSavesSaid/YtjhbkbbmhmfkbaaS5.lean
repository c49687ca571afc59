/- More contracts of the functions of layer 6's laws. -/
import Derived.Test.YtjhbkbbmhmfkbaaS4
namespace VL
open Go
attribute [local irreducible] CallsV
variable {h : Heap}
/-- Rows of rows: each a slice by value of full room. -/
def encI2 (l : List (List Nd)) : Rows := l.map fun x => [IV.vs 3 (encN x) .full]
theorem encI2_append {a b : List (List Nd)} : encI2 a ++ encI2 b = encI2 (a ++ b) := by simp [encI2]
def leavesF (l : List Run) : List (List Nd) := l.map fun r => [leaf r]
def leavesJ (l : List Run) (tag : Tag) (h : Heap) : Inv (Nat × Nat) where
  E := fun | (i, t) => [(3, .vs 1 (encI2 (leavesF (l.take i))) (.own t)), (6, .vs 2 (encR l) tag), (7, .int .i64 (encR l).length), (8, .int .i64 i)]
  L _ := []
  H := fun | (_, t) => h.addT t
  ok := fun | (i, t) => i ≤ l.length ∧ h.tok t = false
  meas := fun | (i, _) => l.length - i
theorem leaves_c {l : List Run} {tag : Tag} (hl : l.length ≤ 1048576) :
    CallsV Go.Proofs.Try.prog 17 [.vs 2 (encR l) tag] h (fun x h' => x = .vs 1 (encI2 (leavesF l)) .ro ∧ h' = h) := by
  refine callsV_of_vc hP k17 ?_
  have hla := encR_len (l := l)
  repeat' ((conv => whnf); first
    | (refine br_intro (fun hc => ?_) (fun hc => ?_) <;> (try simp only [decide_eq_true_eq, decide_eq_false_iff_not, if_true, if_false, Bool.and_true, Bool.not_eq_true', Bool.not_eq_false', Bool.and_eq_true, Bool.and_eq_false_iff, beq_iff_eq, beq_eq_false_iff_ne, ne_eq] at hc) <;> (try (exfalso; omega)))
    | (refine optK_intro (by first | assumption | exact hput_same | fail) ?_)
    | (refine fun t ht => ?_)
    | (refine And.intro (by first | exact rfl | exact addT_same | omega | exact Nat.le_of_ble_eq_true rfl | decide | exact ⟨by omega, by omega⟩ | (simp; done) | (simp; omega; done) | fail) ?_)
    | fail)
  all_goals (conv => whnf)
  refine loop_rule (leavesJ l tag h) (0, t) ⟨⟨by simp, ht⟩, ⟨rfl, rfl, rfl, rfl, trivial⟩, trivial, Heap.sub_refl _⟩ (fun s hs => ?_)
  obtain ⟨i, t⟩ := s
  obtain ⟨i1, i2⟩ := hs
  have hlo : (encI2 (leavesF (l.take i))).length ≤ l.length := by simp only [encI2, leavesF, List.length_map, List.length_take]; omega
  rcases Nat.lt_or_ge i l.length with hlt | hge
  · have hget := encR_get hlt
    repeat' ((conv => whnf); first
      | (refine br_intro (fun hc => ?_) (fun hc => ?_) <;> (try simp only [decide_eq_true_eq, decide_eq_false_iff_not] at hc) <;> (try (exfalso; omega)))
      | (refine optK_intro (by first | assumption | exact hput_same | fail) ?_)
      | (refine call_pure (leaf_c (r := l[i])) ?_)
      | (refine fun t ht => ?_)
      | (refine And.intro (by first | exact rfl | exact addT_same | omega | exact Nat.le_of_ble_eq_true rfl | decide | exact ⟨by omega, by omega⟩ | (simp; done) | (simp; omega; done) | fail) ?_)
      | fail)
    all_goals (conv => whnf)
    refine ⟨(i + 1, t), ?_, ⟨?_, addT_none ht⟩, ⟨?_, rfl, rfl, rfl, trivial⟩, trivial, swapT_sub i2⟩
    · show l.length - (i + 1) < l.length - i
      omega
    · omega
    · show some (IV.vs _ _ _) = some (IV.vs _ _ _)
      congr 2
      rw [List.take_add_one, List.getElem?_eq_getElem hlt]
      simp only [leavesF, List.map_append, ← encI2_append]
      rfl
  · repeat' ((conv => whnf); first
      | (refine br_intro (fun hc => ?_) (fun hc => ?_) <;> (try simp only [decide_eq_true_eq, decide_eq_false_iff_not] at hc) <;> (try (exfalso; omega)))
      | (refine optK_intro (by first | assumption | exact hput_same | fail) ?_)
      | (refine fun t ht => ?_)
      | (refine And.intro (by first | exact rfl | exact addT_same | omega | exact Nat.le_of_ble_eq_true rfl | decide | exact ⟨by omega, by omega⟩ | (simp; done) | (simp; omega; done) | fail) ?_)
      | fail)
    all_goals (conv => whnf)
    have he : l.take i = l := List.take_of_length_le (by omega)
    refine ⟨_, addT_sub, ?_, rfl⟩
    show IV.vs _ _ _ = IV.vs _ _ _
    rw [he]
end VL
