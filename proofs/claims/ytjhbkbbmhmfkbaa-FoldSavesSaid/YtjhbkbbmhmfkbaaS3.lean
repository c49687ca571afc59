/- More contracts of the functions of layer 6's laws. -/
import Derived.Test.YtjhbkbbmhmfkbaaS2
namespace VL
open Go
attribute [local irreducible] CallsV
variable {h : Heap}
theorem encR_append {a b : List Run} : encR a ++ encR b = encR (a ++ b) := by simp [encR]
def rep (l : List Run) : Nat → List Run → List Run
  | 0, out => out
  | k + 1, out => if out.length + l.length < 90 then rep l k (out ++ l) else out
def againF (a l b : List Run) (n : Int) : List Run := rep l n.toNat a ++ b
def againJ (a l b : List Run) (tl tb : Tag) (n : Int) (h : Heap) : Inv (Nat × List Run × Nat) where
  E := fun | (i, out, t) => [(1, .vs 2 (encR l) tl), (2, .vs 2 (encR b) tb), (3, .int .i64 n), (9, .vs 2 (encR out) (.own t)), (10, .int .i64 i)]
  L _ := []
  H := fun | (_, _, t) => h.addT t
  ok := fun | (i, out, t) => (i : Int) ≤ n ∧ rep l (n.toNat - i) out = rep l n.toNat a ∧ out.length ≤ a.length + 90 ∧ h.tok t = false
  meas := fun | (i, _, _) => n.toNat - i
theorem again_c {a l b : List Run} {ta tl tb : Tag} {n : Int} (ha : a.length ≤ 1048576) (hl : l.length ≤ 1048576) (hb : b.length ≤ 1048576) (hn : 0 ≤ n) (hn2 : n ≤ 1048576) :
    CallsV Go.Proofs.Try.prog 7 [.vs 2 (encR a) ta, .vs 2 (encR l) tl, .vs 2 (encR b) tb, .int .i64 n] h (fun x h' => x = .vs 2 (encR (againF a l b n)) .ro ∧ h' = h) := by
  refine callsV_of_vc hP k7 ?_
  have hla := encR_len (l := a)
  have hll := encR_len (l := l)
  have hlb := encR_len (l := b)
  repeat' ((conv => whnf); first
    | (refine br_intro (fun hc => ?_) (fun hc => ?_) <;> (try simp only [decide_eq_true_eq, decide_eq_false_iff_not, if_true, if_false, Bool.and_true, Bool.not_eq_true', Bool.not_eq_false', Bool.and_eq_true, Bool.and_eq_false_iff, beq_iff_eq, beq_eq_false_iff_ne, ne_eq] at hc) <;> (try (exfalso; omega)))
    | (refine optK_intro (by first | assumption | exact hput_same | fail) ?_)
    | (refine fun t ht => ?_)
    | (refine And.intro (by first | exact rfl | exact addT_same | omega | exact Nat.le_of_ble_eq_true rfl | decide | exact ⟨by omega, by omega⟩ | (simp; done) | (simp; omega; done) | fail) ?_)
    | fail)
  all_goals (conv => whnf)
  refine loop_rule (againJ a l b tl tb n h) (0, a, t) ⟨⟨by show (0 : Int) ≤ n; omega, by simp, by simp, ht⟩, ⟨rfl, rfl, rfl, rfl, rfl, trivial⟩, trivial, Heap.sub_refl _⟩ (fun s hs => ?_)
  obtain ⟨i, out, t⟩ := s
  obtain ⟨h1, h2, h3, h4⟩ := hs
  have hlo := encR_len (l := out)
  repeat' ((conv => whnf); first
    | (refine br_intro (fun hc => ?_) (fun hc => ?_) <;> (try simp only [decide_eq_true_eq, decide_eq_false_iff_not] at hc) <;> (try (exfalso; omega)))
    | (refine optK_intro (by first | assumption | exact hput_same | fail) ?_)
    | (refine fun t ht => ?_)
    | (refine And.intro (by first | exact rfl | exact addT_same | omega | exact Nat.le_of_ble_eq_true rfl | decide | exact ⟨by omega, by omega⟩ | (simp; done) | (simp; omega; done) | fail) ?_)
    | fail)
  all_goals (conv => whnf)
  · have hstep : rep l (n.toNat - (i + 1)) (out ++ l) = rep l n.toNat a := by
      rw [← h2]
      have e1 : n.toNat - i = (n.toNat - (i + 1)) + 1 := by omega
      rw [e1]
      simp only [rep]
      rw [if_pos (by omega)]
    refine ⟨(i + 1, out ++ l, t), ?_, ⟨?_, hstep, ?_, addT_none ht⟩, ⟨rfl, rfl, rfl, ?_, rfl, trivial⟩, trivial, swapT_sub h4⟩
    · show n.toNat - (i + 1) < n.toNat - i
      omega
    · omega
    · rw [List.length_append]; omega
    · show some (IV.vs _ _ _) = some (IV.vs _ _ _)
      rw [encR_append]
  · have he : rep l n.toNat a = out := by
      rw [← h2]
      have e1 : n.toNat - i = (n.toNat - (i + 1)) + 1 := by omega
      rw [e1]
      simp only [rep]
      rw [if_neg (by omega)]
    refine ⟨h, Heap.sub_trans addT_sub (swapT_sub h4), ?_, rfl⟩
    show IV.vs _ _ _ = IV.vs _ _ _
    rw [encR_append]; unfold againF; rw [he]
  · have he : rep l n.toNat a = out := by
      rw [← h2]
      have e1 : n.toNat - i = 0 := by omega
      rw [e1]
      rfl
    refine ⟨h, Heap.sub_trans addT_sub (swapT_sub h4), ?_, rfl⟩
    show IV.vs _ _ _ = IV.vs _ _ _
    rw [encR_append]; unfold againF; rw [he]
end VL
