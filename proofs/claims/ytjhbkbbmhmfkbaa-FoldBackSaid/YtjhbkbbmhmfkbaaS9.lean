/- The contracts of Concat, of nothing, and of any. -/
import Derived.Test.YtjhbkbbmhmfkbaaS8
namespace VL
open Go
attribute [local irreducible] CallsV
variable {h : Heap}
def tagOf : Option Nat → Tag
  | none => .full
  | some t => .own t
def heapOf (h : Heap) : Option Nat → Heap
  | none => h
  | some t => h.addT t
def tokOf (h : Heap) : Option Nat → Prop
  | none => True
  | some t => h.tok t = false
def catJ0 (n : Nat) (ls : List (Rows × Tag)) (tag : Tag) (h : Heap) : Inv (Nat × Option Nat) where
  E := fun | (i, o) => [(6, .vs n [] (tagOf o)), (25, .vs 1 (encL n ls) tag), (26, .int .i64 (encL n ls).length), (27, .int .i64 i)]
  L _ := []
  H := fun | (_, o) => heapOf h o
  ok := fun | (i, o) => i ≤ ls.length ∧ tokOf h o
  meas := fun | (i, _) => ls.length - i
theorem heapOf_sub {o : Option Nat} : h.sub (heapOf h o) := by
  cases o with
  | none => exact Heap.sub_refl _
  | some t => exact addT_sub
theorem flat_nil {ls : List (Rows × Tag)} (h0 : tot ls = 0) : flat ls = [] := List.eq_nil_of_length_eq_zero (by rw [flat_len]; exact h0)
theorem concat21_0 {ls : List (Rows × Tag)} {tag : Tag} (hl : ls.length ≤ 1048576) (h0 : tot ls = 0) :
    CallsV Go.Proofs.Try.prog 21 [.vs 1 (encL 3 ls) tag] h (fun r h' => r = .vs 3 (flat ls) .ro ∧ h' = h) := by
  refine callsV_of_vc hP k21 ?_
  have hle := encL_len (n := 3) (ls := ls)
  repeat' ((conv => whnf); first
    | (refine br_intro (fun hc => ?_) (fun hc => ?_) <;> (try simp only [decide_eq_true_eq, decide_eq_false_iff_not, if_true, if_false, Bool.and_true, Bool.not_eq_true', Bool.not_eq_false', Bool.and_eq_true, Bool.and_eq_false_iff, beq_iff_eq, beq_eq_false_iff_ne, ne_eq] at hc) <;> (try (exfalso; omega)))
    | (refine optK_intro (by first | assumption | exact hput_same | fail) ?_)
    | (refine fun t ht => ?_)
    | (refine And.intro (by first | exact rfl | exact addT_same | omega | exact Nat.le_of_ble_eq_true rfl | decide | exact ⟨by omega, by omega⟩ | (simp; done) | (simp; omega; done) | fail) ?_)
    | fail)
  all_goals (conv => whnf)
  refine loop_rule (catJ1 3 ls tag h) 0 ⟨by show 0 ≤ ls.length; omega, ⟨rfl, rfl, rfl, rfl, rfl, trivial⟩, trivial, Heap.sub_refl _⟩ (fun i i1 => ?_)
  have i1 : i ≤ ls.length := i1
  have ht := tot_le (ls := ls) (i := i)
  rcases Nat.lt_or_ge i ls.length with hlt | hge
  · have hget := encL_get (n := 3) hlt
    have hst := tot_take hlt
    have ht2 := tot_le (ls := ls) (i := i + 1)
    repeat' ((conv => whnf); first
      | (refine br_intro (fun hc => ?_) (fun hc => ?_) <;> (try simp only [decide_eq_true_eq, decide_eq_false_iff_not] at hc) <;> (try (exfalso; omega)))
      | (refine optK_intro (by first | assumption | exact hput_same | fail) ?_)
      | (refine fun t ht => ?_)
      | (refine And.intro (by first | exact rfl | exact addT_same | omega | exact Nat.le_of_ble_eq_true rfl | decide | exact ⟨by omega, by omega⟩ | (simp; done) | (simp; omega; done) | fail) ?_)
      | fail)
    all_goals (conv => whnf)
    refine ⟨i + 1, ?_, ?_, ⟨rfl, ?_, rfl, rfl, rfl, trivial⟩, trivial, Heap.sub_refl _⟩
    · show ls.length - (i + 1) < ls.length - i
      omega
    · show i + 1 ≤ ls.length
      omega
    · show some (IV.int _ _) = some (IV.int _ _)
      rw [hst]; simp
  · have he : ls.take i = ls := List.take_of_length_le (by omega)
    repeat' ((conv => whnf); first
      | (refine br_intro (fun hc => ?_) (fun hc => ?_) <;> (try simp only [decide_eq_true_eq, decide_eq_false_iff_not] at hc) <;> (try (exfalso; omega)))
      | (refine optK_intro (by first | assumption | exact hput_same | fail) ?_)
      | (refine fun t ht => ?_)
      | (refine And.intro (by first | exact rfl | exact addT_same | omega | exact Nat.le_of_ble_eq_true rfl | decide | exact ⟨by omega, by omega⟩ | (simp; done) | (simp; omega; done) | fail) ?_)
      | fail)
    all_goals (conv => whnf)
    rw [he, h0]
    refine call_pure grow34_0 ?_
    repeat' ((conv => whnf); first
      | (refine br_intro (fun hc => ?_) (fun hc => ?_) <;> (try simp only [decide_eq_true_eq, decide_eq_false_iff_not, if_true, if_false, Bool.and_true, Bool.not_eq_true', Bool.not_eq_false', Bool.and_eq_true, Bool.and_eq_false_iff, beq_iff_eq, beq_eq_false_iff_ne, ne_eq] at hc) <;> (try (exfalso; omega)))
      | (refine optK_intro (by first | assumption | exact hput_same | fail) ?_)
      | (refine fun t ht => ?_)
      | (refine And.intro (by first | exact rfl | exact addT_same | omega | exact Nat.le_of_ble_eq_true rfl | decide | exact ⟨by omega, by omega⟩ | (simp; done) | (simp; omega; done) | fail) ?_)
      | fail)
    all_goals (conv => whnf)
    refine loop_rule (catJ0 3 ls tag h) (0, none) ⟨⟨by omega, trivial⟩, ⟨rfl, rfl, rfl, rfl, trivial⟩, trivial, Heap.sub_refl _⟩ (fun s hs => ?_)
    obtain ⟨j, o⟩ := s
    obtain ⟨j1, j2⟩ := hs
    rcases Nat.lt_or_ge j ls.length with hlt | hge
    · have hget := encL_get (n := 3) hlt
      have hst := tot_take hlt
      have ht2 := tot_le (ls := ls) (i := j + 1)
      have he0 : ls[j].1 = [] := List.eq_nil_of_length_eq_zero (by omega)
      rw [he0] at hget
      cases o with
      | none =>
        repeat' ((conv => whnf); first
          | (refine br_intro (fun hc => ?_) (fun hc => ?_) <;> (try simp only [decide_eq_true_eq, decide_eq_false_iff_not] at hc) <;> (try (exfalso; omega)))
          | (refine optK_intro (by first | assumption | exact hput_same | fail) ?_)
          | (refine fun t ht => ?_)
          | (refine And.intro (by first | exact rfl | exact addT_same | omega | exact Nat.le_of_ble_eq_true rfl | decide | exact ⟨by omega, by omega⟩ | (simp; done) | (simp; omega; done) | fail) ?_)
          | fail)
        all_goals (conv => whnf)
        refine ⟨(j + 1, some t), ?_, ⟨by omega, ht⟩, ⟨rfl, rfl, rfl, rfl, trivial⟩, trivial, Heap.sub_refl _⟩
        show ls.length - (j + 1) < ls.length - j
        omega
      | some t0 =>
        repeat' ((conv => whnf); first
          | (refine br_intro (fun hc => ?_) (fun hc => ?_) <;> (try simp only [decide_eq_true_eq, decide_eq_false_iff_not] at hc) <;> (try (exfalso; omega)))
          | (refine optK_intro (by first | assumption | exact hput_same | fail) ?_)
          | (refine fun t ht => ?_)
          | (refine And.intro (by first | exact rfl | exact addT_same | omega | exact Nat.le_of_ble_eq_true rfl | decide | exact ⟨by omega, by omega⟩ | (simp; done) | (simp; omega; done) | fail) ?_)
          | fail)
        all_goals (conv => whnf)
        refine ⟨(j + 1, some t), ?_, ⟨by omega, addT_none ht⟩, ⟨rfl, rfl, rfl, rfl, trivial⟩, trivial, swapT_sub j2⟩
        show ls.length - (j + 1) < ls.length - j
        omega
    · repeat' ((conv => whnf); first
        | (refine br_intro (fun hc => ?_) (fun hc => ?_) <;> (try simp only [decide_eq_true_eq, decide_eq_false_iff_not] at hc) <;> (try (exfalso; omega)))
        | (refine optK_intro (by first | assumption | exact hput_same | fail) ?_)
        | (refine fun t ht => ?_)
        | (refine And.intro (by first | exact rfl | exact addT_same | omega | exact Nat.le_of_ble_eq_true rfl | decide | exact ⟨by omega, by omega⟩ | (simp; done) | (simp; omega; done) | fail) ?_)
        | fail)
      all_goals (conv => whnf)
      refine ⟨h, heapOf_sub, ?_, rfl⟩
      rw [flat_nil h0]; rfl
theorem concat22_0 {ls : List (Rows × Tag)} {tag : Tag} (hl : ls.length ≤ 1048576) (h0 : tot ls = 0) :
    CallsV Go.Proofs.Try.prog 22 [.vs 1 (encL 1 ls) tag] h (fun r h' => r = .vs 1 (flat ls) .ro ∧ h' = h) := by
  refine callsV_of_vc hP k22 ?_
  have hle := encL_len (n := 1) (ls := ls)
  repeat' ((conv => whnf); first
    | (refine br_intro (fun hc => ?_) (fun hc => ?_) <;> (try simp only [decide_eq_true_eq, decide_eq_false_iff_not, if_true, if_false, Bool.and_true, Bool.not_eq_true', Bool.not_eq_false', Bool.and_eq_true, Bool.and_eq_false_iff, beq_iff_eq, beq_eq_false_iff_ne, ne_eq] at hc) <;> (try (exfalso; omega)))
    | (refine optK_intro (by first | assumption | exact hput_same | fail) ?_)
    | (refine fun t ht => ?_)
    | (refine And.intro (by first | exact rfl | exact addT_same | omega | exact Nat.le_of_ble_eq_true rfl | decide | exact ⟨by omega, by omega⟩ | (simp; done) | (simp; omega; done) | fail) ?_)
    | fail)
  all_goals (conv => whnf)
  refine loop_rule (catJ1 1 ls tag h) 0 ⟨by show 0 ≤ ls.length; omega, ⟨rfl, rfl, rfl, rfl, rfl, trivial⟩, trivial, Heap.sub_refl _⟩ (fun i i1 => ?_)
  have i1 : i ≤ ls.length := i1
  have ht := tot_le (ls := ls) (i := i)
  rcases Nat.lt_or_ge i ls.length with hlt | hge
  · have hget := encL_get (n := 1) hlt
    have hst := tot_take hlt
    have ht2 := tot_le (ls := ls) (i := i + 1)
    repeat' ((conv => whnf); first
      | (refine br_intro (fun hc => ?_) (fun hc => ?_) <;> (try simp only [decide_eq_true_eq, decide_eq_false_iff_not] at hc) <;> (try (exfalso; omega)))
      | (refine optK_intro (by first | assumption | exact hput_same | fail) ?_)
      | (refine fun t ht => ?_)
      | (refine And.intro (by first | exact rfl | exact addT_same | omega | exact Nat.le_of_ble_eq_true rfl | decide | exact ⟨by omega, by omega⟩ | (simp; done) | (simp; omega; done) | fail) ?_)
      | fail)
    all_goals (conv => whnf)
    refine ⟨i + 1, ?_, ?_, ⟨rfl, ?_, rfl, rfl, rfl, trivial⟩, trivial, Heap.sub_refl _⟩
    · show ls.length - (i + 1) < ls.length - i
      omega
    · show i + 1 ≤ ls.length
      omega
    · show some (IV.int _ _) = some (IV.int _ _)
      rw [hst]; simp
  · have he : ls.take i = ls := List.take_of_length_le (by omega)
    repeat' ((conv => whnf); first
      | (refine br_intro (fun hc => ?_) (fun hc => ?_) <;> (try simp only [decide_eq_true_eq, decide_eq_false_iff_not] at hc) <;> (try (exfalso; omega)))
      | (refine optK_intro (by first | assumption | exact hput_same | fail) ?_)
      | (refine fun t ht => ?_)
      | (refine And.intro (by first | exact rfl | exact addT_same | omega | exact Nat.le_of_ble_eq_true rfl | decide | exact ⟨by omega, by omega⟩ | (simp; done) | (simp; omega; done) | fail) ?_)
      | fail)
    all_goals (conv => whnf)
    rw [he, h0]
    refine call_pure grow35_0 ?_
    repeat' ((conv => whnf); first
      | (refine br_intro (fun hc => ?_) (fun hc => ?_) <;> (try simp only [decide_eq_true_eq, decide_eq_false_iff_not, if_true, if_false, Bool.and_true, Bool.not_eq_true', Bool.not_eq_false', Bool.and_eq_true, Bool.and_eq_false_iff, beq_iff_eq, beq_eq_false_iff_ne, ne_eq] at hc) <;> (try (exfalso; omega)))
      | (refine optK_intro (by first | assumption | exact hput_same | fail) ?_)
      | (refine fun t ht => ?_)
      | (refine And.intro (by first | exact rfl | exact addT_same | omega | exact Nat.le_of_ble_eq_true rfl | decide | exact ⟨by omega, by omega⟩ | (simp; done) | (simp; omega; done) | fail) ?_)
      | fail)
    all_goals (conv => whnf)
    refine loop_rule (catJ0 1 ls tag h) (0, none) ⟨⟨by omega, trivial⟩, ⟨rfl, rfl, rfl, rfl, trivial⟩, trivial, Heap.sub_refl _⟩ (fun s hs => ?_)
    obtain ⟨j, o⟩ := s
    obtain ⟨j1, j2⟩ := hs
    rcases Nat.lt_or_ge j ls.length with hlt | hge
    · have hget := encL_get (n := 1) hlt
      have hst := tot_take hlt
      have ht2 := tot_le (ls := ls) (i := j + 1)
      have he0 : ls[j].1 = [] := List.eq_nil_of_length_eq_zero (by omega)
      rw [he0] at hget
      cases o with
      | none =>
        repeat' ((conv => whnf); first
          | (refine br_intro (fun hc => ?_) (fun hc => ?_) <;> (try simp only [decide_eq_true_eq, decide_eq_false_iff_not] at hc) <;> (try (exfalso; omega)))
          | (refine optK_intro (by first | assumption | exact hput_same | fail) ?_)
          | (refine fun t ht => ?_)
          | (refine And.intro (by first | exact rfl | exact addT_same | omega | exact Nat.le_of_ble_eq_true rfl | decide | exact ⟨by omega, by omega⟩ | (simp; done) | (simp; omega; done) | fail) ?_)
          | fail)
        all_goals (conv => whnf)
        refine ⟨(j + 1, some t), ?_, ⟨by omega, ht⟩, ⟨rfl, rfl, rfl, rfl, trivial⟩, trivial, Heap.sub_refl _⟩
        show ls.length - (j + 1) < ls.length - j
        omega
      | some t0 =>
        repeat' ((conv => whnf); first
          | (refine br_intro (fun hc => ?_) (fun hc => ?_) <;> (try simp only [decide_eq_true_eq, decide_eq_false_iff_not] at hc) <;> (try (exfalso; omega)))
          | (refine optK_intro (by first | assumption | exact hput_same | fail) ?_)
          | (refine fun t ht => ?_)
          | (refine And.intro (by first | exact rfl | exact addT_same | omega | exact Nat.le_of_ble_eq_true rfl | decide | exact ⟨by omega, by omega⟩ | (simp; done) | (simp; omega; done) | fail) ?_)
          | fail)
        all_goals (conv => whnf)
        refine ⟨(j + 1, some t), ?_, ⟨by omega, addT_none ht⟩, ⟨rfl, rfl, rfl, rfl, trivial⟩, trivial, swapT_sub j2⟩
        show ls.length - (j + 1) < ls.length - j
        omega
    · repeat' ((conv => whnf); first
        | (refine br_intro (fun hc => ?_) (fun hc => ?_) <;> (try simp only [decide_eq_true_eq, decide_eq_false_iff_not] at hc) <;> (try (exfalso; omega)))
        | (refine optK_intro (by first | assumption | exact hput_same | fail) ?_)
        | (refine fun t ht => ?_)
        | (refine And.intro (by first | exact rfl | exact addT_same | omega | exact Nat.le_of_ble_eq_true rfl | decide | exact ⟨by omega, by omega⟩ | (simp; done) | (simp; omega; done) | fail) ?_)
        | fail)
      all_goals (conv => whnf)
      refine ⟨h, heapOf_sub, ?_, rfl⟩
      rw [flat_nil h0]; rfl
theorem concat21_c {ls : List (Rows × Tag)} {tag : Tag} (hl : ls.length ≤ 1048576) (h1 : tot ls ≤ 1048576) :
    CallsV Go.Proofs.Try.prog 21 [.vs 1 (encL 3 ls) tag] h (fun r h' => r = .vs 3 (flat ls) .ro ∧ h' = h) := by
  rcases Nat.eq_zero_or_pos (tot ls) with h0 | h0
  · exact concat21_0 hl h0
  · exact concat21_1 hl h0 h1
theorem concat22_c {ls : List (Rows × Tag)} {tag : Tag} (hl : ls.length ≤ 1048576) (h1 : tot ls ≤ 1048576) :
    CallsV Go.Proofs.Try.prog 22 [.vs 1 (encL 1 ls) tag] h (fun r h' => r = .vs 1 (flat ls) .ro ∧ h' = h) := by
  rcases Nat.eq_zero_or_pos (tot ls) with h0 | h0
  · exact concat22_0 hl h0
  · exact concat22_1 hl h0 h1
end VL
