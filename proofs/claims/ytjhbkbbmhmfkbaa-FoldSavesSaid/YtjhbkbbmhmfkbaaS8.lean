/- The contracts of Concat. -/
import Derived.Test.YtjhbkbbmhmfkbaaS7
namespace VL
open Go
attribute [local irreducible] CallsV
variable {h : Heap}
/-- Slices by value, one a cell. -/
def encL (n : Nat) (ls : List (Rows × Tag)) : Rows := ls.map fun x => [IV.vs n x.1 x.2]
def tot (ls : List (Rows × Tag)) : Nat := (ls.map fun x => x.1.length).sum
def flat (ls : List (Rows × Tag)) : Rows := ls.flatMap fun x => x.1
theorem encL_len {n : Nat} {ls : List (Rows × Tag)} : (encL n ls).length = ls.length := by simp [encL]
theorem encL_get {n : Nat} {ls : List (Rows × Tag)} {i : Nat} (hi : i < ls.length) : (encL n ls)[((i : Nat) : Int).toNat]? = some [.vs n ls[i].1 ls[i].2] := by simp [encL, hi]
theorem tot_take {ls : List (Rows × Tag)} {i : Nat} (hi : i < ls.length) : tot (ls.take (i + 1)) = tot (ls.take i) + ls[i].1.length := by
  unfold tot
  rw [List.take_add_one, List.map_append, List.sum_append]
  simp [hi]
theorem flat_take {ls : List (Rows × Tag)} {i : Nat} (hi : i < ls.length) : flat (ls.take (i + 1)) = flat (ls.take i) ++ ls[i].1 := by
  unfold flat
  rw [List.take_add_one, List.flatMap_append]
  simp [hi]
theorem tot_le {ls : List (Rows × Tag)} {i : Nat} : tot (ls.take i) ≤ tot ls := by
  have e : tot ls = tot (ls.take i) + tot (ls.drop i) := by
    unfold tot
    rw [← List.sum_append, ← List.map_append, List.take_append_drop]
  omega
theorem flat_len {ls : List (Rows × Tag)} : (flat ls).length = tot ls := by
  unfold flat tot
  rw [List.length_flatMap]
def catJ1 (n : Nat) (ls : List (Rows × Tag)) (tag : Tag) (h : Heap) : Inv Nat where
  E := fun i => [(0, .vs 1 (encL n ls) tag), (3, .int .i64 (tot (ls.take i))), (9, .vs 1 (encL n ls) tag), (10, .int .i64 (encL n ls).length), (11, .int .i64 i)]
  L _ := []
  H _ := h
  ok := fun i => i ≤ ls.length
  meas := fun i => ls.length - i
def catJ2 (n : Nat) (ls : List (Rows × Tag)) (tag : Tag) (h : Heap) : Inv (Nat × Nat × Rows) where
  E := fun | (i, id, _) => [(6, .rs n id (tot (ls.take i))), (25, .vs 1 (encL n ls) tag), (26, .int .i64 (encL n ls).length), (27, .int .i64 i)]
  L _ := []
  H := fun | (_, id, R) => h.put id R
  ok := fun | (i, id, R) => i ≤ ls.length ∧ h.obj id = none ∧ R.take (tot (ls.take i)) = flat (ls.take i) ∧ tot (ls.take i) ≤ R.length
  meas := fun | (i, _, _) => ls.length - i
theorem concat21_1 {ls : List (Rows × Tag)} {tag : Tag} (hl : ls.length ≤ 1048576) (h0 : 0 < tot ls) (h1 : tot ls ≤ 1048576) :
    CallsV Go.Proofs.Try.prog 21 [.vs 1 (encL 3 ls) tag] h (fun r h' => r = .vs 3 (flat ls) .ro ∧ h' = h) := by
  refine callsV_of_vc hP k21r ?_
  have hle := encL_len (n := 3) (ls := ls)
  repeat' ((conv => whnf); first
    | (refine br_intro (fun hc => ?_) (fun hc => ?_) <;> (try simp only [decide_eq_true_eq, decide_eq_false_iff_not, if_true, if_false, Bool.and_true, Bool.not_eq_true', Bool.not_eq_false', Bool.and_eq_true, Bool.and_eq_false_iff, beq_iff_eq, beq_eq_false_iff_ne, ne_eq] at hc) <;> (try (exfalso; omega)))
    | (refine optK_intro (by first | assumption | exact hput_same | fail) ?_)
    | (refine fun t ht => ?_)
    | (refine And.intro (by first | exact rfl | exact addT_same | omega | exact Nat.le_of_ble_eq_true rfl | decide | exact ⟨by omega, by omega⟩ | (simp; done) | (simp; omega; done) | fail) ?_)
    | fail)
  all_goals (conv => whnf)
  refine loop_rule (catJ1 3 ls tag h) 0 ⟨by show 0 ≤ ls.length; omega, ⟨rfl, rfl, rfl, rfl, rfl, trivial⟩, trivial, Heap.sub_refl _⟩ (fun i i1 => ?_)
  have i1 : i ≤ ls.length := i1
  have ht := tot_le (ls := ls) (i := i)
  rcases Nat.lt_or_ge i ls.length with hlt | hge
  · have hget := encL_get (n := 3) hlt
    have hst := tot_take hlt
    have ht2 := tot_le (ls := ls) (i := i + 1)
    repeat' ((conv => whnf); first
      | (refine br_intro (fun hc => ?_) (fun hc => ?_) <;> (try simp only [decide_eq_true_eq, decide_eq_false_iff_not] at hc) <;> (try (exfalso; omega)))
      | (refine optK_intro (by first | assumption | exact hput_same | fail) ?_)
      | (refine fun t ht => ?_)
      | (refine And.intro (by first | exact rfl | exact addT_same | omega | exact Nat.le_of_ble_eq_true rfl | decide | exact ⟨by omega, by omega⟩ | (simp; done) | (simp; omega; done) | fail) ?_)
      | fail)
    all_goals (conv => whnf)
    refine ⟨i + 1, ?_, ?_, ⟨rfl, ?_, rfl, rfl, rfl, trivial⟩, trivial, Heap.sub_refl _⟩
    · show ls.length - (i + 1) < ls.length - i
      omega
    · show i + 1 ≤ ls.length
      omega
    · show some (IV.int _ _) = some (IV.int _ _)
      rw [hst]; simp
  · have he : ls.take i = ls := List.take_of_length_le (by omega)
    repeat' ((conv => whnf); first
      | (refine br_intro (fun hc => ?_) (fun hc => ?_) <;> (try simp only [decide_eq_true_eq, decide_eq_false_iff_not] at hc) <;> (try (exfalso; omega)))
      | (refine optK_intro (by first | assumption | exact hput_same | fail) ?_)
      | (refine fun t ht => ?_)
      | (refine And.intro (by first | exact rfl | exact addT_same | omega | exact Nat.le_of_ble_eq_true rfl | decide | exact ⟨by omega, by omega⟩ | (simp; done) | (simp; omega; done) | fail) ?_)
      | fail)
    all_goals (conv => whnf)
    rw [he]
    refine call_any (grow34_1 (by omega) (by omega)) ?_
    rintro _ _ ⟨id, hid, rfl, rfl⟩
    repeat' ((conv => whnf); first
      | (refine br_intro (fun hc => ?_) (fun hc => ?_) <;> (try simp only [decide_eq_true_eq, decide_eq_false_iff_not, if_true, if_false, Bool.and_true, Bool.not_eq_true', Bool.not_eq_false', Bool.and_eq_true, Bool.and_eq_false_iff, beq_iff_eq, beq_eq_false_iff_ne, ne_eq] at hc) <;> (try (exfalso; omega)))
      | (refine optK_intro (by first | assumption | exact hput_same | fail) ?_)
      | (refine fun t ht => ?_)
      | (refine And.intro (by first | exact rfl | exact addT_same | omega | exact Nat.le_of_ble_eq_true rfl | decide | exact ⟨by omega, by omega⟩ | (simp; done) | (simp; omega; done) | fail) ?_)
      | fail)
    all_goals (conv => whnf)
    refine loop_rule (catJ2 3 ls tag h) (0, id, List.replicate (tot ls) [.int .i64 0, .int .i64 0, .int .i64 0]) ⟨⟨by omega, hid, by simp [tot, flat], by simp [tot]⟩, ⟨rfl, rfl, rfl, rfl, trivial⟩, trivial, Heap.sub_refl _⟩ (fun s hs => ?_)
    obtain ⟨j, id, R⟩ := s
    obtain ⟨j1, j2, j3, j4⟩ := hs
    have hj := tot_le (ls := ls) (i := j)
    rcases Nat.lt_or_ge j ls.length with hlt | hge
    · have hget := encL_get (n := 3) hlt
      have hst := tot_take hlt
      have ht2 := tot_le (ls := ls) (i := j + 1)
      repeat' ((conv => whnf); first
        | (refine br_intro (fun hc => ?_) (fun hc => ?_) <;> (try simp only [decide_eq_true_eq, decide_eq_false_iff_not] at hc) <;> (try (exfalso; omega)))
        | (refine optK_intro (by first | assumption | exact hput_same | fail) ?_)
        | (refine fun t ht => ?_)
        | (refine And.intro (by first | exact rfl | exact addT_same | omega | exact Nat.le_of_ble_eq_true rfl | decide | exact ⟨by omega, by omega⟩ | (simp; done) | (simp; omega; done) | fail) ?_)
        | fail)
      all_goals (conv => whnf)
      have e9 : (R.take (tot (ls.take j)) ++ ls[j].1).length = tot (ls.take (j + 1)) := by rw [List.length_append, List.length_take]; omega
      refine ⟨(j + 1, t, R.take (tot (ls.take j)) ++ ls[j].1), ?_, ⟨by omega, appR_none j2 ht, ?_, by omega⟩, ⟨?_, rfl, rfl, rfl, trivial⟩, trivial, appR_sub j2⟩
      · show ls.length - (j + 1) < ls.length - j
        omega
      · rw [← e9, List.take_length, flat_take hlt, j3]
      · show some (IV.rs _ _ _) = some (IV.rs _ _ _)
        rw [hst]
    · repeat' ((conv => whnf); first
        | (refine br_intro (fun hc => ?_) (fun hc => ?_) <;> (try simp only [decide_eq_true_eq, decide_eq_false_iff_not] at hc) <;> (try (exfalso; omega)))
        | (refine optK_intro (by first | assumption | exact hput_same | fail) ?_)
        | (refine fun t ht => ?_)
        | (refine And.intro (by first | exact rfl | exact addT_same | omega | exact Nat.le_of_ble_eq_true rfl | decide | exact ⟨by omega, by omega⟩ | (simp; done) | (simp; omega; done) | fail) ?_)
        | fail)
      all_goals (conv => whnf)
      have he2 : ls.take j = ls := List.take_of_length_le (by omega)
      refine ⟨h, del_sub j2, ?_, rfl⟩
      show IV.vs _ _ _ = IV.vs _ _ _
      rw [j3, he2]
theorem concat22_1 {ls : List (Rows × Tag)} {tag : Tag} (hl : ls.length ≤ 1048576) (h0 : 0 < tot ls) (h1 : tot ls ≤ 1048576) :
    CallsV Go.Proofs.Try.prog 22 [.vs 1 (encL 1 ls) tag] h (fun r h' => r = .vs 1 (flat ls) .ro ∧ h' = h) := by
  refine callsV_of_vc hP k22r ?_
  have hle := encL_len (n := 1) (ls := ls)
  repeat' ((conv => whnf); first
    | (refine br_intro (fun hc => ?_) (fun hc => ?_) <;> (try simp only [decide_eq_true_eq, decide_eq_false_iff_not, if_true, if_false, Bool.and_true, Bool.not_eq_true', Bool.not_eq_false', Bool.and_eq_true, Bool.and_eq_false_iff, beq_iff_eq, beq_eq_false_iff_ne, ne_eq] at hc) <;> (try (exfalso; omega)))
    | (refine optK_intro (by first | assumption | exact hput_same | fail) ?_)
    | (refine fun t ht => ?_)
    | (refine And.intro (by first | exact rfl | exact addT_same | omega | exact Nat.le_of_ble_eq_true rfl | decide | exact ⟨by omega, by omega⟩ | (simp; done) | (simp; omega; done) | fail) ?_)
    | fail)
  all_goals (conv => whnf)
  refine loop_rule (catJ1 1 ls tag h) 0 ⟨by show 0 ≤ ls.length; omega, ⟨rfl, rfl, rfl, rfl, rfl, trivial⟩, trivial, Heap.sub_refl _⟩ (fun i i1 => ?_)
  have i1 : i ≤ ls.length := i1
  have ht := tot_le (ls := ls) (i := i)
  rcases Nat.lt_or_ge i ls.length with hlt | hge
  · have hget := encL_get (n := 1) hlt
    have hst := tot_take hlt
    have ht2 := tot_le (ls := ls) (i := i + 1)
    repeat' ((conv => whnf); first
      | (refine br_intro (fun hc => ?_) (fun hc => ?_) <;> (try simp only [decide_eq_true_eq, decide_eq_false_iff_not] at hc) <;> (try (exfalso; omega)))
      | (refine optK_intro (by first | assumption | exact hput_same | fail) ?_)
      | (refine fun t ht => ?_)
      | (refine And.intro (by first | exact rfl | exact addT_same | omega | exact Nat.le_of_ble_eq_true rfl | decide | exact ⟨by omega, by omega⟩ | (simp; done) | (simp; omega; done) | fail) ?_)
      | fail)
    all_goals (conv => whnf)
    refine ⟨i + 1, ?_, ?_, ⟨rfl, ?_, rfl, rfl, rfl, trivial⟩, trivial, Heap.sub_refl _⟩
    · show ls.length - (i + 1) < ls.length - i
      omega
    · show i + 1 ≤ ls.length
      omega
    · show some (IV.int _ _) = some (IV.int _ _)
      rw [hst]; simp
  · have he : ls.take i = ls := List.take_of_length_le (by omega)
    repeat' ((conv => whnf); first
      | (refine br_intro (fun hc => ?_) (fun hc => ?_) <;> (try simp only [decide_eq_true_eq, decide_eq_false_iff_not] at hc) <;> (try (exfalso; omega)))
      | (refine optK_intro (by first | assumption | exact hput_same | fail) ?_)
      | (refine fun t ht => ?_)
      | (refine And.intro (by first | exact rfl | exact addT_same | omega | exact Nat.le_of_ble_eq_true rfl | decide | exact ⟨by omega, by omega⟩ | (simp; done) | (simp; omega; done) | fail) ?_)
      | fail)
    all_goals (conv => whnf)
    rw [he]
    refine call_any (grow35_1 (by omega) (by omega)) ?_
    rintro _ _ ⟨id, hid, rfl, rfl⟩
    repeat' ((conv => whnf); first
      | (refine br_intro (fun hc => ?_) (fun hc => ?_) <;> (try simp only [decide_eq_true_eq, decide_eq_false_iff_not, if_true, if_false, Bool.and_true, Bool.not_eq_true', Bool.not_eq_false', Bool.and_eq_true, Bool.and_eq_false_iff, beq_iff_eq, beq_eq_false_iff_ne, ne_eq] at hc) <;> (try (exfalso; omega)))
      | (refine optK_intro (by first | assumption | exact hput_same | fail) ?_)
      | (refine fun t ht => ?_)
      | (refine And.intro (by first | exact rfl | exact addT_same | omega | exact Nat.le_of_ble_eq_true rfl | decide | exact ⟨by omega, by omega⟩ | (simp; done) | (simp; omega; done) | fail) ?_)
      | fail)
    all_goals (conv => whnf)
    refine loop_rule (catJ2 1 ls tag h) (0, id, List.replicate (tot ls) [.vs 3 [] .full]) ⟨⟨by omega, hid, by simp [tot, flat], by simp [tot]⟩, ⟨rfl, rfl, rfl, rfl, trivial⟩, trivial, Heap.sub_refl _⟩ (fun s hs => ?_)
    obtain ⟨j, id, R⟩ := s
    obtain ⟨j1, j2, j3, j4⟩ := hs
    have hj := tot_le (ls := ls) (i := j)
    rcases Nat.lt_or_ge j ls.length with hlt | hge
    · have hget := encL_get (n := 1) hlt
      have hst := tot_take hlt
      have ht2 := tot_le (ls := ls) (i := j + 1)
      repeat' ((conv => whnf); first
        | (refine br_intro (fun hc => ?_) (fun hc => ?_) <;> (try simp only [decide_eq_true_eq, decide_eq_false_iff_not] at hc) <;> (try (exfalso; omega)))
        | (refine optK_intro (by first | assumption | exact hput_same | fail) ?_)
        | (refine fun t ht => ?_)
        | (refine And.intro (by first | exact rfl | exact addT_same | omega | exact Nat.le_of_ble_eq_true rfl | decide | exact ⟨by omega, by omega⟩ | (simp; done) | (simp; omega; done) | fail) ?_)
        | fail)
      all_goals (conv => whnf)
      have e9 : (R.take (tot (ls.take j)) ++ ls[j].1).length = tot (ls.take (j + 1)) := by rw [List.length_append, List.length_take]; omega
      refine ⟨(j + 1, t, R.take (tot (ls.take j)) ++ ls[j].1), ?_, ⟨by omega, appR_none j2 ht, ?_, by omega⟩, ⟨?_, rfl, rfl, rfl, trivial⟩, trivial, appR_sub j2⟩
      · show ls.length - (j + 1) < ls.length - j
        omega
      · rw [← e9, List.take_length, flat_take hlt, j3]
      · show some (IV.rs _ _ _) = some (IV.rs _ _ _)
        rw [hst]
    · repeat' ((conv => whnf); first
        | (refine br_intro (fun hc => ?_) (fun hc => ?_) <;> (try simp only [decide_eq_true_eq, decide_eq_false_iff_not] at hc) <;> (try (exfalso; omega)))
        | (refine optK_intro (by first | assumption | exact hput_same | fail) ?_)
        | (refine fun t ht => ?_)
        | (refine And.intro (by first | exact rfl | exact addT_same | omega | exact Nat.le_of_ble_eq_true rfl | decide | exact ⟨by omega, by omega⟩ | (simp; done) | (simp; omega; done) | fail) ?_)
        | fail)
      all_goals (conv => whnf)
      have he2 : ls.take j = ls := List.take_of_length_le (by omega)
      refine ⟨h, del_sub j2, ?_, rfl⟩
      show IV.vs _ _ _ = IV.vs _ _ _
      rw [j3, he2]
end VL
