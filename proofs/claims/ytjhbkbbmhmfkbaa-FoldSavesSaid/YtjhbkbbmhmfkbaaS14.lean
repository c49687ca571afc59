/- The contracts of the closure in fold.same, of IndexFunc and of fold.same. -/
import Derived.Test.YtjhbkbbmhmfkbaaS13
namespace VL
open Go
attribute [local irreducible] CallsV
variable {h : Heap}
theorem body32 : HasBody Go.Proofs.Try.prog 32 := hasBody_iff (by kernel_rfl)
abbrev Item := List Nd × Tag
def encT (ls : List Item) : Rows := encL 3 (ls.map fun x => (encN x.1, x.2))
theorem encT_len {ls : List Item} : (encT ls).length = ls.length := by simp [encT, encL]
theorem encT_get {ls : List Item} {i : Nat} (hi : i < ls.length) : (encT ls)[((i : Nat) : Int).toNat]? = some [.vs 3 (encN ls[i].1) ls[i].2] := by simp [encT, encL, hi]
theorem eqItem_c {x y : List Nd} {tx ty : Tag} {id : Nat} (hid : h.obj id = some [[.vs 3 (encN x) tx]]) (hx : x.length ≤ 1048576) (hy : y.length ≤ 1048576) :
    CallsV Go.Proofs.Try.prog 32 [.vs 3 (encN y) ty, .ptr id 0 0] h (fun r h' => r = .bool (decide (x = y)) ∧ h' = h) := by
  refine callsV_of_vc hP k32 ?_
  repeat' ((conv => whnf); first
    | (refine br_intro (fun hc => ?_) (fun hc => ?_) <;> (try simp only [decide_eq_true_eq, decide_eq_false_iff_not, if_true, if_false, Bool.and_true, Bool.not_eq_true', Bool.not_eq_false', Bool.and_eq_true, Bool.and_eq_false_iff, beq_iff_eq, beq_eq_false_iff_ne, ne_eq] at hc) <;> (try (exfalso; omega)))
    | (refine optK_intro (by first | assumption | exact hput_same | fail) ?_)
    | (refine call_pure (equal33_c (a := x) (b := y) (by omega) (by omega)) ?_)
    | (refine fun t ht => ?_)
    | (refine And.intro (by first | exact rfl | exact addT_same | omega | exact Nat.le_of_ble_eq_true rfl | decide | exact ⟨by omega, by omega⟩ | (simp; done) | (simp; omega; done) | fail) ?_)
    | fail)
  all_goals (conv => whnf)
  exact ⟨_, Heap.sub_refl _, rfl, rfl⟩
/-- The place of the first that is x; -1: there is none. -/
def idxOf (x : List Nd) : List Item → Nat → Int
  | [], _ => -1
  | y :: l, i => if x = y.1 then (i : Int) else idxOf x l (i + 1)
def idxJ (x : List Nd) (ls : List Item) (tag : Tag) (id : Nat) (r : Int) (h : Heap) : Inv Nat where
  E := fun i => [(0, .vs 1 (encT ls) tag), (1, .fn (.func 32) [] [.ptr id 0 0]), (7, .int .i64 (encT ls).length), (8, .int .i64 i)]
  L _ := []
  H _ := h
  ok := fun i => i ≤ ls.length ∧ idxOf x (ls.drop i) i = r
  meas := fun i => ls.length - i
theorem index31_c {x : List Nd} {tx tag : Tag} {id : Nat} {ls : List Item} (hid : h.obj id = some [[.vs 3 (encN x) tx]]) (hx : x.length ≤ 1048576) (hl : ls.length ≤ 1048576) (hls : ∀ y ∈ ls, y.1.length ≤ 1048576) :
    CallsV Go.Proofs.Try.prog 31 [.vs 1 (encT ls) tag, .fn (.func 32) [] [.ptr id 0 0]] h (fun r h' => r = .int .i64 (idxOf x ls 0) ∧ h' = h) := by
  refine callsV_of_vc hP k31 ?_
  have hla := encT_len (ls := ls)
  repeat' ((conv => whnf); first
    | (refine br_intro (fun hc => ?_) (fun hc => ?_) <;> (try simp only [decide_eq_true_eq, decide_eq_false_iff_not, if_true, if_false, Bool.and_true, Bool.not_eq_true', Bool.not_eq_false', Bool.and_eq_true, Bool.and_eq_false_iff, beq_iff_eq, beq_eq_false_iff_ne, ne_eq] at hc) <;> (try (exfalso; omega)))
    | (refine optK_intro (by first | assumption | exact hput_same | fail) ?_)
    | (refine fun t ht => ?_)
    | (refine And.intro (by first | exact rfl | exact addT_same | omega | exact Nat.le_of_ble_eq_true rfl | decide | exact ⟨by omega, by omega⟩ | (simp; done) | (simp; omega; done) | fail) ?_)
    | fail)
  all_goals (conv => whnf)
  refine loop_rule (idxJ x ls tag id (idxOf x ls 0) h) 0 ⟨⟨by omega, rfl⟩, ⟨rfl, rfl, rfl, rfl, trivial⟩, trivial, Heap.sub_refl _⟩ (fun i hi => ?_)
  obtain ⟨i1, i2⟩ := hi
  rcases Nat.lt_or_ge i ls.length with hlt | hge
  · have hget := encT_get hlt
    have hd : ls.drop i = ls[i] :: ls.drop (i + 1) := List.drop_eq_getElem_cons hlt
    rw [hd, idxOf] at i2
    repeat' ((conv => whnf); first
      | (refine br_intro (fun hc => ?_) (fun hc => ?_) <;> (try simp only [decide_eq_true_eq, decide_eq_false_iff_not] at hc) <;> (try (exfalso; omega)))
      | (refine optK_intro (by first | assumption | exact hput_same | fail) ?_)
      | (refine fun t ht => ?_)
      | (refine And.intro (by first | exact rfl | exact addT_same | omega | exact Nat.le_of_ble_eq_true rfl | decide | exact ⟨by omega, by omega⟩ | (simp; done) | (simp; omega; done) | fail) ?_)
      | fail)
    all_goals (conv => whnf)
    refine ⟨body32, call_pure (eqItem_c (x := x) (y := ls[i].1) hid hx (hls _ (List.getElem_mem hlt))) ?_⟩
    repeat' ((conv => whnf); first
      | (refine br_intro (fun hc => ?_) (fun hc => ?_) <;> (try simp only [decide_eq_true_eq, decide_eq_false_iff_not] at hc) <;> (try (exfalso; omega)))
      | (refine optK_intro (by first | assumption | exact hput_same | fail) ?_)
      | (refine fun t ht => ?_)
      | (refine And.intro (by first | exact rfl | exact addT_same | omega | exact Nat.le_of_ble_eq_true rfl | decide | exact ⟨by omega, by omega⟩ | (simp; done) | (simp; omega; done) | fail) ?_)
      | fail)
    all_goals (conv => whnf)
    · rw [if_pos (by assumption)] at i2
      rw [← i2]
      exact ⟨_, Heap.sub_refl _, rfl, rfl⟩
    · rw [if_neg (by assumption)] at i2
      refine ⟨i + 1, ?_, ⟨by omega, i2⟩, ⟨rfl, rfl, rfl, rfl, trivial⟩, trivial, Heap.sub_refl _⟩
      show ls.length - (i + 1) < ls.length - i
      omega
  · repeat' ((conv => whnf); first
      | (refine br_intro (fun hc => ?_) (fun hc => ?_) <;> (try simp only [decide_eq_true_eq, decide_eq_false_iff_not] at hc) <;> (try (exfalso; omega)))
      | (refine optK_intro (by first | assumption | exact hput_same | fail) ?_)
      | (refine fun t ht => ?_)
      | (refine And.intro (by first | exact rfl | exact addT_same | omega | exact Nat.le_of_ble_eq_true rfl | decide | exact ⟨by omega, by omega⟩ | (simp; done) | (simp; omega; done) | fail) ?_)
      | fail)
    all_goals (conv => whnf)
    have hd : ls.drop i = [] := List.drop_eq_nil_of_le hge
    rw [hd, idxOf] at i2
    rw [← i2]
    exact ⟨_, Heap.sub_refl _, rfl, rfl⟩
def sameIds (ls : List Item) : List Int := ls.map fun x => idxOf x.1 ls 0
def sameSizes (ls : List Item) : List Int := ls.map fun x => (x.1.length : Int)
def sameJ19 (ls : List Item) (tag : Tag) (h : Heap) : Inv (Nat × Nat × Nat) where
  E := fun | (i, t, u) => [(0, .vs 1 (encT ls) tag), (4, .vs 1 (encI ((sameIds ls).take i)) (.own t)), (5, .vs 1 (encI ((sameSizes ls).take i)) (.own u)), (8, .vs 1 (encT ls) tag), (9, .int .i64 (encT ls).length), (10, .int .i64 i)]
  L _ := []
  H := fun | (_, t, u) => (h.addT t).addT u
  ok := fun | (i, t, u) => i ≤ ls.length ∧ h.tok t = false ∧ h.tok u = false ∧ t ≠ u
  meas := fun | (i, _, _) => ls.length - i
theorem same19_c {ls : List Item} {tag : Tag} (hl : ls.length ≤ 1048576) (hls : ∀ y ∈ ls, y.1.length ≤ 1048576) :
    CallsV Go.Proofs.Try.prog 19 [.vs 1 (encT ls) tag] h (fun r h' => r = .tup [.vs 1 (encI (sameIds ls)) .ro, .vs 1 (encI (sameSizes ls)) .ro] ∧ h' = h) := by
  refine callsV_of_vc hP k19 ?_
  have hla := encT_len (ls := ls)
  repeat' ((conv => whnf); first
    | (refine br_intro (fun hc => ?_) (fun hc => ?_) <;> (try simp only [decide_eq_true_eq, decide_eq_false_iff_not, if_true, if_false, Bool.and_true, Bool.not_eq_true', Bool.not_eq_false', Bool.and_eq_true, Bool.and_eq_false_iff, beq_iff_eq, beq_eq_false_iff_ne, ne_eq] at hc) <;> (try (exfalso; omega)))
    | (refine optK_intro (by first | assumption | exact hput_same | fail) ?_)
    | (refine fun t ht => ?_)
    | (refine And.intro (by first | exact rfl | exact addT_same | omega | exact Nat.le_of_ble_eq_true rfl | decide | exact ⟨by omega, by omega⟩ | (simp; done) | (simp; omega; done) | fail) ?_)
    | fail)
  all_goals (conv => whnf)
  rename_i t1 ht1
  refine loop_rule (sameJ19 ls tag h) (0, t1, t) ⟨⟨by omega, ht1, addT_none ht, ?_⟩, ⟨rfl, rfl, rfl, rfl, rfl, rfl, trivial⟩, trivial, Heap.sub_refl _⟩ (fun s hs => ?_)
  · intro e; subst e; rw [addT_same] at ht; cases ht
  obtain ⟨i, t0, u⟩ := s
  obtain ⟨i1, i2, i3, i4⟩ := hs
  have hlo : (encI ((sameIds ls).take i)).length ≤ ls.length := by simp [encI, sameIds]; omega
  have hlo2 : (encI ((sameSizes ls).take i)).length ≤ ls.length := by simp [encI, sameSizes]; omega
  rcases Nat.lt_or_ge i ls.length with hlt | hge
  · have hget := encT_get hlt
    repeat' ((conv => whnf); first
      | (refine br_intro (fun hc => ?_) (fun hc => ?_) <;> (try simp only [decide_eq_true_eq, decide_eq_false_iff_not] at hc) <;> (try (exfalso; omega)))
      | (refine optK_intro (by first | assumption | exact hput_same | fail) ?_)
      | (refine call_pure (index31_c (x := ls[i].1) (tx := ls[i].2) (ls := ls) (by first | assumption | exact hput_same) (hls _ (List.getElem_mem hlt)) hl hls) ?_)
      | (refine fun t ht => ?_)
      | (refine And.intro (by first | exact rfl | exact addT_same | omega | exact Nat.le_of_ble_eq_true rfl | decide | exact ⟨by omega, by omega⟩ | (simp; done) | (simp; omega; done) | fail) ?_)
      | fail)
    all_goals (conv => whnf)
    refine ⟨by simp [sameJ19, Heap.put, Heap.addT], fun t2 ht2 => ?_⟩
    repeat' ((conv => whnf); first
      | (refine br_intro (fun hc => ?_) (fun hc => ?_) <;> (try simp only [decide_eq_true_eq, decide_eq_false_iff_not, if_true, if_false, Bool.and_true, Bool.not_eq_true', Bool.not_eq_false', Bool.and_eq_true, Bool.and_eq_false_iff, beq_iff_eq, beq_eq_false_iff_ne, ne_eq] at hc) <;> (try (exfalso; omega)))
      | (refine optK_intro (by first | assumption | exact hput_same | fail) ?_)
      | (refine fun t ht => ?_)
      | (refine And.intro (by first | exact rfl | exact addT_same | omega | exact Nat.le_of_ble_eq_true rfl | decide | exact ⟨by omega, by omega⟩ | (simp; done) | (simp; omega; done) | fail) ?_)
      | fail)
    all_goals (conv => whnf)
    refine ⟨?_, fun t3 ht3 => ?_⟩
    · simp only [sameJ19, Heap.put, Heap.addT, Heap.delT]; by_cases q : u = t2 <;> simp [q, Ne.symm i4]
    repeat' ((conv => whnf); first
      | (refine br_intro (fun hc => ?_) (fun hc => ?_) <;> (try simp only [decide_eq_true_eq, decide_eq_false_iff_not, if_true, if_false, Bool.and_true, Bool.not_eq_true', Bool.not_eq_false', Bool.and_eq_true, Bool.and_eq_false_iff, beq_iff_eq, beq_eq_false_iff_ne, ne_eq] at hc) <;> (try (exfalso; omega)))
      | (refine optK_intro (by first | assumption | exact hput_same | fail) ?_)
      | (refine fun t ht => ?_)
      | (refine And.intro (by first | exact rfl | exact addT_same | omega | exact Nat.le_of_ble_eq_true rfl | decide | exact ⟨by omega, by omega⟩ | (simp; done) | (simp; omega; done) | fail) ?_)
      | fail)
    all_goals (conv => whnf)
    simp only [sameJ19, Heap.put, Heap.addT, Heap.delT] at ht ht2 ht3
    have a1 : t2 ≠ u := fun e => by rw [if_pos e] at ht2; cases ht2
    rw [if_neg a1] at ht2
    have a2 : t2 ≠ t0 := fun e => by rw [if_pos e] at ht2; cases ht2
    rw [if_neg a2] at ht2
    have a3 : t3 ≠ t2 := fun e => by rw [if_pos e] at ht3; cases ht3
    rw [if_neg a3] at ht3
    have a4 : h.tok t3 = false := by
      by_cases e : t3 = t0
      · rw [e]; exact i2
      · rw [if_neg e] at ht3
        split at ht3
        · cases ht3
        · exact ht3
    refine ⟨(i + 1, t2, t3), ?_, ⟨by omega, ht2, a4, fun e => a3 e.symm⟩, ⟨rfl, ?_, ?_, rfl, rfl, rfl, trivial⟩, trivial, ?_⟩
    · show ls.length - (i + 1) < ls.length - i
      omega
    · show some (IV.vs _ _ _) = some (IV.vs _ _ _)
      congr 2
      rw [List.take_add_one]
      simp [sameIds, encI, hlt, cellsOf]
    · show some (IV.vs _ _ _) = some (IV.vs _ _ _)
      congr 2
      rw [List.take_add_one]
      simp [sameSizes, encI, hlt, cellsOf, encN_len]
    · refine ⟨fun j r e => ?_, fun j e => ?_⟩
      · simp only [sameJ19, Heap.put, Heap.addT, Heap.delT] at e ⊢
        by_cases q : j = t
        · rw [q, ht] at e; cases e
        · rw [if_neg q, if_neg q]; exact e
      · simp only [sameJ19, Heap.put, Heap.addT, Heap.delT] at e ⊢
        by_cases q1 : j = t3
        · rw [if_pos q1]
        · rw [if_neg q1] at e ⊢
          by_cases q2 : j = t2
          · rw [q2, if_neg a1, if_pos rfl]
          · rw [if_neg q2] at e ⊢
            have q3 : j ≠ u := fun q => by rw [q, i3] at e; cases e
            have q4 : j ≠ t0 := fun q => by rw [q, i2] at e; cases e
            rw [if_neg q3, if_neg q4, if_neg q3, if_neg q4]; exact e
  · repeat' ((conv => whnf); first
      | (refine br_intro (fun hc => ?_) (fun hc => ?_) <;> (try simp only [decide_eq_true_eq, decide_eq_false_iff_not] at hc) <;> (try (exfalso; omega)))
      | (refine optK_intro (by first | assumption | exact hput_same | fail) ?_)
      | (refine fun t ht => ?_)
      | (refine And.intro (by first | exact rfl | exact addT_same | omega | exact Nat.le_of_ble_eq_true rfl | decide | exact ⟨by omega, by omega⟩ | (simp; done) | (simp; omega; done) | fail) ?_)
      | fail)
    all_goals (conv => whnf)
    have e1 : (sameIds ls).take i = sameIds ls := List.take_of_length_le (by simp [sameIds]; omega)
    have e2 : (sameSizes ls).take i = sameSizes ls := List.take_of_length_le (by simp [sameSizes]; omega)
    rw [e1, e2]
    exact ⟨_, Heap.sub_trans addT_sub addT_sub, rfl, rfl⟩
end VL
