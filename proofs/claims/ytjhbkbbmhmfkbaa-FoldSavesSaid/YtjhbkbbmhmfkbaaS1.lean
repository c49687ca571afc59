/- Contracts of the functions of layer 6's laws. -/
import Derived.Test.YtjhbkbbmhmfkbaaC1
import Derived.Test.YtjhbkbbmhmfkbaaV13
namespace VL
open Go
attribute [local irreducible] CallsV
variable {h : Heap}
def within (x lo hi : Int) : Int := if lo ≤ x ∧ x ≤ hi then x else lo + x % (hi - lo + 1)
theorem tmod_cases {x m : Int} (hm : 0 < m) : (0 ≤ x.tmod m ∧ x.tmod m = x % m) ∨ (x.tmod m < 0 ∧ x.tmod m + m = x % m) := by
  have t2 := Int.emod_nonneg x (b := m) (by omega)
  have t3 := Int.emod_lt_of_pos x hm
  have e := Int.tmod_eq_emod (a := x) (b := m)
  rw [e]
  split
  · left; omega
  · rename_i hn
    have hne : x % m ≠ 0 := fun hc => hn (.inr (Int.dvd_of_emod_eq_zero hc))
    right
    omega
theorem hput_id {id : Nat} {r : Rows} (hid : h.obj id = some r) : h.put id r = h := by
  cases h with
  | mk o t =>
    simp only [Heap.put, Heap.mk.injEq, and_true]
    funext i
    split
    · rename_i e; subst e; exact hid.symm
    · rfl
theorem within_c {x lo hi : Int} (h1 : 0 ≤ lo) (h2 : lo ≤ hi) (h3 : hi ≤ 1099511627776) (h4 : inr x) :
    CallsV Go.Proofs.Try.prog 27 [.int .i64 x, .int .i64 lo, .int .i64 hi] h (fun r h' => r = .int .i64 (within x lo hi) ∧ h' = h) := by
  obtain ⟨h4, h5⟩ := h4
  refine callsV_of_vc hP k27 ?_
  have t1 := tmod_cases (x := x) (m := hi - lo + 1) (by omega)
  have t2 := Int.emod_nonneg x (b := hi - lo + 1) (by omega)
  have t3 := Int.emod_lt_of_pos x (b := hi - lo + 1) (by omega)
  repeat' ((conv => whnf); first
    | (refine br_intro (fun hc => ?_) (fun hc => ?_) <;> (try simp only [decide_eq_true_eq, decide_eq_false_iff_not] at hc) <;> (try (exfalso; omega)))
    | (refine optK_intro (by first | assumption | exact hput_same | fail) ?_)
    | (refine fun t ht => ?_)
    | (refine And.intro (by first | exact rfl | exact addT_same | omega | exact Nat.le_of_ble_eq_true rfl | decide | exact ⟨by omega, by omega⟩ | (simp; done) | (simp; omega; done) | fail) ?_)
    | fail)
  all_goals (conv => whnf)
  all_goals refine ⟨_, Heap.sub_refl _, ?_⟩
  all_goals refine And.intro ?_ ?_
  all_goals first | rfl | skip
  all_goals show IV.int _ _ = IV.int _ _
  all_goals congr 1
  all_goals unfold within
  all_goals split <;> omega

def encI (xs : List Int) : Rows := xs.map fun x => [IV.int .i64 x]
def nxt (xs : List Int) (p : Nat) (n : Int) : Int × Nat := if xs.length ≤ p ∨ n < 1 then (0, p) else (within (xs.getD p 0) 0 1073741824 % n, p + 1)
def tapeR (xs : List Int) (tag : Tag) (p : Nat) : Rows := [[.vs 1 (encI xs) tag, .int .i64 p]]
theorem within_range {x : Int} : 0 ≤ within x 0 1073741824 ∧ within x 0 1073741824 ≤ 1073741824 := by
  unfold within
  split
  · omega
  · have t2 := Int.emod_nonneg x (b := 1073741824 - 0 + 1) (by omega)
    have t3 := Int.emod_lt_of_pos x (b := 1073741824 - 0 + 1) (by omega)
    omega
theorem next_c {id : Nat} {xs : List Int} {tag : Tag} {p : Nat} {n : Int} (hx : ∀ x ∈ xs, inr x) (hp : p ≤ 4611686018427387904) (hid : h.obj id = some (tapeR xs tag p)) :
    CallsV Go.Proofs.Try.prog 14 [.ptr id 0 0, .int .i64 n] h (fun r h' => r = .int .i64 (nxt xs p n).1 ∧ h' = h.put id (tapeR xs tag (nxt xs p n).2)) := by
  refine callsV_of_vc hP k14 ?_
  repeat' ((conv => whnf); first
    | (refine br_intro (fun hc => ?_) (fun hc => ?_) <;> (try simp only [decide_eq_true_eq, decide_eq_false_iff_not] at hc) <;> (try (exfalso; omega)))
    | (refine optK_intro (by first | assumption | exact hput_same | fail) ?_)
    | (refine fun t ht => ?_)
    | (refine And.intro (by first | exact rfl | exact addT_same | omega | exact Nat.le_of_ble_eq_true rfl | decide | exact ⟨by omega, by omega⟩ | (simp; done) | (simp; omega; done) | fail) ?_)
    | fail)
  all_goals (conv => whnf)
  · have h1 : (nxt xs p n) = (0, p) := by unfold nxt; rw [if_pos (by simp [encI] at hc; omega)]
    rw [h1]
    exact ⟨_, Heap.sub_refl _, rfl, (hput_id hid).symm⟩
  · rename_i hc1
    have h1 : (nxt xs p n) = (0, p) := by unfold nxt; rw [if_pos (by omega)]
    rw [h1]
    exact ⟨_, Heap.sub_refl _, rfl, (hput_id hid).symm⟩
  · rename_i hc1
    have hlt : p < xs.length := by simp [encI] at hc1; omega
    have hg : (encI xs)[((p : Int) + 1 - 1).toNat]? = some [.int .i64 (xs.getD p 0)] := by
      rw [show ((p : Int) + 1 - 1).toNat = p by omega]
      simp [encI, hlt]
    have h1 : (nxt xs p n) = (within (xs.getD p 0) 0 1073741824 % n, p + 1) := by unfold nxt; rw [if_neg (by omega)]
    have hx1 : inr (xs.getD p 0) := hx _ (by simp [hlt])
    refine optK_intro hg ?_
    conv => whnf
    refine call_pure (within_c (by omega) (by omega) (by omega) hx1) ?_
    repeat' ((conv => whnf); first
      | (refine br_intro (fun hc => ?_) (fun hc => ?_) <;> (try simp only [decide_eq_true_eq, decide_eq_false_iff_not, if_true, if_false, Bool.and_true, Bool.not_eq_true', Bool.not_eq_false', Bool.and_eq_true, Bool.and_eq_false_iff, beq_iff_eq, beq_eq_false_iff_ne, ne_eq] at hc) <;> (try (exfalso; omega)))
      | (refine optK_intro (by first | assumption | exact hput_same | fail) ?_)
      | (refine fun t ht => ?_)
      | (refine And.intro (by first | exact rfl | exact addT_same | omega | exact Nat.le_of_ble_eq_true rfl | decide | exact ⟨by omega, by omega⟩ | (simp; done) | (simp; omega; done) | fail) ?_)
      | fail)
    all_goals (conv => whnf)
    rw [h1]
    have hw := within_range (x := xs.getD p 0)
    refine ⟨_, Heap.sub_refl _, ?_, rfl⟩
    show IV.int _ _ = IV.int _ _
    congr 1
    exact Int.tmod_eq_emod_of_nonneg hw.1

abbrev Run := Int × Int
def encR (l : List Run) : Rows := l.map fun r => [IV.int .i64 r.1, IV.int .i64 r.2]
theorem encR_len {l : List Run} : (encR l).length = l.length := by simp [encR]
theorem encR_get {l : List Run} {i : Nat} (hi : i < l.length) : (encR l)[((i : Nat) : Int).toNat]? = some [.int .i64 l[i].1, .int .i64 l[i].2] := by simp [encR, hi]
def partOK (p : Int) : Bool := decide (-1 ≤ p ∧ p < 6)
theorem part_c {p : Int} : CallsV Go.Proofs.Try.prog 28 [.int .i64 p] h (fun r h' => r = .bool (partOK p) ∧ h' = h) := by
  refine callsV_of_vc hP k28 ?_
  repeat' ((conv => whnf); first
    | (refine br_intro (fun hc => ?_) (fun hc => ?_) <;> (try simp only [decide_eq_true_eq, decide_eq_false_iff_not] at hc) <;> (try (exfalso; omega)))
    | (refine optK_intro (by first | assumption | exact hput_same | fail) ?_)
    | (refine fun t ht => ?_)
    | (refine And.intro (by first | exact rfl | exact addT_same | omega | exact Nat.le_of_ble_eq_true rfl | decide | exact ⟨by omega, by omega⟩ | (simp; done) | (simp; omega; done) | fail) ?_)
    | fail)
  all_goals (conv => whnf)
  all_goals refine ⟨_, Heap.sub_refl _, ?_⟩
  all_goals refine And.intro ?_ ?_
  all_goals first | rfl | skip
  all_goals show IV.bool _ = IV.bool _
  all_goals congr 1
  all_goals simp [partOK] <;> omega
def runOK (r : Run) : Bool := decide (1 ≤ r.2 ∧ r.2 ≤ 4096) && partOK r.1
def total (l : List Run) : Int := (l.map (·.2)).sum
def right (l : List Run) : Bool := l.all runOK && decide (0 < l.length ∧ l.length ≤ 96 ∧ total l ≤ 4096)
theorem total_le {l : List Run} (h : l.all runOK = true) : 0 ≤ total l ∧ total l ≤ l.length * 4096 := by
  induction l with
  | nil => simp [total]
  | cons r l ih =>
    simp only [List.all_cons, Bool.and_eq_true, runOK, decide_eq_true_eq] at h
    have := ih (by simpa [runOK] using h.2)
    simp only [total, List.map_cons, List.sum_cons, List.length_cons] at this ⊢
    omega
theorem total_take {l : List Run} {i : Nat} (hi : i < l.length) : total (l.take (i + 1)) = total (l.take i) + l[i].2 := by
  unfold total
  rw [List.take_add_one, List.map_append, List.sum_append]
  simp [hi]
theorem all_take {l : List Run} {i : Nat} (hi : i < l.length) : (l.take (i + 1)).all runOK = ((l.take i).all runOK && runOK l[i]) := by
  rw [List.take_add_one, List.all_append]
  simp [hi]
def rightJ (l : List Run) (tag : Tag) (h : Heap) : Inv Nat where
  E i := [(0, .vs 2 (encR l) tag), (3, .int .i64 (total (l.take i))), (6, .vs 2 (encR l) tag), (7, .int .i64 (encR l).length), (8, .int .i64 i)]
  L _ := []
  H _ := h
  ok i := i ≤ l.length ∧ (l.take i).all runOK = true
  meas i := l.length - i
theorem right_c {l : List Run} {tag : Tag} (hl : l.length ≤ 1099511627776) : CallsV Go.Proofs.Try.prog 16 [.vs 2 (encR l) tag] h (fun r h' => r = .bool (right l) ∧ h' = h) := by
  refine callsV_of_vc hP k16 ?_
  conv => whnf
  refine loop_rule (rightJ l tag h) 0 ⟨⟨by simp, by simp⟩, ⟨rfl, rfl, rfl, rfl, rfl, trivial⟩, trivial, Heap.sub_refl _⟩ (fun i hi => ?_)
  obtain ⟨hi1, hi2⟩ := hi
  have hlen := encR_len (l := l)
  have ht := total_le hi2
  have hlt2 : (l.take i).length ≤ l.length := by rw [List.length_take]; omega
  rcases Nat.lt_or_ge i l.length with hlt | hge
  · have hget := encR_get hlt
    have hbad : runOK l[i] = false → right l = false := by
      intro hb
      unfold right
      rw [Bool.and_eq_false_iff]
      left
      rw [List.all_eq_false]
      exact ⟨l[i], List.getElem_mem hlt, by rw [hb]; simp⟩
    repeat' ((conv => whnf); first
      | (refine br_intro (fun hc => ?_) (fun hc => ?_) <;> (try simp only [decide_eq_true_eq, decide_eq_false_iff_not, Bool.not_eq_true', Bool.not_eq_false'] at hc) <;> (try (exfalso; omega)))
      | (refine optK_intro (by first | assumption | exact hput_same | fail) ?_)
      | (refine call_pure (part_c) ?_)
      | (refine fun t ht => ?_)
      | (refine And.intro (by first | exact rfl | exact addT_same | omega | exact Nat.le_of_ble_eq_true rfl | decide | exact ⟨by omega, by omega⟩ | (simp; done) | (simp; omega; done) | fail) ?_)
      | fail)
    all_goals (conv => whnf)
    · refine ⟨_, Heap.sub_refl _, ?_, rfl⟩
      show IV.bool _ = IV.bool _
      rw [hbad (by simp [runOK]; omega)]
    · refine ⟨_, Heap.sub_refl _, ?_, rfl⟩
      show IV.bool _ = IV.bool _
      rw [hbad (by simp [runOK]; omega)]
    · refine ⟨_, Heap.sub_refl _, ?_, rfl⟩
      show IV.bool _ = IV.bool _
      rw [hbad (by simp [runOK]; (try simp at hc); simp [hc])]
    · refine ⟨i + 1, ?_, ⟨?_, ?_⟩, ⟨rfl, ?_, rfl, rfl, rfl, trivial⟩, trivial, Heap.sub_refl _⟩
      · show l.length - (i + 1) < l.length - i
        omega
      · omega
      · rw [all_take hlt, hi2]; simp [runOK]; (try simp at hc); simp [hc]; omega
      · show some (IV.int _ _) = some (IV.int _ _)
        rw [total_take hlt]
  · have hi3 : i = l.length := by omega
    have hall : l.take i = l := by rw [hi3]; exact List.take_length
    rw [hall] at hi2
    repeat' ((conv => whnf); first
      | (refine br_intro (fun hc => ?_) (fun hc => ?_) <;> (try simp only [decide_eq_true_eq, decide_eq_false_iff_not] at hc) <;> (try (exfalso; omega)))
      | (refine optK_intro (by first | assumption | exact hput_same | fail) ?_)
      | (refine fun t ht => ?_)
      | (refine And.intro (by first | exact rfl | exact addT_same | omega | exact Nat.le_of_ble_eq_true rfl | decide | exact ⟨by omega, by omega⟩ | (simp; done) | (simp; omega; done) | fail) ?_)
      | fail)
    all_goals (conv => whnf)
    all_goals refine ⟨_, Heap.sub_refl _, ?_⟩
    all_goals refine And.intro ?_ ?_
    all_goals first | rfl | skip
    all_goals show IV.bool _ = IV.bool _
    all_goals rw [hall] at *
    all_goals congr 1
    all_goals unfold right
    all_goals rw [hi2, Bool.true_and]
    all_goals first | exact decide_eq_decide.2 (by omega) | exact (decide_eq_false (by omega)).symm
end VL
