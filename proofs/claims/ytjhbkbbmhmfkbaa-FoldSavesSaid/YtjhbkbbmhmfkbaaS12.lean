/- The contract of fold.again. -/
import Derived.Test.YtjhbkbbmhmfkbaaS11
namespace VL
open Go
attribute [local irreducible] CallsV
variable {h : Heap}
/-- The items from a place on, so many. -/
def cut {α : Type} (l : List α) (a b : Nat) : List α := (l.take b).drop a
theorem encI_cut {l : List Int} {a b : Nat} : ((encI l).take b).drop a = encI (cut l a b) := by simp [encI, cut, List.map_take, List.map_drop]
theorem encR_cut {l : List Run} {a b : Nat} : ((encR l).take b).drop a = encR (cut l a b) := by simp [encR, cut, List.map_take, List.map_drop]
theorem cut_len {α : Type} {l : List α} {a b : Nat} : (cut l a b).length ≤ l.length := by simp [cut]; omega
theorem equal41_s {a b : List Int} {i j k m : Nat} {ta tb : Tag} (ha : a.length ≤ 1099511627776) (hb : b.length ≤ 1099511627776) :
    CallsV Go.Proofs.Try.prog 41 [.vs 1 (((encI a).take j).drop i) ta, .vs 1 (((encI b).take m).drop k) tb] h (fun x h' => x = .bool (decide (cut a i j = cut b k m)) ∧ h' = h) := by
  rw [encI_cut, encI_cut]
  have h1 := cut_len (l := a) (a := i) (b := j)
  have h2 := cut_len (l := b) (a := k) (b := m)
  exact equal41_c (by omega) (by omega)
theorem equal37_s {a b : List Run} {i j k m : Nat} {ta tb : Tag} (ha : a.length ≤ 1099511627776) (hb : b.length ≤ 1099511627776) :
    CallsV Go.Proofs.Try.prog 37 [.vs 2 (((encR a).take j).drop i) ta, .vs 2 (((encR b).take m).drop k) tb] h (fun x h' => x = .bool (decide (cut a i j = cut b k m)) ∧ h' = h) := by
  rw [encR_cut, encR_cut]
  have h1 := cut_len (l := a) (a := i) (b := j)
  have h2 := cut_len (l := b) (a := k) (b := m)
  exact equal37_c (by omega) (by omega)
/-- Whether the n-th place behind is the same again. -/
def onceMore (ids : List Int) (at' p n : Nat) : Bool := decide (at' + (n + 1) * p ≤ ids.length) && decide (cut ids at' (at' + p) = cut ids (at' + n * p) (at' + (n + 1) * p))
def timesL (ids : List Int) (at' p : Nat) : Nat → Nat → Nat
  | 0, n => n
  | k + 1, n => if onceMore ids at' p n then timesL ids at' p k (n + 1) else n
/-- How often. -/
def times (ids : List Int) (at' p : Nat) : Nat := timesL ids at' p ids.length 1
def timesJ (ids : List Int) (at' p : Nat) (tag : Tag) (h : Heap) : Inv (Nat × Nat) where
  E := fun | (n, _) => [(0, .vs 1 (encI ids) tag), (1, .int .i64 at'), (2, .int .i64 p), (7, .int .i64 n)]
  L _ := []
  H _ := h
  ok := fun | (n, k) => timesL ids at' p k n = times ids at' p ∧ n + k = ids.length + 1 ∧ 1 ≤ n
  meas := fun | (_, k) => k
theorem times_c {ids : List Int} {at' p : Nat} {tag : Tag} (hl : ids.length ≤ 1048576) (ha : at' ≤ ids.length) (hp : 1 ≤ p) (hp2 : p ≤ ids.length) :
    CallsV Go.Proofs.Try.prog 30 [.vs 1 (encI ids) tag, .int .i64 at', .int .i64 p] h (fun x h' => x = .int .i64 (times ids at' p) ∧ h' = h) := by
  refine callsV_of_vc hP k30 ?_
  have hla := encI_len (l := ids)
  repeat' ((conv => whnf); first
    | (refine br_intro (fun hc => ?_) (fun hc => ?_) <;> (try simp only [decide_eq_true_eq, decide_eq_false_iff_not, if_true, if_false, Bool.and_true, Bool.not_eq_true', Bool.not_eq_false', Bool.and_eq_true, Bool.and_eq_false_iff, beq_iff_eq, beq_eq_false_iff_ne, ne_eq] at hc) <;> (try (exfalso; omega)))
    | (refine optK_intro (by first | assumption | exact hput_same | fail) ?_)
    | (refine fun t ht => ?_)
    | (refine And.intro (by first | exact rfl | exact addT_same | omega | exact Nat.le_of_ble_eq_true rfl | decide | exact ⟨by omega, by omega⟩ | (simp; done) | (simp; omega; done) | fail) ?_)
    | fail)
  all_goals (conv => whnf)
  refine loop_rule (timesJ ids at' p tag h) (1, ids.length) ⟨⟨rfl, by omega, by omega⟩, ⟨rfl, rfl, rfl, rfl, trivial⟩, trivial, Heap.sub_refl _⟩ (fun s hs => ?_)
  obtain ⟨n, k⟩ := s
  obtain ⟨i1, i2, i3⟩ := hs
  have m1 : (n + 1) * p ≤ 1048578 * 1048576 := Nat.mul_le_mul (by omega) (by omega)
  have m2 : n * p ≤ 1048578 * 1048576 := Nat.mul_le_mul (by omega) (by omega)
  have m3 : (n + 1) * p = n * p + p := Nat.succ_mul n p
  have m4 : p ≤ n * p := Nat.le_mul_of_pos_left p i3
  have m5 : n ≤ n * p := Nat.le_mul_of_pos_right n hp
  have q1 : ((n : Int) + 1) * (p : Int) = (((n + 1) * p : Nat) : Int) := by push_cast; rfl
  have q2 : (n : Int) * (p : Int) = ((n * p : Nat) : Int) := by push_cast; rfl
  repeat' ((conv => whnf); first
    | (refine br_intro (fun hc => ?_) (fun hc => ?_) <;> (try simp only [decide_eq_true_eq, decide_eq_false_iff_not] at hc) <;> (try (exfalso; omega)))
    | (refine optK_intro (by first | assumption | exact hput_same | fail) ?_)
    | (refine call_pure (equal41_s (a := ids) (b := ids) (by omega) (by omega)) ?_)
    | (refine fun t ht => ?_)
    | (refine And.intro (by first | exact rfl | exact addT_same | omega | exact Nat.le_of_ble_eq_true rfl | decide | exact ⟨by omega, by omega⟩ | (simp; done) | (simp; omega; done) | fail) ?_)
    | fail)
  all_goals (conv => whnf)
  · rename_i hc1
    have t1 : ((at' : Int) + ((n : Int) + 1) * (p : Int)).toNat = at' + (n + 1) * p := by omega
    have t2 : ((at' : Int) + (n : Int) * (p : Int)).toNat = at' + n * p := by omega
    have t3 : ((at' : Int) + (p : Int)).toNat = at' + p := by omega
    have t4 : ((at' : Int)).toNat = at' := by omega
    rw [t1, t2, t3, t4] at hc
    have hm : onceMore ids at' p n = true := by
      unfold onceMore
      rw [decide_eq_true hc, decide_eq_true (by omega)]; rfl
    obtain ⟨k', rfl⟩ : ∃ k', k = k' + 1 := ⟨k - 1, by omega⟩
    refine ⟨(n + 1, k'), ?_, ⟨?_, ?_, ?_⟩, ⟨rfl, rfl, rfl, rfl, trivial⟩, trivial, Heap.sub_refl _⟩
    · exact Nat.lt_succ_self k'
    · rw [← i1, timesL, if_pos hm]
    · omega
    · omega
  · rename_i hc1
    have t1 : ((at' : Int) + ((n : Int) + 1) * (p : Int)).toNat = at' + (n + 1) * p := by omega
    have t2 : ((at' : Int) + (n : Int) * (p : Int)).toNat = at' + n * p := by omega
    have t3 : ((at' : Int) + (p : Int)).toNat = at' + p := by omega
    have t4 : ((at' : Int)).toNat = at' := by omega
    rw [t1, t2, t3, t4] at hc
    have hm : onceMore ids at' p n = false := by
      unfold onceMore
      rw [decide_eq_false hc, Bool.and_false]
    have e : times ids at' p = n := by
      rw [← i1]
      cases k with
      | zero => rfl
      | succ k => rw [timesL, hm]; rfl
    exact ⟨_, Heap.sub_refl _, by rw [e]; rfl, rfl⟩
  · have hm : onceMore ids at' p n = false := by
      unfold onceMore
      rw [decide_eq_false (by omega), Bool.false_and]
    have e : times ids at' p = n := by
      rw [← i1]
      cases k with
      | zero => rfl
      | succ k => rw [timesL, hm]; rfl
    exact ⟨_, Heap.sub_refl _, by rw [e]; rfl, rfl⟩
end VL
