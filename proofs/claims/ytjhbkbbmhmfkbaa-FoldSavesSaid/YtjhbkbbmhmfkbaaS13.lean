/- The contract of fold.best. -/
import Derived.Test.YtjhbkbbmhmfkbaaS12
namespace VL
open Go
attribute [local irreducible] CallsV
variable {h : Heap}
abbrev Fit := Int × Int × Int × Int
def encF (f : Fit) : List IV := [.int .i64 f.1, .int .i64 f.2.1, .int .i64 f.2.2.1, .int .i64 f.2.2.2]
def savesAt (n : Nat) (p : Nat) (size : Int) : Int := size * ((n : Int) - 1) - 1 - (if 1 < p then 1 else 0)
def fitStep (ids : List Int) (a p : Nat) (size : Int) (out : Fit) : Fit :=
  if 1 < times ids a p ∧ out.2.2.2 < savesAt (times ids a p) p size then (a, p, times ids a p, savesAt (times ids a p) p size) else out
def bestP (ids sizes : List Int) (a : Nat) : Nat → Nat → Int → Fit → Fit
  | 0, _, _, out => out
  | k + 1, p, size, out => if a + 2 * p ≤ ids.length then bestP ids sizes a k (p + 1) (size + sizes.getD (a + p - 1) 0) (fitStep ids a p (size + sizes.getD (a + p - 1) 0) out) else out
def bestFrom (ids sizes : List Int) (out : Fit) (a : Nat) : Fit := bestP ids sizes a ids.length 1 0 out
def best (ids sizes : List Int) : Fit := (List.range ids.length).foldl (bestFrom ids sizes) (0, 0, 0, 0)
theorem times_le {ids : List Int} {a p : Nat} (_ : 1 ≤ p) (_ : p ≤ ids.length) : 1 ≤ times ids a p ∧ times ids a p ≤ ids.length + 1 := by
  unfold times
  have : ∀ k n, 1 ≤ n → n + k = ids.length + 1 → 1 ≤ timesL ids a p k n ∧ timesL ids a p k n ≤ ids.length + 1 := by
    intro k
    induction k with
    | zero => intro n h1 h2; exact ⟨h1, by simp only [timesL]; omega⟩
    | succ k ih =>
      intro n h1 h2
      simp only [timesL]
      split
      · exact ih _ (by omega) (by omega)
      · omega
  exact this _ _ (by omega) (by omega)
def outJ (ids sizes : List Int) (ti ts : Tag) (h : Heap) : Inv (Nat × Fit) where
  E := fun | (i, _) => [(0, .vs 1 (encI ids) ti), (1, .vs 1 (encI sizes) ts), (4, .lp 4 0), (5, .lp 5 0), (12, .int .i64 (encI ids).length), (13, .int .i64 i)]
  L := fun | (_, out) => [(4, encF (0, 0, 0, 0)), (5, encF out)]
  H _ := h
  ok := fun | (i, out) => i ≤ ids.length ∧ out = (List.range i).foldl (bestFrom ids sizes) (0, 0, 0, 0)
  meas := fun | (i, _) => ids.length - i
def inJ (ids sizes : List Int) (ti ts : Tag) (i : Nat) (r : Fit) (h : Heap) : Inv (Nat × Nat × Int × Fit) where
  E := fun | (p, _, size, _) => [(0, .vs 1 (encI ids) ti), (1, .vs 1 (encI sizes) ts), (4, .lp 4 0), (5, .lp 5 0), (6, .int .i64 i), (7, .int .i64 size), (8, .int .i64 p), (12, .int .i64 (encI ids).length), (13, .int .i64 i)]
  L := fun | (_, _, _, out) => [(4, encF (0, 0, 0, 0)), (5, encF out)]
  H _ := h
  ok := fun | (p, k, size, out) => 1 ≤ p ∧ p + k = ids.length + 1 ∧ bestP ids sizes i k p size out = r ∧ 0 ≤ size ∧ size ≤ 1048576 * p
  meas := fun | (_, k, _, _) => k
theorem best_c {ids sizes : List Int} {ti ts : Tag} (hl : ids.length ≤ 1024) (hs : sizes.length = ids.length) (hz : ∀ x ∈ sizes, 0 ≤ x ∧ x ≤ 1048576) :
    CallsV Go.Proofs.Try.prog 18 [.vs 1 (encI ids) ti, .vs 1 (encI sizes) ts] h (fun x h' => x = .agg (encF (best ids sizes)) ∧ h' = h) := by
  refine callsV_of_vc hP k18 ?_
  have hla := encI_len (l := ids)
  have hls := encI_len (l := sizes)
  repeat' ((conv => whnf); first
    | (refine br_intro (fun hc => ?_) (fun hc => ?_) <;> (try simp only [decide_eq_true_eq, decide_eq_false_iff_not, if_true, if_false, Bool.and_true, Bool.not_eq_true', Bool.not_eq_false', Bool.and_eq_true, Bool.and_eq_false_iff, beq_iff_eq, beq_eq_false_iff_ne, ne_eq] at hc) <;> (try (exfalso; omega)))
    | (refine optK_intro (by first | assumption | exact hput_same | fail) ?_)
    | (refine fun t ht => ?_)
    | (refine And.intro (by first | exact rfl | exact addT_same | omega | exact Nat.le_of_ble_eq_true rfl | decide | exact ⟨by omega, by omega⟩ | (simp; done) | (simp; omega; done) | fail) ?_)
    | fail)
  all_goals (conv => whnf)
  refine loop_rule (outJ ids sizes ti ts h) (0, (0, 0, 0, 0)) ⟨⟨by omega, rfl⟩, ⟨rfl, rfl, rfl, rfl, rfl, rfl, trivial⟩, ⟨rfl, rfl, trivial⟩, Heap.sub_refl _⟩ (fun s hs1 => ?_)
  obtain ⟨i, out0⟩ := s
  obtain ⟨i1, i2⟩ := hs1
  rcases Nat.lt_or_ge i ids.length with hlt | hge
  · repeat' ((conv => whnf); first
      | (refine br_intro (fun hc => ?_) (fun hc => ?_) <;> (try simp only [decide_eq_true_eq, decide_eq_false_iff_not] at hc) <;> (try (exfalso; omega)))
      | (refine optK_intro (by first | assumption | exact hput_same | fail) ?_)
      | (refine fun t ht => ?_)
      | (refine And.intro (by first | exact rfl | exact addT_same | omega | exact Nat.le_of_ble_eq_true rfl | decide | exact ⟨by omega, by omega⟩ | (simp; done) | (simp; omega; done) | fail) ?_)
      | fail)
    all_goals (conv => whnf)
    refine loop_rule (inJ ids sizes ti ts i (bestFrom ids sizes out0 i) h) (1, ids.length, 0, out0) ⟨⟨by omega, by omega, rfl, by omega, by omega⟩, ⟨rfl, rfl, rfl, rfl, rfl, rfl, rfl, rfl, rfl, trivial⟩, ⟨rfl, rfl, trivial⟩, Heap.sub_refl _⟩ (fun s hs1 => ?_)
    obtain ⟨p, k, size, out⟩ := s
    obtain ⟨j1, j2, j3, j4, j5⟩ := hs1
    rcases Nat.lt_or_ge ids.length (i + 2 * p) with hlt2 | hge2
    · repeat' ((conv => whnf); first
        | (refine br_intro (fun hc => ?_) (fun hc => ?_) <;> (try simp only [decide_eq_true_eq, decide_eq_false_iff_not] at hc) <;> (try (exfalso; omega)))
        | (refine optK_intro (by first | assumption | exact hput_same | fail) ?_)
        | (refine fun t ht => ?_)
        | (refine And.intro (by first | exact rfl | exact addT_same | omega | exact Nat.le_of_ble_eq_true rfl | decide | exact ⟨by omega, by omega⟩ | (simp; done) | (simp; omega; done) | fail) ?_)
        | fail)
      all_goals (conv => whnf)
      have he : out = bestFrom ids sizes out0 i := by
        rw [← j3]
        cases k with
        | zero => rfl
        | succ k => rw [bestP, if_neg (by omega)]
      refine ⟨(i + 1, out), ?_, ⟨by omega, ?_⟩, ⟨rfl, rfl, rfl, rfl, rfl, rfl, trivial⟩, ⟨rfl, rfl, trivial⟩, Heap.sub_refl _⟩
      · show ids.length - (i + 1) < ids.length - i
        omega
      · rw [he, List.range_succ, List.foldl_append, ← i2]; rfl
    · have ht := times_le (ids := ids) (a := i) (p := p) j1 (by omega)
      have hg : (encI sizes)[((i : Int) + (p : Int) - 1).toNat]? = some [.int .i64 (sizes.getD (i + p - 1) 0)] := by
        rw [show ((i : Int) + (p : Int) - 1).toNat = i + p - 1 by omega]
        have : i + p - 1 < sizes.length := by omega
        simp [encI, this]
      have hz1 := hz (sizes.getD (i + p - 1) 0) (by
        have : i + p - 1 < sizes.length := by omega
        simp [this])
      generalize hx : sizes.getD (i + p - 1) 0 = x at hg hz1
      have hm0 : 0 ≤ (size + x) * ((times ids i p : Int) - 1) := Int.mul_nonneg (by omega) (by omega)
      have hm1 : (size + x) * ((times ids i p : Int) - 1) ≤ (1048576 * 1026) * 1026 := Int.mul_le_mul (by omega) (by omega) (by omega) (by omega)
      repeat' ((conv => whnf); first
        | (refine br_intro (fun hc => ?_) (fun hc => ?_) <;> (try simp only [decide_eq_true_eq, decide_eq_false_iff_not] at hc) <;> (try (exfalso; omega)))
        | (refine optK_intro (by first | assumption | exact hput_same | fail) ?_)
        | (refine call_pure (times_c (ids := ids) (at' := i) (p := p) (by omega) (by omega) (by omega) (by omega)) ?_)
        | (refine fun t ht => ?_)
        | (refine And.intro (by first | exact rfl | exact addT_same | omega | exact Nat.le_of_ble_eq_true rfl | decide | exact ⟨by omega, by omega⟩ | (simp; done) | (simp; omega; done) | fail) ?_)
        | fail)
      all_goals (conv => whnf)
      all_goals obtain ⟨k', rfl⟩ : ∃ k', k = k' + 1 := ⟨k - 1, by omega⟩
      all_goals refine ⟨(p + 1, k', size + x, fitStep ids i p (size + x) out), Nat.lt_succ_self k', ⟨by omega, by omega, by rw [← j3, bestP, if_pos hge2, hx], by omega, by omega⟩, ⟨rfl, rfl, rfl, rfl, rfl, rfl, rfl, rfl, rfl, trivial⟩, ⟨rfl, ?_, trivial⟩, Heap.sub_refl _⟩
      all_goals unfold fitStep savesAt
      all_goals first | rw [if_pos (show 1 < p by omega)] | rw [if_neg (show ¬ 1 < p by omega), Int.sub_zero]
      all_goals first | (rw [if_pos ⟨by omega, by omega⟩]; rfl) | (rw [if_neg (by intro hcc; obtain ⟨hc5, hc6⟩ := hcc; omega)]; rfl)
  · repeat' ((conv => whnf); first
      | (refine br_intro (fun hc => ?_) (fun hc => ?_) <;> (try simp only [decide_eq_true_eq, decide_eq_false_iff_not] at hc) <;> (try (exfalso; omega)))
      | (refine optK_intro (by first | assumption | exact hput_same | fail) ?_)
      | (refine fun t ht => ?_)
      | (refine And.intro (by first | exact rfl | exact addT_same | omega | exact Nat.le_of_ble_eq_true rfl | decide | exact ⟨by omega, by omega⟩ | (simp; done) | (simp; omega; done) | fail) ?_)
      | fail)
    all_goals (conv => whnf)
    have he : out0 = best ids sizes := by
      rw [i2, show i = ids.length by omega]; rfl
    exact ⟨_, Heap.sub_refl _, by rw [← he]; rfl, rfl⟩
end VL
