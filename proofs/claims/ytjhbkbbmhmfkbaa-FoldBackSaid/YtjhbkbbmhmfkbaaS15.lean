/- What best and times tell: plain. -/
import Derived.Test.YtjhbkbbmhmfkbaaS14
namespace VL
open Go
theorem cut_succ {α : Type} {l : List α} {a b : Nat} (hab : a ≤ b) (hb : b < l.length) : cut l a (b + 1) = cut l a b ++ [l[b]] := by
  unfold cut
  rw [List.take_add_one, List.getElem?_eq_getElem hb, List.drop_append_of_le_length (by rw [List.length_take]; omega)]
  rfl
theorem times_ok {ids : List Int} {a p : Nat} : (∀ i, i < times ids a p → cut ids a (a + p) = cut ids (a + i * p) (a + (i + 1) * p)) ∧ (1 < times ids a p → a + times ids a p * p ≤ ids.length) := by
  unfold times
  have : ∀ k n, 1 ≤ n → (∀ i, i < n → cut ids a (a + p) = cut ids (a + i * p) (a + (i + 1) * p)) → (1 < n → a + n * p ≤ ids.length) →
      (∀ i, i < timesL ids a p k n → cut ids a (a + p) = cut ids (a + i * p) (a + (i + 1) * p)) ∧ (1 < timesL ids a p k n → a + timesL ids a p k n * p ≤ ids.length) := by
    intro k
    induction k with
    | zero => intro n h1 h2 h3; exact ⟨h2, h3⟩
    | succ k ih =>
      intro n h1 h2 h3
      simp only [timesL]
      split
      · rename_i hm
        simp only [onceMore, Bool.and_eq_true, decide_eq_true_eq] at hm
        refine ih (n + 1) (by omega) (fun i hi => ?_) (fun _ => hm.1)
        rcases Nat.lt_or_ge i n with q | q
        · exact h2 i q
        · rw [show i = n by omega]; exact hm.2
      · exact ⟨h2, h3⟩
  refine this _ _ (by omega) (fun i hi => ?_) (by omega)
  rw [show i = 0 by omega]; simp
def fitOK (ids sizes : List Int) (f : Fit) : Prop :=
  f = (0, 0, 0, 0) ∨ ∃ a p n : Nat, f = ((a : Int), (p : Int), (n : Int), savesAt n p (cut sizes a (a + p)).sum) ∧ 1 < n ∧ 1 ≤ p ∧ a + n * p ≤ ids.length ∧ 0 < savesAt n p (cut sizes a (a + p)).sum ∧ ∀ i, i < n → cut ids a (a + p) = cut ids (a + i * p) (a + (i + 1) * p)
theorem fitOK_pos {ids sizes : List Int} {f : Fit} (hf : fitOK ids sizes f) : 0 ≤ f.2.2.2 := by
  rcases hf with e | ⟨a, p, n, e, h1, h2, h3, h4, _⟩
  · rw [e]; exact Int.le_refl 0
  · rw [e]; exact Int.le_of_lt h4
theorem fitStep_ok {ids sizes : List Int} {a p : Nat} {out : Fit} (hp : 1 ≤ p) (ho : fitOK ids sizes out) : fitOK ids sizes (fitStep ids a p (cut sizes a (a + p)).sum out) := by
  unfold fitStep
  split
  · rename_i hc
    have h0 := fitOK_pos ho
    have ht := times_ok (ids := ids) (a := a) (p := p)
    exact .inr ⟨a, p, times ids a p, rfl, hc.1, hp, ht.2 hc.1, by omega, ht.1⟩
  · exact ho
theorem bestP_ok {ids sizes : List Int} (hs : sizes.length = ids.length) {a : Nat} : ∀ k p size out, 1 ≤ p → size = (cut sizes a (a + p - 1)).sum → fitOK ids sizes out → fitOK ids sizes (bestP ids sizes a k p size out) := by
  intro k
  induction k with
  | zero => intro p size out h1 h2 h3; exact h3
  | succ k ih =>
    intro p size out h1 h2 h3
    simp only [bestP]
    split
    · rename_i hc
      have hlt : a + p - 1 < sizes.length := by omega
      have e : size + sizes.getD (a + p - 1) 0 = (cut sizes a (a + p)).sum := by
        have := cut_succ (l := sizes) (a := a) (b := a + p - 1) (by omega) hlt
        rw [show a + p - 1 + 1 = a + p by omega] at this
        rw [this, List.sum_append, ← h2]
        simp [hlt]
      rw [e]
      exact ih _ _ _ (by omega) rfl (fitStep_ok h1 h3)
    · exact h3
theorem best_ok {ids sizes : List Int} (hs : sizes.length = ids.length) : fitOK ids sizes (best ids sizes) := by
  unfold best
  have : ∀ (l : List Nat) out, fitOK ids sizes out → fitOK ids sizes (l.foldl (bestFrom ids sizes) out) := by
    intro l
    induction l with
    | nil => intro out h; exact h
    | cons a l ih =>
      intro out h
      refine ih _ (bestP_ok hs _ _ _ _ (by omega) ?_ h)
      simp [cut]
  exact this _ _ (.inl rfl)
end VL
