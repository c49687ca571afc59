/- More contracts of the functions of layer 6's laws. -/
import Derived.Test.YtjhbkbbmhmfkbaaS3
namespace VL
open Go
attribute [local irreducible] CallsV
variable {h : Heap}
theorem nxt_range {xs : List Int} {p : Nat} {n : Int} : 0 ≤ (nxt xs p n).1 ∧ (0 < n → (nxt xs p n).1 < n) ∧ p ≤ (nxt xs p n).2 ∧ (nxt xs p n).2 ≤ p + 1 := by
  unfold nxt
  split
  · simp only []; omega
  · rename_i hc
    have t2 := Int.emod_nonneg (within (xs.getD p 0) 0 1073741824) (b := n) (by omega)
    have t3 := Int.emod_lt_of_pos (within (xs.getD p 0) 0 1073741824) (b := n) (by omega)
    simp only []; omega
/-- One run off a tape. -/
def oneRun (xs : List Int) (p : Nat) (parts : Int) : Run × Nat :=
  let a := nxt xs p (parts + 1)
  let b := nxt xs a.2 4
  ((a.1 - 1, 1 + b.1), b.2)
def runsOf (xs : List Int) (parts : Int) : Nat → Nat → List Run → List Run × Nat
  | 0, p, out => (out, p)
  | k + 1, p, out => runsOf xs parts k (oneRun xs p parts).2 (out ++ [(oneRun xs p parts).1])
def tapeRuns (xs : List Int) (p : Nat) (parts most : Int) : List Run × Nat :=
  runsOf xs parts (1 + (nxt xs p most).1).toNat (nxt xs p most).2 []
def runsJ (xs : List Int) (parts : Int) (id : Nat) (tag : Tag) (k0 : Nat) (r : List Run × Nat) (h : Heap) : Inv (Nat × Nat × List Run × Nat) where
  E := fun | (k, _, out, t) => [(0, .ptr id 0 0), (1, .int .i64 parts), (7, .vs 2 (encR out) (.own t)), (8, .int .i64 k)]
  L _ := []
  H := fun | (_, p, _, t) => (h.put id (tapeR xs tag p)).addT t
  ok := fun | (k, p, out, t) => runsOf xs parts k p out = r ∧ out.length + k ≤ k0 ∧ p + 2 * k ≤ 4611686018427387904 ∧ h.tok t = false
  meas := fun | (k, _, _, _) => k
theorem tape_sub {id : Nat} {A B C : Rows} {t0 t : Nat} (ht : h.tok t0 = false) : ((h.put id C).addT t).sub ((((((h.put id A).addT t0).put id B).put id C).delT t0).addT t) := by
  refine ⟨fun i r e => ?_, fun i e => ?_⟩
  · simp only [Heap.put, Heap.addT, Heap.delT] at e ⊢
    split
    · rename_i h5; rw [if_pos h5] at e; exact e
    · rename_i h5
      rw [if_neg h5] at e
      exact e
  · simp only [Heap.put, Heap.addT, Heap.delT] at e ⊢
    split
    · rfl
    · rename_i h5
      rw [if_neg h5] at e
      split
      · rename_i h6; subst h6; rw [ht] at e; cases e
      · rename_i h6
        first | (rw [if_neg h6]; exact e) | exact e
theorem next_e {id : Nat} {xs : List Int} {tag : Tag} {p : Nat} {n : Int} (hid : h.obj id = some (tapeR xs tag p)) (hx : ∀ x ∈ xs, inr x) (hp : p ≤ 4611686018427387904) :
    CallsV Go.Proofs.Try.prog 14 [.ptr id 0 0, .int .i64 n] h (fun r h' => r = .int .i64 (nxt xs p n).1 ∧ h' = h.put id (tapeR xs tag (nxt xs p n).2)) := next_c hx hp hid
theorem runs_c {id : Nat} {xs : List Int} {tag : Tag} {p : Nat} {parts most : Int} (hx : ∀ x ∈ xs, inr x) (hp : p ≤ 2305843009213693952) (h1 : 0 ≤ parts) (h2 : parts ≤ 1048576) (h3 : most ≤ 1048576) (hid : h.obj id = some (tapeR xs tag p)) :
    CallsV Go.Proofs.Try.prog 5 [.ptr id 0 0, .int .i64 parts, .int .i64 most] h (fun x h' => x = .vs 2 (encR (tapeRuns xs p parts most).1) .ro ∧ h' = h.put id (tapeR xs tag (tapeRuns xs p parts most).2)) := by
  refine callsV_of_vc hP k5 ?_
  have n1 := nxt_range (xs := xs) (p := p) (n := most)
  have hm : 1 + (nxt xs p most).1 ≤ 1048577 := by
    rcases Int.lt_or_le 0 most with q | q
    · have := n1.2.1 q; omega
    · have : nxt xs p most = (0, p) := by unfold nxt; rw [if_pos (by omega)]
      rw [this]; simp
  repeat' ((conv => whnf); first
    | (refine br_intro (fun hc => ?_) (fun hc => ?_) <;> (try simp only [decide_eq_true_eq, decide_eq_false_iff_not, if_true, if_false, Bool.and_true, Bool.not_eq_true', Bool.not_eq_false', Bool.and_eq_true, Bool.and_eq_false_iff, beq_iff_eq, beq_eq_false_iff_ne, ne_eq] at hc) <;> (try (exfalso; omega)))
    | (refine optK_intro (by first | assumption | exact hput_same | fail) ?_)
    | (refine call_eff (next_e (by first | assumption | exact hput_same) hx (by omega)) ?_)
    | (refine fun t ht => ?_)
    | (refine And.intro (by first | exact rfl | exact addT_same | omega | exact Nat.le_of_ble_eq_true rfl | decide | exact ⟨by omega, by omega⟩ | (simp; done) | (simp; omega; done) | fail) ?_)
    | fail)
  all_goals (conv => whnf)
  refine loop_rule (runsJ xs parts id tag (1 + (nxt xs p most).1).toNat (tapeRuns xs p parts most) h) ((1 + (nxt xs p most).1).toNat, (nxt xs p most).2, [], t) ⟨⟨rfl, by simp, by omega, ht⟩, ⟨rfl, rfl, rfl, ?_, trivial⟩, trivial, ?_⟩ (fun s hs => ?_)
  · show some (IV.int _ _) = some (IV.int _ _)
    rw [Int.toNat_of_nonneg (by omega)]
  · exact Heap.sub_refl _
  obtain ⟨k, q, out, t⟩ := s
  obtain ⟨i1, i2, i3, i4⟩ := hs
  have m1 := nxt_range (xs := xs) (p := q) (n := parts + 1)
  have m2 := nxt_range (xs := xs) (p := (nxt xs q (parts + 1)).2) (n := 4)
  have hlo := encR_len (l := out)
  repeat' ((conv => whnf); first
    | (refine br_intro (fun hc => ?_) (fun hc => ?_) <;> (try simp only [decide_eq_true_eq, decide_eq_false_iff_not] at hc) <;> (try (exfalso; omega)))
    | (refine optK_intro (by first | assumption | exact hput_same | fail) ?_)
    | (refine call_eff (next_e (by first | assumption | exact hput_same) hx (by omega)) ?_)
    | (refine fun t ht => ?_)
    | (refine And.intro (by first | exact rfl | exact addT_same | omega | exact Nat.le_of_ble_eq_true rfl | decide | exact ⟨by omega, by omega⟩ | (simp; done) | (simp; omega; done) | fail) ?_)
    | fail)
  all_goals (conv => whnf)
  · obtain ⟨k', rfl⟩ : ∃ k', k = k' + 1 := ⟨k - 1, by omega⟩
    have ht2 : h.tok t = false := addT_none ht
    refine ⟨(k', (oneRun xs q parts).2, out ++ [(oneRun xs q parts).1], t), ?_, ⟨i1, ?_, ?_, ht2⟩, ⟨rfl, rfl, ?_, ?_, trivial⟩, trivial, ?_⟩
    · exact Nat.lt_succ_self k'
    · rw [List.length_append]; simp only [List.length_cons, List.length_nil]; omega
    · show (nxt xs (nxt xs q (parts + 1)).2 4).2 + 2 * k' ≤ 4611686018427387904
      omega
    · show some (IV.vs _ _ _) = some (IV.vs _ _ _)
      rw [← encR_append]; rfl
    · show some (IV.int _ _) = some (IV.int _ _)
      congr 2
      omega
    · exact tape_sub i4
  · have hk : k = 0 := by omega
    subst hk
    rename_i t0
    have e1 : (out, q) = tapeRuns xs p parts most := i1
    rw [← e1]
    exact ⟨_, addT_sub, rfl, rfl⟩
end VL
