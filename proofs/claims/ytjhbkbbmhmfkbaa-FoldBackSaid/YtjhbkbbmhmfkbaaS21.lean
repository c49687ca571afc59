/- The contracts of Of, Period, Best and known. -/
import Derived.Test.YtjhbkbbmhmfkbaaS20
namespace VL
open Go
attribute [local irreducible] CallsV
variable {h : Heap}
theorem Of_c {x : Nd} {k : Fo} {tag : Tag} (hl : k.size < 128) (hw : (Fo.one x k).wf) (hd : k.deep < 16) (ho : Fo.over x k.long ≤ 4096) (hn : (Fo.ownR x k.runs).length ≤ 1048576)
    (hr : ∀ y ∈ Fo.ownR x k.runs, inr y.2) (ht : (tidy (Fo.ownR x k.runs)).length ≤ 96) :
    CallsV Go.Proofs.Try.prog 12 [.vs 3 (encN (Fo.one x k).flat) tag] h (fun r h' => r = .tup [.vs 2 (encR (tidy (Fo.ownR x k.runs))) .ro, .int .i64 0] ∧ h' = h) := by
  refine callsV_of_vc hP k12 ?_
  have hlt := encR_len (l := tidy (Fo.ownR x k.runs))
  repeat' ((conv => whnf); first
    | (refine br_intro (fun hc => ?_) (fun hc => ?_) <;> (try simp only [decide_eq_true_eq, decide_eq_false_iff_not] at hc) <;> (try (exfalso; omega)))
    | (refine optK_intro (by first | assumption | exact hput_same | fail) ?_)
    | (refine call_pure (Right_c hl hw hd ho) ?_)
    | (refine call_pure (Leaves_c (by omega) hw hn) ?_)
    | (refine call_pure (tidy_c hn hr) ?_)
    | (refine fun t ht => ?_)
    | (refine And.intro (by first | exact rfl | exact addT_same | omega | exact Nat.le_of_ble_eq_true rfl | decide | exact ⟨by omega, by omega⟩ | (simp; done) | (simp; omega; done) | fail) ?_)
    | fail)
  all_goals (conv => whnf)
  exact ⟨_, Heap.sub_refl _, rfl, rfl⟩
/-- Whether a row is the same, so much further. -/
def periodL (l : List Run) : Nat → Nat → Nat
  | 0, _ => l.length
  | k + 1, p => if p < l.length then (if l.length % p = 0 ∧ cut l p l.length = cut l 0 (l.length - p) then p else periodL l k (p + 1)) else l.length
def periodF (l : List Run) : Nat := periodL l l.length 1
def periodJ (l : List Run) (tag : Tag) (h : Heap) : Inv (Nat × Nat) where
  E := fun | (p, _) => [(0, .vs 2 (encR l) tag), (3, .int .i64 p)]
  L _ := []
  H _ := h
  ok := fun | (p, k) => 1 ≤ p ∧ p + k = l.length + 1 ∧ periodL l k p = periodF l
  meas := fun | (_, k) => k
theorem period_c {l : List Run} {tag : Tag} (hl : l.length ≤ 1048576) :
    CallsV Go.Proofs.Try.prog 24 [.vs 2 (encR l) tag] h (fun r h' => r = .int .i64 (periodF l) ∧ h' = h) := by
  refine callsV_of_vc hP k24 ?_
  have hla := encR_len (l := l)
  repeat' ((conv => whnf); first
    | (refine br_intro (fun hc => ?_) (fun hc => ?_) <;> (try simp only [decide_eq_true_eq, decide_eq_false_iff_not, if_true, if_false, Bool.and_true, Bool.not_eq_true', Bool.not_eq_false', Bool.and_eq_true, Bool.and_eq_false_iff, beq_iff_eq, beq_eq_false_iff_ne, ne_eq] at hc) <;> (try (exfalso; omega)))
    | (refine optK_intro (by first | assumption | exact hput_same | fail) ?_)
    | (refine fun t ht => ?_)
    | (refine And.intro (by first | exact rfl | exact addT_same | omega | exact Nat.le_of_ble_eq_true rfl | decide | exact ⟨by omega, by omega⟩ | (simp; done) | (simp; omega; done) | fail) ?_)
    | fail)
  all_goals (conv => whnf)
  refine loop_rule (periodJ l tag h) (1, l.length) ⟨⟨by omega, by omega, rfl⟩, ⟨rfl, rfl, trivial⟩, trivial, Heap.sub_refl _⟩ (fun s hs => ?_)
  obtain ⟨p, k⟩ := s
  obtain ⟨i1, i2, i3⟩ := hs
  rcases Nat.lt_or_ge p l.length with hlt | hge
  · obtain ⟨k', rfl⟩ : ∃ k', k = k' + 1 := ⟨k - 1, by omega⟩
    rw [periodL, if_pos hlt] at i3
    have hm : (l.length : Int).tmod (p : Int) = ((l.length % p : Nat) : Int) := by rw [Int.tmod_eq_emod_of_nonneg (by omega)]; rfl
    repeat' ((conv => whnf); first
      | (refine br_intro (fun hc => ?_) (fun hc => ?_) <;> (try simp only [decide_eq_true_eq, decide_eq_false_iff_not] at hc) <;> (try (exfalso; omega)))
      | (refine optK_intro (by first | assumption | exact hput_same | fail) ?_)
      | (refine call_pure (equal37_s (a := l) (b := l) (by omega) (by omega)) ?_)
      | (refine fun t ht => ?_)
      | (refine And.intro (by first | exact rfl | exact addT_same | omega | exact Nat.le_of_ble_eq_true rfl | decide | exact ⟨by omega, by omega⟩ | (simp; done) | (simp; omega; done) | fail) ?_)
      | fail)
    all_goals (conv => whnf)
    · rename_i hc1
      rw [hla, hm] at hc1
      rw [show ((p : Int)).toNat = p by omega, hla, show ((l.length : Int)).toNat = l.length by omega, show ((l.length : Int) - (p : Int)).toNat = l.length - p by omega] at hc
      rw [if_pos ⟨by omega, hc⟩] at i3
      rw [← i3]
      exact ⟨_, Heap.sub_refl _, rfl, rfl⟩
    · rw [show ((p : Int)).toNat = p by omega, hla, show ((l.length : Int)).toNat = l.length by omega, show ((l.length : Int) - (p : Int)).toNat = l.length - p by omega] at hc
      rw [if_neg (fun q => hc q.2)] at i3
      exact ⟨(p + 1, k'), Nat.lt_succ_self k', ⟨by omega, by omega, i3⟩, ⟨rfl, rfl, trivial⟩, trivial, Heap.sub_refl _⟩
    · rw [hla, hm] at hc
      rw [if_neg (fun q => hc (by rw [q.1]; rfl))] at i3
      exact ⟨(p + 1, k'), Nat.lt_succ_self k', ⟨by omega, by omega, i3⟩, ⟨rfl, rfl, trivial⟩, trivial, Heap.sub_refl _⟩
  · repeat' ((conv => whnf); first
      | (refine br_intro (fun hc => ?_) (fun hc => ?_) <;> (try simp only [decide_eq_true_eq, decide_eq_false_iff_not] at hc) <;> (try (exfalso; omega)))
      | (refine optK_intro (by first | assumption | exact hput_same | fail) ?_)
      | (refine fun t ht => ?_)
      | (refine And.intro (by first | exact rfl | exact addT_same | omega | exact Nat.le_of_ble_eq_true rfl | decide | exact ⟨by omega, by omega⟩ | (simp; done) | (simp; omega; done) | fail) ?_)
      | fail)
    all_goals (conv => whnf)
    have e : periodF l = l.length := by
      rw [← i3]
      cases k with
      | zero => rfl
      | succ k => rw [periodL, if_neg (by omega)]
    rw [e, ← hla]
    exact ⟨_, Heap.sub_refl _, rfl, rfl⟩
def nilJ (tag : Tag) (t u : Nat) (h : Heap) : Inv Unit where
  E := fun _ => [(0, .vs 2 [] tag), (5, .vs 1 [] (.own t)), (6, .vs 1 [] (.own u)), (10, .vs 2 [] tag), (11, .int .i64 0), (12, .int .i64 0)]
  L _ := []
  H _ := (h.addT t).addT u
  ok := fun _ => True
  meas := fun _ => 0
theorem BestNil_c {tag : Tag} : CallsV Go.Proofs.Try.prog 23 [.vs 2 [] tag] h (fun r h' => r = .tup [.int .i64 0, .int .i64 0, .int .i64 0] ∧ h' = h) := by
  refine callsV_of_vc hP k23 ?_
  repeat' ((conv => whnf); first
    | (refine br_intro (fun hc => ?_) (fun hc => ?_) <;> (try simp only [decide_eq_true_eq, decide_eq_false_iff_not, if_true, if_false, Bool.and_true, Bool.not_eq_true', Bool.not_eq_false', Bool.and_eq_true, Bool.and_eq_false_iff, beq_iff_eq, beq_eq_false_iff_ne, ne_eq] at hc) <;> (try (exfalso; omega)))
    | (refine optK_intro (by first | assumption | exact hput_same | fail) ?_)
    | (refine fun t ht => ?_)
    | (refine And.intro (by first | exact rfl | exact addT_same | omega | exact Nat.le_of_ble_eq_true rfl | decide | exact ⟨by omega, by omega⟩ | (simp; done) | (simp; omega; done) | fail) ?_)
    | fail)
  all_goals (conv => whnf)
  rename_i t1 ht1
  refine loop_rule (nilJ tag t1 t h) () ⟨trivial, ⟨rfl, rfl, rfl, rfl, rfl, rfl, trivial⟩, trivial, Heap.sub_refl _⟩ (fun s hs => ?_)
  repeat' ((conv => whnf); first
    | (refine br_intro (fun hc => ?_) (fun hc => ?_) <;> (try simp only [decide_eq_true_eq, decide_eq_false_iff_not, if_true, if_false, Bool.and_true, Bool.not_eq_true', Bool.not_eq_false', Bool.and_eq_true, Bool.and_eq_false_iff, beq_iff_eq, beq_eq_false_iff_ne, ne_eq] at hc) <;> (try (exfalso; omega)))
    | (refine optK_intro (by first | assumption | exact hput_same | fail) ?_)
    | (refine call_pure (best_c (ids := []) (sizes := []) (by simp) (by simp) (by simp)) ?_)
    | (refine fun t ht => ?_)
    | (refine And.intro (by first | exact rfl | exact addT_same | omega | exact Nat.le_of_ble_eq_true rfl | decide | exact ⟨by omega, by omega⟩ | (simp; done) | (simp; omega; done) | fail) ?_)
    | fail)
  all_goals (conv => whnf)
  exact ⟨_, Heap.sub_trans addT_sub addT_sub, rfl, rfl⟩
def knownRow : List Run := [(0, 1), (1, 1), (0, 1), (1, 1), (0, 1), (1, 1)]
theorem known_c : CallsV Go.Proofs.Try.prog 10 [] h (fun r h' => r = .bool true ∧ h' = h) := by
  refine callsV_of_vc hP k10 ?_
  repeat' ((conv => whnf); first
    | (refine br_intro (fun hc => ?_) (fun hc => ?_) <;> (try simp only [decide_eq_true_eq, decide_eq_false_iff_not, if_true, if_false, Bool.and_true, Bool.not_eq_true', Bool.not_eq_false', Bool.and_eq_true, Bool.and_eq_false_iff, beq_iff_eq, beq_eq_false_iff_ne, ne_eq] at hc) <;> (try (exfalso; omega)))
    | (refine optK_intro (by first | assumption | exact hput_same | fail) ?_)
    | (refine call_pure (BestNil_c) ?_)
    | (refine call_pure (table_c (l := knownRow) (by decide)) ?_)
    | (refine call_pure (table_c (l := knownRow.take 4) (by decide)) ?_)
    | (refine call_pure (table_c (l := knownRow.take 1) (by decide)) ?_)
    | (refine call_pure (period_c (l := knownRow) (by decide)) ?_)
    | (refine call_pure (plain_c (l := knownRow) (by decide)) ?_)
    | (refine call_pure (plain_c (l := []) (by decide)) ?_)
    | (refine call_pure (period_c (l := []) (by decide)) ?_)
    | (refine fun t ht => ?_)
    | (refine And.intro (by first | exact rfl | exact addT_same | omega | exact Nat.le_of_ble_eq_true rfl | decide | exact ⟨by omega, by omega⟩ | (simp; done) | (simp; omega; done) | fail) ?_)
    | fail)
  all_goals (conv => whnf)
  all_goals exact ⟨_, Heap.sub_refl _, rfl, rfl⟩
end VL
