/- More contracts of the functions of layer 6's laws. -/
import Derived.Test.YtjhbkbbmhmfkbaaS1
namespace VL
open Go
attribute [local irreducible] CallsV
variable {h : Heap}
abbrev Nd := Int × Int × Int
def encNd (n : Nd) : List IV := [.int .i64 n.1, .int .i64 n.2.1, .int .i64 n.2.2]
def encN (l : List Nd) : Rows := l.map encNd
def encRun (r : Run) : List IV := [.int .i64 r.1, .int .i64 r.2]
def leaf (r : Run) : Nd := if r.1 = -1 then (2, 0, r.2) else (1, r.1, r.2)
theorem leaf_c {r : Run} : CallsV Go.Proofs.Try.prog 29 [.agg (encRun r)] h (fun x h' => x = .agg (encNd (leaf r)) ∧ h' = h) := by
  refine callsV_of_vc hP k29 ?_
  repeat' ((conv => whnf); first
    | (refine br_intro (fun hc => ?_) (fun hc => ?_) <;> (try simp only [decide_eq_true_eq, decide_eq_false_iff_not] at hc) <;> (try (exfalso; omega)))
    | (refine optK_intro (by first | assumption | exact hput_same | fail) ?_)
    | (refine fun t ht => ?_)
    | (refine And.intro (by first | exact rfl | exact addT_same | omega | exact Nat.le_of_ble_eq_true rfl | decide | exact ⟨by omega, by omega⟩ | (simp; done) | (simp; omega; done) | fail) ?_)
    | fail)
  all_goals (conv => whnf)
  all_goals refine ⟨_, Heap.sub_refl _, ?_⟩
  all_goals refine And.intro ?_ ?_
  all_goals first | rfl | skip
  all_goals unfold leaf
  · rw [if_pos (by assumption)]; rfl
  · rw [if_neg (by assumption)]; rfl

def sum63 (a b : Int) : Int := if max a 0 + max b 0 > 9223372036854775807 then 9223372036854775807 else max a 0 + max b 0
theorem sum_c {a b : Int} (ha : inr a) (hb : inr b) : CallsV Go.Proofs.Try.prog 15 [.int .i64 a, .int .i64 b] h (fun x h' => x = .int .i64 (sum63 a b) ∧ h' = h) := by
  obtain ⟨a1, a2⟩ := ha
  obtain ⟨b1, b2⟩ := hb
  refine callsV_of_vc hP k15 ?_
  conv => whnf
  have e1 : (if 0 > a then (0 : Int) else a) = max a 0 := by split <;> omega
  have e2 : (if 0 > b then (0 : Int) else b) = max b 0 := by split <;> omega
  repeat' ((conv => whnf); first
    | (refine br_intro (fun hc => ?_) (fun hc => ?_) <;> (try simp only [decide_eq_true_eq, decide_eq_false_iff_not] at hc) <;> (try (exfalso; omega)))
    | (refine optK_intro (by first | assumption | exact hput_same | fail) ?_)
    | (refine fun t ht => ?_)
    | (refine And.intro (by first | exact rfl | exact addT_same | omega | exact Nat.le_of_ble_eq_true rfl | decide | exact ⟨by omega, by omega⟩ | (simp; done) | (simp; omega; done) | fail) ?_)
    | fail)
  all_goals (conv => whnf)
  all_goals refine ⟨_, Heap.sub_refl _, ?_⟩
  all_goals refine And.intro ?_ ?_
  all_goals first | rfl | skip
  all_goals show IV.int _ _ = IV.int _ _
  all_goals congr 1
  all_goals unfold sum63
  all_goals split <;> omega

def sameJ (a b : List Run) (ta tb : Tag) (h : Heap) : Inv Nat where
  E i := [(0, .vs 2 (encR a) ta), (1, .vs 2 (encR b) tb), (12, .int .i64 (encR a).length), (13, .int .i64 i)]
  L _ := []
  H _ := h
  ok i := i ≤ a.length ∧ a.take i = b.take i
  meas i := a.length - i
theorem same_c {a b : List Run} {ta tb : Tag} (_ : a.length ≤ 1099511627776) (hb : b.length ≤ 1099511627776) :
    CallsV Go.Proofs.Try.prog 13 [.vs 2 (encR a) ta, .vs 2 (encR b) tb] h (fun x h' => x = .bool (decide (a = b)) ∧ h' = h) := by
  refine callsV_of_vc hP k13 ?_
  have hla := encR_len (l := a)
  have hlb := encR_len (l := b)
  repeat' ((conv => whnf); first
    | (refine br_intro (fun hc => ?_) (fun hc => ?_) <;> (try simp only [decide_eq_true_eq, decide_eq_false_iff_not, ne_eq] at hc) <;> (try (exfalso; omega)))
    | (refine optK_intro (by first | assumption | exact hput_same | fail) ?_)
    | (refine fun t ht => ?_)
    | (refine And.intro (by first | exact rfl | exact addT_same | omega | exact Nat.le_of_ble_eq_true rfl | decide | exact ⟨by omega, by omega⟩ | (simp; done) | (simp; omega; done) | fail) ?_)
    | fail)
  all_goals (conv => whnf)
  · (try simp at hc)
    refine ⟨_, Heap.sub_refl _, ?_, rfl⟩
    show IV.bool _ = IV.bool _
    congr 1
    symm
    rw [decide_eq_false_iff_not]
    intro he
    rw [he] at hc
    exact hc rfl
  · (try simp at hc)
    have hlen : a.length = b.length := by omega
    refine loop_rule (sameJ a b ta tb h) 0 ⟨⟨by simp, by simp⟩, ⟨rfl, rfl, rfl, rfl, trivial⟩, trivial, Heap.sub_refl _⟩ (fun i hi => ?_)
    obtain ⟨hi1, hi2⟩ := hi
    rcases Nat.lt_or_ge i a.length with hlt | hge
    · have hga := encR_get hlt
      have hgb := encR_get (l := b) (i := i) (by omega)
      repeat' ((conv => whnf); first
        | (refine br_intro (fun hc => ?_) (fun hc => ?_) <;> (try simp only [decide_eq_true_eq, decide_eq_false_iff_not, if_true, Bool.and_true, Bool.not_eq_true', Bool.not_eq_false', Bool.and_eq_true, Bool.and_eq_false_iff, beq_iff_eq, beq_eq_false_iff_ne, ne_eq] at hc) <;> (try (exfalso; omega)))
        | (refine optK_intro (by first | assumption | exact hput_same | fail) ?_)
        | (refine fun t ht => ?_)
        | (refine And.intro (by first | exact rfl | exact addT_same | omega | exact Nat.le_of_ble_eq_true rfl | decide | exact ⟨by omega, by omega⟩ | (simp; done) | (simp; omega; done) | fail) ?_)
        | fail)
      all_goals (conv => whnf)
      · refine ⟨_, Heap.sub_refl _, ?_, rfl⟩
        show IV.bool _ = IV.bool _
        congr 1
        symm
        rw [decide_eq_false_iff_not]
        intro he
        subst he
        simp at hc
      · refine ⟨i + 1, ?_, ⟨?_, ?_⟩, ⟨rfl, rfl, rfl, rfl, trivial⟩, trivial, Heap.sub_refl _⟩
        · show a.length - (i + 1) < a.length - i
          omega
        · omega
        · have h1 : a[i] = b[i]'(by omega) := Prod.ext hc.1 hc.2
          rw [List.take_add_one, List.take_add_one, hi2, List.getElem?_eq_getElem hlt, List.getElem?_eq_getElem (by omega : i < b.length), h1]
    · repeat' ((conv => whnf); first
        | (refine br_intro (fun hc => ?_) (fun hc => ?_) <;> (try simp only [decide_eq_true_eq, decide_eq_false_iff_not] at hc) <;> (try (exfalso; omega)))
        | (refine optK_intro (by first | assumption | exact hput_same | fail) ?_)
        | (refine fun t ht => ?_)
        | (refine And.intro (by first | exact rfl | exact addT_same | omega | exact Nat.le_of_ble_eq_true rfl | decide | exact ⟨by omega, by omega⟩ | (simp; done) | (simp; omega; done) | fail) ?_)
        | fail)
      all_goals (conv => whnf)
      have h1 : i = a.length := by omega
      have h2 : a = b := by
        have := hi2
        rw [h1, List.take_length, hlen, List.take_length] at this
        exact this
      refine ⟨_, Heap.sub_refl _, ?_, rfl⟩
      show IV.bool _ = IV.bool _
      rw [decide_eq_true h2]
end VL
