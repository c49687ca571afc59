/- The contracts of Equal. -/
import Derived.Test.YtjhbkbbmhmfkbaaS10
namespace VL
open Go
attribute [local irreducible] CallsV
variable {h : Heap}
theorem encN_len {l : List Nd} : (encN l).length = l.length := by simp [encN]
theorem encN_get {l : List Nd} {i : Nat} (hi : i < l.length) : (encN l)[((i : Nat) : Int).toNat]? = some [.int .i64 l[i].1, .int .i64 l[i].2.1, .int .i64 l[i].2.2] := by simp [encN, encNd, hi]
theorem encI_len {l : List Int} : (encI l).length = l.length := by simp [encI]
theorem encI_get {l : List Int} {i : Nat} (hi : i < l.length) : (encI l)[((i : Nat) : Int).toNat]? = some [.int .i64 l[i]] := by simp [encI, hi]
def eqJ33 (a b : List Nd) (ta tb : Tag) (h : Heap) : Inv Nat where
  E i := [(0, .vs 3 (encN a) ta), (1, .vs 3 (encN b) tb), (12, .int .i64 (encN a).length), (13, .int .i64 i)]
  L _ := []
  H _ := h
  ok i := i ≤ a.length ∧ a.take i = b.take i
  meas i := a.length - i
theorem equal33_c {a b : List Nd} {ta tb : Tag} (_ : a.length ≤ 1099511627776) (hb : b.length ≤ 1099511627776) :
    CallsV Go.Proofs.Try.prog 33 [.vs 3 (encN a) ta, .vs 3 (encN b) tb] h (fun x h' => x = .bool (decide (a = b)) ∧ h' = h) := by
  refine callsV_of_vc hP k33 ?_
  have hla := encN_len (l := a)
  have hlb := encN_len (l := b)
  repeat' ((conv => whnf); first
    | (refine br_intro (fun hc => ?_) (fun hc => ?_) <;> (try simp only [decide_eq_true_eq, decide_eq_false_iff_not, ne_eq] at hc) <;> (try (exfalso; omega)))
    | (refine optK_intro (by first | assumption | exact hput_same | fail) ?_)
    | (refine fun t ht => ?_)
    | (refine And.intro (by first | exact rfl | exact addT_same | omega | exact Nat.le_of_ble_eq_true rfl | decide | exact ⟨by omega, by omega⟩ | (simp; done) | (simp; omega; done) | fail) ?_)
    | fail)
  all_goals (conv => whnf)
  · (try simp at hc)
    refine ⟨_, Heap.sub_refl _, ?_, rfl⟩
    show IV.bool _ = IV.bool _
    congr 1
    symm
    rw [decide_eq_false_iff_not]
    intro he
    rw [he] at hc
    exact hc rfl
  · (try simp at hc)
    have hlen : a.length = b.length := by omega
    refine loop_rule (eqJ33 a b ta tb h) 0 ⟨⟨by simp, by simp⟩, ⟨rfl, rfl, rfl, rfl, trivial⟩, trivial, Heap.sub_refl _⟩ (fun i hi => ?_)
    obtain ⟨hi1, hi2⟩ := hi
    rcases Nat.lt_or_ge i a.length with hlt | hge
    · have hga := encN_get hlt
      have hgb := encN_get (l := b) (i := i) (by omega)
      repeat' ((conv => whnf); first
        | (refine br_intro (fun hc => ?_) (fun hc => ?_) <;> (try simp only [decide_eq_true_eq, decide_eq_false_iff_not, if_true, Bool.and_true, Bool.not_eq_true', Bool.not_eq_false', Bool.and_eq_true, Bool.and_eq_false_iff, beq_iff_eq, beq_eq_false_iff_ne, ne_eq] at hc) <;> (try (exfalso; omega)))
        | (refine optK_intro (by first | assumption | exact hput_same | fail) ?_)
        | (refine fun t ht => ?_)
        | (refine And.intro (by first | exact rfl | exact addT_same | omega | exact Nat.le_of_ble_eq_true rfl | decide | exact ⟨by omega, by omega⟩ | (simp; done) | (simp; omega; done) | fail) ?_)
        | fail)
      all_goals (conv => whnf)
      · refine ⟨_, Heap.sub_refl _, ?_, rfl⟩
        show IV.bool _ = IV.bool _
        congr 1
        symm
        rw [decide_eq_false_iff_not]
        intro he
        subst he
        simp at hc
      · refine ⟨i + 1, ?_, ⟨?_, ?_⟩, ⟨rfl, rfl, rfl, rfl, trivial⟩, trivial, Heap.sub_refl _⟩
        · show a.length - (i + 1) < a.length - i
          omega
        · omega
        · have h1 : a[i] = b[i]'(by omega) := Prod.ext hc.1 (Prod.ext hc.2.1 hc.2.2)
          rw [List.take_add_one, List.take_add_one, hi2, List.getElem?_eq_getElem hlt, List.getElem?_eq_getElem (by omega : i < b.length), h1]
    · repeat' ((conv => whnf); first
        | (refine br_intro (fun hc => ?_) (fun hc => ?_) <;> (try simp only [decide_eq_true_eq, decide_eq_false_iff_not] at hc) <;> (try (exfalso; omega)))
        | (refine optK_intro (by first | assumption | exact hput_same | fail) ?_)
        | (refine fun t ht => ?_)
        | (refine And.intro (by first | exact rfl | exact addT_same | omega | exact Nat.le_of_ble_eq_true rfl | decide | exact ⟨by omega, by omega⟩ | (simp; done) | (simp; omega; done) | fail) ?_)
        | fail)
      all_goals (conv => whnf)
      have h1 : i = a.length := by omega
      have h2 : a = b := by
        have := hi2
        rw [h1, List.take_length, hlen, List.take_length] at this
        exact this
      refine ⟨_, Heap.sub_refl _, ?_, rfl⟩
      show IV.bool _ = IV.bool _
      rw [decide_eq_true h2]
def eqJ37 (a b : List Run) (ta tb : Tag) (h : Heap) : Inv Nat where
  E i := [(0, .vs 2 (encR a) ta), (1, .vs 2 (encR b) tb), (12, .int .i64 (encR a).length), (13, .int .i64 i)]
  L _ := []
  H _ := h
  ok i := i ≤ a.length ∧ a.take i = b.take i
  meas i := a.length - i
theorem equal37_c {a b : List Run} {ta tb : Tag} (_ : a.length ≤ 1099511627776) (hb : b.length ≤ 1099511627776) :
    CallsV Go.Proofs.Try.prog 37 [.vs 2 (encR a) ta, .vs 2 (encR b) tb] h (fun x h' => x = .bool (decide (a = b)) ∧ h' = h) := by
  refine callsV_of_vc hP k37 ?_
  have hla := encR_len (l := a)
  have hlb := encR_len (l := b)
  repeat' ((conv => whnf); first
    | (refine br_intro (fun hc => ?_) (fun hc => ?_) <;> (try simp only [decide_eq_true_eq, decide_eq_false_iff_not, ne_eq] at hc) <;> (try (exfalso; omega)))
    | (refine optK_intro (by first | assumption | exact hput_same | fail) ?_)
    | (refine fun t ht => ?_)
    | (refine And.intro (by first | exact rfl | exact addT_same | omega | exact Nat.le_of_ble_eq_true rfl | decide | exact ⟨by omega, by omega⟩ | (simp; done) | (simp; omega; done) | fail) ?_)
    | fail)
  all_goals (conv => whnf)
  · (try simp at hc)
    refine ⟨_, Heap.sub_refl _, ?_, rfl⟩
    show IV.bool _ = IV.bool _
    congr 1
    symm
    rw [decide_eq_false_iff_not]
    intro he
    rw [he] at hc
    exact hc rfl
  · (try simp at hc)
    have hlen : a.length = b.length := by omega
    refine loop_rule (eqJ37 a b ta tb h) 0 ⟨⟨by simp, by simp⟩, ⟨rfl, rfl, rfl, rfl, trivial⟩, trivial, Heap.sub_refl _⟩ (fun i hi => ?_)
    obtain ⟨hi1, hi2⟩ := hi
    rcases Nat.lt_or_ge i a.length with hlt | hge
    · have hga := encR_get hlt
      have hgb := encR_get (l := b) (i := i) (by omega)
      repeat' ((conv => whnf); first
        | (refine br_intro (fun hc => ?_) (fun hc => ?_) <;> (try simp only [decide_eq_true_eq, decide_eq_false_iff_not, if_true, Bool.and_true, Bool.not_eq_true', Bool.not_eq_false', Bool.and_eq_true, Bool.and_eq_false_iff, beq_iff_eq, beq_eq_false_iff_ne, ne_eq] at hc) <;> (try (exfalso; omega)))
        | (refine optK_intro (by first | assumption | exact hput_same | fail) ?_)
        | (refine fun t ht => ?_)
        | (refine And.intro (by first | exact rfl | exact addT_same | omega | exact Nat.le_of_ble_eq_true rfl | decide | exact ⟨by omega, by omega⟩ | (simp; done) | (simp; omega; done) | fail) ?_)
        | fail)
      all_goals (conv => whnf)
      · refine ⟨_, Heap.sub_refl _, ?_, rfl⟩
        show IV.bool _ = IV.bool _
        congr 1
        symm
        rw [decide_eq_false_iff_not]
        intro he
        subst he
        simp at hc
      · refine ⟨i + 1, ?_, ⟨?_, ?_⟩, ⟨rfl, rfl, rfl, rfl, trivial⟩, trivial, Heap.sub_refl _⟩
        · show a.length - (i + 1) < a.length - i
          omega
        · omega
        · have h1 : a[i] = b[i]'(by omega) := Prod.ext hc.1 hc.2
          rw [List.take_add_one, List.take_add_one, hi2, List.getElem?_eq_getElem hlt, List.getElem?_eq_getElem (by omega : i < b.length), h1]
    · repeat' ((conv => whnf); first
        | (refine br_intro (fun hc => ?_) (fun hc => ?_) <;> (try simp only [decide_eq_true_eq, decide_eq_false_iff_not] at hc) <;> (try (exfalso; omega)))
        | (refine optK_intro (by first | assumption | exact hput_same | fail) ?_)
        | (refine fun t ht => ?_)
        | (refine And.intro (by first | exact rfl | exact addT_same | omega | exact Nat.le_of_ble_eq_true rfl | decide | exact ⟨by omega, by omega⟩ | (simp; done) | (simp; omega; done) | fail) ?_)
        | fail)
      all_goals (conv => whnf)
      have h1 : i = a.length := by omega
      have h2 : a = b := by
        have := hi2
        rw [h1, List.take_length, hlen, List.take_length] at this
        exact this
      refine ⟨_, Heap.sub_refl _, ?_, rfl⟩
      show IV.bool _ = IV.bool _
      rw [decide_eq_true h2]
def eqJ41 (a b : List Int) (ta tb : Tag) (h : Heap) : Inv Nat where
  E i := [(0, .vs 1 (encI a) ta), (1, .vs 1 (encI b) tb), (12, .int .i64 (encI a).length), (13, .int .i64 i)]
  L _ := []
  H _ := h
  ok i := i ≤ a.length ∧ a.take i = b.take i
  meas i := a.length - i
theorem equal41_c {a b : List Int} {ta tb : Tag} (_ : a.length ≤ 1099511627776) (hb : b.length ≤ 1099511627776) :
    CallsV Go.Proofs.Try.prog 41 [.vs 1 (encI a) ta, .vs 1 (encI b) tb] h (fun x h' => x = .bool (decide (a = b)) ∧ h' = h) := by
  refine callsV_of_vc hP k41 ?_
  have hla := encI_len (l := a)
  have hlb := encI_len (l := b)
  repeat' ((conv => whnf); first
    | (refine br_intro (fun hc => ?_) (fun hc => ?_) <;> (try simp only [decide_eq_true_eq, decide_eq_false_iff_not, ne_eq] at hc) <;> (try (exfalso; omega)))
    | (refine optK_intro (by first | assumption | exact hput_same | fail) ?_)
    | (refine fun t ht => ?_)
    | (refine And.intro (by first | exact rfl | exact addT_same | omega | exact Nat.le_of_ble_eq_true rfl | decide | exact ⟨by omega, by omega⟩ | (simp; done) | (simp; omega; done) | fail) ?_)
    | fail)
  all_goals (conv => whnf)
  · (try simp at hc)
    refine ⟨_, Heap.sub_refl _, ?_, rfl⟩
    show IV.bool _ = IV.bool _
    congr 1
    symm
    rw [decide_eq_false_iff_not]
    intro he
    rw [he] at hc
    exact hc rfl
  · (try simp at hc)
    have hlen : a.length = b.length := by omega
    refine loop_rule (eqJ41 a b ta tb h) 0 ⟨⟨by simp, by simp⟩, ⟨rfl, rfl, rfl, rfl, trivial⟩, trivial, Heap.sub_refl _⟩ (fun i hi => ?_)
    obtain ⟨hi1, hi2⟩ := hi
    rcases Nat.lt_or_ge i a.length with hlt | hge
    · have hga := encI_get hlt
      have hgb := encI_get (l := b) (i := i) (by omega)
      repeat' ((conv => whnf); first
        | (refine br_intro (fun hc => ?_) (fun hc => ?_) <;> (try simp only [decide_eq_true_eq, decide_eq_false_iff_not, ne_eq] at hc) <;> (try (exfalso; omega)))
        | (refine optK_intro (by first | assumption | exact hput_same | fail) ?_)
        | (refine fun t ht => ?_)
        | (refine And.intro (by first | exact rfl | exact addT_same | omega | exact Nat.le_of_ble_eq_true rfl | decide | exact ⟨by omega, by omega⟩ | (simp; done) | (simp; omega; done) | fail) ?_)
        | fail)
      all_goals (conv => whnf)
      · refine ⟨_, Heap.sub_refl _, ?_, rfl⟩
        show IV.bool _ = IV.bool _
        congr 1
        symm
        rw [decide_eq_false_iff_not]
        intro he
        subst he
        simp at hc
      · refine ⟨i + 1, ?_, ⟨?_, ?_⟩, ⟨rfl, rfl, rfl, rfl, trivial⟩, trivial, Heap.sub_refl _⟩
        · show a.length - (i + 1) < a.length - i
          omega
        · omega
        · have h1 : a[i] = b[i]'(by omega) := by omega
          rw [List.take_add_one, List.take_add_one, hi2, List.getElem?_eq_getElem hlt, List.getElem?_eq_getElem (by omega : i < b.length), h1]
    · repeat' ((conv => whnf); first
        | (refine br_intro (fun hc => ?_) (fun hc => ?_) <;> (try simp only [decide_eq_true_eq, decide_eq_false_iff_not] at hc) <;> (try (exfalso; omega)))
        | (refine optK_intro (by first | assumption | exact hput_same | fail) ?_)
        | (refine fun t ht => ?_)
        | (refine And.intro (by first | exact rfl | exact addT_same | omega | exact Nat.le_of_ble_eq_true rfl | decide | exact ⟨by omega, by omega⟩ | (simp; done) | (simp; omega; done) | fail) ?_)
        | fail)
      all_goals (conv => whnf)
      have h1 : i = a.length := by omega
      have h2 : a = b := by
        have := hi2
        rw [h1, List.take_length, hlen, List.take_length] at this
        exact this
      refine ⟨_, Heap.sub_refl _, ?_, rfl⟩
      show IV.bool _ = IV.bool _
      rw [decide_eq_true h2]
end VL
