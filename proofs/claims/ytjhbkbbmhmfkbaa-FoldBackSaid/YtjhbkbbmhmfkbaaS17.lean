/- The contracts of ref3.Runs, fine and Size. -/
import Derived.Test.YtjhbkbbmhmfkbaaS16
namespace VL
open Go
attribute [local irreducible] CallsV
variable {h : Heap}
def runsJ8 (l : List Run) (tag : Tag) (h : Heap) : Inv Nat where
  E i := [(0, .vs 2 (encR l) tag), (3, .int .i64 (min (total (l.take i)) 4097)), (6, .vs 2 (encR l) tag), (7, .int .i64 (encR l).length), (8, .int .i64 i)]
  L _ := []
  H _ := h
  ok i := i ≤ l.length ∧ (l.take i).all runOK = true
  meas i := l.length - i
theorem refRuns_c {l : List Run} {tag : Tag} (hl : l.length ≤ 1099511627776) : CallsV Go.Proofs.Try.prog 8 [.vs 2 (encR l) tag] h (fun r h' => r = .bool (right l) ∧ h' = h) := by
  refine callsV_of_vc hP k8 ?_
  conv => whnf
  refine loop_rule (runsJ8 l tag h) 0 ⟨⟨by simp, by simp⟩, ⟨rfl, rfl, rfl, rfl, rfl, trivial⟩, trivial, Heap.sub_refl _⟩ (fun i hi => ?_)
  obtain ⟨hi1, hi2⟩ := hi
  have hlen := encR_len (l := l)
  have ht := total_le hi2
  have hlt2 : (l.take i).length ≤ l.length := by rw [List.length_take]; omega
  rcases Nat.lt_or_ge i l.length with hlt | hge
  · have hget := encR_get hlt
    have hbad : runOK l[i] = false → right l = false := by
      intro hb
      unfold right
      rw [Bool.and_eq_false_iff]
      left
      rw [List.all_eq_false]
      exact ⟨l[i], List.getElem_mem hlt, by rw [hb]; simp⟩
    repeat' ((conv => whnf); first
      | (refine br_intro (fun hc => ?_) (fun hc => ?_) <;> (try simp only [decide_eq_true_eq, decide_eq_false_iff_not] at hc) <;> (try (exfalso; omega)))
      | (refine optK_intro (by first | assumption | exact hput_same | fail) ?_)
      | (refine fun t ht => ?_)
      | (refine And.intro (by first | exact rfl | exact addT_same | omega | exact Nat.le_of_ble_eq_true rfl | decide | exact ⟨by omega, by omega⟩ | (simp; done) | (simp; omega; done) | fail) ?_)
      | fail)
    all_goals (conv => whnf)
    all_goals first
      | (refine ⟨_, Heap.sub_refl _, ?_, rfl⟩
         show IV.bool _ = IV.bool _
         rw [hbad (by simp [runOK, partOK]; omega)])
      | skip
    all_goals refine ⟨i + 1, ?_, ⟨?_, ?_⟩, ⟨rfl, ?_, rfl, rfl, rfl, trivial⟩, trivial, Heap.sub_refl _⟩
    all_goals first
      | (show l.length - (i + 1) < l.length - i
         omega)
      | omega
      | (rw [all_take hlt, hi2]; simp [runOK, partOK]; omega)
      | (show some (IV.int _ _) = some (IV.int _ _)
         rw [total_take hlt]
         congr 2
         omega)
  · have hi3 : i = l.length := by omega
    have hall : l.take i = l := by rw [hi3]; exact List.take_length
    rw [hall] at hi2
    repeat' ((conv => whnf); first
      | (refine br_intro (fun hc => ?_) (fun hc => ?_) <;> (try simp only [decide_eq_true_eq, decide_eq_false_iff_not] at hc) <;> (try (exfalso; omega)))
      | (refine optK_intro (by first | assumption | exact hput_same | fail) ?_)
      | (refine fun t ht => ?_)
      | (refine And.intro (by first | exact rfl | exact addT_same | omega | exact Nat.le_of_ble_eq_true rfl | decide | exact ⟨by omega, by omega⟩ | (simp; done) | (simp; omega; done) | fail) ?_)
      | fail)
    all_goals (conv => whnf)
    all_goals refine ⟨_, Heap.sub_refl _, ?_⟩
    all_goals refine And.intro ?_ ?_
    all_goals first | rfl | skip
    all_goals show IV.bool _ = IV.bool _
    all_goals rw [hall] at *
    all_goals congr 1
    all_goals unfold right
    all_goals rw [hi2, Bool.true_and]
    all_goals first | exact decide_eq_decide.2 (by omega) | exact (decide_eq_false (by omega)).symm
def fineB (n : Nd) : Bool :=
  if n.1 = 1 then decide (0 ≤ n.2.1 ∧ n.2.1 < 6 ∧ 1 ≤ n.2.2)
  else if n.1 = 2 ∨ n.1 = 4 then decide (n.2.1 = 0 ∧ 1 ≤ n.2.2)
  else if n.1 = 3 then decide (n.2.1 = 0 ∧ 1 ≤ n.2.2 ∧ n.2.2 ≤ 128) else false
theorem fine_c {n : Nd} : CallsV Go.Proofs.Try.prog 46 [.agg (encNd n)] h (fun r h' => r = .bool (fineB n) ∧ h' = h) := by
  refine callsV_of_vc hP k46 ?_
  repeat' ((conv => whnf); first
    | (refine br_intro (fun hc => ?_) (fun hc => ?_) <;> (try simp only [decide_eq_true_eq, decide_eq_false_iff_not] at hc) <;> (try (exfalso; omega)))
    | (refine optK_intro (by first | assumption | exact hput_same | fail) ?_)
    | (refine fun t ht => ?_)
    | (refine And.intro (by first | exact rfl | exact addT_same | omega | exact Nat.le_of_ble_eq_true rfl | decide | exact ⟨by omega, by omega⟩ | (simp; done) | (simp; omega; done) | fail) ?_)
    | fail)
  all_goals (conv => whnf)
  all_goals refine ⟨_, Heap.sub_refl _, ?_⟩
  all_goals refine And.intro ?_ ?_
  all_goals first | rfl | skip
  all_goals show IV.bool _ = IV.bool _
  all_goals congr 1
  all_goals unfold fineB
  all_goals repeat' (first | rw [if_pos (by omega)] | rw [if_neg (by omega)])
  all_goals first | rfl | exact decide_eq_decide.2 (by omega) | exact (decide_eq_false (by omega)).symm
def addW (n : Nd) : Int := if n.1 = 3 then n.2.2 else if n.1 = 4 then 1 else 0
def sizeL : List Nd → Int → Nat → Nat
  | [], _, _ => 0
  | x :: l, w, n => if fineB x then (if w - 1 + addW x = 0 then n + 1 else sizeL l (w - 1 + addW x) (n + 1)) else 0
/-- What Size answers. -/
def sizeF (l : List Nd) (i : Nat) : Nat := sizeL (l.drop i) 1 0
theorem addW_le {n : Nd} (h : fineB n = true) : 0 ≤ addW n ∧ addW n ≤ 128 := by
  unfold fineB at h
  unfold addW
  repeat' split at h
  all_goals simp at h
  all_goals repeat' split
  all_goals omega
def sizeJ (l : List Nd) (k r : Nat) (tag : Tag) (h : Heap) : Inv (Nat × Int) where
  E := fun | (i, w) => [(0, .vs 3 (encN l) tag), (1, .int .i64 k), (5, .int .i64 w), (6, .int .i64 i)]
  L _ := []
  H _ := h
  ok := fun | (i, w) => k ≤ i ∧ i ≤ l.length ∧ sizeL (l.drop i) w (i - k) = r ∧ -(i : Int) ≤ w ∧ w ≤ 1 + 128 * i
  meas := fun | (i, _) => l.length - i
theorem size_c {l : List Nd} {k : Nat} {tag : Tag} (hl : l.length ≤ 1048576) :
    CallsV Go.Proofs.Try.prog 42 [.vs 3 (encN l) tag, .int .i64 k] h (fun r h' => r = .int .i64 (sizeF l k) ∧ h' = h) := by
  refine callsV_of_vc hP k42 ?_
  have hla := encN_len (l := l)
  repeat' ((conv => whnf); first
    | (refine br_intro (fun hc => ?_) (fun hc => ?_) <;> (try simp only [decide_eq_true_eq, decide_eq_false_iff_not] at hc) <;> (try (exfalso; omega)))
    | (refine optK_intro (by first | assumption | exact hput_same | fail) ?_)
    | (refine fun t ht => ?_)
    | (refine And.intro (by first | exact rfl | exact addT_same | omega | exact Nat.le_of_ble_eq_true rfl | decide | exact ⟨by omega, by omega⟩ | (simp; done) | (simp; omega; done) | fail) ?_)
    | fail)
  all_goals (conv => whnf)
  · have e : sizeF l k = 0 := by unfold sizeF; rw [List.drop_eq_nil_of_le (by omega)]; rfl
    rw [e]
    exact ⟨_, Heap.sub_refl _, rfl, rfl⟩
  · refine loop_rule (sizeJ l k (sizeF l k) tag h) (k, 1) ⟨⟨by omega, by omega, by rw [Nat.sub_self]; rfl, by omega, by omega⟩, ⟨rfl, rfl, rfl, rfl, trivial⟩, trivial, Heap.sub_refl _⟩ (fun s hs => ?_)
    obtain ⟨i, w⟩ := s
    obtain ⟨i1, i2, i3, i4, i5⟩ := hs
    rcases Nat.lt_or_ge i l.length with hlt | hge
    · have hget := encN_get hlt
      rw [List.drop_eq_getElem_cons hlt, sizeL] at i3
      have hfc := fine_c (h := h) (n := l[i])
      rcases Bool.eq_false_or_eq_true (fineB l[i]) with hf | hf
      · have hw := addW_le hf
        rw [hf] at hfc i3
        have ha : addW l[i] = if l[i].1 = 3 then l[i].2.2 else if l[i].1 = 4 then 1 else 0 := rfl
        have key : ∀ v : Int, v = w - 1 + addW l[i] → v = 0 → (i : Int) - (k : Int) + 1 = (sizeF l k : Nat) := by
          intro v hv hv0
          rw [if_pos rfl, if_pos (by omega)] at i3
          omega
        have key2 : ¬ (w - 1 + addW l[i] = 0) → sizeL (l.drop (i + 1)) (w - 1 + addW l[i]) (i + 1 - k) = sizeF l k := by
          intro hv
          rw [if_pos rfl, if_neg hv] at i3
          rw [← i3, show i + 1 - k = i - k + 1 by omega]
        by_cases q3 : l[i].1 = 3
        · rw [if_pos q3] at ha
          repeat' ((conv => whnf); first
            | (refine br_intro (fun hc => ?_) (fun hc => ?_) <;> (try simp only [decide_eq_true_eq, decide_eq_false_iff_not] at hc) <;> (try (exfalso; omega)))
            | (refine optK_intro (by first | assumption | exact hput_same | fail) ?_)
            | (refine call_pure (hfc) ?_)
            | (refine fun t ht => ?_)
            | (refine And.intro (by first | exact rfl | exact addT_same | omega | exact Nat.le_of_ble_eq_true rfl | decide | exact ⟨by omega, by omega⟩ | (simp; done) | (simp; omega; done) | fail) ?_)
            | fail)
          all_goals (conv => whnf)
          · refine ⟨_, Heap.sub_refl _, ?_, rfl⟩
            show IV.int _ _ = IV.int _ _
            rw [key _ (by rw [ha]) hc]
          · refine ⟨(i + 1, w - 1 + addW l[i]), ?_, ⟨by omega, by omega, key2 (by rw [ha]; exact hc), by omega, by omega⟩, ⟨rfl, rfl, ?_, rfl, trivial⟩, trivial, Heap.sub_refl _⟩
            · show l.length - (i + 1) < l.length - i
              omega
            · show some (IV.int _ _) = some (IV.int _ _)
              rw [ha]
        · by_cases q4 : l[i].1 = 4
          · rw [if_neg q3, if_pos q4] at ha
            repeat' ((conv => whnf); first
              | (refine br_intro (fun hc => ?_) (fun hc => ?_) <;> (try simp only [decide_eq_true_eq, decide_eq_false_iff_not] at hc) <;> (try (exfalso; omega)))
              | (refine optK_intro (by first | assumption | exact hput_same | fail) ?_)
              | (refine call_pure (hfc) ?_)
              | (refine fun t ht => ?_)
              | (refine And.intro (by first | exact rfl | exact addT_same | omega | exact Nat.le_of_ble_eq_true rfl | decide | exact ⟨by omega, by omega⟩ | (simp; done) | (simp; omega; done) | fail) ?_)
              | fail)
            all_goals (conv => whnf)
            · refine ⟨_, Heap.sub_refl _, ?_, rfl⟩
              show IV.int _ _ = IV.int _ _
              rw [key _ (by rw [ha]) hc]
            · refine ⟨(i + 1, w - 1 + addW l[i]), ?_, ⟨by omega, by omega, key2 (by rw [ha]; exact hc), by omega, by omega⟩, ⟨rfl, rfl, ?_, rfl, trivial⟩, trivial, Heap.sub_refl _⟩
              · show l.length - (i + 1) < l.length - i
                omega
              · show some (IV.int _ _) = some (IV.int _ _)
                rw [ha]
          · rw [if_neg q3, if_neg q4] at ha
            repeat' ((conv => whnf); first
              | (refine br_intro (fun hc => ?_) (fun hc => ?_) <;> (try simp only [decide_eq_true_eq, decide_eq_false_iff_not] at hc) <;> (try (exfalso; omega)))
              | (refine optK_intro (by first | assumption | exact hput_same | fail) ?_)
              | (refine call_pure (hfc) ?_)
              | (refine fun t ht => ?_)
              | (refine And.intro (by first | exact rfl | exact addT_same | omega | exact Nat.le_of_ble_eq_true rfl | decide | exact ⟨by omega, by omega⟩ | (simp; done) | (simp; omega; done) | fail) ?_)
              | fail)
            all_goals (conv => whnf)
            · refine ⟨_, Heap.sub_refl _, ?_, rfl⟩
              show IV.int _ _ = IV.int _ _
              rw [key (w - 1) (by omega) hc]
            · refine ⟨(i + 1, w - 1 + addW l[i]), ?_, ⟨by omega, by omega, key2 (by omega), by omega, by omega⟩, ⟨rfl, rfl, ?_, rfl, trivial⟩, trivial, Heap.sub_refl _⟩
              · show l.length - (i + 1) < l.length - i
                omega
              · show some (IV.int _ _) = some (IV.int _ _)
                congr 2
                omega
      · rw [hf] at hfc i3
        repeat' ((conv => whnf); first
          | (refine br_intro (fun hc => ?_) (fun hc => ?_) <;> (try simp only [decide_eq_true_eq, decide_eq_false_iff_not] at hc) <;> (try (exfalso; omega)))
          | (refine optK_intro (by first | assumption | exact hput_same | fail) ?_)
          | (refine call_pure (hfc) ?_)
          | (refine fun t ht => ?_)
          | (refine And.intro (by first | exact rfl | exact addT_same | omega | exact Nat.le_of_ble_eq_true rfl | decide | exact ⟨by omega, by omega⟩ | (simp; done) | (simp; omega; done) | fail) ?_)
          | fail)
        all_goals (conv => whnf)
        rw [if_neg (by simp)] at i3
        rw [← i3]
        exact ⟨_, Heap.sub_refl _, rfl, rfl⟩
    · repeat' ((conv => whnf); first
        | (refine br_intro (fun hc => ?_) (fun hc => ?_) <;> (try simp only [decide_eq_true_eq, decide_eq_false_iff_not] at hc) <;> (try (exfalso; omega)))
        | (refine optK_intro (by first | assumption | exact hput_same | fail) ?_)
        | (refine fun t ht => ?_)
        | (refine And.intro (by first | exact rfl | exact addT_same | omega | exact Nat.le_of_ble_eq_true rfl | decide | exact ⟨by omega, by omega⟩ | (simp; done) | (simp; omega; done) | fail) ?_)
        | fail)
      all_goals (conv => whnf)
      rw [List.drop_eq_nil_of_le hge, sizeL] at i3
      rw [← i3]
      exact ⟨_, Heap.sub_refl _, rfl, rfl⟩
end VL
