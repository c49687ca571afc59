/- The contracts of leaves, Leaves and Of. -/
import Derived.Test.YtjhbkbbmhmfkbaaS19
namespace VL
open Go
attribute [local irreducible] CallsV
variable {h : Heap}
namespace Fo
def ownR (x : Nd) (s : List Run) : List Run := if x.1 = 1 then [(x.2.1, x.2.2)] else if x.1 = 2 then [(-1, x.2.2)] else if x.1 = 4 then (List.replicate x.2.2.toNat s).flatten else s
def runs : Fo → List Run
  | nil => []
  | cons x k r => ownR x k.runs ++ r.runs
end Fo
theorem flat_rep_len {n : Nat} {s : List Run} : ((List.replicate n s).flatten).length = n * s.length := by simp
theorem runs_pos : ∀ {f : Fo}, f.wf → 0 < f.len → 0 < f.runs.length
  | .nil, _, h => by simp [Fo.len] at h
  | .cons x k r, hw, _ => by
    have h3 := fineB_kind hw.1
    have hk := hw.2.1
    unfold addW at hk
    have ih := runs_pos (f := k) hw.2.2.1
    simp only [Fo.runs, List.length_append]
    have : 0 < (Fo.ownR x k.runs).length := by
      unfold Fo.ownR
      repeat' split
      · simp
      · simp
      · rename_i h4
        rw [if_neg (by omega), if_pos h4] at hk
        rw [flat_rep_len]
        exact Nat.mul_pos (by omega) (ih (by omega))
      · rw [if_pos (by omega)] at hk
        exact ih (by omega)
    omega
def repJ (l : List Nd) (i : Nat) (s out : List Run) (n : Int) (tag : Tag) (h : Heap) : Inv (Nat × Option Nat) where
  E := fun | (j, o) => [(0, .vs 3 (encN l) tag), (1, .int .i64 i), (2, .vs 2 (encR (out ++ (List.replicate j s).flatten)) (tagOf o)), (7, .int .i64 j)]
  L _ := []
  H := fun | (_, o) => heapOf h o
  ok := fun | (j, o) => (j : Int) ≤ n ∧ tokOf h o
  meas := fun | (j, _) => n.toNat - j
def seqJ (l : List Nd) (i : Nat) (k : Fo) (post : List Nd) (all : List Run) (tag : Tag) (h : Heap) : Inv (Fo × Nat × Nat × List Run × List Int × Option Nat) where
  E := fun | (_, _, j, out, _, o) => [(0, .vs 3 (encN l) tag), (2, .vs 2 (encR out) (tagOf o)), (61, .vs 1 (encI (k.places (i + 1))) .ro), (62, .int .i64 (encI (k.places (i + 1))).length), (63, .int .i64 j)]
  L _ := []
  H := fun | (_, _, _, _, _, o) => heapOf h o
  ok := fun | (r, p, j, out, done, o) => l.drop p = r.flat ++ post ∧ done ++ r.places p = k.places (i + 1) ∧ j = done.length ∧ r.wf ∧ out ++ r.runs = all ∧ r.size ≤ k.size ∧ tokOf h o
  meas := fun | (r, _, _, _, _, _) => r.size
theorem one_of_len {k : Fo} (h : k.len = 1) : ∃ y k2, k = .cons y k2 .nil := by
  cases k with
  | nil => simp [Fo.len] at h
  | cons y k2 r =>
    cases r with
    | nil => exact ⟨y, k2, rfl⟩
    | cons _ _ _ => simp [Fo.len] at h
theorem leaves40_c {l : List Nd} {tag : Tag} (hl : l.length ≤ 1048576) : ∀ (m : Nat) {post : List Nd} {i : Nat} {x : Nd} {k : Fo} {out : List Run} {o : Option Nat}, k.size < m → l.drop i = x :: (k.flat ++ post) → (Fo.cons x k .nil).wf → tokOf h o → out.length + (Fo.ownR x k.runs).length ≤ 1048576 →
    CallsV Go.Proofs.Try.prog 40 [.vs 3 (encN l) tag, .int .i64 i, .vs 2 (encR out) (tagOf o)] (heapOf h o) (fun r h' => ∃ o', tokOf h o' ∧ r = .vs 2 (encR (out ++ Fo.ownR x k.runs)) (tagOf o') ∧ h' = heapOf h o') := by
  intro m
  induction m with
  | zero =>
    intro post i x k out o hm
    omega
  | succ m ih =>
    intro post i x k out o hm hd hw ho hn
    refine callsV_of_vc hP k40 ?_
    have hgx := head_get hd
    have hk := fineB_kind hw.1
    have hlo := encR_len (l := out)
    have hpl := Fo.places_len (f := k) (i := i + 1)
    have hel : (encI (k.places (i + 1))).length = k.len := by rw [encI_len, hpl]
    have hlen := drop_len (f := .cons x k .nil) (by simpa [Fo.flat] using hd) (by simp [Fo.size]; omega)
    simp only [Fo.size] at hlen
    have hll := Fo.len_le (f := k)
    have happ : ∀ r : Run, encR out ++ [[.int .i64 r.1, .int .i64 r.2]] = encR (out ++ [r]) := fun r => by rw [← encR_append]; rfl
    by_cases q1 : x.1 = 1
    · have e : Fo.ownR x k.runs = [(x.2.1, x.2.2)] := by unfold Fo.ownR; rw [if_pos q1]
      rw [e] at hn ⊢
      simp only [List.length_cons, List.length_nil] at hn
      cases o with
      | none =>
        repeat' ((conv => whnf); first
          | (refine br_intro (fun hc => ?_) (fun hc => ?_) <;> (try simp only [decide_eq_true_eq, decide_eq_false_iff_not] at hc) <;> (try (exfalso; omega)))
          | (refine optK_intro (by first | assumption | exact hput_same | fail) ?_)
          | (refine fun t ht => ?_)
          | (refine And.intro (by first | exact rfl | exact addT_same | omega | exact Nat.le_of_ble_eq_true rfl | decide | exact ⟨by omega, by omega⟩ | (simp; done) | (simp; omega; done) | fail) ?_)
          | fail)
        all_goals (conv => whnf)
        exact ⟨_, Heap.sub_refl _, some t, ht, congrArg (fun z => IV.vs 2 z (.own t)) (happ (x.2.1, x.2.2)), rfl⟩
      | some s =>
        repeat' ((conv => whnf); first
          | (refine br_intro (fun hc => ?_) (fun hc => ?_) <;> (try simp only [decide_eq_true_eq, decide_eq_false_iff_not] at hc) <;> (try (exfalso; omega)))
          | (refine optK_intro (by first | assumption | exact hput_same | fail) ?_)
          | (refine fun t ht => ?_)
          | (refine And.intro (by first | exact rfl | exact addT_same | omega | exact Nat.le_of_ble_eq_true rfl | decide | exact ⟨by omega, by omega⟩ | (simp; done) | (simp; omega; done) | fail) ?_)
          | fail)
        all_goals (conv => whnf)
        exact ⟨_, swapT_sub ho, some t, addT_none ht, congrArg (fun z => IV.vs 2 z (.own t)) (happ (x.2.1, x.2.2)), rfl⟩
    by_cases q2 : x.1 = 2
    · have e : Fo.ownR x k.runs = [(-1, x.2.2)] := by unfold Fo.ownR; rw [if_neg q1, if_pos q2]
      rw [e] at hn ⊢
      simp only [List.length_cons, List.length_nil] at hn
      cases o with
      | none =>
        repeat' ((conv => whnf); first
          | (refine br_intro (fun hc => ?_) (fun hc => ?_) <;> (try simp only [decide_eq_true_eq, decide_eq_false_iff_not] at hc) <;> (try (exfalso; omega)))
          | (refine optK_intro (by first | assumption | exact hput_same | fail) ?_)
          | (refine fun t ht => ?_)
          | (refine And.intro (by first | exact rfl | exact addT_same | omega | exact Nat.le_of_ble_eq_true rfl | decide | exact ⟨by omega, by omega⟩ | (simp; done) | (simp; omega; done) | fail) ?_)
          | fail)
        all_goals (conv => whnf)
        exact ⟨_, Heap.sub_refl _, some t, ht, congrArg (fun z => IV.vs 2 z (.own t)) (happ (-1, x.2.2)), rfl⟩
      | some s =>
        repeat' ((conv => whnf); first
          | (refine br_intro (fun hc => ?_) (fun hc => ?_) <;> (try simp only [decide_eq_true_eq, decide_eq_false_iff_not] at hc) <;> (try (exfalso; omega)))
          | (refine optK_intro (by first | assumption | exact hput_same | fail) ?_)
          | (refine fun t ht => ?_)
          | (refine And.intro (by first | exact rfl | exact addT_same | omega | exact Nat.le_of_ble_eq_true rfl | decide | exact ⟨by omega, by omega⟩ | (simp; done) | (simp; omega; done) | fail) ?_)
          | fail)
        all_goals (conv => whnf)
        exact ⟨_, swapT_sub ho, some t, addT_none ht, congrArg (fun z => IV.vs 2 z (.own t)) (happ (-1, x.2.2)), rfl⟩
    by_cases q4 : x.1 = 4
    · have e : Fo.ownR x k.runs = (List.replicate x.2.2.toNat k.runs).flatten := by unfold Fo.ownR; rw [if_neg q1, if_neg q2, if_pos q4]
      have hk1 : k.len = 1 := by
        have := hw.2.1
        unfold addW at this
        rw [if_neg (by omega), if_pos q4] at this
        omega
      have hrp := runs_pos hw.2.2.1 (by omega)
      rw [e, flat_rep_len] at hn
      have hN : x.2.2.toNat ≤ x.2.2.toNat * k.runs.length := Nat.le_mul_of_pos_right _ hrp
      rw [e]
      repeat' ((conv => whnf); first
        | (refine br_intro (fun hc => ?_) (fun hc => ?_) <;> (try simp only [decide_eq_true_eq, decide_eq_false_iff_not] at hc) <;> (try (exfalso; omega)))
        | (refine optK_intro (by first | assumption | exact hput_same | fail) ?_)
        | (refine fun t ht => ?_)
        | (refine And.intro (by first | exact rfl | exact addT_same | omega | exact Nat.le_of_ble_eq_true rfl | decide | exact ⟨by omega, by omega⟩ | (simp; done) | (simp; omega; done) | fail) ?_)
        | fail)
      all_goals (conv => whnf)
      refine loop_rule (repJ l i k.runs out x.2.2 tag h) (0, o) ⟨⟨by omega, ho⟩, ⟨rfl, rfl, ?_, rfl, trivial⟩, trivial, Heap.sub_refl _⟩ (fun s hs1 => ?_)
      · show some (IV.vs _ _ _) = some (IV.vs _ _ _)
        simp
      obtain ⟨j, o2⟩ := s
      obtain ⟨j1, j2⟩ := hs1
      rcases Int.lt_or_le j x.2.2 with hlt | hge
      · repeat' ((conv => whnf); first
          | (refine br_intro (fun hc => ?_) (fun hc => ?_) <;> (try simp only [decide_eq_true_eq, decide_eq_false_iff_not] at hc) <;> (try (exfalso; omega)))
          | (refine optK_intro (by first | assumption | exact hput_same | fail) ?_)
          | (refine fun t ht => ?_)
          | (refine And.intro (by first | exact rfl | exact addT_same | omega | exact Nat.le_of_ble_eq_true rfl | decide | exact ⟨by omega, by omega⟩ | (simp; done) | (simp; omega; done) | fail) ?_)
          | fail)
        all_goals (conv => whnf)
        obtain ⟨y, k2, rfl⟩ := one_of_len hk1
        have hd2 : l.drop (i + 1) = y :: (k2.flat ++ post) := by rw [drop_down hd]; simp [Fo.flat]
        have hmul : (j + 1) * (Fo.ownR y k2.runs).length ≤ x.2.2.toNat * (Fo.ownR y k2.runs).length := Nat.mul_le_mul_right _ (by omega)
        simp only [Fo.runs, List.append_nil] at hn hrp hN ⊢
        simp only [Fo.size] at hm
        rw [Nat.succ_mul] at hmul
        refine call_any (ih (post := post) (i := i + 1) (x := y) (k := k2) (out := out ++ (List.replicate j (Fo.ownR y k2.runs)).flatten) (o := o2) (by omega) hd2 hw.2.2.1 j2 (by rw [List.length_append, flat_rep_len]; omega)) (fun z h' hq => ?_)
        obtain ⟨o3, p1, rfl, rfl⟩ := hq
        repeat' ((conv => whnf); first
          | (refine br_intro (fun hc => ?_) (fun hc => ?_) <;> (try simp only [decide_eq_true_eq, decide_eq_false_iff_not, if_true, if_false, Bool.and_true, Bool.not_eq_true', Bool.not_eq_false', Bool.and_eq_true, Bool.and_eq_false_iff, beq_iff_eq, beq_eq_false_iff_ne, ne_eq] at hc) <;> (try (exfalso; omega)))
          | (refine optK_intro (by first | assumption | exact hput_same | fail) ?_)
          | (refine fun t ht => ?_)
          | (refine And.intro (by first | exact rfl | exact addT_same | omega | exact Nat.le_of_ble_eq_true rfl | decide | exact ⟨by omega, by omega⟩ | (simp; done) | (simp; omega; done) | fail) ?_)
          | fail)
        all_goals (conv => whnf)
        refine ⟨(j + 1, o3), ?_, ⟨by omega, p1⟩, ⟨rfl, rfl, ?_, rfl, trivial⟩, trivial, Heap.sub_refl _⟩
        · show x.2.2.toNat - (j + 1) < x.2.2.toNat - j
          omega
        · show some (IV.vs _ _ _) = some (IV.vs _ _ _)
          rw [List.replicate_succ', List.flatten_append]
          simp []
      · repeat' ((conv => whnf); first
          | (refine br_intro (fun hc => ?_) (fun hc => ?_) <;> (try simp only [decide_eq_true_eq, decide_eq_false_iff_not] at hc) <;> (try (exfalso; omega)))
          | (refine optK_intro (by first | assumption | exact hput_same | fail) ?_)
          | (refine fun t ht => ?_)
          | (refine And.intro (by first | exact rfl | exact addT_same | omega | exact Nat.le_of_ble_eq_true rfl | decide | exact ⟨by omega, by omega⟩ | (simp; done) | (simp; omega; done) | fail) ?_)
          | fail)
        all_goals (conv => whnf)
        have hj : j = x.2.2.toNat := by omega
        rw [hj]
        exact ⟨_, Heap.sub_refl _, o2, j2, rfl, rfl⟩
    · have e : Fo.ownR x k.runs = k.runs := by unfold Fo.ownR; rw [if_neg q1, if_neg q2, if_neg q4]
      rw [e] at hn ⊢
      repeat' ((conv => whnf); first
        | (refine br_intro (fun hc => ?_) (fun hc => ?_) <;> (try simp only [decide_eq_true_eq, decide_eq_false_iff_not] at hc) <;> (try (exfalso; omega)))
        | (refine optK_intro (by first | assumption | exact hput_same | fail) ?_)
        | (refine call_pure (kidsT_c hl hd hw) ?_)
        | (refine fun t ht => ?_)
        | (refine And.intro (by first | exact rfl | exact addT_same | omega | exact Nat.le_of_ble_eq_true rfl | decide | exact ⟨by omega, by omega⟩ | (simp; done) | (simp; omega; done) | fail) ?_)
        | fail)
      all_goals (conv => whnf)
      refine loop_rule (seqJ l i k post (out ++ k.runs) tag h) (k, i + 1, 0, out, [], o) ⟨⟨drop_down hd, rfl, rfl, hw.2.2.1, rfl, by omega, ho⟩, ⟨rfl, rfl, rfl, rfl, rfl, trivial⟩, trivial, Heap.sub_refl _⟩ (fun s hs1 => ?_)
      obtain ⟨r, p, j, out2, done, o2⟩ := s
      obtain ⟨i1, i2, i3, i4, i5, i6, i7⟩ := hs1
      have hdone : done.length + (r.places p).length = k.len := by rw [← hpl, ← i2, List.length_append]
      have hnl : out2.length + r.runs.length = out.length + k.runs.length := by rw [← List.length_append, i5, List.length_append]
      cases r with
      | nil =>
        simp only [Fo.places, List.length_nil] at hdone
        simp only [Fo.runs, List.append_nil] at i5
        repeat' ((conv => whnf); first
          | (refine br_intro (fun hc => ?_) (fun hc => ?_) <;> (try simp only [decide_eq_true_eq, decide_eq_false_iff_not] at hc) <;> (try (exfalso; omega)))
          | (refine optK_intro (by first | assumption | exact hput_same | fail) ?_)
          | (refine fun t ht => ?_)
          | (refine And.intro (by first | exact rfl | exact addT_same | omega | exact Nat.le_of_ble_eq_true rfl | decide | exact ⟨by omega, by omega⟩ | (simp; done) | (simp; omega; done) | fail) ?_)
          | fail)
        all_goals (conv => whnf)
        rw [← i5]
        exact ⟨_, Heap.sub_refl _, o2, i7, rfl, rfl⟩
      | cons y k2 r =>
        have hd2 : l.drop p = y :: (k2.flat ++ (r.flat ++ post)) := by rw [i1]; simp [Fo.flat]
        have hw2 : (Fo.cons y k2 .nil).wf := ⟨i4.1, i4.2.1, i4.2.2.1, trivial⟩
        simp only [Fo.size] at i6
        simp only [Fo.places, List.length_cons] at hdone
        simp only [Fo.runs, List.length_append] at hnl
        have hg := place_get i2 i3
        repeat' ((conv => whnf); first
          | (refine br_intro (fun hc => ?_) (fun hc => ?_) <;> (try simp only [decide_eq_true_eq, decide_eq_false_iff_not] at hc) <;> (try (exfalso; omega)))
          | (refine optK_intro (by first | assumption | exact hput_same | fail) ?_)
          | (refine fun t ht => ?_)
          | (refine And.intro (by first | exact rfl | exact addT_same | omega | exact Nat.le_of_ble_eq_true rfl | decide | exact ⟨by omega, by omega⟩ | (simp; done) | (simp; omega; done) | fail) ?_)
          | fail)
        all_goals (conv => whnf)
        refine call_any (ih (post := r.flat ++ post) (i := p) (x := y) (k := k2) (out := out2) (o := o2) (by omega) hd2 hw2 i7 (by omega)) (fun z h' hq => ?_)
        obtain ⟨o3, p1, rfl, rfl⟩ := hq
        repeat' ((conv => whnf); first
          | (refine br_intro (fun hc => ?_) (fun hc => ?_) <;> (try simp only [decide_eq_true_eq, decide_eq_false_iff_not, if_true, if_false, Bool.and_true, Bool.not_eq_true', Bool.not_eq_false', Bool.and_eq_true, Bool.and_eq_false_iff, beq_iff_eq, beq_eq_false_iff_ne, ne_eq] at hc) <;> (try (exfalso; omega)))
          | (refine optK_intro (by first | assumption | exact hput_same | fail) ?_)
          | (refine fun t ht => ?_)
          | (refine And.intro (by first | exact rfl | exact addT_same | omega | exact Nat.le_of_ble_eq_true rfl | decide | exact ⟨by omega, by omega⟩ | (simp; done) | (simp; omega; done) | fail) ?_)
          | fail)
        all_goals (conv => whnf)
        refine ⟨(r, p + 1 + k2.size, j + 1, out2 ++ Fo.ownR y k2.runs, done ++ [(p : Int)], o3), ?_, ⟨drop_next hd2, ?_, ?_, i4.2.2.2, ?_, by omega, p1⟩, ⟨rfl, rfl, rfl, rfl, rfl, trivial⟩, trivial, Heap.sub_refl _⟩
        · show r.size < 1 + k2.size + r.size
          omega
        · rw [← i2]; simp [Fo.places]
        · rw [List.length_append, i3]; rfl
        · rw [← i5]; simp [Fo.runs]
theorem Leaves_c {x : Nd} {k : Fo} {tag : Tag} (hl : k.size < 1048576) (hw : (Fo.one x k).wf) (hn : (Fo.ownR x k.runs).length ≤ 1048576) :
    CallsV Go.Proofs.Try.prog 26 [.vs 3 (encN (Fo.one x k).flat) tag] h (fun r h' => r = .vs 2 (encR (Fo.ownR x k.runs)) .ro ∧ h' = h) := by
  refine callsV_of_vc hP k26 ?_
  have hln := one_len (x := x) (k := k)
  repeat' ((conv => whnf); first
    | (refine br_intro (fun hc => ?_) (fun hc => ?_) <;> (try simp only [decide_eq_true_eq, decide_eq_false_iff_not, if_true, if_false, Bool.and_true, Bool.not_eq_true', Bool.not_eq_false', Bool.and_eq_true, Bool.and_eq_false_iff, beq_iff_eq, beq_eq_false_iff_ne, ne_eq] at hc) <;> (try (exfalso; omega)))
    | (refine optK_intro (by first | assumption | exact hput_same | fail) ?_)
    | (refine fun t ht => ?_)
    | (refine And.intro (by first | exact rfl | exact addT_same | omega | exact Nat.le_of_ble_eq_true rfl | decide | exact ⟨by omega, by omega⟩ | (simp; done) | (simp; omega; done) | fail) ?_)
    | fail)
  all_goals (conv => whnf)
  refine call_any (leaves40_c (h := h) (l := (Fo.one x k).flat) (tag := tag) (by omega) (k.size + 1) (i := 0) (out := []) (o := none) (by omega) one_drop hw trivial (by simpa using hn)) (fun z h' hq => ?_)
  obtain ⟨o3, p1, rfl, rfl⟩ := hq
  cases o3 with
  | none =>
    repeat' ((conv => whnf); first
      | (refine br_intro (fun hc => ?_) (fun hc => ?_) <;> (try simp only [decide_eq_true_eq, decide_eq_false_iff_not, if_true, if_false, Bool.and_true, Bool.not_eq_true', Bool.not_eq_false', Bool.and_eq_true, Bool.and_eq_false_iff, beq_iff_eq, beq_eq_false_iff_ne, ne_eq] at hc) <;> (try (exfalso; omega)))
      | (refine optK_intro (by first | assumption | exact hput_same | fail) ?_)
      | (refine fun t ht => ?_)
      | (refine And.intro (by first | exact rfl | exact addT_same | omega | exact Nat.le_of_ble_eq_true rfl | decide | exact ⟨by omega, by omega⟩ | (simp; done) | (simp; omega; done) | fail) ?_)
      | fail)
    all_goals (conv => whnf)
    exact ⟨_, Heap.sub_refl _, rfl, rfl⟩
  | some s =>
    repeat' ((conv => whnf); first
      | (refine br_intro (fun hc => ?_) (fun hc => ?_) <;> (try simp only [decide_eq_true_eq, decide_eq_false_iff_not, if_true, if_false, Bool.and_true, Bool.not_eq_true', Bool.not_eq_false', Bool.and_eq_true, Bool.and_eq_false_iff, beq_iff_eq, beq_eq_false_iff_ne, ne_eq] at hc) <;> (try (exfalso; omega)))
      | (refine optK_intro (by first | assumption | exact hput_same | fail) ?_)
      | (refine fun t ht => ?_)
      | (refine And.intro (by first | exact rfl | exact addT_same | omega | exact Nat.le_of_ble_eq_true rfl | decide | exact ⟨by omega, by omega⟩ | (simp; done) | (simp; omega; done) | fail) ?_)
      | fail)
    all_goals (conv => whnf)
    exact ⟨_, addT_sub, rfl, rfl⟩
end VL
