/- Forests of nodes, and the contracts of Kids and depth. -/
import Derived.Test.YtjhbkbbmhmfkbaaS17
namespace VL
open Go
attribute [local irreducible] CallsV
variable {h : Heap}
/-- Nodes side by side, each with those below it. -/
inductive Fo where
  | nil
  | cons (x : Nd) (k r : Fo)
namespace Fo
def flat : Fo → List Nd
  | nil => []
  | cons x k r => x :: (k.flat ++ r.flat)
def len : Fo → Nat
  | nil => 0
  | cons _ _ r => r.len + 1
def size : Fo → Nat
  | nil => 0
  | cons _ k r => 1 + k.size + r.size
def wf : Fo → Prop
  | nil => True
  | cons x k r => fineB x = true ∧ (k.len : Int) = addW x ∧ k.wf ∧ r.wf
def deep : Fo → Nat
  | nil => 0
  | cons _ k r => max (k.deep + 1) r.deep
def places : Fo → Nat → List Int
  | nil, _ => []
  | cons _ k r, i => (i : Int) :: r.places (i + 1 + k.size)
theorem flat_len : ∀ {f : Fo}, f.flat.length = f.size
  | nil => rfl
  | cons x k r => by simp only [flat, size, List.length_cons, List.length_append, flat_len (f := k), flat_len (f := r)]; omega
theorem places_len : ∀ {f : Fo} {i : Nat}, (f.places i).length = f.len
  | nil, _ => rfl
  | cons x k r, i => by simp only [places, len, List.length_cons, places_len (f := r)]
theorem len_le : ∀ {f : Fo}, f.len ≤ f.size
  | nil => Nat.le_refl _
  | cons x k r => by simp only [len, size]; have := len_le (f := r); omega
theorem deep_le : ∀ {f : Fo}, f.deep ≤ f.size
  | nil => Nat.le_refl _
  | cons x k r => by simp only [deep, size]; have := deep_le (f := r); have := deep_le (f := k); omega
theorem sizeL_flat : ∀ {f : Fo}, f.wf → (∀ (post : List Nd) (w : Int) (n : Nat), 0 < w → sizeL (f.flat ++ post) (f.len + w) n = sizeL post w (n + f.size)) ∧
    (0 < f.len → ∀ (post : List Nd) (n : Nat), sizeL (f.flat ++ post) f.len n = n + f.size) := by
  intro f
  induction f with
  | nil => exact fun _ => ⟨fun post w n _ => by simp [flat, len, size], fun hc => by simp [len] at hc⟩
  | cons x k r ihk ihr =>
    intro hw
    obtain ⟨w1, w2, w3, w4⟩ := hw
    obtain ⟨k1, k2⟩ := ihk w3
    obtain ⟨r1, r2⟩ := ihr w4
    refine ⟨fun post w n hw0 => ?_, fun _ post n => ?_⟩
    · simp only [flat, len, size, List.cons_append, sizeL, w1, if_true]
      rw [if_neg (by omega), List.append_assoc, show ((r.len + 1 : Nat) : Int) + w - 1 + addW x = (k.len : Int) + ((r.len : Int) + w) by omega, k1 _ _ _ (by omega), r1 _ _ _ hw0]
      congr 1
      omega
    · simp only [flat, len, size, List.cons_append, sizeL, w1, if_true]
      rcases Nat.eq_zero_or_pos r.len with q | q
      · have hr : r = nil := by cases r with
          | nil => rfl
          | cons _ _ _ => simp [len] at q
        subst hr
        rcases Nat.eq_zero_or_pos k.len with p | p
        · have hk : k = nil := by cases k with
            | nil => rfl
            | cons _ _ _ => simp [len] at p
          subst hk
          simp only [len] at w2
          rw [if_pos (by simp only [len]; omega)]
          simp [size]
        · rw [if_neg (by simp only [len]; omega), show ((nil.len + 1 : Nat) : Int) - 1 + addW x = (k.len : Int) by simp only [len] at *; omega]
          simp only [flat, List.append_nil]
          rw [k2 p]
          simp only [size]
          omega
      · rw [if_neg (by omega), List.append_assoc, show ((r.len + 1 : Nat) : Int) - 1 + addW x = (k.len : Int) + (r.len : Int) by omega, k1 _ _ _ (by omega), r2 q]
        omega
end Fo
theorem sizeF_at {l post : List Nd} {i : Nat} {x : Nd} {k : Fo} (hd : l.drop i = x :: (k.flat ++ post)) (hw : (Fo.cons x k .nil).wf) : sizeF l i = 1 + k.size := by
  unfold sizeF
  rw [hd]
  have := (Fo.sizeL_flat hw).2 (by simp [Fo.len]) post 0
  simp only [Fo.flat, List.append_nil, List.cons_append, Fo.len, Fo.size] at this
  rw [show (((0 + 1 : Nat)) : Int) = 1 by omega] at this
  rw [this]
  omega
theorem drop_len {l post : List Nd} {i : Nat} {f : Fo} (hd : l.drop i = f.flat ++ post) (h0 : 0 < f.size) : i + f.size + post.length = l.length := by
  have := congrArg List.length hd
  rw [List.length_drop, List.length_append, Fo.flat_len] at this
  omega
theorem drop_next {l post : List Nd} {i : Nat} {x : Nd} {k : Fo} (hd : l.drop i = x :: (k.flat ++ post)) : l.drop (i + 1 + k.size) = post := by
  have : l.drop (i + (1 + k.size)) = (l.drop i).drop (1 + k.size) := by rw [List.drop_drop]
  rw [show i + 1 + k.size = i + (1 + k.size) by omega, this, hd, show 1 + k.size = k.size + 1 by omega, List.drop_succ_cons, List.drop_append_of_le_length (by rw [Fo.flat_len]; omega), ← Fo.flat_len, List.drop_length]
  rfl
theorem drop_down {l post : List Nd} {i : Nat} {x : Nd} {k : Fo} (hd : l.drop i = x :: (k.flat ++ post)) : l.drop (i + 1) = k.flat ++ post := by
  have : l.drop (i + 1) = (l.drop i).drop 1 := by rw [List.drop_drop]
  rw [this, hd]; rfl
theorem sizeT_c {l : List Nd} {k m : Nat} {tag : Tag} (hl : l.length ≤ 1048576) (hm : sizeF l k = m) :
    CallsV Go.Proofs.Try.prog 42 [.vs 3 (encN l) tag, .int .i64 k] h (fun r h' => r = .int .i64 m ∧ h' = h) := by
  subst hm
  exact size_c hl
def kidsJ (l post : List Nd) (i n : Nat) (k : Fo) (tag : Tag) (h : Heap) : Inv (Fo × Nat × List Int × Nat) where
  E := fun | (_, j, out, t) => [(0, .vs 3 (encN l) tag), (1, .int .i64 i), (5, .int .i64 n), (6, .vs 1 (encI out) (.own t)), (7, .int .i64 j)]
  L _ := []
  H := fun | (_, _, _, t) => h.addT t
  ok := fun | (r, j, out, t) => l.drop j = r.flat ++ post ∧ out ++ r.places j = k.places (i + 1) ∧ j + r.size = i + n ∧ r.wf ∧ h.tok t = false
  meas := fun | (r, _, _, _) => r.size
theorem kids_c {l post : List Nd} {i : Nat} {x : Nd} {k : Fo} {tag : Tag} (hl : l.length ≤ 1048576) (hd : l.drop i = x :: (k.flat ++ post)) (hw : (Fo.cons x k .nil).wf) :
    CallsV Go.Proofs.Try.prog 45 [.vs 3 (encN l) tag, .int .i64 i] h (fun r h' => r = .vs 1 (encI (k.places (i + 1))) .ro ∧ h' = h) := by
  refine callsV_of_vc hP k45 ?_
  have hsz := sizeF_at hd hw
  have hlen := drop_len (f := .cons x k .nil) (by simpa [Fo.flat] using hd) (by simp [Fo.size]; omega)
  simp only [Fo.size] at hlen
  have hpl := Fo.places_len (f := k) (i := i + 1)
  have hkl := Fo.len_le (f := k)
  repeat' ((conv => whnf); first
    | (refine br_intro (fun hc => ?_) (fun hc => ?_) <;> (try simp only [decide_eq_true_eq, decide_eq_false_iff_not] at hc) <;> (try (exfalso; omega)))
    | (refine optK_intro (by first | assumption | exact hput_same | fail) ?_)
    | (refine call_pure (sizeT_c hl hsz) ?_)
    | (refine fun t ht => ?_)
    | (refine And.intro (by first | exact rfl | exact addT_same | omega | exact Nat.le_of_ble_eq_true rfl | decide | exact ⟨by omega, by omega⟩ | (simp; done) | (simp; omega; done) | fail) ?_)
    | fail)
  all_goals (conv => whnf)
  refine loop_rule (kidsJ l post i (1 + k.size) k tag h) (k, i + 1, [], t) ⟨⟨drop_down hd, rfl, by omega, hw.2.2.1, ht⟩, ⟨rfl, rfl, rfl, rfl, rfl, trivial⟩, trivial, Heap.sub_refl _⟩ (fun s hs1 => ?_)
  obtain ⟨r, j, out, t⟩ := s
  obtain ⟨i1, i2, i3, i4, i5⟩ := hs1
  have hlo : (encI out).length = out.length := encI_len
  have hlo2 : out.length + (r.places j).length = k.len := by rw [← hpl, ← i2, List.length_append]
  cases r with
  | nil =>
    simp only [Fo.size] at i3
    repeat' ((conv => whnf); first
      | (refine br_intro (fun hc => ?_) (fun hc => ?_) <;> (try simp only [decide_eq_true_eq, decide_eq_false_iff_not] at hc) <;> (try (exfalso; omega)))
      | (refine optK_intro (by first | assumption | exact hput_same | fail) ?_)
      | (refine fun t ht => ?_)
      | (refine And.intro (by first | exact rfl | exact addT_same | omega | exact Nat.le_of_ble_eq_true rfl | decide | exact ⟨by omega, by omega⟩ | (simp; done) | (simp; omega; done) | fail) ?_)
      | fail)
    all_goals (conv => whnf)
    simp only [Fo.places, List.append_nil] at i2
    rw [← i2]
    exact ⟨_, addT_sub, rfl, rfl⟩
  | cons y k2 r =>
    have hd2 : l.drop j = y :: (k2.flat ++ (r.flat ++ post)) := by rw [i1]; simp [Fo.flat]
    have hw2 : (Fo.cons y k2 .nil).wf := ⟨i4.1, i4.2.1, i4.2.2.1, trivial⟩
    have hsz2 := sizeF_at hd2 hw2
    simp only [Fo.size] at i3
    repeat' ((conv => whnf); first
      | (refine br_intro (fun hc => ?_) (fun hc => ?_) <;> (try simp only [decide_eq_true_eq, decide_eq_false_iff_not] at hc) <;> (try (exfalso; omega)))
      | (refine optK_intro (by first | assumption | exact hput_same | fail) ?_)
      | (refine call_pure (sizeT_c hl hsz2) ?_)
      | (refine fun t ht => ?_)
      | (refine And.intro (by first | exact rfl | exact addT_same | omega | exact Nat.le_of_ble_eq_true rfl | decide | exact ⟨by omega, by omega⟩ | (simp; done) | (simp; omega; done) | fail) ?_)
      | fail)
    all_goals (conv => whnf)
    refine ⟨(r, j + 1 + k2.size, out ++ [(j : Int)], t), ?_, ⟨drop_next hd2, ?_, by omega, i4.2.2.2, addT_none ht⟩, ⟨rfl, rfl, rfl, ?_, ?_, trivial⟩, trivial, swapT_sub i5⟩
    · show r.size < 1 + k2.size + r.size
      omega
    · rw [← i2]; simp [Fo.places]
    · show some (IV.vs _ _ _) = some (IV.vs _ _ _)
      congr 2
      simp [encI, cellsOf]
    · show some (IV.int _ _) = some (IV.int _ _)
      congr 2
      omega
theorem kidsT_c {l post : List Nd} {i : Nat} {x : Nd} {k : Fo} {tag : Tag} (hl : l.length ≤ 1048576) (hd : l.drop i = x :: (k.flat ++ post)) (hw : (Fo.cons x k .nil).wf) :
    CallsV Go.Proofs.Try.prog 45 [.vs 3 (encN l) tag, .int .i64 i] h (fun r h' => r = .vs 1 (encI (k.places (i + 1))) .ro ∧ h' = h) := kids_c hl hd hw
def depthJ (l : List Nd) (i : Nat) (k : Fo) (post : List Nd) (tag : Tag) (h : Heap) : Inv (Fo × Nat × Nat × Nat × List Int) where
  E := fun | (_, _, j, m, _) => [(0, .vs 3 (encN l) tag), (5, .int .i64 m), (10, .vs 1 (encI (k.places (i + 1))) .ro), (11, .int .i64 (encI (k.places (i + 1))).length), (12, .int .i64 j)]
  L _ := []
  H _ := h
  ok := fun | (r, p, j, m, done) => l.drop p = r.flat ++ post ∧ done ++ r.places p = k.places (i + 1) ∧ j = done.length ∧ r.wf ∧ max m r.deep = k.deep ∧ r.size ≤ k.size
  meas := fun | (r, _, _, _, _) => r.size
theorem place_get {done ps : List Int} {p : Nat} {k : Fo} {i j : Nat} (h1 : done ++ ((p : Int) :: ps) = k.places i) (h2 : j = done.length) :
    (encI (k.places i))[((j : Nat) : Int).toNat]? = some [.int .i64 p] := by
  rw [← h1, h2]
  simp [encI]
theorem depth_c {l : List Nd} {tag : Tag} (hl : l.length ≤ 1048576) : ∀ (m : Nat) {post : List Nd} {i : Nat} {x : Nd} {k : Fo}, k.size < m → l.drop i = x :: (k.flat ++ post) → (Fo.cons x k .nil).wf →
    CallsV Go.Proofs.Try.prog 43 [.vs 3 (encN l) tag, .int .i64 i] h (fun r h' => r = .int .i64 (k.deep + 1 : Nat) ∧ h' = h) := by
  intro m
  induction m with
  | zero =>
    intro post i x k hm
    omega
  | succ m ih =>
    intro post i x k hm hd hw
    refine callsV_of_vc hP k43 ?_
    have hpl := Fo.places_len (f := k) (i := i + 1)
    have hel : (encI (k.places (i + 1))).length = k.len := by rw [encI_len, hpl]
    repeat' ((conv => whnf); first
      | (refine br_intro (fun hc => ?_) (fun hc => ?_) <;> (try simp only [decide_eq_true_eq, decide_eq_false_iff_not, if_true, if_false, Bool.and_true, Bool.not_eq_true', Bool.not_eq_false', Bool.and_eq_true, Bool.and_eq_false_iff, beq_iff_eq, beq_eq_false_iff_ne, ne_eq] at hc) <;> (try (exfalso; omega)))
      | (refine optK_intro (by first | assumption | exact hput_same | fail) ?_)
      | (refine call_pure (kidsT_c hl hd hw) ?_)
      | (refine fun t ht => ?_)
      | (refine And.intro (by first | exact rfl | exact addT_same | omega | exact Nat.le_of_ble_eq_true rfl | decide | exact ⟨by omega, by omega⟩ | (simp; done) | (simp; omega; done) | fail) ?_)
      | fail)
    all_goals (conv => whnf)
    refine loop_rule (depthJ l i k post tag h) (k, i + 1, 0, 0, []) ⟨⟨drop_down hd, rfl, rfl, hw.2.2.1, by omega, by omega⟩, ⟨rfl, rfl, rfl, rfl, rfl, trivial⟩, trivial, Heap.sub_refl _⟩ (fun s hs1 => ?_)
    obtain ⟨r, p, j, mo, done⟩ := s
    obtain ⟨i1, i2, i3, i4, i5, i6⟩ := hs1
    have hdl := Fo.deep_le (f := k)
    have hll := Fo.len_le (f := k)
    have hlen := drop_len (f := .cons x k .nil) (by simpa [Fo.flat] using hd) (by simp [Fo.size]; omega)
    simp only [Fo.size] at hlen
    have hdone : done.length + (r.places p).length = k.len := by rw [← hpl, ← i2, List.length_append]
    cases r with
    | nil =>
      simp only [Fo.places, List.length_nil] at hdone
      simp only [Fo.deep] at i5
      repeat' ((conv => whnf); first
        | (refine br_intro (fun hc => ?_) (fun hc => ?_) <;> (try simp only [decide_eq_true_eq, decide_eq_false_iff_not] at hc) <;> (try (exfalso; omega)))
        | (refine optK_intro (by first | assumption | exact hput_same | fail) ?_)
        | (refine fun t ht => ?_)
        | (refine And.intro (by first | exact rfl | exact addT_same | omega | exact Nat.le_of_ble_eq_true rfl | decide | exact ⟨by omega, by omega⟩ | (simp; done) | (simp; omega; done) | fail) ?_)
        | fail)
      all_goals (conv => whnf)
      refine ⟨_, Heap.sub_refl _, ?_, rfl⟩
      show IV.int _ _ = IV.int _ _
      congr 1
      omega
    | cons y k2 r =>
      have hd2 : l.drop p = y :: (k2.flat ++ (r.flat ++ post)) := by rw [i1]; simp [Fo.flat]
      have hw2 : (Fo.cons y k2 .nil).wf := ⟨i4.1, i4.2.1, i4.2.2.1, trivial⟩
      simp only [Fo.size] at i6
      simp only [Fo.deep] at i5
      simp only [Fo.places, List.length_cons] at hdone
      have hg := place_get i2 i3
      have hrec := ih (post := r.flat ++ post) (i := p) (x := y) (k := k2) (by omega) hd2 hw2
      repeat' ((conv => whnf); first
        | (refine br_intro (fun hc => ?_) (fun hc => ?_) <;> (try simp only [decide_eq_true_eq, decide_eq_false_iff_not] at hc) <;> (try (exfalso; omega)))
        | (refine optK_intro (by first | assumption | exact hput_same | fail) ?_)
        | (refine call_pure (hrec) ?_)
        | (refine fun t ht => ?_)
        | (refine And.intro (by first | exact rfl | exact addT_same | omega | exact Nat.le_of_ble_eq_true rfl | decide | exact ⟨by omega, by omega⟩ | (simp; done) | (simp; omega; done) | fail) ?_)
        | fail)
      all_goals (conv => whnf)
      refine ⟨(r, p + 1 + k2.size, j + 1, max mo (k2.deep + 1), done ++ [(p : Int)]), ?_, ⟨drop_next hd2, ?_, ?_, i4.2.2.2, by omega, by omega⟩, ⟨rfl, ?_, rfl, rfl, rfl, trivial⟩, trivial, Heap.sub_refl _⟩
      · show r.size < 1 + k2.size + r.size
        omega
      · rw [← i2]; simp [Fo.places]
      · rw [List.length_append, i3]; rfl
      · show some (IV.int _ _) = some (IV.int _ _)
        congr 2
        omega
end VL
