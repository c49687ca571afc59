/- The contracts of length, Depth, Length and Right. -/
import Derived.Test.YtjhbkbbmhmfkbaaS18
namespace VL
open Go
attribute [local irreducible] CallsV
variable {h : Heap}
namespace Fo
/-- How many ticks, of a node over so many below. -/
def over (x : Nd) (s : Int) : Int := if x.1 = 3 then s else if x.1 = 4 then s * x.2.2 else x.2.2
def long : Fo → Int
  | nil => 0
  | cons x k r => over x k.long + r.long
end Fo
theorem fineB_kind {x : Nd} (h : fineB x = true) : (x.1 = 1 ∨ x.1 = 2 ∨ x.1 = 3 ∨ x.1 = 4) ∧ 1 ≤ x.2.2 := by
  unfold fineB at h
  repeat' split at h
  all_goals simp at h
  all_goals omega
theorem long_pos : ∀ {f : Fo}, f.wf → 0 ≤ f.long
  | .nil, _ => by simp [Fo.long]
  | .cons x k r, hw => by
    have h1 := long_pos hw.2.2.1
    have h2 := long_pos hw.2.2.2
    have h3 := fineB_kind hw.1
    have h4 : 0 ≤ k.long * x.2.2 := Int.mul_nonneg h1 (by omega)
    simp only [Fo.long, Fo.over]
    split
    · omega
    · split <;> omega
theorem cap_mul {s n : Int} (hs : 0 ≤ s) (hn : 1 ≤ n) : min (min s 4097 * min n 4097) 4097 = min (s * n) 4097 ∧ 0 ≤ min s 4097 * min n 4097 ∧ min s 4097 * min n 4097 ≤ 4097 * 4097 := by
  have b1 : 0 ≤ min s 4097 * min n 4097 := Int.mul_nonneg (by omega) (by omega)
  have b2 : min s 4097 * min n 4097 ≤ 4097 * 4097 := Int.mul_le_mul (by omega) (by omega) (by omega) (by omega)
  refine ⟨?_, b1, b2⟩
  rcases Int.lt_or_le s 1 with q | q
  · have : s = 0 := by omega
    subst this
    rw [show (min (0 : Int) 4097) = 0 from rfl, Int.zero_mul, Int.zero_mul]
  · rcases Int.lt_or_le s 4098 with q1 | q1
    · rcases Int.lt_or_le n 4098 with q2 | q2
      · rw [show min s 4097 = s by omega, show min n 4097 = n by omega]
      · have c1 : 1 * n ≤ s * n := Int.mul_le_mul_of_nonneg_right q (by omega)
        have c2 : 1 * min n 4097 ≤ min s 4097 * min n 4097 := Int.mul_le_mul_of_nonneg_right (by omega) (by omega)
        omega
    · have c1 : s * 1 ≤ s * n := Int.mul_le_mul_of_nonneg_left hn (by omega)
      have c2 : min s 4097 * 1 ≤ min s 4097 * min n 4097 := Int.mul_le_mul_of_nonneg_left (by omega) (by omega)
      omega
def longJ (l : List Nd) (i : Nat) (k : Fo) (post : List Nd) (tag : Tag) (h : Heap) : Inv (Fo × Nat × Nat × Int × List Int) where
  E := fun | (_, _, j, s, _) => [(0, .vs 3 (encN l) tag), (1, .int .i64 i), (5, .int .i64 (min s 4097)), (10, .vs 1 (encI (k.places (i + 1))) .ro), (11, .int .i64 (encI (k.places (i + 1))).length), (12, .int .i64 j)]
  L _ := []
  H _ := h
  ok := fun | (r, p, j, s, done) => l.drop p = r.flat ++ post ∧ done ++ r.places p = k.places (i + 1) ∧ j = done.length ∧ r.wf ∧ s + r.long = k.long ∧ r.size ≤ k.size ∧ 0 ≤ s
  meas := fun | (r, _, _, _, _) => r.size
theorem head_get {l post : List Nd} {i : Nat} {x : Nd} (hd : l.drop i = x :: post) : (encN l)[((i : Nat) : Int).toNat]? = some [.int .i64 x.1, .int .i64 x.2.1, .int .i64 x.2.2] := by
  have hlt : i < l.length := by
    have := congrArg List.length hd
    rw [List.length_drop, List.length_cons] at this
    omega
  rw [List.drop_eq_getElem_cons hlt] at hd
  have e := (List.cons.inj hd).1
  rw [← e]
  exact encN_get hlt
theorem long_c {l : List Nd} {tag : Tag} (hl : l.length ≤ 1048576) : ∀ (m : Nat) {post : List Nd} {i : Nat} {x : Nd} {k : Fo}, k.size < m → l.drop i = x :: (k.flat ++ post) → (Fo.cons x k .nil).wf →
    CallsV Go.Proofs.Try.prog 44 [.vs 3 (encN l) tag, .int .i64 i] h (fun r h' => r = .int .i64 (min (Fo.over x k.long) 4097) ∧ h' = h) := by
  intro m
  induction m with
  | zero =>
    intro post i x k hm
    omega
  | succ m ih =>
    intro post i x k hm hd hw
    refine callsV_of_vc hP k44 ?_
    have hpl := Fo.places_len (f := k) (i := i + 1)
    have hel : (encI (k.places (i + 1))).length = k.len := by rw [encI_len, hpl]
    repeat' ((conv => whnf); first
      | (refine br_intro (fun hc => ?_) (fun hc => ?_) <;> (try simp only [decide_eq_true_eq, decide_eq_false_iff_not, if_true, if_false, Bool.and_true, Bool.not_eq_true', Bool.not_eq_false', Bool.and_eq_true, Bool.and_eq_false_iff, beq_iff_eq, beq_eq_false_iff_ne, ne_eq] at hc) <;> (try (exfalso; omega)))
      | (refine optK_intro (by first | assumption | exact hput_same | fail) ?_)
      | (refine call_pure (kidsT_c hl hd hw) ?_)
      | (refine fun t ht => ?_)
      | (refine And.intro (by first | exact rfl | exact addT_same | omega | exact Nat.le_of_ble_eq_true rfl | decide | exact ⟨by omega, by omega⟩ | (simp; done) | (simp; omega; done) | fail) ?_)
      | fail)
    all_goals (conv => whnf)
    refine loop_rule (longJ l i k post tag h) (k, i + 1, 0, 0, []) ⟨⟨drop_down hd, rfl, rfl, hw.2.2.1, by omega, by omega, by omega⟩, ⟨rfl, rfl, rfl, rfl, rfl, rfl, trivial⟩, trivial, Heap.sub_refl _⟩ (fun s hs1 => ?_)
    obtain ⟨r, p, j, s, done⟩ := s
    obtain ⟨i1, i2, i3, i4, i5, i6, i7⟩ := hs1
    have hll := Fo.len_le (f := k)
    have hlen := drop_len (f := .cons x k .nil) (by simpa [Fo.flat] using hd) (by simp [Fo.size]; omega)
    simp only [Fo.size] at hlen
    have hdone : done.length + (r.places p).length = k.len := by rw [← hpl, ← i2, List.length_append]
    cases r with
    | nil =>
      simp only [Fo.places, List.length_nil] at hdone
      simp only [Fo.long] at i5
      have hgx := head_get hd
      have hk := fineB_kind hw.1
      have hcm := cap_mul i7 hk.2
      have hs : s = k.long := by omega
      repeat' ((conv => whnf); first
        | (refine br_intro (fun hc => ?_) (fun hc => ?_) <;> (try simp only [decide_eq_true_eq, decide_eq_false_iff_not] at hc) <;> (try (exfalso; omega)))
        | (refine optK_intro (by first | assumption | exact hput_same | fail) ?_)
        | (refine fun t ht => ?_)
        | (refine And.intro (by first | exact rfl | exact addT_same | omega | exact Nat.le_of_ble_eq_true rfl | decide | exact ⟨by omega, by omega⟩ | (simp; done) | (simp; omega; done) | fail) ?_)
        | fail)
      all_goals (conv => whnf)
      all_goals refine ⟨_, Heap.sub_refl _, ?_, rfl⟩
      all_goals show IV.int _ _ = IV.int _ _
      all_goals congr 1
      all_goals unfold Fo.over
      · rw [if_pos (by assumption), hs]
      · rw [if_neg (by omega), if_pos (by assumption), hcm.1, hs]
      · rw [if_neg (by omega), if_neg (by omega)]
    | cons y k2 r =>
      have hd2 : l.drop p = y :: (k2.flat ++ (r.flat ++ post)) := by rw [i1]; simp [Fo.flat]
      have hw2 : (Fo.cons y k2 .nil).wf := ⟨i4.1, i4.2.1, i4.2.2.1, trivial⟩
      simp only [Fo.size] at i6
      simp only [Fo.long] at i5
      simp only [Fo.places, List.length_cons] at hdone
      have hg := place_get i2 i3
      have hrec := ih (post := r.flat ++ post) (i := p) (x := y) (k := k2) (by omega) hd2 hw2
      have hlp := long_pos hw2
      simp only [Fo.long] at hlp
      repeat' ((conv => whnf); first
        | (refine br_intro (fun hc => ?_) (fun hc => ?_) <;> (try simp only [decide_eq_true_eq, decide_eq_false_iff_not] at hc) <;> (try (exfalso; omega)))
        | (refine optK_intro (by first | assumption | exact hput_same | fail) ?_)
        | (refine call_pure (hrec) ?_)
        | (refine fun t ht => ?_)
        | (refine And.intro (by first | exact rfl | exact addT_same | omega | exact Nat.le_of_ble_eq_true rfl | decide | exact ⟨by omega, by omega⟩ | (simp; done) | (simp; omega; done) | fail) ?_)
        | fail)
      all_goals (conv => whnf)
      refine ⟨(r, p + 1 + k2.size, j + 1, s + Fo.over y k2.long, done ++ [(p : Int)]), ?_, ⟨drop_next hd2, ?_, ?_, i4.2.2.2, by omega, by omega, by omega⟩, ⟨rfl, rfl, ?_, rfl, rfl, rfl, trivial⟩, trivial, Heap.sub_refl _⟩
      · show r.size < 1 + k2.size + r.size
        omega
      · rw [← i2]; simp [Fo.places]
      · rw [List.length_append, i3]; rfl
      · show some (IV.int _ _) = some (IV.int _ _)
        congr 2
        omega
/-- A tree. -/
abbrev Fo.one (x : Nd) (k : Fo) : Fo := .cons x k .nil
theorem one_drop {x : Nd} {k : Fo} : (Fo.one x k).flat.drop 0 = x :: (k.flat ++ []) := by simp [Fo.flat]
theorem one_len {x : Nd} {k : Fo} : (Fo.one x k).flat.length = 1 + k.size := by rw [Fo.flat_len]; rfl
theorem Depth_c {x : Nd} {k : Fo} {tag : Tag} (hl : k.size < 1048576) (hw : (Fo.one x k).wf) :
    CallsV Go.Proofs.Try.prog 38 [.vs 3 (encN (Fo.one x k).flat) tag] h (fun r h' => r = .int .i64 (k.deep + 1 : Nat) ∧ h' = h) := by
  refine callsV_of_vc hP k38 ?_
  have hln := one_len (x := x) (k := k)
  have hle : (encN (Fo.one x k).flat).length = 1 + k.size := by rw [encN_len, hln]
  have hs := sizeF_at (l := (Fo.one x k).flat) one_drop hw
  have hc1 := sizeT_c (h := h) (l := (Fo.one x k).flat) (tag := tag) (by omega) hs
  have hc2 := depth_c (h := h) (l := (Fo.one x k).flat) (tag := tag) (by omega) (k.size + 1) (by omega) one_drop hw
  repeat' ((conv => whnf); first
    | (refine br_intro (fun hc => ?_) (fun hc => ?_) <;> (try simp only [decide_eq_true_eq, decide_eq_false_iff_not, ne_eq] at hc) <;> (try (exfalso; omega)))
    | (refine optK_intro (by first | assumption | exact hput_same | fail) ?_)
    | (refine call_pure (hc1) ?_)
    | (refine call_pure (hc2) ?_)
    | (refine fun t ht => ?_)
    | (refine And.intro (by first | exact rfl | exact addT_same | omega | exact Nat.le_of_ble_eq_true rfl | decide | exact ⟨by omega, by omega⟩ | (simp; done) | (simp; omega; done) | fail) ?_)
    | fail)
  all_goals (conv => whnf)
  exact ⟨_, Heap.sub_refl _, rfl, rfl⟩
theorem Length_c {x : Nd} {k : Fo} {tag : Tag} (hl : k.size < 1048576) (hw : (Fo.one x k).wf) (ho : Fo.over x k.long ≤ 4096) :
    CallsV Go.Proofs.Try.prog 39 [.vs 3 (encN (Fo.one x k).flat) tag] h (fun r h' => r = .tup [.int .i64 (Fo.over x k.long), .bool true] ∧ h' = h) := by
  refine callsV_of_vc hP k39 ?_
  have hln := one_len (x := x) (k := k)
  have hc2 := long_c (h := h) (l := (Fo.one x k).flat) (tag := tag) (by omega) (k.size + 1) (by omega) one_drop hw
  rw [show min (Fo.over x k.long) 4097 = Fo.over x k.long by omega] at hc2
  repeat' ((conv => whnf); first
    | (refine br_intro (fun hc => ?_) (fun hc => ?_) <;> (try simp only [decide_eq_true_eq, decide_eq_false_iff_not] at hc) <;> (try (exfalso; omega)))
    | (refine optK_intro (by first | assumption | exact hput_same | fail) ?_)
    | (refine call_pure (Depth_c hl hw) ?_)
    | (refine call_pure (hc2) ?_)
    | (refine fun t ht => ?_)
    | (refine And.intro (by first | exact rfl | exact addT_same | omega | exact Nat.le_of_ble_eq_true rfl | decide | exact ⟨by omega, by omega⟩ | (simp; done) | (simp; omega; done) | fail) ?_)
    | fail)
  all_goals (conv => whnf)
  exact ⟨_, Heap.sub_refl _, rfl, rfl⟩
theorem Right_c {x : Nd} {k : Fo} {tag : Tag} (hl : k.size < 128) (hw : (Fo.one x k).wf) (hd : k.deep < 16) (ho : Fo.over x k.long ≤ 4096) :
    CallsV Go.Proofs.Try.prog 25 [.vs 3 (encN (Fo.one x k).flat) tag] h (fun r h' => r = .int .i64 0 ∧ h' = h) := by
  refine callsV_of_vc hP k25 ?_
  have hln := one_len (x := x) (k := k)
  have hle : (encN (Fo.one x k).flat).length = 1 + k.size := by rw [encN_len, hln]
  repeat' ((conv => whnf); first
    | (refine br_intro (fun hc => ?_) (fun hc => ?_) <;> (try simp only [decide_eq_true_eq, decide_eq_false_iff_not] at hc) <;> (try (exfalso; omega)))
    | (refine optK_intro (by first | assumption | exact hput_same | fail) ?_)
    | (refine call_pure (Depth_c (by omega) hw) ?_)
    | (refine call_pure (Length_c (by omega) hw ho) ?_)
    | (refine fun t ht => ?_)
    | (refine And.intro (by first | exact rfl | exact addT_same | omega | exact Nat.le_of_ble_eq_true rfl | decide | exact ⟨by omega, by omega⟩ | (simp; done) | (simp; omega; done) | fail) ?_)
    | fail)
  all_goals (conv => whnf)
  exact ⟨_, Heap.sub_refl _, rfl, rfl⟩
end VL
