/- The contracts of fold.Plain and fold.Table. -/
import Derived.Test.YtjhbkbbmhmfkbaaS15
namespace VL
open Go
attribute [local irreducible] CallsV
variable {h : Heap}
def catN (ls : List Item) : List Nd := ls.flatMap fun x => x.1
def joinedN (ls : List Item) : List Nd := if ls.length = 1 then catN ls else (3, 0, (ls.length : Int)) :: catN ls
def sizeN (ls : List Item) : Nat := (ls.map fun x => x.1.length).sum
theorem tot_items {ls : List Item} : tot (ls.map fun x => (encN x.1, x.2)) = sizeN ls := by
  unfold tot sizeN
  rw [List.map_map]
  congr 1
  apply List.map_congr_left
  intro x _
  simp [encN_len]
theorem flat_items {ls : List Item} : flat (ls.map fun x => (encN x.1, x.2)) = encN (catN ls) := by
  unfold flat catN encN
  rw [List.flatMap_map, List.map_flatMap]
theorem joined_items {ls : List Item} : joinedR (ls.map fun x => (encN x.1, x.2)) = encN (joinedN ls) := by
  unfold joinedR joinedN
  rw [List.length_map, flat_items]
  split
  · rfl
  · rfl
theorem encT_cut {ls : List Item} {a b : Nat} : ((encT ls).take b).drop a = encT (cut ls a b) := by simp [encT, encL, cut, List.map_take, List.map_drop]
theorem joinedT_c {ls : List Item} {tag : Tag} (hl : ls.length ≤ 1048575) (h1 : sizeN ls ≤ 1048575) :
    CallsV Go.Proofs.Try.prog 20 [.vs 1 (encT ls) tag] h (fun r h' => r = .vs 3 (encN (joinedN ls)) .ro ∧ h' = h) := by
  rw [← joined_items]
  exact joined_c (by rw [List.length_map]; exact hl) (by rw [tot_items]; exact h1)
theorem sizeN_append {a b : List Item} : sizeN (a ++ b) = sizeN a + sizeN b := by simp [sizeN]
theorem sizeN_cut {ls : List Item} {a b : Nat} : sizeN (cut ls a b) ≤ sizeN ls := by
  have e1 : sizeN ls = sizeN (ls.take b) + sizeN (ls.drop b) := by rw [← sizeN_append, List.take_append_drop]
  have e2 : sizeN (ls.take b) = sizeN ((ls.take b).take a) + sizeN ((ls.take b).drop a) := by rw [← sizeN_append, List.take_append_drop]
  unfold cut
  omega
theorem sizeN_mem {ls : List Item} {x : Item} (hx : x ∈ ls) : x.1.length ≤ sizeN ls := by
  obtain ⟨a, b, rfl⟩ := List.append_of_mem hx
  rw [sizeN_append]
  simp [sizeN]
  omega
theorem joinedS_c {ls : List Item} {a b : Nat} {tag : Tag} (hl : ls.length ≤ 1048575) (h1 : sizeN ls ≤ 1048575) :
    CallsV Go.Proofs.Try.prog 20 [.vs 1 (((encT ls).take b).drop a) tag] h (fun r h' => r = .vs 3 (encN (joinedN (cut ls a b))) .ro ∧ h' = h) := by
  rw [encT_cut]
  have h2 := cut_len (l := ls) (a := a) (b := b)
  have h3 := sizeN_cut (ls := ls) (a := a) (b := b)
  exact joinedT_c (by omega) (by omega)
def leafItems (l : List Run) : List Item := (leavesF l).map fun x => (x, .full)
theorem encI2_items {l : List Run} : encI2 (leavesF l) = encT (leafItems l) := by simp [encI2, encT, encL, leafItems]
theorem leafItems_len {l : List Run} : (leafItems l).length = l.length := by simp [leafItems, leavesF]
theorem leafItems_size {l : List Run} : sizeN (leafItems l) = l.length := by
  unfold sizeN leafItems leavesF
  rw [List.map_map, List.map_map]
  induction l with
  | nil => rfl
  | cons a l ih => simp only [List.map_cons, List.sum_cons, ih, List.length_cons]; simp; omega
theorem leavesT_c {l : List Run} {tag : Tag} (hl : l.length ≤ 1048576) :
    CallsV Go.Proofs.Try.prog 17 [.vs 2 (encR l) tag] h (fun x h' => x = .vs 1 (encT (leafItems l)) .ro ∧ h' = h) := by
  rw [← encI2_items]
  exact leaves_c hl
def plainF (l : List Run) : List Nd := if right l then joinedN (leafItems l) else []
def okTag (b : Bool) : Tag := if b then .ro else .full
theorem right_len {l : List Run} (h : right l = true) : 0 < l.length ∧ l.length ≤ 96 := by
  unfold right at h
  simp only [Bool.and_eq_true, decide_eq_true_eq] at h
  exact ⟨h.2.1, h.2.2.1⟩
theorem plain_c {l : List Run} {tag : Tag} (hl : l.length ≤ 1099511627776) :
    CallsV Go.Proofs.Try.prog 11 [.vs 2 (encR l) tag] h (fun x h' => x = .vs 3 (encN (plainF l)) (okTag (right l)) ∧ h' = h) := by
  refine callsV_of_vc hP k11 ?_
  repeat' ((conv => whnf); first
    | (refine br_intro (fun hc => ?_) (fun hc => ?_) <;> (try simp only [Bool.not_eq_true', Bool.not_eq_false'] at hc) <;> (try (exfalso; omega)))
    | (refine optK_intro (by first | assumption | exact hput_same | fail) ?_)
    | (refine call_pure (right_c hl) ?_)
    | (refine fun t ht => ?_)
    | (refine And.intro (by first | exact rfl | exact addT_same | omega | exact Nat.le_of_ble_eq_true rfl | decide | exact ⟨by omega, by omega⟩ | (simp; done) | (simp; omega; done) | fail) ?_)
    | fail)
  all_goals (conv => whnf)
  · have e : plainF l = [] := by unfold plainF; rw [if_neg (by simp [hc])]
    rw [e, hc]
    exact ⟨_, Heap.sub_refl _, rfl, rfl⟩
  · have e : right l = true := by simpa using hc
    have h1 := right_len e
    have h2 := leafItems_len (l := l)
    have h3 := leafItems_size (l := l)
    repeat' ((conv => whnf); first
      | (refine br_intro (fun hc => ?_) (fun hc => ?_) <;> (try simp only [decide_eq_true_eq, decide_eq_false_iff_not, if_true, if_false, Bool.and_true, Bool.not_eq_true', Bool.not_eq_false', Bool.and_eq_true, Bool.and_eq_false_iff, beq_iff_eq, beq_eq_false_iff_ne, ne_eq] at hc) <;> (try (exfalso; omega)))
      | (refine optK_intro (by first | assumption | exact hput_same | fail) ?_)
      | (refine call_pure (leavesT_c (l := l) (by omega)) ?_)
      | (refine call_pure (joinedT_c (ls := leafItems l) (by omega) (by omega)) ?_)
      | (refine fun t ht => ?_)
      | (refine And.intro (by first | exact rfl | exact addT_same | omega | exact Nat.le_of_ble_eq_true rfl | decide | exact ⟨by omega, by omega⟩ | (simp; done) | (simp; omega; done) | fail) ?_)
      | fail)
    all_goals (conv => whnf)
    have e2 : plainF l = joinedN (leafItems l) := by unfold plainF; rw [if_pos e]
    rw [e2, e]
    exact ⟨_, Heap.sub_refl _, rfl, rfl⟩
/-- The table's items, folded at a place. -/
def foldAt (ls : List Item) (a p n : Nat) : List Item := ls.take a ++ [((4, 0, (n : Int)) :: joinedN (cut ls a (a + p)), .ro)] ++ ls.drop (a + p * n)
def tableL : Nat → List Item → List Nd
  | 0, ls => joinedN ls
  | k + 1, ls =>
    let f := best (sameIds ls) (sameSizes ls)
    if f.2.2.1 = 0 then joinedN ls else tableL k (foldAt ls f.1.toNat f.2.1.toNat f.2.2.1.toNat)
def tableF (l : List Run) : List Nd := if right l then tableL l.length (leafItems l) else []
theorem joinedN_size {ls : List Item} : (joinedN ls).length ≤ sizeN ls + 1 := by
  unfold joinedN
  have : (catN ls).length = sizeN ls := by unfold catN sizeN; rw [List.length_flatMap]
  split <;> simp <;> omega
theorem foldAt_size {ls : List Item} {a p n : Nat} (hp : 1 ≤ p) (hn : 1 < n) (h : a + n * p ≤ ls.length) :
    (foldAt ls a p n).length + 1 ≤ ls.length ∧ sizeN (foldAt ls a p n) ≤ sizeN ls + 2 := by
  have m1 : n * p = p * n := Nat.mul_comm n p
  have m2 : 2 * p ≤ n * p := Nat.mul_le_mul_right p hn
  refine ⟨?_, ?_⟩
  · unfold foldAt
    simp only [List.length_append, List.length_take, List.length_drop, List.length_cons, List.length_nil]
    omega
  · have e1 : ls = ls.take a ++ cut ls a (a + p) ++ (ls.drop (a + p)) := by
      conv => lhs; rw [← List.take_append_drop (a + p) ls]
      congr 1
      unfold cut
      conv => lhs; rw [← List.take_append_drop a (ls.take (a + p))]
      rw [List.take_take, Nat.min_eq_left (by omega)]
    have e2 : sizeN (ls.drop (a + p)) = sizeN ((ls.drop (a + p)).take (p * n - p)) + sizeN ((ls.drop (a + p)).drop (p * n - p)) := by rw [← sizeN_append, List.take_append_drop]
    rw [List.drop_drop, show a + p + (p * n - p) = a + p * n by omega] at e2
    have e3 : sizeN ls = sizeN (ls.take a) + sizeN (cut ls a (a + p)) + sizeN (ls.drop (a + p)) := by
      conv => lhs; rw [e1]
      rw [sizeN_append, sizeN_append]
    have e4 := joinedN_size (ls := cut ls a (a + p))
    unfold foldAt
    rw [sizeN_append, sizeN_append]
    have e5 : sizeN [((4, 0, (n : Int)) :: joinedN (cut ls a (a + p)), Tag.ro)] = (joinedN (cut ls a (a + p))).length + 1 := by simp [sizeN]
    rw [e5]
    omega
theorem sameIds_len {ls : List Item} : (sameIds ls).length = ls.length := by simp [sameIds]
theorem sameSizes_len {ls : List Item} : (sameSizes ls).length = ls.length := by simp [sameSizes]
theorem one_c {n : Int} {J : List Nd} {t1 t2 t3 : Tag} (hJ : J.length ≤ 1048575) :
    CallsV Go.Proofs.Try.prog 21 [.vs 1 [[.vs 3 [[.int .i64 4, .int .i64 0, .int .i64 n]] t1], [.vs 3 (encN J) t2]] t3] h (fun r h' => r = .vs 3 (encN ((4, 0, n) :: J)) .ro ∧ h' = h) := by
  have c := concat21_c (h := h) (ls := [([[.int .i64 4, .int .i64 0, .int .i64 n]], t1), (encN J, t2)]) (tag := t3) (by simp) (by simp [tot, encN_len]; omega)
  have e : flat [([[.int .i64 4, .int .i64 0, .int .i64 n]], t1), (encN J, t2)] = encN ((4, 0, n) :: J) := by simp [flat, encN, encNd]
  rw [e] at c
  exact c
theorem fold22_c {ls : List Item} {a b m : Nat} {one : List Nd} {t1 t2 t3 t4 t5 : Tag} (hl : ls.length ≤ 1048) (hm : m = ls.length) :
    CallsV Go.Proofs.Try.prog 22 [.vs 1 [[.vs 1 (((encT ls).take a).drop 0) t1], [.vs 1 [[.vs 3 (encN one) t5]] t2], [.vs 1 (((encT ls).take m).drop b) t3]] t4] h
      (fun r h' => r = .vs 1 (encT (ls.take a ++ [(one, t5)] ++ ls.drop b)) .ro ∧ h' = h) := by
  have c := concat22_c (h := h) (ls := [(((encT ls).take a).drop 0, t1), ([[.vs 3 (encN one) t5]], t2), (((encT ls).take m).drop b, t3)]) (tag := t4) (by simp) (by simp [tot, encT_len]; omega)
  have e : flat [(((encT ls).take a).drop 0, t1), ([[.vs 3 (encN one) t5]], t2), (((encT ls).take m).drop b, t3)] = encT (ls.take a ++ [(one, t5)] ++ ls.drop b) := by
    rw [List.take_of_length_le (i := m) (by rw [encT_len]; omega)]
    simp [flat, encT, encL, List.map_take, List.map_drop]
  rw [e] at c
  exact c
def tableJ (r : List Nd) (h : Heap) : Inv (Nat × List Item × Tag) where
  E := fun | (_, ls, t) => [(3, .vs 1 (encT ls) t)]
  L _ := []
  H _ := h
  ok := fun | (k, ls, _) => tableL k ls = r ∧ ls.length ≤ k ∧ ls.length ≤ 96 ∧ sizeN ls + 2 * ls.length ≤ 288
  meas := fun | (k, _, _) => k
theorem table_c {l : List Run} {tag : Tag} (hl : l.length ≤ 1099511627776) :
    CallsV Go.Proofs.Try.prog 9 [.vs 2 (encR l) tag] h (fun x h' => x = .vs 3 (encN (tableF l)) (okTag (right l)) ∧ h' = h) := by
  refine callsV_of_vc hP k9 ?_
  repeat' ((conv => whnf); first
    | (refine br_intro (fun hc => ?_) (fun hc => ?_) <;> (try simp only [Bool.not_eq_true', Bool.not_eq_false'] at hc) <;> (try (exfalso; omega)))
    | (refine optK_intro (by first | assumption | exact hput_same | fail) ?_)
    | (refine call_pure (right_c hl) ?_)
    | (refine fun t ht => ?_)
    | (refine And.intro (by first | exact rfl | exact addT_same | omega | exact Nat.le_of_ble_eq_true rfl | decide | exact ⟨by omega, by omega⟩ | (simp; done) | (simp; omega; done) | fail) ?_)
    | fail)
  all_goals (conv => whnf)
  · have e : tableF l = [] := by unfold tableF; rw [if_neg (by simp [hc])]
    rw [e, hc]
    exact ⟨_, Heap.sub_refl _, rfl, rfl⟩
  · have e : right l = true := by simpa using hc
    have h1 := right_len e
    have h2 := leafItems_len (l := l)
    have h3 := leafItems_size (l := l)
    rw [show tableF l = tableL l.length (leafItems l) by unfold tableF; rw [if_pos e], e]
    repeat' ((conv => whnf); first
      | (refine br_intro (fun hc => ?_) (fun hc => ?_) <;> (try simp only [decide_eq_true_eq, decide_eq_false_iff_not, if_true, if_false, Bool.and_true, Bool.not_eq_true', Bool.not_eq_false', Bool.and_eq_true, Bool.and_eq_false_iff, beq_iff_eq, beq_eq_false_iff_ne, ne_eq] at hc) <;> (try (exfalso; omega)))
      | (refine optK_intro (by first | assumption | exact hput_same | fail) ?_)
      | (refine call_pure (leavesT_c (l := l) (by omega)) ?_)
      | (refine fun t ht => ?_)
      | (refine And.intro (by first | exact rfl | exact addT_same | omega | exact Nat.le_of_ble_eq_true rfl | decide | exact ⟨by omega, by omega⟩ | (simp; done) | (simp; omega; done) | fail) ?_)
      | fail)
    all_goals (conv => whnf)
    refine loop_rule (tableJ (tableL l.length (leafItems l)) h) (l.length, leafItems l, .ro) ⟨⟨rfl, by omega, by omega, by omega⟩, ⟨rfl, trivial⟩, trivial, Heap.sub_refl _⟩ (fun s hs => ?_)
    obtain ⟨k, ls, t⟩ := s
    obtain ⟨i1, i2, i3, i4⟩ := hs
    have hls : ∀ y ∈ ls, y.1.length ≤ 1048576 := fun y hy => by have := sizeN_mem hy; omega
    have hi := sameIds_len (ls := ls)
    have hz := sameSizes_len (ls := ls)
    have hz2 : ∀ x ∈ sameSizes ls, 0 ≤ x ∧ x ≤ 1048576 := by
      intro x hx
      obtain ⟨y, hy, rfl⟩ := List.mem_map.1 hx
      have := hls y hy
      omega
    have hbc := best_c (h := h) (ids := sameIds ls) (sizes := sameSizes ls) (ti := .ro) (ts := .ro) (by omega) (by omega) hz2
    have hle := encT_len (ls := ls)
    rcases best_ok (ids := sameIds ls) (sizes := sameSizes ls) (by omega) with hb | ⟨a, p, n, hb, hn, hp, han, hs, _⟩
    · rw [hb] at hbc
      have e5 : tableL k ls = joinedN ls := by
        cases k with
        | zero => rfl
        | succ k => simp only [tableL, hb]; rfl
      repeat' ((conv => whnf); first
        | (refine br_intro (fun hc => ?_) (fun hc => ?_) <;> (try simp only [decide_eq_true_eq, decide_eq_false_iff_not, if_true, if_false, Bool.and_true, Bool.not_eq_true', Bool.not_eq_false', Bool.and_eq_true, Bool.and_eq_false_iff, beq_iff_eq, beq_eq_false_iff_ne, ne_eq] at hc) <;> (try (exfalso; omega)))
        | (refine optK_intro (by first | assumption | exact hput_same | fail) ?_)
        | (refine call_pure (same19_c (ls := ls) (by omega) hls) ?_)
        | (refine call_pure (hbc) ?_)
        | (refine call_pure (joinedT_c (ls := ls) (by omega) (by omega)) ?_)
        | (refine fun t ht => ?_)
        | (refine And.intro (by first | exact rfl | exact addT_same | omega | exact Nat.le_of_ble_eq_true rfl | decide | exact ⟨by omega, by omega⟩ | (simp; done) | (simp; omega; done) | fail) ?_)
        | fail)
      all_goals (conv => whnf)
      rw [← i1, e5]
      exact ⟨_, Heap.sub_refl _, rfl, rfl⟩
    · rw [hb] at hbc
      change CallsV _ _ _ _ (fun x h' => x = .agg [.int .i64 (a : Int), .int .i64 (p : Int), .int .i64 (n : Int), .int .i64 (savesAt n p (cut (sameSizes ls) a (a + p)).sum)] ∧ h' = h) at hbc
      have m1 : n * p = p * n := Nat.mul_comm n p
      have m2 : 2 * p ≤ n * p := Nat.mul_le_mul_right p hn
      have m3 : n ≤ n * p := Nat.le_mul_of_pos_right n hp
      have q1 : (p : Int) * (n : Int) = ((p * n : Nat) : Int) := by push_cast; rfl
      have t1 : ((a : Int) + (p : Int)).toNat = a + p := by omega
      have t2 : ((a : Int) + (p : Int) * (n : Int)).toNat = a + p * n := by omega
      have t3 : ((a : Int)).toNat = a := by omega
      repeat' ((conv => whnf); first
        | (refine br_intro (fun hc => ?_) (fun hc => ?_) <;> (try simp only [decide_eq_true_eq, decide_eq_false_iff_not] at hc) <;> (try (exfalso; omega)))
        | (refine optK_intro (by first | assumption | exact hput_same | fail) ?_)
        | (refine call_pure (same19_c (ls := ls) (by omega) hls) ?_)
        | (refine call_pure (hbc) ?_)
        | (refine call_pure (joinedS_c (ls := ls) (by omega) (by omega)) ?_)
        | (refine fun t ht => ?_)
        | (refine And.intro (by first | exact rfl | exact addT_same | omega | exact Nat.le_of_ble_eq_true rfl | decide | exact ⟨by omega, by omega⟩ | (simp; done) | (simp; omega; done) | fail) ?_)
        | fail)
      all_goals (conv => whnf)
      rw [t1, t3]
      have h5 := sizeN_cut (ls := ls) (a := a) (b := a + p)
      have h6 := joinedN_size (ls := cut ls a (a + p))
      have h7 := foldAt_size (ls := ls) (a := a) (p := p) (n := n) hp hn (by omega)
      refine call_pure (one_c (n := (n : Int)) (J := joinedN (cut ls a (a + p))) (by omega)) ?_
      repeat' ((conv => whnf); first
        | (refine br_intro (fun hc => ?_) (fun hc => ?_) <;> (try simp only [decide_eq_true_eq, decide_eq_false_iff_not, if_true, if_false, Bool.and_true, Bool.not_eq_true', Bool.not_eq_false', Bool.and_eq_true, Bool.and_eq_false_iff, beq_iff_eq, beq_eq_false_iff_ne, ne_eq] at hc) <;> (try (exfalso; omega)))
        | (refine optK_intro (by first | assumption | exact hput_same | fail) ?_)
        | (refine fun t ht => ?_)
        | (refine And.intro (by first | exact rfl | exact addT_same | omega | exact Nat.le_of_ble_eq_true rfl | decide | exact ⟨by omega, by omega⟩ | (simp; done) | (simp; omega; done) | fail) ?_)
        | fail)
      all_goals (conv => whnf)
      rw [t2]
      refine call_pure (fold22_c (ls := ls) (a := ((a : Int)).toNat) (b := a + p * n) (by omega) (by omega)) ?_
      repeat' ((conv => whnf); first
        | (refine br_intro (fun hc => ?_) (fun hc => ?_) <;> (try simp only [decide_eq_true_eq, decide_eq_false_iff_not, if_true, if_false, Bool.and_true, Bool.not_eq_true', Bool.not_eq_false', Bool.and_eq_true, Bool.and_eq_false_iff, beq_iff_eq, beq_eq_false_iff_ne, ne_eq] at hc) <;> (try (exfalso; omega)))
        | (refine optK_intro (by first | assumption | exact hput_same | fail) ?_)
        | (refine fun t ht => ?_)
        | (refine And.intro (by first | exact rfl | exact addT_same | omega | exact Nat.le_of_ble_eq_true rfl | decide | exact ⟨by omega, by omega⟩ | (simp; done) | (simp; omega; done) | fail) ?_)
        | fail)
      all_goals (conv => whnf)
      obtain ⟨k', rfl⟩ : ∃ k', k = k' + 1 := ⟨k - 1, by omega⟩
      refine ⟨(k', foldAt ls a p n, .ro), Nat.lt_succ_self k', ⟨?_, by omega, by omega, by omega⟩, ⟨rfl, trivial⟩, trivial, Heap.sub_refl _⟩
      rw [← i1]
      simp only [tableL, hb]
      rw [if_neg hc]
      rfl
end VL
