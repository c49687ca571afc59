/- The contract of Tidy. -/
import Derived.Test.YtjhbkbbmhmfkbaaS5
namespace VL
open Go
attribute [local irreducible] CallsV
variable {h : Heap}
def lastR (out : List Run) : Run := out.getD (out.length - 1) (0, 0)
def tidyStep (out : List Run) (r : Run) : List Run :=
  if r.2 < 1 then out else if 0 < out.length ∧ (lastR out).1 = r.1 then out.set (out.length - 1) ((lastR out).1, sum63 (lastR out).2 r.2) else out ++ [r]
def tidy (l : List Run) : List Run := l.foldl tidyStep []
theorem sum63_inr {a b : Int} : inr (sum63 a b) := by unfold sum63; split <;> constructor <;> omega
theorem tidyStep_len {out : List Run} {r : Run} : (tidyStep out r).length ≤ out.length + 1 := by unfold tidyStep; split <;> (try split) <;> simp
theorem tidyStep_inr {out : List Run} {r : Run} (h1 : ∀ x ∈ out, inr x.2) (h2 : inr r.2) : ∀ x ∈ tidyStep out r, inr x.2 := by
  intro x hx
  unfold tidyStep at hx
  split at hx
  · exact h1 x hx
  · split at hx
    · rcases List.mem_or_eq_of_mem_set hx with q | q
      · exact h1 x q
      · rw [q]; exact sum63_inr
    · rcases List.mem_append.1 hx with q | q
      · exact h1 x q
      · simp at q; rw [q]; exact h2
theorem encR_last {out : List Run} (h0 : 0 < out.length) : (encR out)[((out.length : Int) - 1).toNat]? = some [.int .i64 (lastR out).1, .int .i64 (lastR out).2] := by
  rw [show ((out.length : Int) - 1).toNat = out.length - 1 by omega]
  have : out.length - 1 < out.length := by omega
  simp [encR, lastR, this]
theorem appR_sub {id t : Nat} {X Y : Rows} (hid : h.obj id = none) : (h.put t Y).sub (((h.put id X).del id).put t Y) := by
  refine ⟨fun i r e => ?_, fun _ e => e⟩
  simp only [Heap.put, Heap.del] at e ⊢
  split
  · rename_i h5; rw [if_pos h5] at e; exact e
  · rename_i h5
    rw [if_neg h5] at e
    by_cases h6 : i = id
    · rw [h6, hid] at e; cases e
    · rw [if_neg h6, if_neg h6]; exact e
theorem del_sub {id : Nat} {X : Rows} (hid : h.obj id = none) : h.sub ((h.put id X).del id) := by
  refine ⟨fun i r e => ?_, fun _ e => e⟩
  simp only [Heap.put, Heap.del]
  by_cases h6 : i = id
  · rw [h6, hid] at e; cases e
  · rw [if_neg h6, if_neg h6]; exact e
theorem appR_none {id t : Nat} {X : Rows} (hid : h.obj id = none) (ht : t = id ∨ (h.put id X).obj t = none) : h.obj t = none := by
  rcases ht with rfl | ht
  · exact hid
  · simp only [Heap.put] at ht
    split at ht
    · cases ht
    · exact ht
theorem set_sub {id : Nat} {X rows rows' : Rows} (e : rows' = rows) : (h.put id rows).sub ((h.put id X).put id rows') := by rw [put_put, e]; exact Heap.sub_refl _
theorem encR_set {out : List Run} {k : Nat} {r : Run} : (encR out).set k [.int .i64 r.1, .int .i64 r.2] = encR (out.set k r) := by simp [encR, List.map_set]
def tidyJ (l : List Run) (tag : Tag) (h : Heap) : Inv (Nat × List Run × Nat) where
  E := fun | (i, out, id) => [(3, .rs 2 id out.length), (7, .vs 2 (encR l) tag), (8, .int .i64 (encR l).length), (9, .int .i64 i)]
  L _ := []
  H := fun | (_, out, id) => h.put id (encR out)
  ok := fun | (i, out, id) => i ≤ l.length ∧ out = (l.take i).foldl tidyStep [] ∧ out.length ≤ i ∧ (∀ x ∈ out, inr x.2) ∧ h.obj id = none
  meas := fun | (i, _, _) => l.length - i
theorem fold_take {α β : Type} {f : β → α → β} {b : β} {l : List α} {i : Nat} (hi : i < l.length) : (l.take (i + 1)).foldl f b = f ((l.take i).foldl f b) l[i] := by
  rw [List.take_add_one, List.getElem?_eq_getElem hi, List.foldl_append]; rfl
theorem tidy_c {l : List Run} {tag : Tag} (hl : l.length ≤ 1048576) (hr : ∀ x ∈ l, inr x.2) :
    CallsV Go.Proofs.Try.prog 6 [.vs 2 (encR l) tag] h (fun x h' => x = .vs 2 (encR (tidy l)) .ro ∧ h' = h) := by
  refine callsV_of_vc hP k6 ?_
  have hla := encR_len (l := l)
  repeat' ((conv => whnf); first
    | (refine br_intro (fun hc => ?_) (fun hc => ?_) <;> (try simp only [decide_eq_true_eq, decide_eq_false_iff_not, if_true, if_false, Bool.and_true, Bool.not_eq_true', Bool.not_eq_false', Bool.and_eq_true, Bool.and_eq_false_iff, beq_iff_eq, beq_eq_false_iff_ne, ne_eq] at hc) <;> (try (exfalso; omega)))
    | (refine optK_intro (by first | assumption | exact hput_same | fail) ?_)
    | (refine fun t ht => ?_)
    | (refine And.intro (by first | exact rfl | exact addT_same | omega | exact Nat.le_of_ble_eq_true rfl | decide | exact ⟨by omega, by omega⟩ | (simp; done) | (simp; omega; done) | fail) ?_)
    | fail)
  all_goals (conv => whnf)
  refine loop_rule (tidyJ l tag h) (0, [], t) ⟨⟨by simp, rfl, by simp, by simp, ht⟩, ⟨rfl, rfl, rfl, rfl, trivial⟩, trivial, Heap.sub_refl _⟩ (fun s hs => ?_)
  obtain ⟨i, out, id⟩ := s
  obtain ⟨i1, i2, i3, i4, i5⟩ := hs
  have hlo := encR_len (l := out)
  rcases Nat.lt_or_ge i l.length with hlt | hge
  · have hget := encR_get hlt
    have hri : inr l[i].2 := hr _ (List.getElem_mem hlt)
    have hstep := fold_take (f := tidyStep) (b := []) hlt
    rw [← i2] at hstep
    rcases Nat.eq_zero_or_pos out.length with h0 | h0
    · repeat' ((conv => whnf); first
        | (refine br_intro (fun hc => ?_) (fun hc => ?_) <;> (try simp only [decide_eq_true_eq, decide_eq_false_iff_not] at hc) <;> (try (exfalso; omega)))
        | (refine optK_intro (by first | assumption | exact hput_same | fail) ?_)
        | (refine fun t ht => ?_)
        | (refine And.intro (by first | exact rfl | exact addT_same | omega | exact Nat.le_of_ble_eq_true rfl | decide | exact ⟨by omega, by omega⟩ | (simp; done) | (simp; omega; done) | fail) ?_)
        | fail)
      all_goals (conv => whnf)
      · refine ⟨(i + 1, out, id), ?_, ⟨?_, ?_, ?_, i4, i5⟩, ⟨rfl, rfl, rfl, rfl, trivial⟩, trivial, Heap.sub_refl _⟩
        · show l.length - (i + 1) < l.length - i
          omega
        · omega
        · rw [hstep]; unfold tidyStep; rw [if_pos hc]
        · omega
      · refine ⟨(i + 1, out ++ [l[i]], t), ?_, ⟨?_, ?_, ?_, ?_, appR_none i5 ht⟩, ⟨?_, rfl, rfl, rfl, trivial⟩, trivial, ?_⟩
        · show l.length - (i + 1) < l.length - i
          omega
        · omega
        · rw [hstep]; unfold tidyStep; rw [if_neg (by assumption), if_neg (by omega)]
        · rw [List.length_append]; simp only [List.length_cons, List.length_nil]; omega
        · intro x hx
          rcases List.mem_append.1 hx with q | q
          · exact i4 x q
          · simp at q; rw [q]; exact hri
        · show some (IV.rs _ _ _) = some (IV.rs _ _ _)
          congr 2
          simp
        · have := appR_sub (h := h) (id := id) (t := t) (X := encR out) (Y := encR (out ++ [l[i]])) i5
          have e3 : encR (out ++ [l[i]]) = (encR out).take out.length ++ [[.int .i64 l[i].1, .int .i64 l[i].2]] := by
            rw [← hlo, List.take_length, ← encR_append]; rfl
          rw [e3] at this
          show (h.put t (encR (out ++ [l[i]]))).sub _
          rw [e3]; exact this
    · have hgl := encR_last h0
      have hlr : inr (lastR out).2 := i4 _ (by unfold lastR; rw [List.getD_eq_getElem?_getD, List.getElem?_eq_getElem (by omega)]; simp)
      repeat' ((conv => whnf); first
        | (refine br_intro (fun hc => ?_) (fun hc => ?_) <;> (try simp only [decide_eq_true_eq, decide_eq_false_iff_not] at hc) <;> (try (exfalso; omega)))
        | (refine optK_intro (by first | assumption | exact hput_same | fail) ?_)
        | (refine call_pure (sum_c hlr hri) ?_)
        | (refine fun t ht => ?_)
        | (refine And.intro (by first | exact rfl | exact addT_same | omega | exact Nat.le_of_ble_eq_true rfl | decide | exact ⟨by omega, by omega⟩ | (simp; done) | (simp; omega; done) | fail) ?_)
        | fail)
      all_goals (conv => whnf)
      · refine ⟨(i + 1, out, id), ?_, ⟨?_, ?_, ?_, i4, i5⟩, ⟨rfl, rfl, rfl, rfl, trivial⟩, trivial, Heap.sub_refl _⟩
        · show l.length - (i + 1) < l.length - i
          omega
        · omega
        · rw [hstep]; unfold tidyStep; rw [if_pos hc]
        · omega
      · refine ⟨(i + 1, out.set (out.length - 1) ((lastR out).1, sum63 (lastR out).2 l[i].2), id), ?_, ⟨?_, ?_, ?_, ?_, i5⟩, ⟨?_, rfl, rfl, rfl, trivial⟩, trivial, ?_⟩
        · show l.length - (i + 1) < l.length - i
          omega
        · omega
        · rw [hstep]; unfold tidyStep; rw [if_neg (by assumption), if_pos ⟨h0, hc⟩]
        · simp; omega
        · intro x hx
          rcases List.mem_or_eq_of_mem_set hx with q | q
          · exact i4 x q
          · rw [q]; exact sum63_inr
        · show some (IV.rs _ _ _) = some (IV.rs _ _ _)
          congr 2
          simp
        · refine set_sub ?_
          rw [show ((out.length : Int) - 1).toNat = out.length - 1 by omega]
          exact encR_set (out := out) (k := out.length - 1) (r := ((lastR out).1, sum63 (lastR out).2 l[i].2))
      · refine ⟨(i + 1, out ++ [l[i]], t), ?_, ⟨?_, ?_, ?_, ?_, appR_none i5 ht⟩, ⟨?_, rfl, rfl, rfl, trivial⟩, trivial, ?_⟩
        · show l.length - (i + 1) < l.length - i
          omega
        · omega
        · rw [hstep]; unfold tidyStep; rw [if_neg (by assumption), if_neg (by omega)]
        · rw [List.length_append]; simp only [List.length_cons, List.length_nil]; omega
        · intro x hx
          rcases List.mem_append.1 hx with q | q
          · exact i4 x q
          · simp at q; rw [q]; exact hri
        · show some (IV.rs _ _ _) = some (IV.rs _ _ _)
          congr 2
          simp
        · have := appR_sub (h := h) (id := id) (t := t) (X := encR out) (Y := encR (out ++ [l[i]])) i5
          have e3 : encR (out ++ [l[i]]) = (encR out).take out.length ++ [[.int .i64 l[i].1, .int .i64 l[i].2]] := by
            rw [← hlo, List.take_length, ← encR_append]; rfl
          rw [e3] at this
          show (h.put t (encR (out ++ [l[i]]))).sub _
          rw [e3]; exact this
  · repeat' ((conv => whnf); first
      | (refine br_intro (fun hc => ?_) (fun hc => ?_) <;> (try simp only [decide_eq_true_eq, decide_eq_false_iff_not] at hc) <;> (try (exfalso; omega)))
      | (refine optK_intro (by first | assumption | exact hput_same | fail) ?_)
      | (refine fun t ht => ?_)
      | (refine And.intro (by first | exact rfl | exact addT_same | omega | exact Nat.le_of_ble_eq_true rfl | decide | exact ⟨by omega, by omega⟩ | (simp; done) | (simp; omega; done) | fail) ?_)
      | fail)
    all_goals (conv => whnf)
    have he : l.take i = l := List.take_of_length_le (by omega)
    rw [he] at i2
    refine ⟨h, del_sub i5, ?_, rfl⟩
    show IV.vs _ _ _ = IV.vs _ _ _
    congr 1
    rw [← hlo, List.take_length, i2]; rfl
end VL
