/- Tidy rows, rows off a tape: plain. -/
import Derived.Test.YtjhbkbbmhmfkbaaS23
namespace VL
open Go
/-- Side by side none is the same. -/
def adjP (ps : List Int) : Prop := ∀ i, i + 1 < ps.length → ps.getD i 0 ≠ ps.getD (i + 1) 0
def parts (l : List Run) : List Int := l.map (·.1)
theorem adj_append {a b : List Int} (ha : adjP a) (hb : adjP b) (h : 0 < a.length → 0 < b.length → a.getD (a.length - 1) 0 ≠ b.getD 0 0) : adjP (a ++ b) := by
  intro i hi
  rw [List.length_append] at hi
  simp only [List.getD_eq_getElem?_getD] at *
  rcases Nat.lt_trichotomy (i + 1) a.length with q | q | q
  · rw [List.getElem?_append_left (by omega), List.getElem?_append_left q]
    have := ha i q
    simpa [List.getD_eq_getElem?_getD] using this
  · rw [List.getElem?_append_left (by omega), List.getElem?_append_right (by omega)]
    have := h (by omega) (by omega)
    rw [show i + 1 - a.length = 0 by omega, show i = a.length - 1 by omega]
    exact this
  · rw [List.getElem?_append_right (by omega), List.getElem?_append_right (by omega)]
    have := hb (i - a.length) (by omega)
    rw [show i + 1 - a.length = i - a.length + 1 by omega]
    simpa [List.getD_eq_getElem?_getD] using this
theorem lastR_part {out : List Run} (h : 0 < out.length) : (parts out).getD (out.length - 1) 0 = (lastR out).1 := by
  have : out.length - 1 < out.length := by omega
  simp [parts, lastR, List.getD_eq_getElem?_getD, this]
theorem tidy_go : ∀ {l out : List Run}, adjP (parts (out ++ l)) → (∀ r ∈ l, 1 ≤ r.2) → l.foldl tidyStep out = out ++ l
  | [], out, _, _ => by simp
  | r :: l, out, ha, hp => by
    have h1 := hp r (by simp)
    have e : tidyStep out r = out ++ [r] := by
      unfold tidyStep
      rw [if_neg (by omega)]
      by_cases h0 : 0 < out.length
      · rw [if_neg]
        rintro ⟨_, q⟩
        have := ha (out.length - 1) (by simp [parts]; omega)
        apply this
        have e1 : (parts (out ++ r :: l)).getD (out.length - 1) 0 = (parts out).getD (out.length - 1) 0 := by
          unfold parts
          rw [List.map_append, List.getD_eq_getElem?_getD, List.getElem?_append_left (by simp; omega), ← List.getD_eq_getElem?_getD]
        have e2 : (parts (out ++ r :: l)).getD (out.length - 1 + 1) 0 = r.1 := by
          unfold parts
          rw [List.map_append, List.getD_eq_getElem?_getD, List.getElem?_append_right (by simp; omega)]
          simp [show out.length - 1 + 1 - out.length = 0 by omega]
        rw [e1, e2, lastR_part h0, q]
      · rw [if_neg (fun q => h0 q.1)]
    rw [List.foldl_cons, e, tidy_go (by simpa using ha) (fun x hx => hp x (by simp [hx]))]
    simp
theorem tidy_id {l : List Run} (h1 : adjP (parts l)) (h2 : ∀ r ∈ l, 1 ≤ r.2) : tidy l = l := by
  have := tidy_go (out := []) (by simpa using h1) h2
  simpa [tidy] using this
theorem set_last {out : List Run} {v : Run} (h : 0 < out.length) : out.set (out.length - 1) v = out.take (out.length - 1) ++ [v] := by
  rw [List.set_eq_take_append_cons_drop, if_pos (by omega), show out.length - 1 + 1 = out.length by omega, List.drop_length]
theorem split_last {out : List Run} (h : 0 < out.length) : out = out.take (out.length - 1) ++ [lastR out] := by
  have hlt : out.length - 1 < out.length := by omega
  conv => lhs; rw [← List.take_append_drop (out.length - 1) out]
  rw [List.drop_eq_getElem_cons hlt, show out.length - 1 + 1 = out.length by omega, List.drop_length]
  congr 1
  simp [lastR, hlt]
theorem lastR_mem {out : List Run} (h : 0 < out.length) : lastR out ∈ out := by
  have e : out.length - 1 < out.length := by omega
  rw [lastR, List.getD_eq_getElem?_getD, List.getElem?_eq_getElem e]
  exact List.getElem_mem _
theorem parts_set {out : List Run} {v : Run} (h : 0 < out.length) (hv : v.1 = (lastR out).1) : parts (out.set (out.length - 1) v) = parts out := by
  rw [set_last h]
  conv => rhs; rw [split_last h]
  simp [parts, hv]
theorem tidyStep_ok {out : List Run} {r : Run} (h1 : adjP (parts out)) (h2 : ∀ x ∈ out, 1 ≤ x.2) : adjP (parts (tidyStep out r)) ∧ ∀ x ∈ tidyStep out r, 1 ≤ x.2 := by
  unfold tidyStep
  split
  · exact ⟨h1, h2⟩
  · rename_i hr
    split
    · rename_i hc
      refine ⟨by rw [parts_set (v := ((lastR out).1, sum63 (lastR out).2 r.2)) hc.1 rfl]; exact h1, ?_⟩
      intro x hx
      rcases List.mem_or_eq_of_mem_set hx with q | q
      · exact h2 x q
      · have := h2 _ (lastR_mem hc.1)
        rw [q]
        unfold sum63
        split <;> omega
    · rename_i hc
      refine ⟨?_, ?_⟩
      · unfold parts at *
        rw [List.map_append]
        refine adj_append h1 ?_ ?_
        · intro i hi
          simp at hi
        · intro a1 _ q
          simp only [List.length_map] at a1 q
          have := lastR_part a1
          unfold parts at this
          rw [this] at q
          exact hc ⟨a1, by simpa using q⟩
      · intro x hx
        rcases List.mem_append.1 hx with q | q
        · exact h2 x q
        · simp at q
          rw [q]
          omega
theorem fold_inv {α β : Type} {f : β → α → β} {P : β → Prop} : ∀ {l : List α} {b : β}, P b → (∀ b a, a ∈ l → P b → P (f b a)) → P (l.foldl f b)
  | [], _, h, _ => h
  | a :: l, b, h, hs => fold_inv (l := l) (hs b a (by simp) h) fun b x hx => hs b x (by simp [hx])
theorem tidy_ok (l : List Run) : adjP (parts (tidy l)) ∧ ∀ x ∈ tidy l, 1 ≤ x.2 := by
  unfold tidy
  refine fold_inv (P := fun out => adjP (parts out) ∧ ∀ x ∈ out, 1 ≤ x.2) ⟨fun i hi => by simp [parts] at hi, by simp⟩ fun out r _ h => tidyStep_ok h.1 h.2
theorem tidy_tidy (l : List Run) : tidy (tidy l) = tidy l := tidy_id (tidy_ok l).1 (tidy_ok l).2
theorem tidy_len (l : List Run) : (tidy l).length ≤ l.length := by
  unfold tidy
  have : ∀ (l out : List Run), (l.foldl tidyStep out).length ≤ out.length + l.length := by
    intro l
    induction l with
    | nil => intro out; simp
    | cons r l ih =>
      intro out
      have h1 := ih (tidyStep out r)
      have h2 := tidyStep_len (out := out) (r := r)
      simp only [List.foldl_cons, List.length_cons]
      omega
  have := this l []
  simpa using this
/-- Of a row off a tape. -/
def tapeRow (parts : Int) (l : List Run) : Prop := ∀ r ∈ l, -1 ≤ r.1 ∧ r.1 < parts ∧ 1 ≤ r.2 ∧ r.2 ≤ 4
theorem oneRun_ok {xs : List Int} {p : Nat} {parts : Int} (hp : 0 ≤ parts) : -1 ≤ (oneRun xs p parts).1.1 ∧ (oneRun xs p parts).1.1 < parts ∧ 1 ≤ (oneRun xs p parts).1.2 ∧ (oneRun xs p parts).1.2 ≤ 4 := by
  have a := nxt_range (xs := xs) (p := p) (n := parts + 1)
  have b := nxt_range (xs := xs) (p := (nxt xs p (parts + 1)).2) (n := 4)
  unfold oneRun
  simp only
  have a2 := a.2.1 (by omega)
  have b2 := b.2.1 (by omega)
  omega
theorem runsOf_ok {xs : List Int} {parts : Int} (hp : 0 ≤ parts) : ∀ {k p : Nat} {out : List Run}, tapeRow parts out → tapeRow parts (runsOf xs parts k p out).1 ∧ (runsOf xs parts k p out).1.length = out.length + k
  | 0, p, out, h => ⟨h, rfl⟩
  | k + 1, p, out, h => by
    simp only [runsOf]
    have := runsOf_ok (xs := xs) hp (k := k) (p := (oneRun xs p parts).2) (out := out ++ [(oneRun xs p parts).1]) (by
      intro r hr
      rcases List.mem_append.1 hr with q | q
      · exact h r q
      · simp at q
        rw [q]
        exact oneRun_ok hp)
    refine ⟨this.1, ?_⟩
    rw [this.2]
    simp
    omega
theorem tapeRuns_ok {xs : List Int} {p : Nat} {parts most : Int} (hp : 0 ≤ parts) (hm : 1 ≤ most) : tapeRow parts (tapeRuns xs p parts most).1 ∧ 1 ≤ (tapeRuns xs p parts most).1.length ∧ ((tapeRuns xs p parts most).1.length : Int) ≤ most := by
  have n1 := nxt_range (xs := xs) (p := p) (n := most)
  have := runsOf_ok (xs := xs) hp (k := (1 + (nxt xs p most).1).toNat) (p := (nxt xs p most).2) (out := []) (by intro r hr; simp at hr)
  unfold tapeRuns
  refine ⟨this.1, ?_⟩
  rw [this.2]
  have n2 := n1.2.1 (by omega)
  simp
  omega
theorem total_set {out : List Run} {v : Run} (h : 0 < out.length) : total (out.set (out.length - 1) v) = total out - (lastR out).2 + v.2 := by
  have e : ∀ v : Run, total [v] = v.2 := fun v => by simp [total]
  have e2 := congrArg total (split_last h)
  rw [Fo.total_append, e] at e2
  rw [set_last h, Fo.total_append, e]
  omega
theorem total_ge {l : List Run} (h : ∀ x ∈ l, 1 ≤ x.2) : ∀ x ∈ l, x.2 ≤ total l := by
  induction l with
  | nil => intro x hx; simp at hx
  | cons r l ih =>
    have h0 : ∀ (l : List Run), (∀ x ∈ l, 1 ≤ x.2) → 0 ≤ total l := by
      intro l
      induction l with
      | nil => intro _; simp [total]
      | cons a l ih =>
        intro h
        have := ih fun x hx => h x (by simp [hx])
        have := h a (by simp)
        simp only [total, List.map_cons, List.sum_cons] at *
        omega
    intro x hx
    have h1 := h r (by simp)
    have h2 := h0 l fun x hx => h x (by simp [hx])
    have e : total (r :: l) = r.2 + total l := by simp [total]
    rw [e]
    rcases List.mem_cons.1 hx with q | q
    · rw [q]; omega
    · have := ih (fun x hx => h x (by simp [hx])) x q
      omega
/-- A row off a tape, tidy: its parts as they were, its ticks as many. -/
theorem tidy_tape {parts : Int} : ∀ {l : List Run}, tapeRow parts l → l.length ≤ 1024 → (∀ x ∈ tidy l, -1 ≤ x.1 ∧ x.1 < parts) ∧ total (tidy l) = total l ∧ 0 ≤ total l ∧ total l ≤ 4 * l.length := by
  have key : ∀ (l out : List Run) (m : Nat), tapeRow parts l → (∀ x ∈ out, -1 ≤ x.1 ∧ x.1 < parts ∧ 1 ≤ x.2) → total out ≤ 4 * m → m + l.length ≤ 1024 →
      (∀ x ∈ l.foldl tidyStep out, -1 ≤ x.1 ∧ x.1 < parts) ∧ total (l.foldl tidyStep out) = total out + total l ∧ 0 ≤ total l ∧ total l ≤ 4 * l.length := by
    intro l
    induction l with
    | nil => intro out m _ h1 _ _; exact ⟨fun x hx => ⟨(h1 x hx).1, (h1 x hx).2.1⟩, by simp [total], by simp [total], by simp [total]⟩
    | cons r l ih =>
      intro out m ht ho hm hl
      obtain ⟨r1, r2, r3, r4⟩ := ht r (by simp)
      simp only [List.length_cons] at hl
      have htot : total (tidyStep out r) = total out + r.2 := by
        unfold tidyStep
        rw [if_neg (by omega)]
        split
        · rename_i hc
          have hlast := total_ge (fun x hx => (ho x hx).2.2) _ (lastR_mem hc.1)
          have hl1 := (ho _ (lastR_mem hc.1)).2.2
          rw [total_set hc.1]
          unfold sum63
          rw [if_neg (by omega)]
          simp only
          omega
        · rw [Fo.total_append]; simp [total]
      have hin : ∀ x ∈ tidyStep out r, -1 ≤ x.1 ∧ x.1 < parts ∧ 1 ≤ x.2 := by
        intro x hx
        unfold tidyStep at hx
        rw [if_neg (by omega)] at hx
        split at hx
        · rename_i hc
          rcases List.mem_or_eq_of_mem_set hx with q | q
          · exact ho x q
          · have hl1 := ho _ (lastR_mem hc.1)
            rw [q]
            refine ⟨hl1.1, hl1.2.1, ?_⟩
            unfold sum63
            simp only
            split <;> omega
        · rcases List.mem_append.1 hx with q | q
          · exact ho x q
          · simp at q
            rw [q]
            exact ⟨r1, r2, r3⟩
      obtain ⟨i1, i2, i3, i4⟩ := ih (tidyStep out r) (m + 1) (fun x hx => ht x (by simp [hx])) hin (by rw [htot]; omega) (by omega)
      have e : total (r :: l) = r.2 + total l := by simp [total]
      simp only [List.foldl_cons, List.length_cons]
      rw [i2, htot, e]
      exact ⟨i1, by omega, by omega, by omega⟩
  intro l ht hl
  have := key l [] 0 ht (by simp) (by simp [total]) (by omega)
  unfold tidy
  have e : total ([] : List Run) = 0 := rfl
  rw [e] at this
  exact ⟨this.1, by omega, this.2.2.1, this.2.2.2⟩
theorem rep_ok {l : List Run} : ∀ {k : Nat} {out : List Run}, ∃ m, m ≤ k ∧ rep l k out = out ++ (List.replicate m l).flatten ∧ (rep l k out).length ≤ max out.length 89 ∧ (0 < k → out.length + l.length < 90 → 0 < m)
  | 0, out => ⟨0, Nat.le_refl _, by simp [rep], by simp only [rep]; omega, by omega⟩
  | k + 1, out => by
    simp only [rep]
    split
    · rename_i hc
      obtain ⟨m, m1, m2, m3, _⟩ := rep_ok (k := k) (out := out ++ l)
      refine ⟨m + 1, by omega, ?_, ?_, by omega⟩
      · rw [m2, List.replicate_succ]; simp
      · rw [List.length_append] at m3; omega
    · exact ⟨0, by omega, by simp, by omega, fun _ h => by omega⟩
end VL
