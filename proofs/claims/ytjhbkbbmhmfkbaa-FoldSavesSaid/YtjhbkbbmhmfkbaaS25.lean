/- The contracts of the laws FoldBack and FoldSaves. -/
import Derived.Test.YtjhbkbbmhmfkbaaS24
namespace VL
open Go
attribute [local irreducible] CallsV
variable {h : Heap}
theorem tapeRuns_at {xs : List Int} {p : Nat} {parts most : Int} (hm : 1 ≤ most) : (tapeRuns xs p parts most).2 ≤ p + 1 + 2 * most.toNat := by
  have key : ∀ (k p : Nat) (out : List Run), (runsOf xs parts k p out).2 ≤ p + 2 * k := by
    intro k
    induction k with
    | zero => intro p out; simp only [runsOf]; omega
    | succ k ih =>
      intro p out
      simp only [runsOf]
      have := ih (oneRun xs p parts).2 (out ++ [(oneRun xs p parts).1])
      have a := nxt_range (xs := xs) (p := p) (n := parts + 1)
      have b := nxt_range (xs := xs) (p := (nxt xs p (parts + 1)).2) (n := 4)
      have e : (oneRun xs p parts).2 = (nxt xs (nxt xs p (parts + 1)).2 4).2 := rfl
      omega
  have n1 := nxt_range (xs := xs) (p := p) (n := most)
  have n2 := n1.2.1 (by omega)
  have := key (1 + (nxt xs p most).1).toNat (nxt xs p most).2 []
  unfold tapeRuns
  omega
theorem runs_e {id : Nat} {xs : List Int} {tag : Tag} {p : Nat} {parts most : Int} (hid : h.obj id = some (tapeR xs tag p)) (hx : ∀ x ∈ xs, inr x) (hp : p ≤ 2305843009213693952) (h1 : 0 ≤ parts) (h2 : parts ≤ 1048576) (h3 : most ≤ 1048576) :
    CallsV Go.Proofs.Try.prog 5 [.ptr id 0 0, .int .i64 parts, .int .i64 most] h (fun x h' => x = .vs 2 (encR (tapeRuns xs p parts most).1) .ro ∧ h' = h.put id (tapeR xs tag (tapeRuns xs p parts most).2)) := runs_c hx hp h1 h2 h3 hid
def and7 (n : Int) : Int := IntKind.i64.wrap (BitVec.ofInt IntKind.i64.bits n &&& BitVec.ofInt IntKind.i64.bits 7).toNat
theorem and7_range {n : Int} : 0 ≤ and7 n ∧ and7 n ≤ 7 := by
  unfold and7
  have e : (BitVec.ofInt IntKind.i64.bits n &&& BitVec.ofInt IntKind.i64.bits 7).toNat ≤ 7 := by
    rw [BitVec.toNat_and]
    exact Nat.le_trans Nat.and_le_right (by decide)
  rw [wrap64 (by omega) (by omega)]
  omega
theorem same_self {a : List Run} {ta tb : Tag} (ha : a.length ≤ 1099511627776) :
    CallsV Go.Proofs.Try.prog 13 [.vs 2 (encR a) ta, .vs 2 (encR a) tb] h (fun x h' => x = .bool true ∧ h' = h) := by
  have := same_c (h := h) (a := a) (b := a) (ta := ta) (tb := tb) ha ha
  rwa [decide_eq_true rfl] at this
theorem OfRow_c {row : List Run} {l : List Nd} {tag : Tag} (ht : tableOf row l) (hr : right row = true) (hi : tidy row = row) :
    CallsV Go.Proofs.Try.prog 12 [.vs 3 (encN l) tag] h (fun r h' => r = .tup [.vs 2 (encR row) .ro, .int .i64 0] ∧ h' = h) := by
  obtain ⟨x, k, rfl, hw, he, hd, hs, ho⟩ := ht
  have hl := right_len hr
  have := Of_c (h := h) (tag := tag) hs hw hd ho (by rw [he]; omega) (by
    rw [he]
    intro y hy
    unfold right at hr
    simp only [Bool.and_eq_true, List.all_eq_true] at hr
    have := hr.1 y hy
    simp only [runOK, Bool.and_eq_true, decide_eq_true_eq] at this
    constructor <;> omega) (by rw [he, hi]; exact hl.2)
  rwa [he, hi] at this
theorem tapeRow_inr {parts : Int} {l : List Run} (h : tapeRow parts l) : ∀ x ∈ l, inr x.2 := fun x hx => by
  have := h x hx
  constructor <;> omega
theorem tapeRow_append {parts : Int} {a b : List Run} (ha : tapeRow parts a) (hb : tapeRow parts b) : tapeRow parts (a ++ b) := fun r hr => by
  rcases List.mem_append.1 hr with q | q
  · exact ha r q
  · exact hb r q
theorem tapeRow_rep {parts : Int} {l : List Run} (h : tapeRow parts l) {n : Nat} : tapeRow parts (List.replicate n l).flatten := fun r hr => by
  obtain ⟨s, h1, h2⟩ := List.mem_flatten.1 hr
  rw [(List.mem_replicate.1 h1).2] at h2
  exact h r h2
theorem FoldBack_c {xs : List Int} {tag : Tag} {n : Int} (hx : ∀ x ∈ xs, inr x) :
    CallsV Go.Proofs.Try.prog 3 [.vs 1 (encI xs) tag, .int .i64 n] h (fun r h' => r = .bool true ∧ h' = h) := by
  refine callsV_of_vc hP k3 ?_
  have n7 := and7_range (n := n)
  have n8 := and7_range (n := n)
  unfold and7 at n8
  have p1 := tapeRuns_at (xs := xs) (p := 0) (parts := 3) (most := 6) (by omega)
  obtain ⟨a1, a2, a3⟩ := tapeRuns_ok (xs := xs) (p := 0) (parts := 3) (most := 6) (by omega) (by omega)
  obtain ⟨b1, b2, b3⟩ := tapeRuns_ok (xs := xs) (p := (tapeRuns xs 0 3 6).2) (parts := 3) (most := 6) (by omega) (by omega)
  generalize hA : (tapeRuns xs 0 3 6).1 = A at a1 a2 a3
  generalize hB : (tapeRuns xs (tapeRuns xs 0 3 6).2 3 6).1 = B at b1 b2 b3
  obtain ⟨m, m1, m2, m3, _⟩ := rep_ok (l := B) (k := (1 + and7 n).toNat) (out := A)
  have hR : tapeRow 3 (againF A B A (1 + and7 n)) := by
    unfold againF
    rw [m2]
    exact tapeRow_append (tapeRow_append a1 (tapeRow_rep b1)) a1
  have hRl : (againF A B A (1 + and7 n)).length ≤ 95 := by unfold againF; rw [List.length_append]; omega
  generalize hG : againF A B A (1 + and7 n) = G at hR hRl
  have hT := tidy_len G
  have hTT := tidy_tidy G
  generalize hrow : tidy G = row at hT hTT
  repeat' ((conv => whnf); first
    | (refine br_intro (fun hc => ?_) (fun hc => ?_) <;> (try simp only [decide_eq_true_eq, decide_eq_false_iff_not, if_true, if_false, Bool.and_true, Bool.not_eq_true', Bool.not_eq_false', Bool.and_eq_true, Bool.and_eq_false_iff, beq_iff_eq, beq_eq_false_iff_ne, ne_eq] at hc) <;> (try (exfalso; omega)))
    | (refine optK_intro (by first | assumption | exact hput_same | fail) ?_)
    | (refine fun t ht => ?_)
    | (refine And.intro (by first | exact rfl | exact addT_same | omega | exact Nat.le_of_ble_eq_true rfl | decide | exact ⟨by omega, by omega⟩ | (simp; done) | (simp; omega; done) | fail) ?_)
    | fail)
  all_goals (conv => whnf)
  refine call_eff (runs_e (h := h.put t (tapeR xs tag 0)) (p := 0) hput_same hx (by omega) (by omega) (by omega) (by omega)) ?_
  repeat' ((conv => whnf); first
    | (refine br_intro (fun hc => ?_) (fun hc => ?_) <;> (try simp only [decide_eq_true_eq, decide_eq_false_iff_not, if_true, if_false, Bool.and_true, Bool.not_eq_true', Bool.not_eq_false', Bool.and_eq_true, Bool.and_eq_false_iff, beq_iff_eq, beq_eq_false_iff_ne, ne_eq] at hc) <;> (try (exfalso; omega)))
    | (refine optK_intro (by first | assumption | exact hput_same | fail) ?_)
    | (refine fun t ht => ?_)
    | (refine And.intro (by first | exact rfl | exact addT_same | omega | exact Nat.le_of_ble_eq_true rfl | decide | exact ⟨by omega, by omega⟩ | (simp; done) | (simp; omega; done) | fail) ?_)
    | fail)
  all_goals (conv => whnf)
  refine call_eff (runs_e (p := (tapeRuns xs 0 3 6).2) hput_same hx (by omega) (by omega) (by omega) (by omega)) ?_
  rw [hA, hB]
  have hfin : h.sub ((((h.put t (tapeR xs tag 0)).put t (tapeR xs tag (tapeRuns xs 0 3 6).2)).put t (tapeR xs tag (tapeRuns xs (tapeRuns xs 0 3 6).2 3 6).2))) := by
    rw [put_put, put_put]
    refine ⟨fun j r e => ?_, fun _ e => e⟩
    simp only [Heap.put]
    by_cases q : j = t
    · rw [q, ht] at e; cases e
    · rw [if_neg q]; exact e
  generalize (((h.put t (tapeR xs tag 0)).put t (tapeR xs tag (tapeRuns xs 0 3 6).2)).put t (tapeR xs tag (tapeRuns xs (tapeRuns xs 0 3 6).2 3 6).2)) = h2 at hfin
  have hag := again_c (h := h2) (a := A) (l := B) (b := A) (ta := .ro) (tl := .ro) (tb := .ro) (n := 1 + and7 n) (by omega) (by omega) (by omega) (by omega) (by omega)
  rw [hG] at hag
  have hti := tidy_c (h := h2) (l := G) (tag := .ro) (by omega) (tapeRow_inr hR)
  rw [hrow] at hti
  have hr1 := refRuns_c (h := h2) (l := row) (tag := .ro) (by omega)
  have ht1 := table_c (h := h2) (l := row) (tag := .ro) (by omega)
  have hlr := encR_len (l := row)
  rcases Bool.eq_false_or_eq_true (right row) with hr | hr
  · rw [hr] at hr1 ht1
    have hp1 := plain_c (h := h2) (l := row) (tag := .ro) (by omega)
    rw [hr] at hp1
    obtain ⟨o1, o2⟩ := table_ok hr
    obtain ⟨o3, o4⟩ := plain_ok hr
    have hn1 := encN_len (l := tableF row)
    have hn2 := encN_len (l := plainF row)
    have hof1 := OfRow_c (h := h2) (tag := okTag true) o1 hr hTT
    have hof2 := OfRow_c (h := h2) (tag := okTag true) o3 hr hTT
    have hss := same_self (h := h2) (a := row) (ta := .ro) (tb := .ro) (by omega)
    repeat' ((conv => whnf); first
      | (refine br_intro (fun hc => ?_) (fun hc => ?_) <;> (try simp only [decide_eq_true_eq, decide_eq_false_iff_not] at hc) <;> (try (exfalso; omega)))
      | (refine optK_intro (by first | assumption | exact hput_same | fail) ?_)
      | (refine call_pure (hag) ?_)
      | (refine call_pure (hti) ?_)
      | (refine call_pure (hr1) ?_)
      | (refine call_pure (ht1) ?_)
      | (refine call_pure (hp1) ?_)
      | (refine call_pure (hof1) ?_)
      | (refine call_pure (hof2) ?_)
      | (refine call_pure (hss) ?_)
      | (refine call_pure (known_c) ?_)
      | (refine fun t ht => ?_)
      | (refine And.intro (by first | exact rfl | exact addT_same | omega | exact Nat.le_of_ble_eq_true rfl | decide | exact ⟨by omega, by omega⟩ | (simp; done) | (simp; omega; done) | fail) ?_)
      | fail)
    all_goals (conv => whnf)
    all_goals exact ⟨h, hfin, rfl, rfl⟩
  · rw [hr] at hr1 ht1
    have e0 : tableF row = [] := by unfold tableF; rw [if_neg (by simp [hr])]
    rw [e0] at ht1
    repeat' ((conv => whnf); first
      | (refine br_intro (fun hc => ?_) (fun hc => ?_) <;> (try simp only [decide_eq_true_eq, decide_eq_false_iff_not, if_true, if_false, Bool.and_true, Bool.not_eq_true', Bool.not_eq_false', Bool.and_eq_true, Bool.and_eq_false_iff, beq_iff_eq, beq_eq_false_iff_ne, ne_eq] at hc) <;> (try (exfalso; omega)))
      | (refine optK_intro (by first | assumption | exact hput_same | fail) ?_)
      | (refine call_pure (hag) ?_)
      | (refine call_pure (hti) ?_)
      | (refine call_pure (hr1) ?_)
      | (refine call_pure (ht1) ?_)
      | (refine call_pure (known_c) ?_)
      | (refine fun t ht => ?_)
      | (refine And.intro (by first | exact rfl | exact addT_same | omega | exact Nat.le_of_ble_eq_true rfl | decide | exact ⟨by omega, by omega⟩ | (simp; done) | (simp; omega; done) | fail) ?_)
      | fail)
    all_goals (conv => whnf)
    all_goals exact ⟨h, hfin, rfl, rfl⟩
theorem parts_rep {l : List Run} : ∀ {m : Nat}, parts (List.replicate m l).flatten = (List.replicate m (parts l)).flatten
  | 0 => rfl
  | m + 1 => by
    have ih := parts_rep (l := l) (m := m)
    unfold parts at *
    rw [List.replicate_succ, List.replicate_succ, List.flatten_cons, List.flatten_cons, List.map_append, ih]
theorem adj_rep {ps : List Int} (h : adjP ps) (h0 : 0 < ps.length) (hne : ps.getD (ps.length - 1) 0 ≠ ps.getD 0 0) : ∀ {m : Nat}, adjP (List.replicate m ps).flatten
  | 0 => fun i hi => by simp at hi
  | m + 1 => by
    rw [List.replicate_succ, List.flatten_cons]
    refine adj_append h (adj_rep h h0 hne) fun _ q => ?_
    cases m with
    | zero => simp at q
    | succ m =>
      rw [List.replicate_succ, List.flatten_cons]
      have e : (ps ++ (List.replicate m ps).flatten).getD 0 0 = ps.getD 0 0 := by
        rw [List.getD_eq_getElem?_getD, List.getElem?_append_left h0, ← List.getD_eq_getElem?_getD]
      rw [e]
      exact hne
theorem saves_row {A : List Run} {m : Nat} (ha : tapeRow 3 A) (ha2 : A.length ≤ 6) (hl : 2 ≤ (tidy A).length) (hm : 1 ≤ m) (hm2 : m ≤ 9) (hlen : ((List.replicate m (tidy A)).flatten).length ≤ 89)
    (hne : (lastR (tidy A)).1 ≠ ((tidy A).getD 0 (0, 0)).1) : right (List.replicate m (tidy A)).flatten = true ∧ tidy (List.replicate m (tidy A)).flatten = (List.replicate m (tidy A)).flatten := by
  obtain ⟨t1, t2, t3, t4⟩ := tidy_tape ha (by omega)
  obtain ⟨u1, u2⟩ := tidy_ok A
  have hge := total_ge u2
  have hmem : ∀ x ∈ (List.replicate m (tidy A)).flatten, x ∈ tidy A := by
    intro x hx
    obtain ⟨s, h1, h2⟩ := List.mem_flatten.1 hx
    rwa [(List.mem_replicate.1 h1).2] at h2
  refine ⟨?_, ?_⟩
  · unfold right
    simp only [Bool.and_eq_true, decide_eq_true_eq, List.all_eq_true]
    refine ⟨fun x hx => ?_, ?_, by omega, ?_⟩
    · have h1 := t1 x (hmem x hx)
      have h2 := u2 x (hmem x hx)
      have h3 := hge x (hmem x hx)
      simp only [runOK, partOK, Bool.and_eq_true, decide_eq_true_eq]
      omega
    · rw [flat_rep_len]
      exact Nat.mul_pos (by omega) (by omega)
    · rw [Fo.total_rep]
      have : total (tidy A) * (m : Int) ≤ 24 * 9 := Int.mul_le_mul (by omega) (by omega) (by omega) (by omega)
      omega
  · refine tidy_id ?_ fun x hx => u2 x (hmem x hx)
    rw [parts_rep]
    refine adj_rep u1 (by simp [parts]; omega) ?_
    have e1 := lastR_part (out := tidy A) (by omega)
    have e2 : (parts (tidy A)).length = (tidy A).length := by simp [parts]
    rw [e2, e1]
    have e3 : (parts (tidy A)).getD 0 0 = ((tidy A).getD 0 (0, 0)).1 := by
      unfold parts
      have : 0 < (tidy A).length := by omega
      simp [List.getD_eq_getElem?_getD, this]
    rw [e3]
    exact hne
theorem FoldSaves_c {xs : List Int} {tag : Tag} {n : Int} (hx : ∀ x ∈ xs, inr x) :
    CallsV Go.Proofs.Try.prog 4 [.vs 1 (encI xs) tag, .int .i64 n] h (fun r h' => r = .bool true ∧ h' = h) := by
  refine callsV_of_vc hP k4 ?_
  have n7 := and7_range (n := n)
  have n8 := and7_range (n := n)
  unfold and7 at n8
  obtain ⟨a1, a2, a3⟩ := tapeRuns_ok (xs := xs) (p := 0) (parts := 3) (most := 6) (by omega) (by omega)
  generalize hA : (tapeRuns xs 0 3 6).1 = A at a1 a2 a3
  obtain ⟨t1, t2, t3, t4⟩ := tidy_tape a1 (by omega)
  have hT := tidy_len A
  repeat' ((conv => whnf); first
    | (refine br_intro (fun hc => ?_) (fun hc => ?_) <;> (try simp only [decide_eq_true_eq, decide_eq_false_iff_not, if_true, if_false, Bool.and_true, Bool.not_eq_true', Bool.not_eq_false', Bool.and_eq_true, Bool.and_eq_false_iff, beq_iff_eq, beq_eq_false_iff_ne, ne_eq] at hc) <;> (try (exfalso; omega)))
    | (refine optK_intro (by first | assumption | exact hput_same | fail) ?_)
    | (refine fun t ht => ?_)
    | (refine And.intro (by first | exact rfl | exact addT_same | omega | exact Nat.le_of_ble_eq_true rfl | decide | exact ⟨by omega, by omega⟩ | (simp; done) | (simp; omega; done) | fail) ?_)
    | fail)
  all_goals (conv => whnf)
  refine call_eff (runs_e (h := h.put t (tapeR xs tag 0)) (p := 0) hput_same hx (by omega) (by omega) (by omega) (by omega)) ?_
  rw [hA]
  have hfin : h.sub (((h.put t (tapeR xs tag 0)).put t (tapeR xs tag (tapeRuns xs 0 3 6).2))) := by
    rw [put_put]
    refine ⟨fun j r e => ?_, fun _ e => e⟩
    simp only [Heap.put]
    by_cases q : j = t
    · rw [q, ht] at e; cases e
    · rw [if_neg q]; exact e
  generalize ((h.put t (tapeR xs tag 0)).put t (tapeR xs tag (tapeRuns xs 0 3 6).2)) = h2 at hfin
  have hti := tidy_c (h := h2) (l := A) (tag := .ro) (by omega) (tapeRow_inr a1)
  have sv := fun m => saves_row (m := m) a1 (by omega)
  obtain ⟨m, m1, m2, m3, m4⟩ := rep_ok (l := tidy A) (k := (2 + and7 n).toNat) (out := [])
  generalize hL : tidy A = L at hti t1 t2 hT sv m1 m2 m3 m4
  have hlL := encR_len (l := L)
  rcases Nat.lt_or_ge L.length 2 with q | q
  · repeat' ((conv => whnf); first
      | (refine br_intro (fun hc => ?_) (fun hc => ?_) <;> (try simp only [decide_eq_true_eq, decide_eq_false_iff_not] at hc) <;> (try (exfalso; omega)))
      | (refine optK_intro (by first | assumption | exact hput_same | fail) ?_)
      | (refine call_pure (hti) ?_)
      | (refine call_pure (known_c) ?_)
      | (refine fun t ht => ?_)
      | (refine And.intro (by first | exact rfl | exact addT_same | omega | exact Nat.le_of_ble_eq_true rfl | decide | exact ⟨by omega, by omega⟩ | (simp; done) | (simp; omega; done) | fail) ?_)
      | fail)
    all_goals (conv => whnf)
    all_goals exact ⟨h, hfin, rfl, rfl⟩
  have hg0 : (encR L)[(0 : Int).toNat]? = some [.int .i64 (L.getD 0 (0, 0)).1, .int .i64 (L.getD 0 (0, 0)).2] := by
    have : 0 < L.length := by omega
    simp [encR, List.getD_eq_getElem?_getD, this]
  have hg1 := encR_last (out := L) (by omega)
  rw [← hlL] at hg1
  by_cases hq : (L.getD 0 (0, 0)).1 = (lastR L).1
  · repeat' ((conv => whnf); first
      | (refine br_intro (fun hc => ?_) (fun hc => ?_) <;> (try simp only [decide_eq_true_eq, decide_eq_false_iff_not] at hc) <;> (try (exfalso; omega)))
      | (refine optK_intro (by first | assumption | exact hput_same | fail) ?_)
      | (refine call_pure (hti) ?_)
      | (refine call_pure (known_c) ?_)
      | (refine fun t ht => ?_)
      | (refine And.intro (by first | exact rfl | exact addT_same | omega | exact Nat.le_of_ble_eq_true rfl | decide | exact ⟨by omega, by omega⟩ | (simp; done) | (simp; omega; done) | fail) ?_)
      | fail)
    all_goals (conv => whnf)
    all_goals exact ⟨h, hfin, rfl, rfl⟩
  have hag := again_c (h := h2) (a := []) (l := L) (b := []) (ta := .full) (tl := .ro) (tb := .full) (n := 2 + and7 n) (by simp) (by omega) (by simp) (by omega) (by omega)
  have hG : againF [] L [] (2 + and7 n) = (List.replicate m L).flatten := by unfold againF; rw [m2]; simp
  rw [hG] at hag
  have hrl : ((List.replicate m L).flatten).length ≤ 89 := by
    rw [m2] at m3
    simpa using m3
  obtain ⟨hr, hTT⟩ := sv m q (m4 (by omega) (by simp; omega)) (by omega) hrl (fun e => hq e.symm)
  generalize hrow : (List.replicate m L).flatten = row at hag hrl hr hTT
  have ht1 := table_c (h := h2) (l := row) (tag := .ro) (by omega)
  have hp1 := plain_c (h := h2) (l := row) (tag := .ro) (by omega)
  have ht2 := table_c (h := h2) (l := L) (tag := .ro) (by omega)
  rw [hr] at hp1 ht1
  obtain ⟨o1, o2⟩ := table_ok hr
  have o5 : (tableF L).length ≤ L.length + 1 := by
    rcases Bool.eq_false_or_eq_true (right L) with e | e
    · exact Nat.le_trans (table_ok e).2 (plain_ok e).2
    · unfold tableF
      rw [if_neg (by simp [e])]
      simp
  have hn1 := encN_len (l := tableF row)
  have hn2 := encN_len (l := plainF row)
  have hn3 := encN_len (l := tableF L)
  have hof1 := OfRow_c (h := h2) (tag := okTag true) o1 hr hTT
  have hss := same_self (h := h2) (a := row) (ta := .ro) (tb := .ro) (by omega)
  repeat' ((conv => whnf); first
    | (refine br_intro (fun hc => ?_) (fun hc => ?_) <;> (try simp only [decide_eq_true_eq, decide_eq_false_iff_not] at hc) <;> (try (exfalso; omega)))
    | (refine optK_intro (by first | assumption | exact hput_same | fail) ?_)
    | (refine call_pure (hti) ?_)
    | (refine call_pure (hag) ?_)
    | (refine call_pure (ht1) ?_)
    | (refine call_pure (hp1) ?_)
    | (refine call_pure (hof1) ?_)
    | (refine call_pure (hss) ?_)
    | (refine call_pure (ht2) ?_)
    | (refine call_pure (known_c) ?_)
    | (refine fun t ht => ?_)
    | (refine And.intro (by first | exact rfl | exact addT_same | omega | exact Nat.le_of_ble_eq_true rfl | decide | exact ⟨by omega, by omega⟩ | (simp; done) | (simp; omega; done) | fail) ?_)
    | fail)
  all_goals (conv => whnf)
  all_goals exact ⟨h, hfin, rfl, rfl⟩
end VL
