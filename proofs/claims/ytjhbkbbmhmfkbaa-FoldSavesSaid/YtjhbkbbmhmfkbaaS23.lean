/- A table folded of a row is a tree of that row: plain. -/
import Derived.Test.YtjhbkbbmhmfkbaaS22
namespace VL
open Go
def goodI (row : List Run) (ls : List Item) (fs : List Fo) : Prop :=
  ls.map (·.1) = fs.map Fo.flat ∧ (∀ f ∈ fs, f.len = 1 ∧ f.wf) ∧ (∀ f ∈ fs, 2 ^ f.deep ≤ 2 * (f.runs.length * f.runs.length)) ∧ (Fo.cat fs).runs = row
theorem sizeN_map {ls : List Item} : sizeN ls = ((ls.map (·.1)).map List.length).sum := by
  unfold sizeN
  rw [List.map_map]
  rfl
theorem catN_map {ls : List Item} : catN ls = (ls.map (·.1)).flatten := by
  unfold catN
  rw [List.flatMap_def]
theorem sq_le {c c' : Nat} (h : c ≤ c') : 2 * (c * c) ≤ 2 * (c' * c') := Nat.mul_le_mul_left 2 (Nat.mul_le_mul h h)
theorem cat_deep : ∀ {fs : List Fo}, fs ≠ [] → (∀ f ∈ fs, 2 ^ f.deep ≤ 2 * (f.runs.length * f.runs.length)) → 2 ^ (Fo.cat fs).deep ≤ 2 * ((Fo.cat fs).runs.length * (Fo.cat fs).runs.length)
  | [], h, _ => absurd rfl h
  | f :: l, _, h => by
    have hf := h f (by simp)
    simp only [Fo.cat, Fo.app_deep, Fo.app_runs, List.length_append]
    cases l with
    | nil => simpa [Fo.cat, Fo.deep, Fo.runs] using hf
    | cons g l =>
      have hl := cat_deep (fs := g :: l) (by simp) (fun x hx => h x (by simp [hx]))
      rcases Nat.le_total f.deep (Fo.cat (g :: l)).deep with q | q
      · rw [Nat.max_eq_right q]
        exact Nat.le_trans hl (sq_le (by omega))
      · rw [Nat.max_eq_left q]
        exact Nat.le_trans hf (sq_le (by omega))
theorem join_ok {ls : List Item} {fs : List Fo} (h : ls.map (·.1) = fs.map Fo.flat) (hw : ∀ f ∈ fs, f.len = 1 ∧ f.wf) (h0 : 0 < ls.length) (h1 : ls.length ≤ 128) :
    ∃ J : Fo, joinedN ls = J.flat ∧ J.len = 1 ∧ J.wf ∧ J.runs = (Fo.cat fs).runs ∧ J.deep ≤ (Fo.cat fs).deep + 1 := by
  have hlen : ls.length = fs.length := by have := congrArg List.length h; simpa using this
  have hcat : catN ls = (Fo.cat fs).flat := by rw [catN_map, h, Fo.cat_flat]
  have hcw := Fo.cat_wf (a := fs) fun f hf => (hw f hf).2
  have hcl := Fo.cat_len (a := fs) fun f hf => (hw f hf).1
  unfold joinedN
  by_cases q : ls.length = 1
  · rw [if_pos q]
    exact ⟨Fo.cat fs, hcat, by omega, hcw, rfl, by omega⟩
  · rw [if_neg q]
    refine ⟨.cons (3, 0, (ls.length : Int)) (Fo.cat fs) .nil, ?_, rfl, ⟨?_, ?_, hcw, trivial⟩, ?_, ?_⟩
    · simp [Fo.flat, hcat]
    · unfold fineB
      simp
      omega
    · unfold addW
      simp
      omega
    · simp [Fo.runs, Fo.ownR]
    · simp only [Fo.deep]; omega
theorem joinedN_len {ls : List Item} : (joinedN ls).length = sizeN ls + (if ls.length = 1 then 0 else 1) := by
  unfold joinedN
  have : (catN ls).length = sizeN ls := by unfold catN sizeN; rw [List.length_flatMap]
  split <;> simp [this]
theorem cut_length {α : Type} {l : List α} {a b : Nat} (h : b ≤ l.length) : (cut l a b).length = b - a := by simp [cut]; omega
theorem sizes_sum {ls : List Item} : ((sameSizes ls).sum : Int) = sizeN ls := by
  unfold sameSizes sizeN
  induction ls with
  | nil => rfl
  | cons x l ih => simp only [List.map_cons, List.sum_cons, ih]; omega
theorem sum_rep {s : List Nat} : ∀ {n : Nat}, ((List.replicate n s).flatten).sum = n * s.sum
  | 0 => by simp
  | n + 1 => by rw [List.replicate_succ, List.flatten_cons, List.sum_append, sum_rep, Nat.succ_mul]; omega
theorem fold_ok {row : List Run} {ls : List Item} {fs : List Fo} {a p n : Nat} (hg : goodI row ls fs) (hn : 1 < n) (hp : 1 ≤ p) (han : a + n * p ≤ ls.length) (hl : ls.length ≤ 128)
    (hi : ∀ i, i < n → cut (sameIds ls) a (a + p) = cut (sameIds ls) (a + i * p) (a + (i + 1) * p)) :
    (∃ fs', goodI row (foldAt ls a p n) fs') ∧ (sizeN (foldAt ls a p n) : Int) = sizeN ls - savesAt n p (cut (sameSizes ls) a (a + p)).sum := by
  obtain ⟨g1, g2, g3, g4⟩ := hg
  have m1 : n * p = p * n := Nat.mul_comm n p
  have m2 : 2 * p ≤ n * p := Nat.mul_le_mul_right p hn
  have hlen : ls.length = fs.length := by have := congrArg List.length g1; simpa using this
  have hcl : (cut ls a (a + p)).length = p := by rw [cut_length (by omega)]; omega
  have hb : ∀ i, i < n → cut (ls.map (·.1)) (a + i * p) (a + (i + 1) * p) = cut (ls.map (·.1)) a (a + p) := fun i h => (ids_cut (hi i h)).symm
  have hbf : ∀ i, i < n → cut fs (a + i * p) (a + (i + 1) * p) = cut fs a (a + p) := by
    intro i h
    have := hb i h
    rw [g1, cut_map, cut_map] at this
    exact flats_inj (fun f hf => g2 f (cut_mem hf)) (fun f hf => g2 f (cut_mem hf)) this
  have e1 := cut_blocks hbf
  have e2 := cut_blocks hb
  have hcm : (cut ls a (a + p)).map (·.1) = (cut fs a (a + p)).map Fo.flat := by rw [← cut_map, g1, cut_map]
  refine ⟨?_, ?_⟩
  · obtain ⟨J, j1, j2, j3, j4, j5⟩ := join_ok hcm (fun f hf => g2 f (cut_mem hf)) (by omega) (by omega)
    refine ⟨fs.take a ++ [.cons (4, 0, (n : Int)) J .nil] ++ fs.drop (a + p * n), ?_, ?_, ?_, ?_⟩
    · simp only [foldAt, List.map_append, List.map_take, List.map_drop, g1, List.map_cons, List.map_nil]
      simp [Fo.flat, j1]
    · intro f hf
      simp only [List.mem_append, List.mem_cons, List.not_mem_nil, or_false] at hf
      rcases hf with (hf | hf) | hf
      · exact g2 f (List.mem_of_mem_take hf)
      · subst hf
        refine ⟨rfl, ?_, ?_, j3, trivial⟩
        · unfold fineB
          simp
          omega
        · unfold addW
          simp
          omega
      · exact g2 f (List.mem_of_mem_drop hf)
    · intro f hf
      simp only [List.mem_append, List.mem_cons, List.not_mem_nil, or_false] at hf
      rcases hf with (hf | hf) | hf
      · exact g3 f (List.mem_of_mem_take hf)
      · subst hf
        have hne : cut fs a (a + p) ≠ [] := by
          intro e
          have := congrArg List.length hcm
          rw [e] at this
          simp at this
          rw [this] at hcl
          simp at hcl
          omega
        have hd := cat_deep hne (fun f hf => g3 f (cut_mem hf))
        rw [← j4] at hd
        have er : (Fo.cons (4, 0, (n : Int)) J .nil).runs.length = n * J.runs.length := by simp [Fo.runs, Fo.ownR]
        rw [er]
        have h1 : (Fo.cons (4, 0, (n : Int)) J .nil).deep ≤ (Fo.cat (cut fs a (a + p))).deep + 2 := by simp only [Fo.deep]; omega
        have h2 : 2 ^ (Fo.cons (4, 0, (n : Int)) J .nil).deep ≤ 2 ^ ((Fo.cat (cut fs a (a + p))).deep + 2) := Nat.pow_le_pow_right (by omega) h1
        have h3 : 2 ^ ((Fo.cat (cut fs a (a + p))).deep + 2) = 4 * 2 ^ (Fo.cat (cut fs a (a + p))).deep := by rw [Nat.pow_add]; omega
        have h4 : 2 * J.runs.length ≤ n * J.runs.length := Nat.mul_le_mul_right _ hn
        have h5 := sq_le h4
        have h6 : 2 * J.runs.length * (2 * J.runs.length) = 4 * (J.runs.length * J.runs.length) := by rw [Nat.mul_mul_mul_comm]
        omega
      · exact g3 f (List.mem_of_mem_drop hf)
    · rw [Fo.cat_append, Fo.cat_append]
      have er : (Fo.cat [Fo.cons (4, 0, (n : Int)) J .nil]).runs = (List.replicate n J.runs).flatten := by simp [Fo.cat, Fo.app, Fo.runs, Fo.ownR]
      rw [er, j4, ← Fo.cat_rep, ← e1, ← Fo.cat_append, ← Fo.cat_append, m1, ← cut_three (by omega), g4]
  · have e3 := cut_three (l := ls) (a := a) (b := a + n * p) (by omega)
    have e4 : sizeN ls = sizeN (ls.take a) + sizeN (cut ls a (a + n * p)) + sizeN (ls.drop (a + n * p)) := by
      conv => lhs; rw [e3]
      rw [sizeN_append, sizeN_append]
    have e5 : sizeN (cut ls a (a + n * p)) = n * sizeN (cut ls a (a + p)) := by
      rw [sizeN_map, ← cut_map, e2, cut_map, sizeN_map]
      simp only [List.map_flatten, List.map_replicate, List.map_map]
      exact sum_rep
    have e6 : (cut (sameSizes ls) a (a + p)).sum = (sizeN (cut ls a (a + p)) : Int) := by
      rw [← sizes_sum]
      congr 1
      exact cut_map
    have e7 : sizeN [((4, 0, (n : Int)) :: joinedN (cut ls a (a + p)), Tag.ro)] = (joinedN (cut ls a (a + p))).length + 1 := by simp [sizeN]
    unfold foldAt
    rw [sizeN_append, sizeN_append, e7, joinedN_len, hcl, e6, ← m1]
    unfold savesAt
    have q1 : (sizeN (cut ls a (a + p)) : Int) * ((n : Int) - 1) = ((n * sizeN (cut ls a (a + p)) : Nat) : Int) - sizeN (cut ls a (a + p)) := by
      rw [Int.mul_sub, Int.natCast_mul, Int.mul_comm]
      omega
    rw [q1]
    by_cases hp1 : p = 1
    · rw [if_pos hp1, if_neg (by omega)]
      omega
    · rw [if_neg hp1, if_pos (by omega)]
      omega
theorem tableL_ok {row : List Run} : ∀ {k : Nat} {ls : List Item} {fs : List Fo}, goodI row ls fs → 0 < ls.length → ls.length ≤ k → ls.length ≤ 128 →
    ∃ J : Fo, tableL k ls = J.flat ∧ J.len = 1 ∧ J.wf ∧ J.runs = row ∧ (∃ d, J.deep ≤ d + 1 ∧ 2 ^ d ≤ 2 * (row.length * row.length)) ∧ (tableL k ls).length ≤ sizeN ls + (if ls.length = 1 then 0 else 1)
  | 0, ls, fs, _, h0, hk, _ => by omega
  | k + 1, ls, fs, hg, h0, hk, hl => by
    have hend : ∃ J : Fo, joinedN ls = J.flat ∧ J.len = 1 ∧ J.wf ∧ J.runs = row ∧ (∃ d, J.deep ≤ d + 1 ∧ 2 ^ d ≤ 2 * (row.length * row.length)) ∧ (joinedN ls).length ≤ sizeN ls + (if ls.length = 1 then 0 else 1) := by
      obtain ⟨g1, g2, g3, g4⟩ := hg
      obtain ⟨J, j1, j2, j3, j4, j5⟩ := join_ok g1 g2 h0 hl
      have hlen : ls.length = fs.length := by have := congrArg List.length g1; simpa using this
      have hne : fs ≠ [] := by intro e; rw [e] at hlen; simp at hlen; rw [hlen] at h0; simp at h0
      refine ⟨J, j1, j2, j3, by rw [j4, g4], ⟨_, j5, ?_⟩, by rw [joinedN_len]; exact Nat.le_refl _⟩
      rw [← g4]
      exact cat_deep hne g3
    have hi := sameIds_len (ls := ls)
    have hz := sameSizes_len (ls := ls)
    rcases best_ok (ids := sameIds ls) (sizes := sameSizes ls) (by omega) with hb | ⟨a, p, n, hb, hn, hp, han, hs, hi2⟩
    · simp only [tableL, hb]
      rw [if_pos trivial]
      exact hend
    · have m2 : 2 * p ≤ n * p := Nat.mul_le_mul_right p hn
      obtain ⟨⟨fs', hg'⟩, hsz⟩ := fold_ok (a := a) (p := p) (n := n) hg hn hp (by omega) hl hi2
      have h7 := foldAt_size (ls := ls) (a := a) (p := p) (n := n) hp hn (by omega)
      have h8 : 0 < (foldAt ls a p n).length := by simp [foldAt]; omega
      simp only [tableL, hb]
      rw [if_neg (by omega)]
      obtain ⟨J, j1, j2, j3, j4, j5, j6⟩ := tableL_ok (k := k) hg' h8 (by omega) (by omega)
      refine ⟨J, j1, j2, j3, j4, j5, ?_⟩
      have h9 : ls.length ≠ 1 := by omega
      rw [if_neg h9]
      have h10 : (if (foldAt ls a p n).length = 1 then 0 else 1) ≤ 1 := by split <;> omega
      have h11 := Nat.le_trans j6 (Nat.add_le_add_left h10 _)
      refine Nat.le_trans h11 ?_
      omega
theorem leaf_wf {r : Run} (h : runOK r = true) : (Fo.one (leaf r) .nil).wf ∧ Fo.ownR (leaf r) [] = [r] := by
  simp only [runOK, partOK, Bool.and_eq_true, decide_eq_true_eq] at h
  unfold leaf
  split
  · rename_i q
    refine ⟨⟨?_, rfl, trivial, trivial⟩, ?_⟩
    · unfold fineB; simp; omega
    · unfold Fo.ownR; simp; rw [← q]
  · refine ⟨⟨?_, rfl, trivial, trivial⟩, ?_⟩
    · unfold fineB; simp; omega
    · unfold Fo.ownR; simp
def leafFo (l : List Run) : List Fo := l.map fun r => Fo.one (leaf r) .nil
theorem leaf_good : ∀ {l : List Run}, l.all runOK = true → goodI l (leafItems l) (leafFo l)
  | [], _ => ⟨rfl, fun _ h => by simp [leafFo] at h, fun _ h => by simp [leafFo] at h, rfl⟩
  | r :: l, h => by
    simp only [List.all_cons, Bool.and_eq_true] at h
    obtain ⟨g1, g2, g3, g4⟩ := leaf_good h.2
    obtain ⟨w1, w2⟩ := leaf_wf h.1
    refine ⟨?_, ?_, ?_, ?_⟩
    · simp only [leafItems, leafFo, leavesF, List.map_cons] at g1 ⊢
      rw [g1]
      rfl
    · intro f hf
      simp only [leafFo, List.map_cons, List.mem_cons] at hf
      rcases hf with hf | hf
      · subst hf; exact ⟨rfl, w1⟩
      · exact g2 f hf
    · intro f hf
      simp only [leafFo, List.map_cons, List.mem_cons] at hf
      rcases hf with hf | hf
      · subst hf
        simp [Fo.runs, w2, Fo.deep]
      · exact g3 f hf
    · simp only [leafFo, List.map_cons, Fo.cat, Fo.app_runs] at g4 ⊢
      rw [g4]
      simp only [Fo.runs, w2]
      rfl
/-- What a table of a row is. -/
def tableOf (row : List Run) (l : List Nd) : Prop := ∃ x k, l = (Fo.one x k).flat ∧ (Fo.one x k).wf ∧ Fo.ownR x k.runs = row ∧ k.deep < 16 ∧ k.size < 128 ∧ Fo.over x k.long ≤ 4096
theorem tableOf_intro {row : List Run} {J : Fo} (hr : right row = true) (h1 : J.len = 1) (h2 : J.wf) (h3 : J.runs = row) (h4 : ∃ d, J.deep ≤ d + 1 ∧ 2 ^ d ≤ 2 * (row.length * row.length)) (h5 : J.flat.length ≤ row.length + 1) : tableOf row J.flat := by
  have hl := right_len hr
  obtain ⟨x, k, rfl⟩ := one_of_len h1
  obtain ⟨d, d1, d2⟩ := h4
  have e : Fo.ownR x k.runs = row := by simpa [Fo.runs] using h3
  have hrr : right row = true := hr
  unfold right at hrr
  simp only [Bool.and_eq_true, decide_eq_true_eq] at hrr
  rw [one_len] at h5
  refine ⟨x, k, rfl, h2, e, ?_, by omega, ?_⟩
  · have b1 : row.length * row.length ≤ 96 * 96 := Nat.mul_le_mul hl.2 hl.2
    have b2 : d < 15 := by
      rcases Nat.lt_or_ge d 15 with q | q
      · exact q
      · have : 2 ^ 15 ≤ 2 ^ d := Nat.pow_le_pow_right (by omega) q
        have e15 : (2 : Nat) ^ 15 = 32768 := by decide
        omega
    simp only [Fo.deep] at d1
    omega
  · rw [long_one h2, e]; exact hrr.2.2.2
theorem leafItems_ne {l : List Run} : (leafItems l).length = l.length ∧ sizeN (leafItems l) = l.length := ⟨leafItems_len, leafItems_size⟩
theorem table_ok {row : List Run} (hr : right row = true) : tableOf row (tableF row) ∧ (tableF row).length ≤ (plainF row).length := by
  have hl := right_len hr
  have hrr : right row = true := hr
  unfold right at hrr
  simp only [Bool.and_eq_true] at hrr
  obtain ⟨q1, q2⟩ := leafItems_ne (l := row)
  obtain ⟨J, j1, j2, j3, j4, j5, j6⟩ := tableL_ok (k := row.length) (leaf_good hrr.1) (by omega) (by omega) (by omega)
  have e : tableF row = J.flat := by unfold tableF; rw [if_pos hr, j1]
  have e2 : (plainF row).length = row.length + (if row.length = 1 then 0 else 1) := by unfold plainF; rw [if_pos hr, joinedN_len, q1, q2]
  rw [j1, q1, q2] at j6
  rw [e, e2]
  refine ⟨tableOf_intro hr j2 j3 j4 j5 ?_, j6⟩
  refine Nat.le_trans j6 ?_
  split <;> omega
theorem plain_ok {row : List Run} (hr : right row = true) : tableOf row (plainF row) ∧ (plainF row).length ≤ row.length + 1 := by
  have hl := right_len hr
  have hrr : right row = true := hr
  unfold right at hrr
  simp only [Bool.and_eq_true] at hrr
  obtain ⟨q1, q2⟩ := leafItems_ne (l := row)
  obtain ⟨g1, g2, g3, g4⟩ := leaf_good hrr.1
  obtain ⟨J, j1, j2, j3, j4, j5⟩ := join_ok g1 g2 (by omega) (by omega)
  have e : plainF row = J.flat := by unfold plainF; rw [if_pos hr, j1]
  have e2 : (plainF row).length = row.length + (if row.length = 1 then 0 else 1) := by unfold plainF; rw [if_pos hr, joinedN_len, q1, q2]
  have h5 : (plainF row).length ≤ row.length + 1 := by rw [e2]; split <;> omega
  refine ⟨?_, h5⟩
  rw [e] at h5 ⊢
  have hne : leafFo row ≠ [] := by intro he; simp [leafFo] at he; rw [he] at hl; simp at hl
  refine tableOf_intro hr j2 j3 (by rw [j4, g4]) ⟨_, j5, ?_⟩ h5
  have := cat_deep hne g3
  rwa [g4] at this
end VL
