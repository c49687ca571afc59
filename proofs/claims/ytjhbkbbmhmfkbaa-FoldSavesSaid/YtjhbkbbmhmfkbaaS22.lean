/- Forests side by side; folding keeps the runs: plain. -/
import Derived.Test.YtjhbkbbmhmfkbaaS21
namespace VL
open Go
namespace Fo
def app : Fo → Fo → Fo
  | nil, g => g
  | cons x k r, g => cons x k (app r g)
def cat : List Fo → Fo
  | [] => nil
  | f :: l => app f (cat l)
theorem app_flat : ∀ {f g : Fo}, (app f g).flat = f.flat ++ g.flat
  | nil, _ => rfl
  | cons x k r, g => by simp [app, flat, app_flat (f := r)]
theorem app_len : ∀ {f g : Fo}, (app f g).len = f.len + g.len
  | nil, _ => by simp [app, len]
  | cons x k r, g => by simp only [app, len, app_len (f := r)]; omega
theorem app_wf : ∀ {f g : Fo}, f.wf → g.wf → (app f g).wf
  | nil, _, _, h => h
  | cons _ _ _, _, hf, hg => ⟨hf.1, hf.2.1, hf.2.2.1, app_wf hf.2.2.2 hg⟩
theorem app_runs : ∀ {f g : Fo}, (app f g).runs = f.runs ++ g.runs
  | nil, _ => rfl
  | cons x k r, g => by simp [app, runs, app_runs (f := r)]
theorem app_deep : ∀ {f g : Fo}, (app f g).deep = max f.deep g.deep
  | nil, _ => by simp [app, deep]
  | cons x k r, g => by simp only [app, deep, app_deep (f := r)]; omega
theorem cat_append : ∀ {a b : List Fo}, (cat (a ++ b)).runs = (cat a).runs ++ (cat b).runs
  | [], _ => rfl
  | f :: a, b => by simp only [List.cons_append, cat, app_runs, cat_append (a := a), List.append_assoc]
theorem cat_flat : ∀ {a : List Fo}, (cat a).flat = (a.map flat).flatten
  | [] => rfl
  | f :: a => by simp only [cat, app_flat, cat_flat (a := a), List.map_cons, List.flatten_cons]
theorem cat_wf : ∀ {a : List Fo}, (∀ f ∈ a, f.wf) → (cat a).wf
  | [], _ => trivial
  | f :: a, h => app_wf (h f (by simp)) (cat_wf fun g hg => h g (by simp [hg]))
theorem cat_len : ∀ {a : List Fo}, (∀ f ∈ a, f.len = 1) → (cat a).len = a.length
  | [], _ => rfl
  | f :: a, h => by rw [cat, app_len, h f (by simp), cat_len fun g hg => h g (by simp [hg])]; simp; omega
theorem cat_rep {B : List Fo} : ∀ {n : Nat}, (cat (List.replicate n B).flatten).runs = (List.replicate n (cat B).runs).flatten
  | 0 => rfl
  | n + 1 => by rw [List.replicate_succ, List.replicate_succ, List.flatten_cons, List.flatten_cons, cat_append, cat_rep]
/-- Nodes tell their forest. -/
theorem flat_inj : ∀ {f g : Fo} {a b : List Nd}, f.wf → g.wf → f.len = g.len → f.flat ++ a = g.flat ++ b → f = g ∧ a = b := by
  intro f
  induction f with
  | nil =>
    intro g a b _ _ hl he
    cases g with
    | nil => exact ⟨rfl, he⟩
    | cons _ _ _ => simp [len] at hl
  | cons x k r ihk ihr =>
    intro g a b hf hg hl he
    cases g with
    | nil => simp [len] at hl
    | cons y k2 r2 =>
      simp only [flat, List.cons_append, List.append_assoc] at he
      obtain ⟨e1, e2⟩ := List.cons.inj he
      subst e1
      have h1 := hf.2.1
      have h2 := hg.2.1
      obtain ⟨e3, e4⟩ := ihk hf.2.2.1 hg.2.2.1 (by omega) e2
      subst e3
      simp only [len] at hl
      obtain ⟨e5, e6⟩ := ihr hf.2.2.2 hg.2.2.2 (by omega) e4
      subst e5
      exact ⟨rfl, e6⟩
theorem total_append {a b : List Run} : total (a ++ b) = total a + total b := by simp [total]
theorem total_rep {s : List Run} : ∀ {n : Nat}, total (List.replicate n s).flatten = total s * n
  | 0 => by simp [total]
  | n + 1 => by
    rw [List.replicate_succ, List.flatten_cons, total_append, total_rep, Int.natCast_add, Int.mul_add]
    simp
    omega
theorem long_total : ∀ {f : Fo}, f.wf → f.long = total f.runs
  | nil, _ => rfl
  | cons x k r, hw => by
    have h1 := long_total hw.2.2.1
    have h2 := long_total hw.2.2.2
    have h3 := fineB_kind hw.1
    simp only [long, runs, total_append, h1, h2, over, ownR]
    congr 1
    repeat' split
    all_goals first | omega | rfl | (rw [total_rep, Int.toNat_of_nonneg (by omega)]) | (simp [total]; done)
end Fo
theorem long_one {x : Nd} {k : Fo} (hw : (Fo.one x k).wf) : Fo.over x k.long = total (Fo.ownR x k.runs) := by
  have := Fo.long_total hw
  simpa [Fo.long, Fo.runs] using this
theorem idxOf_ge {x : List Nd} : ∀ {ls : List Item} {i : Nat}, x ∈ ls.map (·.1) → (i : Int) ≤ idxOf x ls i
  | [], _, h => by simp at h
  | y :: ls, i, h => by
    simp only [idxOf]
    split
    · omega
    · rename_i hne
      have hm : x ∈ ls.map (·.1) := by
        simp only [List.map_cons, List.mem_cons] at h
        exact h.resolve_left hne
      have := idxOf_ge (ls := ls) (i := i + 1) hm
      omega
theorem idxOf_far {x : List Nd} : ∀ {ls : List Item} {i j : Nat}, j < i → idxOf x ls i ≠ (j : Int)
  | [], _, _, _ => by simp only [idxOf]; omega
  | y :: ls, i, j, h => by
    simp only [idxOf]
    split
    · omega
    · exact idxOf_far (by omega)
theorem idxOf_inj {x y : List Nd} : ∀ {ls : List Item} {i : Nat}, x ∈ ls.map (·.1) → idxOf x ls i = idxOf y ls i → x = y
  | [], _, h, _ => by simp at h
  | z :: ls, i, h, he => by
    simp only [idxOf] at he
    split at he
    · rename_i h1
      split at he
      · rename_i h2; rw [h1, h2]
      · exact absurd he.symm (idxOf_far (by omega))
    · rename_i h1
      have hm : x ∈ ls.map (·.1) := by
        simp only [List.map_cons, List.mem_cons] at h
        exact h.resolve_left h1
      split at he
      · exact absurd he (idxOf_far (by omega))
      · exact idxOf_inj hm he
theorem map_inj_on {α β γ : Type} {f : α → β} {g : α → γ} : ∀ {a b : List α}, (∀ x ∈ a, ∀ y ∈ b, f x = f y → g x = g y) → a.map f = b.map f → a.map g = b.map g
  | [], [], _, _ => rfl
  | [], _ :: _, _, h => by simp at h
  | _ :: _, [], _, h => by simp at h
  | x :: a, y :: b, hi, h => by
    simp only [List.map_cons, List.cons.injEq] at h ⊢
    exact ⟨hi x (by simp) y (by simp) h.1, map_inj_on (fun u hu v hv => hi u (by simp [hu]) v (by simp [hv])) h.2⟩
theorem cut_mem {α : Type} {l : List α} {a b : Nat} {x : α} (h : x ∈ cut l a b) : x ∈ l := List.mem_of_mem_take (List.mem_of_mem_drop h)
theorem cut_map {α β : Type} {f : α → β} {l : List α} {a b : Nat} : cut (l.map f) a b = (cut l a b).map f := by simp [cut, List.map_take, List.map_drop]
theorem ids_cut {ls : List Item} {a b c d : Nat} (h : cut (sameIds ls) a b = cut (sameIds ls) c d) : cut (ls.map (·.1)) a b = cut (ls.map (·.1)) c d := by
  unfold sameIds at h
  rw [cut_map, cut_map] at h ⊢
  exact map_inj_on (fun x hx y _ e => idxOf_inj (List.mem_map.2 ⟨x, cut_mem hx, rfl⟩) e) h
theorem flats_inj : ∀ {a b : List Fo}, (∀ f ∈ a, f.len = 1 ∧ f.wf) → (∀ f ∈ b, f.len = 1 ∧ f.wf) → a.map Fo.flat = b.map Fo.flat → a = b
  | [], [], _, _, _ => rfl
  | [], _ :: _, _, _, h => by simp at h
  | _ :: _, [], _, _, h => by simp at h
  | x :: a, y :: b, ha, hb, h => by
    simp only [List.map_cons, List.cons.injEq] at h
    have h1 := ha x (by simp)
    have h2 := hb y (by simp)
    have e := (Fo.flat_inj (a := []) (b := []) h1.2 h2.2 (by omega) (by simpa using h.1)).1
    rw [e, flats_inj (fun f hf => ha f (by simp [hf])) (fun f hf => hb f (by simp [hf])) h.2]
theorem cut_split {α : Type} {l : List α} {a b c : Nat} (h1 : a ≤ b) (h2 : b ≤ c) : cut l a c = cut l a b ++ cut l b c := by
  unfold cut
  rw [List.drop_take, List.drop_take, List.drop_take]
  have : l.drop b = (l.drop a).drop (b - a) := by rw [List.drop_drop]; congr 1; omega
  rw [this, show c - a = (b - a) + (c - b) by omega, List.take_add]
theorem cut_blocks {α : Type} {l B : List α} {a p : Nat} : ∀ {n : Nat}, (∀ i, i < n → cut l (a + i * p) (a + (i + 1) * p) = B) → cut l a (a + n * p) = (List.replicate n B).flatten
  | 0, _ => by simp [cut]
  | n + 1, h => by
    have e := cut_split (l := l) (a := a) (b := a + n * p) (c := a + (n + 1) * p) (by omega) (by rw [Nat.succ_mul]; omega)
    rw [e, cut_blocks (fun i hi => h i (by omega)), h n (by omega), List.replicate_succ', List.flatten_append]
    simp
theorem cut_three {α : Type} {l : List α} {a b : Nat} (h : a ≤ b) : l = l.take a ++ cut l a b ++ l.drop b := by
  conv => lhs; rw [← List.take_append_drop b l]
  congr 1
  unfold cut
  conv => lhs; rw [← List.take_append_drop a (l.take b)]
  rw [List.take_take, Nat.min_eq_left h]
end VL
