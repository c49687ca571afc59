/- The V layer, part 5: composite literals, appends, slicing. -/
import Derived.Test.YtjhbkbbmhmfkbaaV4
namespace VL
open Go
variable {P : Program} {β : Base} {N : Nat} {e : Env} {L : Loc} {h : Heap} {a : Act} {w : World} {G : Ghost} {lam : Nat → Option Nat} {hh : Heap}

def Cells (G : Ghost) (xs : List IV) (vs : List Value) : Prop := vs.length = xs.length ∧ ∀ (j : Nat) (x : IV), xs[j]? = some x → x.cell = true ∧ ∃ v, vs[j]? = some v ∧ R0 G x v

theorem run_mapM {α β : Type} {f : α → Sem β} {g : α → β} : ∀ (l : List α), (∀ x, x ∈ l → (f x).run P w = .ok (g x) w) → (l.mapM f).run P w = .ok (l.map g) w
  | [], _ => by simp
  | x :: l, h => by
    have h1 := h x (by simp)
    have h2 := run_mapM l (fun y hy => h y (by simp [hy]))
    simp only [List.mapM_cons, Sem.run_bind, h1, h2, Result.andThen_ok, Sem.run_pure, List.map_cons]

theorem foldl_set (vs : List Value) : ∀ (off k : Nat) (cs : Array Value), ((vs.zipIdx k).foldl (fun cs (p : Value × Nat) => cs.setIfInBounds (off + p.2) p.1) cs).size = cs.size ∧
    ∀ j, ((vs.zipIdx k).foldl (fun cs (p : Value × Nat) => cs.setIfInBounds (off + p.2) p.1) cs)[j]? = if off + k ≤ j ∧ j < off + k + vs.length ∧ j < cs.size then vs[j - (off + k)]? else cs[j]? := by
  induction vs with
  | nil => intro off k cs; simp; omega
  | cons v vs ih =>
    intro off k cs
    obtain ⟨h1, h2⟩ := ih off (k + 1) (cs.setIfInBounds (off + k) v)
    simp only [List.zipIdx_cons, List.foldl_cons]
    refine ⟨by rw [h1]; simp, fun j => ?_⟩
    rw [h2, Array.getElem?_setIfInBounds]
    simp only [Array.size_setIfInBounds, List.length_cons]
    by_cases ha : off + (k + 1) ≤ j ∧ j < off + (k + 1) + vs.length ∧ j < cs.size
    · rw [if_pos ha, if_pos (by omega)]
      rw [show j - (off + k) = (j - (off + (k + 1))) + 1 by omega, List.getElem?_cons_succ]
    · rw [if_neg ha]
      by_cases hb : off + k = j
      · subst hb
        by_cases hc : off + k < cs.size
        · rw [if_pos rfl, if_pos hc, if_pos (by omega)]; simp
        · rw [if_pos rfl, if_neg hc, if_neg (by omega)]; simp; omega
      · rw [if_neg hb, if_neg (by omega)]

theorem fill_one {off : Nat} {cs vs : Array Value} (_hle : off + vs.size ≤ cs.size) :
    (vs.zipIdx.foldl (fun cs (p : Value × Nat) => cs.setIfInBounds (off + p.2) p.1) cs).toList = cs.toList.take off ++ vs.toList ++ cs.toList.drop (off + vs.size) := by
  have hz : vs.zipIdx.foldl (fun cs (p : Value × Nat) => cs.setIfInBounds (off + p.2) p.1) cs = (vs.toList.zipIdx 0).foldl (fun cs (p : Value × Nat) => cs.setIfInBounds (off + p.2) p.1) cs := by
    rw [← Array.foldl_toList]; simp
  rw [hz]
  obtain ⟨h1, h2⟩ := foldl_set vs.toList off 0 cs
  apply List.ext_getElem?
  intro j
  rw [Array.getElem?_toList, h2]
  simp only [Nat.add_zero, Array.length_toList]
  rw [List.getElem?_append, List.getElem?_append]
  simp only [List.length_append, List.length_take, Array.length_toList]
  by_cases ha : off ≤ j ∧ j < off + vs.size ∧ j < cs.size
  · rw [if_pos ha, if_pos (by omega), if_neg (by omega)]
    rw [show min off cs.size = off by omega]
  · rw [if_neg ha]
    by_cases hb : j < off
    · rw [if_pos (by omega), if_pos (by omega), List.getElem?_take, if_pos hb, Array.getElem?_toList]
    · rw [if_neg (by omega), List.getElem?_drop, Array.getElem?_toList]
      congr 1
      omega

theorem cells_fill {xs ys : List IV} {vs us : List Value} (hx : Cells G xs vs) (hy : Cells G ys us) {off : Nat} (_hle : off + ys.length ≤ xs.length) :
    Cells G (xs.take off ++ ys ++ xs.drop (off + ys.length)) (vs.take off ++ us ++ vs.drop (off + us.length)) := by
  refine ⟨by simp [hx.1, hy.1], fun j x hj => ?_⟩
  have e1 : (vs.take off).length = (xs.take off).length := by simp [hx.1]
  rw [List.getElem?_append] at hj ⊢
  rw [List.length_append, e1, hy.1, ← List.length_append]
  split at hj
  · rename_i h1
    rw [if_pos h1]
    rw [List.getElem?_append] at hj ⊢
    rw [e1]
    split at hj
    · rename_i h2
      rw [if_pos h2]
      rw [List.getElem?_take] at hj ⊢
      split at hj
      · rename_i h3; rw [if_pos h3]; exact hx.2 _ _ hj
      · cases hj
    · rename_i h2
      rw [if_neg h2]
      exact hy.2 _ _ hj
  · rename_i h1
    rw [if_neg h1]
    rw [List.getElem?_drop] at hj ⊢
    exact hx.2 _ _ hj

def chkParts (P : Program) (fs : Array Field) : List (Nat × Operand) → List (Nat × Nat × Opd) → Bool
  | [], [] => true
  | (i, y) :: ps, (off, n, x) :: qs => (match fs[i]? with | some f => f.offset == off && sizeOf? P f.type == some n | none => false) && chkX y x && chkParts P fs ps qs
  | _, _ => false
theorem boxable_cells {x : IV} {v : Value} (h : R0 G x v) (hc : (cellsOf x).all IV.cell = true) : Cells G (cellsOf x) v.cells.toList := by
  refine cells_r0 h (fun xs hx => ?_)
  rw [hx] at hc
  simp [cellsOf, IV.cell] at hc
theorem cellsOf_notLp {x : IV} (hc : (cellsOf x).all IV.cell = true) : ∀ t o, x ≠ .lp t o := by
  intro t o hx
  rw [hx] at hc
  simp [cellsOf, IV.cell] at hc

theorem fill_sound (R : RelG β N e L h a w G lam hh) {fs : Array Field} {place : Nat → Option (Nat × Nat)} (hp : ∀ i f n, fs[i]? = some f → sizeOf? P f.type = some n → place i = some (f.offset, n)) :
    ∀ {ps : List (Nat × Operand)} {qs : List (Nat × Nat × Opd)} {z xs : List IV} {cs : Array Value}, chkParts P fs ps qs = true → fillV e z qs = some xs → Cells G z cs.toList →
      ∃ cs', Instr.fill place cs (ps.map fun p => (p.1, a.eval p.2)) = some cs' ∧ Cells G xs cs'.toList
  | [], [], z, xs, cs, _, hf, hc => by simp only [fillV] at hf; cases hf; exact ⟨cs, rfl, hc⟩
  | (i, y) :: ps, (off, n, x) :: qs, z, xs, cs, hk, hf, hc => by
    simp only [chkParts, Bool.and_eq_true] at hk
    obtain ⟨⟨h1, h2⟩, h3⟩ := hk
    split at h1
    · rename_i f hfi
      simp only [Bool.and_eq_true, beq_iff_eq] at h1
      obtain ⟨rfl, h1⟩ := h1
      simp only [fillV] at hf
      split at hf
      · rename_i v hx
        split at hf
        · rename_i hcond
          obtain ⟨c1, c2, c3⟩ := hcond
          have hr := (chkX_sound R h2 hx).r0 (cellsOf_notLp c3)
          have hcv := boxable_cells hr c3
          have hsz : (a.eval y).cells.size = n := by have := hcv.1; simp at this; rw [this, c1]
          have hlen : f.offset + (a.eval y).cells.size ≤ cs.size := by have := hc.1; simp at this; omega
          have hnew := cells_fill hc hcv (off := f.offset) (by omega)
          have e1 : (a.eval y).cells.toList.length = (a.eval y).cells.size := by simp
          rw [e1, ← fill_one hlen] at hnew
          rw [c1] at hnew
          obtain ⟨cs', hf', hc'⟩ := fill_sound R hp h3 hf hnew
          refine ⟨cs', ?_, hc'⟩
          simp only [List.map_cons, Instr.fill, hp i f n hfi h1]
          rw [if_neg (by simp only [Bool.or_eq_true, decide_eq_true_eq, ne_eq]; omega)]
          exact hf'
        · cases hf
      · cases hf
    · cases h1
  | [], _ :: _, _, _, _, hk, _, _ => by simp [chkParts] at hk
  | _ :: _, [], _, _, _, hk, _, _ => by simp [chkParts] at hk

def chkBuild (P : Program) (n : Nat) (o : Oper) (d : Nat) (z : List IV) (parts : List (Nat × Nat × Opd)) : Bool :=
  match o.op with
  | .build t ps => (match P.underlying t with
    | some (.struct fs) => chkD n o d && (match zeroOf? P t with | some vs => chkCs vs z | none => false) && fs.toList.all (fun f => (sizeOf? P f.type).isSome) && chkParts P fs ps.toList parts
    | _ => false)
  | _ => false
theorem run_sizeOf {t n : Nat} (h : sizeOf? P t = some n) : (Go.sizeOf t).run P w = .ok n w := by
  unfold sizeOf? at h
  cases hi : P.info? t with
  | none => simp [hi] at h
  | some i =>
    have : i.size = n := by simpa [hi] using h
    simp [Go.sizeOf, typeInfo, hi, this]
theorem run_zero {t : Nat} {zs : List Value} (h : zeroOf? P t = some zs) : ∃ z : Value, (zeroValue t).run P w = .ok z w ∧ z.cells.toList = zs := by
  unfold zeroOf? at h
  cases hi : P.info? t with
  | none => simp [hi] at h
  | some inf =>
    rw [hi] at h
    simp only [Option.bind_some] at h
    cases hz : inf.zero with
    | none => simp [hz] at h
    | some z =>
      rw [hz] at h
      exact ⟨z, by simp [zeroValue, typeInfo, hi, hz], by simpa using h⟩
theorem snd_build {o : Oper} {d : Nat} {z : List IV} {parts : List (Nat × Nat × Opd)} (hc : chkBuild P N o d z parts = true) : Snd P β N o (vop P (.build d z parts)) := by
  intro K e L h a w G lam hh next Q R hv _ hn
  unfold chkBuild at hc
  split at hc
  · rename_i t ps ho
    split at hc
    · rename_i fs hu
      simp only [Bool.and_eq_true, List.all_eq_true] at hc
      obtain ⟨⟨⟨h1, h2⟩, h3⟩, h4⟩ := hc
      obtain ⟨hd, hdn⟩ := chkD_sound h1
      split at h2
      · rename_i zs hzs
        obtain ⟨hl, hx⟩ := chkCs_sound (G := G) h2
        obtain ⟨zv, hz1, hz2⟩ := run_zero (w := w) hzs
        simp only [vop] at hv
        split at hv
        · rename_i xs hxs
          have hpl : (fs.mapM fun (f : Field) => do pure (f.offset, ← Go.sizeOf f.type) : Sem (Array (Nat × Nat))).run P w = .ok (fs.toList.map fun (f : Field) => (f.offset, (sizeOf? P f.type).getD 0)).toArray w := by
            rw [Array.mapM_eq_mapM_toList, Sem.run_map]
            rw [run_mapM (g := fun f : Field => (f.offset, (sizeOf? P f.type).getD 0)) fs.toList (fun f hf => by
              obtain ⟨n, hn⟩ := Option.isSome_iff_exists.1 (h3 f hf)
              simp [run_sizeOf hn, hn])]
            rfl
          obtain ⟨cs', hf', hc'⟩ := fill_sound (P := P) (place := fun i => ((fs.toList.map fun (f : Field) => (f.offset, (sizeOf? P f.type).getD 0)).toArray)[i]?) R (fun i f n hi hs => by simp [hi, hs]) h4 hxs (show Cells G z zv.cells.toList by rw [hz2]; exact ⟨hl, hx⟩)
          have hps : (Array.map (fun x : Nat × Operand => (x.1, a.eval x.2)) ps).toList = ps.toList.map fun p => (p.1, a.eval p.2) := by simp
          refine wp_value (v := .agg cs') (w' := w) ?_ ?_
          · simp only [execOp, ho, Instr.build, Sem.run_bind, hz1, run_underlying hu, hpl, Result.andThen_ok]
            simp only [hps, hf', Sem.run_pure, Result.andThen_ok]
          · rw [hd]
            refine hn _ _ _ _ _ _ _ _ (R.put hdn (.inr ?_)) hv
            simpa using R0.agg_of hc'.1 hc'.2
        · exact hv.elim
      · cases h2
    · cases hc
  · cases hc

/-- Rows and the cells that they lie in, one behind the other. -/
structure RowsOf (G : Ghost) (n : Nat) (rows : Rows) (vs : List Value) : Prop where
  len : vs.length = rows.length * n
  wide : ∀ (i : Nat) (row : List IV), rows[i]? = some row → row.length = n
  cell : ∀ (i : Nat) (row : List IV) (j : Nat) (x : IV), rows[i]? = some row → row[j]? = some x → x.cell = true
  has : ∀ (i : Nat) (row : List IV) (j : Nat) (x : IV), rows[i]? = some row → row[j]? = some x → ∃ v, vs[i * n + j]? = some v ∧ R0 G x v

theorem mul_lt_of {i j n len : Nat} (hi : i < len) (hj : j < n) : i * n + j < len * n := idx_lt hi (Nat.le_refl _) hj

theorem RowsOf.replicate {n : Nat} {z : List IV} {zs : List Value} (hz : Cells G z zs) (hn : z.length = n) (len : Nat) : RowsOf G n (List.replicate len z) ((Array.range (len * n)).map fun k => zs.getD (k % n) undef).toList where
  len := by simp
  wide i row hi := by
    have := List.mem_of_getElem? hi
    rw [(List.mem_replicate.1 this).2]; exact hn
  cell i row j x hi hj := by
    have := List.mem_of_getElem? hi
    rw [(List.mem_replicate.1 this).2] at hj
    exact (hz.2 j x hj).1
  has i row j x hi hj := by
    have h1 := get_lt hi
    have := List.mem_of_getElem? hi
    rw [(List.mem_replicate.1 this).2] at hj
    obtain ⟨_, v, hv, hr⟩ := hz.2 j x hj
    have h2 := get_lt hj
    rw [hn] at h2
    simp only [List.length_replicate] at h1
    have h3 := mul_lt_of h1 h2
    refine ⟨v, ?_, hr⟩
    simp only [Array.toList_map, List.getElem?_map, Array.toList_range]
    rw [List.getElem?_range h3]
    simp only [Option.map_some, Option.some.injEq]
    have h4 : (i * n + j) % n = j := by rw [Nat.mul_comm, Nat.mul_add_mod]; exact Nat.mod_eq_of_lt h2
    rw [h4]
    simp [List.getD, hv]

theorem RowsOf.set {n : Nat} {rows : Rows} {vs us : List Value} (H : RowsOf G n rows vs) {ys : List IV} (hy : Cells G ys us) (hn : ys.length = n) {i : Nat} (hi : i < rows.length) :
    RowsOf G n (rows.set i ys) (vs.take (i * n) ++ us ++ vs.drop (i * n + us.length)) := by
  have hul : us.length = n := hy.1.trans hn
  have hle : i * n + n ≤ rows.length * n := by
    have := Nat.mul_le_mul_right n (show i + 1 ≤ rows.length by omega)
    rw [Nat.add_mul] at this; omega
  have hvl := H.len
  have get : ∀ k, (vs.take (i * n) ++ us ++ vs.drop (i * n + us.length))[k]? = if i * n ≤ k ∧ k < i * n + n then us[k - i * n]? else vs[k]? := by
    intro k
    have e1 : (vs.take (i * n)).length = i * n := by simp; omega
    rw [List.getElem?_append, List.getElem?_append]
    simp only [List.length_append, e1, hul]
    by_cases ha : i * n ≤ k ∧ k < i * n + n
    · rw [if_pos ha, if_pos (by omega), if_neg (by omega)]
    · rw [if_neg ha]
      by_cases hb : k < i * n
      · rw [if_pos (by omega), if_pos hb, List.getElem?_take, if_pos hb]
      · rw [if_neg (by omega), List.getElem?_drop]
        congr 1; omega
  have row : ∀ i' r, (rows.set i ys)[i']? = some r → (i' = i ∧ r = ys) ∨ (i' ≠ i ∧ rows[i']? = some r) := by
    intro i' r hr
    rw [List.getElem?_set] at hr
    split at hr
    · rename_i h1; cases hr; exact .inl ⟨h1.symm, rfl⟩
    · rename_i h1; exact .inr ⟨fun h => h1 h.symm, hr⟩
  refine ⟨by rw [List.length_append, List.length_append, List.length_take, List.length_drop, List.length_set, hul]; omega, fun i' r hr => ?_, fun i' r j x hr hj => ?_, fun i' r j x hr hj => ?_⟩
  · rcases row _ _ hr with ⟨_, rfl⟩ | ⟨_, hr⟩
    · exact hn
    · exact H.wide _ _ hr
  · rcases row _ _ hr with ⟨_, rfl⟩ | ⟨_, hr⟩
    · exact (hy.2 j x hj).1
    · exact H.cell _ _ _ _ hr hj
  · rcases row _ _ hr with ⟨rfl, rfl⟩ | ⟨hne, hr⟩
    · obtain ⟨_, v, hv, hrr⟩ := hy.2 j x hj
      have h2 := get_lt hj
      rw [hn] at h2
      exact ⟨v, by rw [get, if_pos (by omega), show i' * n + j - i' * n = j by omega]; exact hv, hrr⟩
    · obtain ⟨v, hv, hrr⟩ := H.has _ _ _ _ hr hj
      have h2 := get_lt hj
      rw [H.wide _ _ hr] at h2
      refine ⟨v, ?_, hrr⟩
      rw [get, if_neg ?_]
      · exact hv
      · rcases Nat.lt_or_ge i i' with h3 | h3
        · have := Nat.mul_le_mul_right n (show i + 1 ≤ i' by omega)
          rw [Nat.add_mul] at this; omega
        · have := Nat.mul_le_mul_right n (show i' + 1 ≤ i by omega)
          rw [Nat.add_mul] at this; omega

def chkRows : List (Nat × Operand) → List (Nat × Opd) → Bool
  | [], [] => true
  | (i, y) :: ps, (i', x) :: qs => i == i' && chkX y x && chkRows ps qs
  | _, _ => false
theorem rows_sound (R : RelG β N e L h a w G lam hh) {n : Nat} : ∀ {ps : List (Nat × Operand)} {qs : List (Nat × Opd)} {rows rows' : Rows} {cs : Array Value}, chkRows ps qs = true → rowsV e n rows qs = some rows' → RowsOf G n rows cs.toList →
      ∃ cs', Instr.fill (fun i => some (i * n, n)) cs (ps.map fun p => (p.1, a.eval p.2)) = some cs' ∧ RowsOf G n rows' cs'.toList ∧ rows'.length = rows.length
  | [], [], rows, rows', cs, _, hf, hc => by simp only [rowsV] at hf; cases hf; exact ⟨cs, rfl, hc, rfl⟩
  | (i, y) :: ps, (i', x) :: qs, rows, rows', cs, hk, hf, hc => by
    simp only [chkRows, Bool.and_eq_true, beq_iff_eq] at hk
    obtain ⟨⟨rfl, h2⟩, h3⟩ := hk
    simp only [rowsV] at hf
    split at hf
    · rename_i v hx
      split at hf
      · rename_i hcond
        obtain ⟨c1, c2, c3⟩ := hcond
        have hr := (chkX_sound R h2 hx).r0 (cellsOf_notLp c3)
        have hcv := boxable_cells hr c3
        have hsz : (a.eval y).cells.size = n := by have := hcv.1; simp at this; rw [this, c1]
        have hle : i * n + n ≤ rows.length * n := by
          have := Nat.mul_le_mul_right n (show i + 1 ≤ rows.length by omega)
          rw [Nat.add_mul] at this; omega
        have hlen : i * n + (a.eval y).cells.size ≤ cs.size := by have := hc.len; simp at this; omega
        have hnew := hc.set hcv c1 c2
        have e1 : (a.eval y).cells.toList.length = (a.eval y).cells.size := by simp
        rw [e1, ← fill_one hlen] at hnew
        obtain ⟨cs', hf', hc', hl'⟩ := rows_sound R h3 hf hnew
        refine ⟨cs', ?_, hc', by rw [hl']; simp⟩
        simp only [List.map_cons, Instr.fill]
        rw [if_neg (by simp only [Bool.or_eq_true, decide_eq_true_eq, ne_eq]; omega)]
        exact hf'
      · cases hf
    · cases hf
  | [], _ :: _, _, _, _, hk, _, _ => by simp [chkRows] at hk
  | _ :: _, [], _, _, _, hk, _, _ => by simp [chkRows] at hk

/-- A new block of rows, by value. -/
theorem RelG.newFull (R : RelG β N e L h a w G lam hh) {n : Nat} {rows : Rows} {cs : Array Value} (H : RowsOf G n rows cs.toList) (ty : TypeId) :
    ∃ G', RelG β N e L h a (w.alloc (.cells cs ty)) G' lam hh ∧ G.le G' ∧ R0 G' (.vs n rows .full) (.slice (some ⟨w.heap.size, 0, none⟩) rows.length rows.length) := by
  obtain ⟨G', hle, hI, hg, hr⟩ := R.inv.newVs rows n rows.length cs ty (Nat.le_refl _) (by simpa using H.len) H.wide H.cell (fun i row j x hi hj => by simpa using H.has i row j x hi hj)
  have hI2 : HInv G' hh (w.alloc (.cells cs ty)) := hI.less ⟨fun i r x => x, fun t x => by simp only [Heap.addT]; split; rfl; exact x⟩
  exact ⟨G', R.step hle hI2 hg (fun _ _ x => x) (fun _ x => x), hle, hr.full_of_own rfl⟩

def chkBslice (P : Program) (n : Nat) (o : Oper) (d m : Nat) (z : List IV) (len : Nat) (parts : List (Nat × Opd)) : Bool :=
  match o.op with
  | .buildSlice t len' ps => (match elem? P t with
    | some el => len' == len && chkD n o d && sizeOf? P el == some m && decide (0 < m) && decide (len * m ≤ 16777216) && z.length == m && (match zeroOf? P el with | some vs => chkCs vs z | none => false) && chkRows ps.toList parts
    | none => false)
  | _ => false
theorem snd_bslice {o : Oper} {d m : Nat} {z : List IV} {len : Nat} {parts : List (Nat × Opd)} (hc : chkBslice P N o d m z len parts = true) : Snd P β N o (vop P (.bslice d m z len parts)) := by
  intro K e L h a w G lam hh next Q R hv _ hn
  unfold chkBslice at hc
  split at hc
  · rename_i t len' ps ho
    split at hc
    · rename_i el hel
      simp only [Bool.and_eq_true, beq_iff_eq, decide_eq_true_eq] at hc
      obtain ⟨⟨⟨⟨⟨⟨⟨rfl, h1⟩, h2⟩, h3⟩, h4⟩, h5⟩, h6⟩, h7⟩ := hc
      obtain ⟨hd, hdn⟩ := chkD_sound h1
      have hu := elem?_eq hel
      split at h6
      · rename_i zs hzs
        obtain ⟨hl, hx⟩ := chkCs_sound (G := G) h6
        obtain ⟨zv, hz1, hz2⟩ := run_zero (w := w) hzs
        simp only [vop] at hv
        split at hv
        · rename_i rows hrows
          have hz : Cells G z zs := ⟨hl, hx⟩
          have hrep := RowsOf.replicate (n := m) hz h5 len'
          obtain ⟨cs', hf', hc', hl'⟩ := rows_sound R h7 hrows hrep
          have hps : (Array.map (fun x : Nat × Operand => (x.1, a.eval x.2)) ps).toList = ps.toList.map fun p => (p.1, a.eval p.2) := by simp
          have hlen : rows.length = len' := by rw [hl']; simp
          obtain ⟨G', R', hle, hr⟩ := R.newFull hc' el
          have hzsz : zv.cells.size = m := by rw [← h5, ← hl, ← hz2]; simp
          have hinit0 : len' * m = 0 → (Array.range (len' * m)).map (fun k => (#[] : Array Value)[k % (#[] : Array Value).size]!) = (Array.range (len' * m)).map fun k => zs.getD (k % m) undef := by
            intro h0; rw [h0]; simp
          have hinit : (Array.range (len' * m)).map (fun k => zv.cells[k % zv.cells.size]!) = (Array.range (len' * m)).map fun k => zs.getD (k % m) undef := by
            simp only [hzsz]
            apply Array.map_congr_left
            intro k _
            have hk : k % m < zv.cells.size := by rw [hzsz]; exact Nat.mod_lt _ h3
            rw [getElem!_pos zv.cells (k % m) hk, ← hz2]
            simp [List.getD, hk]
          refine wp_value (v := .slice (some ⟨w.heap.size, 0, none⟩) len' len') (w' := w.alloc (.cells cs' el)) ?_ ?_
          · simp only [execOp, ho, Instr.buildSlice, Sem.run_bind, run_underlying hu, run_sizeOf h2, Result.andThen_ok]
            rw [if_neg (by omega)]
            by_cases h0 : len' * m = 0
            · rw [if_pos h0]
              simp only [Sem.run_bind, Sem.run_pure, Result.andThen_ok, hinit0 h0, hps, hf', newRow, newObj, Sem.run]
              rfl
            · rw [if_neg h0]
              simp only [Sem.run_bind, hz1, Sem.run_pure, Result.andThen_ok, hinit, hps, hf', newRow, newObj, Sem.run]
              rfl
          · rw [hd]
            rw [hlen] at hr
            exact hn _ _ _ _ _ _ _ _ (R'.put hdn (.inr hr)) hv
        · exact hv.elim
      · cases h6
    · cases hc
  · cases hc

end VL
