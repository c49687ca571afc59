/- The V layer, part 6: appends and slicing. -/
import Derived.Test.YtjhbkbbmhmfkbaaV5
namespace VL
open Go
variable {P : Program} {β : Base} {N : Nat} {e : Env} {L : Loc} {h : Heap} {a : Act} {w : World} {G : Ghost} {lam : Nat → Option Nat} {hh : Heap}

theorem divmod_idx {i j n : Nat} (hj : j < n) : (i * n + j) / n = i ∧ (i * n + j) % n = j := by
  have hn : 0 < n := by omega
  constructor
  · rw [Nat.mul_comm, Nat.mul_add_div hn, Nat.div_eq_of_lt hj]; omega
  · rw [Nat.mul_comm, Nat.mul_add_mod]; exact Nat.mod_eq_of_lt hj

/-- The cells of a slice by value, in order. -/
theorem vs_cells (hW : WInv G w) {m : Nat} (hm : 0 < m) {rows : Rows} {tag : Tag} {v : Value} (hr : R0 G (.vs m rows tag) v) :
    ∃ A cap vs, v = .slice A rows.length cap ∧ rows.length ≤ cap ∧ (A = none → cap = 0) ∧ RowsOf G m rows vs ∧ (∀ u ∈ vs, u.oneCell' = true) ∧ ∀ ad, A = some ad → ∀ j u, vs[j]? = some u → w.cell? (ad.add j) = some u := by
  obtain ⟨A, cap, b, base, ev, hl, hA, hN, ht, hw, vals, hc, him, hrr⟩ := hr.vs_inv
  have key : ∀ k, k < rows.length * m → ∃ row x, rows[k / m]? = some row ∧ row[k % m]? = some x := by
    intro k hk
    have h1 : k / m < rows.length := Nat.div_lt_of_lt_mul (by rw [Nat.mul_comm]; exact hk)
    have h2 := List.getElem?_eq_getElem h1
    have h3 := hw _ _ h2
    exact ⟨_, _, h2, List.getElem?_eq_getElem (by rw [h3]; exact Nat.mod_lt _ hm)⟩
  have get : ∀ k v, ((List.range (rows.length * m)).map fun k => vals (k / m) (k % m))[k]? = some v → k < rows.length * m ∧ v = vals (k / m) (k % m) := by
    intro k v hk
    have hlt := get_lt hk
    simp only [List.length_map, List.length_range] at hlt
    rw [List.getElem?_map, List.getElem?_range hlt] at hk
    exact ⟨hlt, by simpa using hk.symm⟩
  refine ⟨A, cap, (List.range (rows.length * m)).map fun k => vals (k / m) (k % m), ev, hl, hN, ⟨by simp, hw, hc, fun i row j x hi hj => ?_⟩, fun u hu => ?_, fun ad hA2 j u hj => ?_⟩
  · have h1 := get_lt hi
    have h2 := get_lt hj
    rw [hw _ _ hi] at h2
    refine ⟨vals i j, ?_, hrr _ _ _ _ hi hj⟩
    rw [List.getElem?_map, List.getElem?_range (mul_lt_of h1 h2)]
    obtain ⟨d1, d2⟩ := divmod_idx (i := i) h2
    simp [d1, d2]
  · obtain ⟨k, hk⟩ := List.getElem?_of_mem hu
    obtain ⟨hlt, rfl⟩ := get k u hk
    obtain ⟨row, x, h1, h2⟩ := key k hlt
    exact (hrr _ _ _ _ h1 h2).one (hc _ _ _ _ h1 h2)
  · obtain ⟨hlt, rfl⟩ := get j u hj
    obtain ⟨row, x, h1, h2⟩ := key j hlt
    have hne : rows ≠ [] := by intro hn; rw [hn] at h1; simp at h1
    have := hA hne
    rw [this] at hA2
    cases hA2
    rw [Addr.add_mid]
    have e1 := hW.imm _ _ _ (him _ _ _ _ h1 h2)
    have e2 : base + j / m * m + j % m = base + j := by have := Nat.div_add_mod j m; rw [Nat.mul_comm] at this; omega
    rw [e2] at e1
    exact e1

theorem RowsOf.append {n : Nat} {rows more : Rows} {vs us : List Value} (h1 : RowsOf G n rows vs) (h2 : RowsOf G n more us) : RowsOf G n (rows ++ more) (vs ++ us) where
  len := by rw [List.length_append, List.length_append, h1.len, h2.len, Nat.add_mul]
  wide i row hi := by
    rw [List.getElem?_append] at hi
    split at hi
    · exact h1.wide _ _ hi
    · exact h2.wide _ _ hi
  cell i row j x hi hj := by
    rw [List.getElem?_append] at hi
    split at hi
    · exact h1.cell _ _ _ _ hi hj
    · exact h2.cell _ _ _ _ hi hj
  has i row j x hi hj := by
    rw [List.getElem?_append] at hi
    split at hi
    · rename_i hl
      obtain ⟨v, hv, hr⟩ := h1.has _ _ _ _ hi hj
      exact ⟨v, by rw [List.getElem?_append, if_pos (get_lt hv)]; exact hv, hr⟩
    · rename_i hl
      obtain ⟨v, hv, hr⟩ := h2.has _ _ _ _ hi hj
      have e1 : i * n = rows.length * n + (i - rows.length) * n := by rw [← Nat.add_mul]; congr 1; omega
      refine ⟨v, ?_, hr⟩
      rw [List.getElem?_append, h1.len, if_neg (by omega)]
      rw [← hv]; congr 1; omega
theorem RowsOf.pad {n : Nat} {rows : Rows} {vs : List Value} (h : RowsOf G n rows vs) (us : List Value) (i : Nat) (row : List IV) (j : Nat) (x : IV) (hi : rows[i]? = some row) (hj : row[j]? = some x) : ∃ v, (vs ++ us)[i * n + j]? = some v ∧ R0 G x v := by
  obtain ⟨v, hv, hr⟩ := h.has _ _ _ _ hi hj
  exact ⟨v, by rw [List.getElem?_append, if_pos (get_lt hv)]; exact hv, hr⟩

/-- An append with room. -/
theorem run_append_in {t el ty m : Nat} (hu : P.underlying t = some (.slice el)) (hs : sizeOf? P el = some m) {A A2 : Option Addr} {len cap k c2 : Nat} {news : List Value} {w' : World}
    (hf : (Builtin.firstCells m k (.slice A2 k c2)).run P w = .ok news.toArray w) (room : len + k ≤ cap) (hst : ∀ ad, A = some ad → (storeCells (ad.add (len * m)) news).run P w = .ok () w') (hN : A = none → w' = w) :
    (Builtin.append_ #[t, t] ty #[.slice A len cap, .slice A2 k c2]).run P w = .ok (.slice A (len + k) cap) w' := by
  have hz := run_sizeOf (w := w) hs
  cases A with
  | none =>
    have := hN rfl
    subst this
    simp [Builtin.append_, run_underlying hu, hz, Builtin.lenOf, room, hf]
  | some ad =>
    have := hst ad rfl
    simp [Builtin.append_, run_underlying hu, hz, Builtin.lenOf, room, hf, this]

def bytesOf? (P : Program) (t : TypeId) : Option Nat := (P.info? t).map (·.bytes)
def chkApp (P : Program) (n : Nat) (o : Oper) (d m bytes : Nat) (x y : Opd) : Bool :=
  match o.op with
  | .call c => (match c.callee, c.args.toList, c.argTypes.toList with
    | .builtin .append, [x', y'], [t, t2] => (match elem? P t with
      | some el => t2 == t && chkD n o d && chkX x' x && chkX y' y && sizeOf? P el == some m && bytesOf? P el == some bytes && decide (0 < m) && decide (0 < bytes) && (zeroOf? P el).map (·.length) == some m
      | none => false)
    | _, _, _ => false)
  | _ => false

/-- A block that grew: the rows, by value, with room behind them. -/
theorem grown (R : RelG β N e L h a w G lam hh) {m cap : Nat} {rows : Rows} {vs us : List Value} (H : RowsOf G m rows vs) (hcap : rows.length ≤ cap) (hus : us.length = (cap - rows.length) * m) (ty : TypeId) :
    ∃ G', G.le G' ∧ HInv G' (hh.addT G.ntk) (w.alloc (.cells (vs ++ us).toArray ty)) ∧ Goes G w G' (w.alloc (.cells (vs ++ us).toArray ty)) ∧ R0 G' (.vs m rows (.own G.ntk)) (.slice (some ⟨w.heap.size, 0, none⟩) rows.length cap) :=
  R.inv.newVs rows m cap (vs ++ us).toArray ty hcap (by
    have := Nat.mul_le_mul_right m hcap
    simp only [List.size_toArray, List.length_append, H.len, hus, Nat.sub_mul]; omega) H.wide H.cell (fun i row j x hi hj => by simpa using H.pad us i row j x hi hj)

theorem size_zero {z : Value} {zs : List Value} (h : z.cells.toList = zs) : z.cells.size = zs.length := by rw [← h]; simp

/-- What an append that has no room does. -/
theorem run_append_out {t el ty m bytes : Nat} (hu : P.underlying t = some (.slice el)) (hs : sizeOf? P el = some m) (hb : bytesOf? P el = some bytes) (hz : (zeroOf? P el).map (·.length) = some m) (hbp : 0 < bytes)
    {A A2 : Option Addr} {len cap k c2 : Nat} {olds news : List Value} (hN : A = none → cap = 0) (hN2 : A2 = none → c2 = 0) (hk : k ≤ c2) (hl : len ≤ cap) (ho : olds.length = len * m) (hn : news.length = k * m)
    (hold : ∀ ad, A = some ad → ∀ j u, olds[j]? = some u → w.cell? (ad.add j) = some u) (hnew : ∀ ad, A2 = some ad → ∀ j u, news[j]? = some u → w.cell? (ad.add j) = some u)
    (room : ¬ len + k ≤ cap) (hbytes : (len + k) * bytes ≤ 140737488355328) :
    ∃ cap' us, len + k ≤ cap' ∧ us.length = (cap' - (len + k)) * m ∧ (Builtin.append_ #[t, t] ty #[.slice A len cap, .slice A2 k c2]).run P w = .ok (.slice (some ⟨w.heap.size, 0, none⟩) (len + k) cap') (w.drew.alloc (.cells (olds ++ news ++ us).toArray el)) := by
  unfold sizeOf? at hs
  unfold bytesOf? at hb
  unfold zeroOf? at hz
  cases hi : P.info? el with
  | none => simp [hi] at hs
  | some inf =>
    rw [hi] at hs hb hz
    simp only [Option.map_some, Option.some.injEq] at hs hb
    simp only [Option.bind_some, Option.map_map] at hz
    cases hz2 : inf.zero with
    | none => simp [hz2] at hz
    | some z =>
      have hzs : z.cells.size = m := by simpa [hz2] using hz
      have hlen : len + k ≤ 140737488355328 := Nat.le_trans (Nat.le_mul_of_pos_right _ hbp) hbytes
      have hA2 : ∃ a2, A2 = some a2 := by
        cases A2 with
        | none => have := hN2 rfl; omega
        | some a2 => exact ⟨a2, rfl⟩
      obtain ⟨a2, rfl⟩ := hA2
      have hge := grownCap_ge w (len + k) cap el
      refine ⟨grownCap w (len + k) cap el, (Builtin.zeroCells z.cells (grownCap w (len + k) cap el - (len + k))).toList, hge, by simp [Builtin.zeroCells, hzs], ?_⟩
      cases A with
      | none =>
        have hc0 := hN rfl
        have hl0 : len = 0 := by omega
        subst hc0
        subst hl0
        have ho0 : olds = [] := List.eq_nil_of_length_eq_zero (by simpa using ho)
        subst ho0
        have := run_append_nil (P := P) w t ty el inf z hu hi hz2 a2 k c2 news (by rw [hn, hs]) (hnew a2 rfl) (by omega) (by omega) (by rw [hb]; simp only [Nat.zero_add] at hbytes; omega)
        simp only [Nat.zero_add] at this ⊢
        rw [this]
        congr 3
        apply Array.ext'
        simp
      | some ad =>
        have := run_append_grow (P := P) w t ty el inf z hu hi hz2 ad len cap olds (by rw [ho, hs]) (hold ad rfl) a2 k c2 news (by rw [hn, hs]) (hnew a2 rfl) (by omega) (by omega) (growslice_fits (by omega) (by rw [hb]; exact hbytes))
        rw [this]
        congr 3
        apply Array.ext'
        simp

theorem first_run {m k c2 : Nat} {A2 : Option Addr} {news : List Value} (hn : news.length = k * m) (hN2 : A2 = none → c2 = 0) (hk : k ≤ c2) (hnew : ∀ ad, A2 = some ad → ∀ j u, news[j]? = some u → w.cell? (ad.add j) = some u) :
    (Builtin.firstCells m k (.slice A2 k c2)).run P w = .ok news.toArray w := by
  cases A2 with
  | none =>
    have := hN2 rfl
    have h0 : k = 0 := by omega
    subst h0
    have : news = [] := List.eq_nil_of_length_eq_zero (by simpa using hn)
    subst this
    exact run_firstCells_none (P := P) w m 0 0 c2
  | some ad => exact run_firstCells_some (P := P) w m k ad k c2 news hn (hnew ad rfl)

theorem snd_app {o : Oper} {d m bytes : Nat} {x y : Opd} (hc : chkApp P N o d m bytes x y = true) : Snd P β N o (vop P (.app d m bytes x y)) := by
  intro K e L h a w G lam hh next Q R hv _ hn
  unfold chkApp at hc
  split at hc
  case h_2 => cases hc
  rename_i c ho
  split at hc
  case h_2 => cases hc
  rename_i x' y' t t2 e1 e2 e3
  have ec := call_eq e1 e2 e3
  subst ec
  split at hc
  case h_2 => cases hc
  rename_i el hel
  simp only [Bool.and_eq_true, beq_iff_eq, decide_eq_true_eq] at hc
  obtain ⟨⟨⟨⟨⟨⟨⟨⟨rfl, h1⟩, h2⟩, h3⟩, h4⟩, h5⟩, h6⟩, h7⟩, h8⟩ := hc
  obtain ⟨hd, hdn⟩ := chkD_sound h1
  have hu := elem?_eq hel
  have fin : ∀ (v1 v2 v : Value) (w' : World), a.eval x' = v1 → a.eval y' = v2 → (Builtin.append_ #[t2, t2] o.type #[v1, v2]).run P w = .ok v w' → next (a.put (some d) v) w' → o.wp P a w next Q := by
    intro v1 v2 v w' ex ey hrun hk
    refine wp_value (v := v) (w' := w') (by simp [execOp, ho, resolve, invoke, builtin, ex, ey, hrun]) ?_
    rw [hd]; exact hk
  -- where a new block of rows by value is made
  have grow : ∀ {rows more : Rows} {tag : Tag} {tag2 : Tag} {n1 n2 : Nat}, x.get e = some (.vs n1 rows tag) → y.get e = some (.vs n2 more tag2) → n1 = m → n2 = m → (rows.length + more.length) * bytes ≤ 140737488355328 →
      (∀ A cap, a.eval x' = .slice A rows.length cap → ¬ rows.length + more.length ≤ cap) → ∀ h', h'.sub (h.addT G.ntk) → K (e.put d (.vs m (rows ++ more) (.own G.ntk))) L h' → o.wp P a w next Q := by
    intro rows more tag tag2 n1 n2 hx hy hn1 hn2 hby hroom h' hsub hk
    subst hn1
    subst hn2
    obtain ⟨A, cap, olds, ev, hl, hN, HO, _, hold⟩ := vs_cells R.inv.W h6 ((chkX_sound R h2 hx).r0 (by simp))
    obtain ⟨A2, c2, news, ev2, hl2, hN2, HN, _, hnew⟩ := vs_cells R.inv.W h6 ((chkX_sound R h3 hy).r0 (by simp))
    obtain ⟨cap', us, hge, hus, hrun⟩ := run_append_out (P := P) (ty := o.type) hu h4 h5 h8 h7 hN hN2 hl2 hl HO.len HN.len hold hnew (hroom A cap ev) hby
    have hlen : (rows ++ more).length = rows.length + more.length := List.length_append
    have H := HO.append HN
    obtain ⟨G', hle, hI, hg, hr⟩ := grown R.drew H (cap := cap') (us := us) (by rw [hlen]; exact hge) (by rw [hlen]; exact hus) el
    refine fin _ _ _ _ ev ev2 hrun ?_
    rw [hlen] at hr
    have R' := (R.drew.addT hle hI hg R.oldT).less (e' := e) (L' := L) (h' := h') (fun _ _ x => x) (fun _ _ x => x) hsub
    exact hn _ _ _ _ _ _ _ _ (R'.put hdn (.inr hr)) hk
  have hfresh : h.tok G.ntk = false := sub_tok R.sub (R.inv.tok_of_ge (Nat.le_refl _))
  simp only [vop, chkP_iff] at hv
  split at hv
  · -- no room is left
    rename_i n1 rows n2 more tag2 hx hy
    obtain ⟨hn1, hn2, hby, hv⟩ := hv
    have hv := hv G.ntk hfresh
    have rx := (chkX_sound R h2 hx).r0 (by simp)
    by_cases hm0 : more.length = 0
    · have hmore : more = [] := List.eq_nil_of_length_eq_zero hm0
      subst hmore
      subst hn1
      obtain ⟨A2, c2, news, ev2, hl2, hN2, HN, _, hnew⟩ := vs_cells R.inv.W (hn2 ▸ h6) ((chkX_sound R h3 hy).r0 (by simp))
      have hnews : news = [] := List.eq_nil_of_length_eq_zero (by simpa using HN.len)
      subst hnews
      obtain ⟨A, cap, b, base, ev, hl, hA, hN, ht, hw, vals, hcell, him, hrr⟩ := rx.vs_inv
      have hcap : cap = rows.length := ht
      subst hcap
      have u := upd_take R.inv.W (own := .obj 0) (B := b) (lo := 0) (hi := 0) (by simp) (by simp) (fun o h1 h2 => by omega) [] (by simp) (fun _ => .free) none (some ⟨b, base + rows.length * n1, n1, rows.length - rows.length⟩)
        (fun o v h1 h2 _ => by omega) (fun o v h1 h2 _ => by omega) (fun o v h1 h2 _ => by omega)
      have hcl : ∀ b' o', (G.take b 0 0 (fun _ => .free) none (some ⟨b, base + rows.length * n1, n1, rows.length - rows.length⟩)).cl b' o' = G.cl b' o' := fun b' o' => by simp [Ghost.take]
      have hI : HInv (G.take b 0 0 (fun _ => .free) none (some ⟨b, base + rows.length * n1, n1, rows.length - rows.length⟩)) (hh.addT G.ntk) w := by
        refine ⟨u.W, fun i r hi => ?_, fun t ht => ?_⟩
        · obtain ⟨p, ok⟩ := R.inv.objs i r hi
          exact ⟨p, u.le.obj _ _ ok.at_, ok.le, fun k hk => by rw [hcl]; exact ok.mine k hk, ok.there, ok.warm, ok.wide, ok.cell, fun i row j x a1 a2 => let ⟨v, b1, b2⟩ := ok.has i row j x a1 a2; ⟨v, b1, b2.mono u.le⟩⟩
        · simp only [Heap.addT] at ht
          split at ht
          · rename_i he
            subst he
            exact ⟨⟨b, base + rows.length * n1, n1, rows.length - rows.length⟩, by simp [Ghost.take], fun k hk => by simp at hk, fun k hk => by simp at hk, fun k hk => by simp at hk⟩
          · obtain ⟨z, ok⟩ := R.inv.toks t ht
            exact ⟨z, u.le.tok _ _ ok.at_, fun k hk => by rw [hcl]; exact ok.mine k hk, ok.there, ok.warm⟩
      have hrun := run_append_in (P := P) (w := w) (ty := o.type) (t := t2) (A := A) (len := rows.length) (cap := rows.length) (news := []) (w' := w) hu h4 (k := 0) (A2 := A2) (c2 := c2)
        (first_run (by simp) hN2 (by omega) (fun ad _ j u hj => by simp at hj)) (Nat.le_refl _) (fun ad _ => rfl) (fun _ => rfl)
      refine fin _ _ _ _ ev (by simpa using ev2) hrun ?_
      have R' := R.addT u.le hI u.goes R.oldT
      refine hn _ _ _ _ _ _ _ _ (R'.put hdn (.inr ?_)) hv
      rw [List.append_nil]
      refine R0.vs (b := b) (base := base) vals (Nat.le_refl _) hA hN ⟨fun hpos => hA (by intro hc; rw [hc] at hpos; simp at hpos), by simp [Ghost.take]⟩ hw hcell (fun i row j x p q => u.le.imm _ _ _ (him i row j x p q)) (fun i row j x p q => (hrr i row j x p q).mono u.le)
    · refine grow hx hy hn1 hn2 hby (fun A cap ev => ?_) _ (Heap.sub_refl _) hv
      obtain ⟨A', cap', b, base, ev', hl, hA, hN, ht, _⟩ := rx.vs_inv
      rw [ev] at ev'
      cases ev'
      have : cap = rows.length := ht
      omega
  · -- the room behind is ours
    rename_i n1 rows s n2 more tag2 hx hy
    obtain ⟨hn1, hn2, hby, hs, hv⟩ := hv
    have hv := hv G.ntk hfresh
    have rx := (chkX_sound R h2 hx).r0 (by simp)
    obtain ⟨A, cap, b0, base0, ev, hl, hA, hN, ht, _⟩ := rx.vs_inv
    by_cases room : rows.length + more.length ≤ cap
    · subst hn1
      obtain ⟨A2, c2, news, ev2, hl2, hN2, HN, hone, hnew⟩ := vs_cells R.inv.W (hn2 ▸ h6) ((chkX_sound R h3 hy).r0 (by simp))
      subst hn2
      rw [ev] at rx
      obtain ⟨b, base, G', hAc, hth, hwm, hle, hI, hg, hr⟩ := R.inv.appVs (more := more) (R.sub.2 _ hs) rx news HN.len room HN.wide HN.cell HN.has
      have hst : ∀ ad, A = some ad → (storeCells (ad.add (rows.length * n2)) news).run P w = .ok () (w.setCells b (base + rows.length * n2) news) := by
        intro ad hA3
        by_cases hc0 : 0 < cap
        · rw [hAc hc0] at hA3
          cases hA3
          rw [Addr.add_mid]
          have := run_storeCells_cells (P := P) b (base + rows.length * n2) news 0 w (fun j hj => by simpa using hth j hj) (fun j hj => by simpa using hwm j hj) hone
          simpa using this
        · have h0 : more.length = 0 := by omega
          have hnews : news = [] := List.eq_nil_of_length_eq_zero (by rw [HN.len, h0]; simp)
          rw [hnews]; rfl
      have hno : A = none → w.setCells b (base + rows.length * n2) news = w := by
        intro hA3
        have hc0 := hN hA3
        have h0 : more.length = 0 := by omega
        have hnews : news = [] := List.eq_nil_of_length_eq_zero (by rw [HN.len, h0]; simp)
        rw [hnews]; rfl
      have hrun := run_append_in (P := P) (w := w) (ty := o.type) (t := t2) (A := A) (len := rows.length) (cap := cap) (news := news) hu h4 (k := more.length) (A2 := A2) (c2 := c2)
        (first_run HN.len hN2 hl2 hnew) room hst hno
      refine fin _ _ _ _ ev ev2 hrun ?_
      exact hn _ _ _ _ _ _ _ _ ((R.swapT hs hle hI hg R.oldT).put hdn (.inr hr)) hv
    · refine grow hx hy hn1 hn2 hby (fun A' cap' ev' => ?_) _ ?_ hv
      · rw [ev] at ev'; cases ev'; exact room
      · exact ⟨fun i r x => x, fun t x => by
          simp only [Heap.addT, Heap.delT] at x ⊢
          split at x
          · rename_i e1; rw [if_pos e1]
          · rename_i e1
            rw [if_neg e1]
            split at x
            · cases x
            · exact x⟩
  · exact hv.elim

theorem snd_appR {o : Oper} {d m bytes : Nat} {x y : Opd} (hc : chkApp P N o d m bytes x y = true) : Snd P β N o (vop P (.appR d m bytes x y)) := by
  intro K e L h a w G lam hh next Q R hv _ hn
  unfold chkApp at hc
  split at hc
  case h_2 => cases hc
  rename_i c ho
  split at hc
  case h_2 => cases hc
  rename_i x' y' t t2 e1 e2 e3
  have ec := call_eq e1 e2 e3
  subst ec
  split at hc
  case h_2 => cases hc
  rename_i el hel
  simp only [Bool.and_eq_true, beq_iff_eq, decide_eq_true_eq] at hc
  obtain ⟨⟨⟨⟨⟨⟨⟨⟨rfl, h1⟩, h2⟩, h3⟩, h4⟩, h5⟩, h6⟩, h7⟩, h8⟩ := hc
  obtain ⟨hd, hdn⟩ := chkD_sound h1
  have hu := elem?_eq hel
  have fin : ∀ (v1 v2 v : Value) (w' : World), a.eval x' = v1 → a.eval y' = v2 → (Builtin.append_ #[t2, t2] o.type #[v1, v2]).run P w = .ok v w' → next (a.put (some d) v) w' → o.wp P a w next Q := by
    intro v1 v2 v w' ex ey hrun hk
    refine wp_value (v := v) (w' := w') (by simp [execOp, ho, resolve, invoke, builtin, ex, ey, hrun]) ?_
    rw [hd]; exact hk
  simp only [vop, chkP_iff, optK_def] at hv
  split at hv
  · -- by reference
    rename_i n1 id len n2 more tag2 hx hy
    obtain ⟨hn1, hn2, hby, hv⟩ := hv
    subst hn1
    subst hn2
    split at hv
    · rename_i rows hrows
      obtain ⟨hlr, hv⟩ := hv
      obtain ⟨A, p, ev, hp, hpn, hl, hA⟩ := ((chkX_sound R h2 hx).r0 (by simp)).rs_inv
      obtain ⟨p', ok⟩ := R.inv.objs id _ (R.sub.1 _ _ hrows)
      have : p' = p := by have := ok.at_; rw [hp] at this; cases this; rfl
      subst this
      subst hpn
      obtain ⟨A2, c2, news, ev2, hl2, hN2, HN, hone, hnew⟩ := vs_cells R.inv.W h6 ((chkX_sound R h3 hy).r0 (by simp))
      have hN : A = none → p'.cap = 0 := by
        intro hc
        rcases hA with hA | hA
        · rw [hA] at hc; cases hc
        · exact hA.2
      have htl : (rows.take len).length = len := by simp; omega
      by_cases room : len + more.length ≤ p'.cap
      · obtain ⟨hI, hg⟩ := R.inv.appRs ok hlr news HN.len room HN.wide HN.cell HN.has
        have hmul : (len + more.length) * p'.n ≤ p'.cap * p'.n := Nat.mul_le_mul_right _ room
        rw [Nat.add_mul] at hmul
        have hst : ∀ ad, A = some ad → (storeCells (ad.add (len * p'.n)) news).run P w = .ok () (w.setCells p'.b (p'.off + len * p'.n) news) := by
          intro ad hA3
          rcases hA with hA | hA
          · rw [hA] at hA3
            cases hA3
            rw [Addr.add_mid]
            have := run_storeCells_cells (P := P) p'.b (p'.off + len * p'.n) news 0 w
              (fun j hj => by have := ok.there (len * p'.n + j) (by rw [HN.len] at hj; omega); simpa [Nat.add_assoc] using this)
              (fun j hj => by have := ok.warm (len * p'.n + j) (by rw [HN.len] at hj; omega); simpa [Nat.add_assoc] using this) hone
            simpa using this
          · rw [hA.1] at hA3; cases hA3
        have hno : A = none → w.setCells p'.b (p'.off + len * p'.n) news = w := by
          intro hA3
          have hc0 := hN hA3
          have h0 : more.length = 0 := by omega
          have hnews : news = [] := List.eq_nil_of_length_eq_zero (by rw [HN.len, h0]; simp)
          rw [hnews]; rfl
        have hrun := run_append_in (P := P) (w := w) (ty := o.type) (t := t2) (A := A) (len := len) (cap := p'.cap) (news := news) hu h4 (k := more.length) (A2 := A2) (c2 := c2)
          (first_run HN.len hN2 hl2 hnew) room hst hno
        refine fin _ _ _ _ ev ev2 hrun ?_
        have R' := (R.setH hrows hI hg).less (e' := e) (L' := L) (h' := (h.del id).put id (rows.take len ++ more)) (fun _ _ x => x) (fun _ _ x => x)
          ⟨fun i r x => by
            simp only [Heap.put, Heap.del] at x ⊢
            split at x
            · rename_i e1; rw [if_pos e1]; exact x
            · rename_i e1; rw [if_neg e1]; exact x, fun t x => x⟩
        exact hn _ _ _ _ _ _ _ _ (R'.put hdn (.inr (.rs hp room hA))) (hv id (.inl rfl))
      · have HO : RowsOf G p'.n (rows.take len) ((List.range (len * p'.n)).map fun k => (w.cell? ⟨p'.b, p'.off + k, none⟩).getD undef) := by
          refine ⟨by simp [htl], fun i row hi => ?_, fun i row j x hi hj => ?_, fun i row j x hi hj => ?_⟩
          · rw [List.getElem?_take] at hi
            split at hi
            · exact ok.wide _ _ hi
            · cases hi
          · rw [List.getElem?_take] at hi
            split at hi
            · exact ok.cell _ _ _ _ hi hj
            · cases hi
          · rw [List.getElem?_take] at hi
            split at hi
            · rename_i hil
              obtain ⟨v, hv, hr⟩ := ok.has _ _ _ _ hi hj
              have h9 := get_lt hj
              rw [ok.wide _ _ hi] at h9
              refine ⟨v, ?_, hr⟩
              rw [List.getElem?_map, List.getElem?_range (mul_lt_of hil h9)]
              rw [Nat.add_assoc] at hv
              simp [hv]
            · cases hi
        have hold : ∀ ad, A = some ad → ∀ j u, ((List.range (len * p'.n)).map fun k => (w.cell? ⟨p'.b, p'.off + k, none⟩).getD undef)[j]? = some u → w.cell? (ad.add j) = some u := by
          intro ad hA3 j u hj
          rcases hA with hA | hA
          · rw [hA] at hA3
            cases hA3
            have hlt := get_lt hj
            simp only [List.length_map, List.length_range] at hlt
            rw [List.getElem?_map, List.getElem?_range hlt] at hj
            simp only [Option.map_some, Option.some.injEq] at hj
            rw [Addr.add_mid]
            have hmul : len * p'.n ≤ p'.cap * p'.n := Nat.mul_le_mul_right _ hl
            obtain ⟨q, hq⟩ := Option.isSome_iff_exists.1 (ok.there j (by omega))
            rw [hq] at hj ⊢
            simpa using hj
          · rw [hA.1] at hA3; cases hA3
        obtain ⟨cap', us, hge, hus, hrun⟩ := run_append_out (P := P) (ty := o.type) hu h4 h5 h8 h7 hN hN2 hl2 hl (by simp) HN.len hold hnew room hby
        have H := HO.append HN
        have hlen : (rows.take len ++ more).length = len + more.length := by rw [List.length_append, htl]
        have hmul : (len + more.length) * p'.n ≤ cap' * p'.n := Nat.mul_le_mul_right _ hge
        obtain ⟨G', hle, _, hob, hI, hg⟩ := R.drew.inv.newObj (rows.take len ++ more) p'.n cap' (((List.range (len * p'.n)).map fun k => (w.cell? ⟨p'.b, p'.off + k, none⟩).getD undef) ++ news ++ us).toArray el (by rw [hlen]; exact hge)
          (by rw [Nat.add_mul] at hmul; simp only [List.size_toArray, List.length_append, List.length_map, List.length_range, HN.len, hus, Nat.sub_mul, Nat.add_mul]; omega) H.wide H.cell (fun i row j x hi hj => by simpa using H.pad us i row j x hi hj)
        refine fin _ _ _ _ ev ev2 hrun ?_
        have hnn : h.obj G.nid = none := sub_none R.sub (R.inv.none_of_ge (Nat.le_refl _))
        have R' := (R.drew.newH hle hI hg).less (e' := e) (L' := L) (h' := (h.del id).put G.nid (rows.take len ++ more)) (fun _ _ x => x) (fun _ _ x => x)
          ⟨fun i r x => by
            simp only [Heap.put, Heap.del] at x ⊢
            split at x
            · rename_i e1; rw [if_pos e1]; exact x
            · rename_i e1
              rw [if_neg e1]
              split at x
              · cases x
              · exact x, fun t x => x⟩
        have hr : R0 G' (.rs p'.n G.nid (len + more.length)) (.slice (some ⟨w.heap.size, 0, none⟩) (len + more.length) cap') := R0.rs (p := ⟨w.heap.size, 0, p'.n, cap'⟩) hob hge (.inl rfl)
        exact hn _ _ _ _ _ _ _ _ (R'.put hdn (.inr hr)) (hv G.nid (.inr hnn))
    · exact hv.elim
  · exact hv.elim

def isNat (v : Option Value) (dflt k : Nat) : Prop :=
  match v with
  | none => k = dflt
  | some v => ∃ kd, v = .int kd (k : Int)
theorem run_bounds {lo hi mx : Option Value} {len cap l k M : Nat} (hlo : isNat lo 0 l) (hhi : isNat hi len k) (hmx : isNat mx cap M) (hm : mx ≠ none → hi ≠ none) (h1 : l ≤ k) (h2 : k ≤ M) (h3 : M ≤ cap) :
    (Instr.sliceBounds true len cap lo hi mx).run P w = .ok (l, k, M) w := by
  cases mx with
  | none =>
    simp only [isNat] at hmx
    subst hmx
    cases hi with
    | none =>
      simp only [isNat] at hhi
      subst hhi
      cases lo with
      | none => simp only [isNat] at hlo; subst hlo; simp [Instr.sliceBounds]
      | some v => obtain ⟨kd, rfl⟩ := hlo; simp [Instr.sliceBounds, Instr.sliceBound, asIntOf, h1]
    | some v =>
      obtain ⟨kd, rfl⟩ := hhi
      cases lo with
      | none => simp only [isNat] at hlo; subst hlo; simp [Instr.sliceBounds, Instr.sliceBound, asIntOf, h2]
      | some v => obtain ⟨kd, rfl⟩ := hlo; simp [Instr.sliceBounds, Instr.sliceBound, asIntOf, h1, h2]
  | some v =>
    obtain ⟨kd, rfl⟩ := hmx
    cases hi with
    | none => exact absurd rfl (hm (by simp))
    | some v =>
      obtain ⟨kd, rfl⟩ := hhi
      cases lo with
      | none => simp only [isNat] at hlo; subst hlo; simp [Instr.sliceBounds, Instr.sliceBound, asIntOf, h2, h3]
      | some v => obtain ⟨kd, rfl⟩ := hlo; simp [Instr.sliceBounds, Instr.sliceBound, asIntOf, h1, h2, h3]

def chkOpt : Option Operand → Option Opd → Bool
  | none, none => true
  | some o, some x => chkX o x
  | _, _ => false
theorem bound_sound (R : RelG β N e L h a w G lam hh) {o : Option Operand} {x : Option Opd} (hc : chkOpt o x = true) {d : Nat} {k : Int} (hk : boundV e d x = some k) (h0 : 0 ≤ k) : isNat (o.map a.eval) d k.toNat := by
  unfold chkOpt at hc
  split at hc
  · simp only [boundV] at hk
    cases hk
    simp [isNat]
  · rename_i o' x'
    simp only [boundV] at hk
    split at hk
    · rename_i kd k' hx
      cases hk
      have := ((chkX_sound R hc hx).r0 (by simp)).int_inv
      refine ⟨kd, ?_⟩
      rw [this, Int.toNat_of_nonneg h0]
    · cases hk
  · cases hc

def chkSlc (P : Program) (n : Nat) (o : Oper) (d m : Nat) (x : Opd) (lo hi mx : Option Opd) : Bool :=
  match o.op with
  | .slice t x' lo' hi' mx' => (match elem? P t with
    | some el => chkD n o d && chkX x' x && sizeOf? P el == some m && chkOpt lo' lo && chkOpt hi' hi && chkOpt mx' mx && (mx'.isNone || hi'.isSome)
    | none => false)
  | _ => false

/-- A slice of a slice by value. -/
theorem R0.sub {m : Nat} {rows : Rows} {tag : Tag} {A : Option Addr} {cap l k M : Nat} (hr : R0 G (.vs m rows tag) (.slice A rows.length cap)) (h1 : l ≤ k) (h2 : k ≤ rows.length) (h3 : k ≤ M) (h4 : M ≤ cap) {tag' : Tag}
    (ht' : (M = cap ∧ k = rows.length ∧ tag' = tag) ∨ tag' = .ro ∨ (M = k ∧ tag' = .full)) :
    R0 G (.vs m ((rows.take k).drop l) tag') (.slice (if M = l then A else A.map (·.add (l * m))) (k - l) (M - l)) := by
  obtain ⟨A', cap', b, base, ev, hl, hA, hN, ht, hw, vals, hc, him, hrr⟩ := hr.vs_inv
  cases ev
  have hlen : ((rows.take k).drop l).length = k - l := by simp; omega
  have get : ∀ i row, ((rows.take k).drop l)[i]? = some row → rows[l + i]? = some row := by
    intro i row hi
    rw [List.getElem?_drop, List.getElem?_take] at hi
    split at hi
    · exact hi
    · cases hi
  have eb : ∀ i j, base + l * m + i * m + j = base + (l + i) * m + j := by intro i j; rw [Nat.add_mul]; omega
  have hadd : l < M → (0 < cap → A = some ⟨b, base, none⟩) → (if M = l then A else A.map (·.add (l * m))) = some ⟨b, base + l * m, none⟩ := by
    intro hlM hAc
    rw [if_neg (by omega), hAc (by omega)]
    simp [Addr.add_mid]
  have hAne : l < k → A = some ⟨b, base, none⟩ := fun hlk => hA (by intro hc; rw [hc] at h2; simp at h2; omega)
  have key : R0 G (.vs m ((rows.take k).drop l) tag') (.slice (if M = l then A else A.map (·.add (l * m))) ((rows.take k).drop l).length (M - l)) := by
    refine R0.vs (b := b) (base := base + l * m) (fun i j => vals (l + i) j) (by rw [hlen]; omega) (fun hne => ?_) (fun hn => ?_) ?_ (fun i row hi => hw _ _ (get _ _ hi)) (fun i row j x hi hj => hc _ _ _ _ (get _ _ hi) hj)
      (fun i row j x hi hj => by rw [eb]; exact him _ _ _ _ (get _ _ hi) hj) (fun i row j x hi hj => hrr _ _ _ _ (get _ _ hi) hj)
    · have : l < k := by
        rcases Nat.lt_or_ge l k with h | h
        · exact h
        · exact absurd (List.eq_nil_of_length_eq_zero (by rw [hlen]; omega)) hne
      exact hadd (by omega) (fun _ => hAne this)
    · by_cases hMl : M = l
      · omega
      · rw [if_neg hMl] at hn
        cases A with
        | none => have := hN rfl; omega
        | some ad => simp at hn
    · rw [hlen]
      rcases ht' with ⟨rfl, hk, rfl⟩ | rfl | ⟨rfl, rfl⟩
      · cases tag' with
        | ro => trivial
        | full => show M - l = k - l; have : M = rows.length := ht; omega
        | own t =>
          obtain ⟨q1, q2⟩ := ht
          refine ⟨fun hpos => hadd (by omega) q1, ?_⟩
          rw [q2]
          subst hk
          have e1 : base + l * m + (rows.length - l) * m = base + rows.length * m := by rw [Nat.add_assoc, ← Nat.add_mul]; congr 2; omega
          rw [e1]
          congr 2
          omega
      · trivial
      · rfl
  rw [hlen] at key
  exact key

theorem snd_slc {o : Oper} {d m : Nat} {x : Opd} {lo hi mx : Option Opd} (hc : chkSlc P N o d m x lo hi mx = true) : Snd P β N o (vop P (.slc d m x lo hi mx)) := by
  intro K e L h a w G lam hh next Q R hv _ hn
  unfold chkSlc at hc
  split at hc
  case h_2 => cases hc
  rename_i t x' lo' hi' mx' ho
  split at hc
  case h_2 => cases hc
  rename_i el hel
  simp only [Bool.and_eq_true, beq_iff_eq] at hc
  obtain ⟨⟨⟨⟨⟨⟨h1, h2⟩, h3⟩, h4⟩, h5⟩, h6⟩, h7⟩ := hc
  obtain ⟨hd, hdn⟩ := chkD_sound h1
  have hu := elem?_eq hel
  have hmh : mx'.map a.eval ≠ none → hi'.map a.eval ≠ none := by
    intro q
    cases hi' <;> cases mx' <;> simp_all
  have fin : ∀ (A : Option Addr) (len cap l k M : Nat), a.eval x' = .slice A len cap → isNat (lo'.map a.eval) 0 l → isNat (hi'.map a.eval) len k → isNat (mx'.map a.eval) cap M → l ≤ k → k ≤ M → M ≤ cap →
      next (a.put (some d) (.slice (if M = l then A else A.map (·.add (l * m))) (k - l) (M - l))) w → o.wp P a w next Q := by
    intro A len cap l k M ev i1 i2 i3 q1 q2 q3 hk
    refine wp_value (v := .slice (if M = l then A else A.map (·.add (l * m))) (k - l) (M - l)) (w' := w) ?_ (by rw [hd]; exact hk)
    simp only [execOp, ho, ev, Instr.sliceAt, Instr.slice, Sem.run_bind, run_underlying hu, Result.andThen_ok, run_bounds i1 i2 i3 hmh q1 q2 q3, run_sizeOf h3, Sem.run_pure]
  simp only [vop, chkP_iff] at hv
  split at hv
  · rename_i n1 rows tag hx
    have rx := (chkX_sound R h2 hx).r0 (by simp)
    obtain ⟨A, cap, b, base, ev, hl, hA, hN, ht, _⟩ := rx.vs_inv
    rw [ev] at rx
    split at hv
    · rename_i l k hlo hhi
      obtain ⟨hn1, q0, q1, q2, hv⟩ := hv
      subst hn1
      have i1 := bound_sound R h4 hlo q0
      have i2 := bound_sound R h5 hhi (by omega)
      split at hv
      · have hmx0 : mx' = none := by cases mx' with | none => rfl | some _ => simp [chkOpt] at h6
        refine fin A rows.length cap l.toNat k.toNat cap ev i1 i2 (by rw [hmx0]; rfl) (by omega) (by omega) (Nat.le_refl _) ?_
        refine hn _ _ _ _ _ _ _ _ (R.put hdn (.inr ?_)) hv
        refine R0.sub rx (by omega) (by omega) (by omega) (Nat.le_refl _) ?_
        simp only [slcTag]
        by_cases hkl : k.toNat = rows.length
        · exact .inl ⟨by trivial, hkl, by simp [hkl]⟩
        · exact .inr (.inl (by simp [hkl]))
      · rename_i mo
        split at hv
        · rename_i kd M hM
          obtain ⟨q3, q4, hv⟩ := hv
          have i3 := bound_sound R h6 (d := cap) (k := M) (by simp only [boundV, hM]) (by omega)
          refine fin A rows.length cap l.toNat k.toNat M.toNat ev i1 i2 i3 (by omega) (by omega) (by omega) ?_
          refine hn _ _ _ _ _ _ _ _ (R.put hdn (.inr ?_)) hv
          refine R0.sub rx (by omega) (by omega) (by omega) (by omega) ?_
          simp only [slcTag, if_true]
          by_cases hkl : M.toNat = k.toNat
          · exact .inr (.inr ⟨hkl, by simp [hkl]⟩)
          · exact .inr (.inl (by simp [hkl]))
        · exact hv.elim
    · exact hv.elim
  · rename_i n1 id len hx
    have rx := (chkX_sound R h2 hx).r0 (by simp)
    obtain ⟨A, p, ev, hp, hpn, hl, hA⟩ := rx.rs_inv
    split at hv
    · rename_i k hhi
      obtain ⟨hn1, q0, q1, hv⟩ := hv
      subst hn1
      subst hpn
      have i2 := bound_sound R h5 hhi q0
      have hmx0 : mx' = none := by cases mx' with | none => rfl | some _ => simp [chkOpt] at h6
      have hlo0 : lo' = none := by cases lo' with | none => rfl | some _ => simp [chkOpt] at h4
      refine fin A len p.cap 0 k.toNat p.cap ev (by rw [hlo0]; rfl) i2 (by rw [hmx0]; rfl) (by omega) (by omega) (Nat.le_refl _) ?_
      refine hn _ _ _ _ _ _ _ _ (R.put hdn (.inr ?_)) hv
      have e1 : (if p.cap = 0 then A else A.map (·.add (0 * p.n))) = A := by
        split
        · rfl
        · cases A <;> simp [Addr.add]
      rw [e1, Nat.sub_zero, Nat.sub_zero]
      exact .rs hp (by omega) hA
    · exact hv.elim
  · exact hv.elim

end VL
