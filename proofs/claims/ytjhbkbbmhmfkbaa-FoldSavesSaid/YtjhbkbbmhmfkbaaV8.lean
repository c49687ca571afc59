/- The V layer, part 8: regions that draw their order: operations that change places. -/
import Derived.Test.YtjhbkbbmhmfkbaaV7
namespace VL
open Go
variable {P : Program}

def Env.upd (e : Env) (d : Nat) (r : Option IV) : Env := fun t => if t = d then r else e t
theorem Env.upd_comm (e : Env) {d d' : Nat} (r r' : Option IV) (h : d ≠ d') : (e.upd d r).upd d' r' = (e.upd d' r').upd d r := by
  funext t
  simp only [Env.upd]
  by_cases h1 : t = d' <;> by_cases h2 : t = d
  · exact absurd (h2.symm.trans h1) h
  · rw [if_pos h1, if_neg h2, if_pos h1]
  · rw [if_neg h1, if_pos h2, if_pos h2]
  · rw [if_neg h1, if_neg h2, if_neg h2, if_neg h1]
theorem Env.put_same {e : Env} {t : Nat} {v : IV} (h : e t = some v) : e.put t v = e := by
  funext t'
  simp only [Env.put]
  split
  · rename_i e1; rw [e1, h]
  · rfl

/-- An operation that reads and gives a value to a slot. -/
def Rd (V : Kont → Kont) (R : List Nat) (d : Nat) (nL nH : Bool) : Prop :=
  ∀ (K : Kont) (e : Env) (L : Loc) (h : Heap), V K e L h → ∃ r, K (e.upd d r) L h ∧
    ∀ (K' : Kont) (e' : Env) (L' : Loc) (h' : Heap), (∀ t, t ∈ R → e' t = e t) → (nL = true → L' = L) → (nH = true → ∀ i r, h.obj i = some r → h'.obj i = some r) → K' (e'.upd d r) L' h' → V K' e' L' h'

/-- An operation that changes what it says alone. -/
structure Good (V : Kont → Kont) (R : List Nat) (D : Option Nat) (kL kH : Bool) : Prop where
  mono : ∀ (K K' : Kont) (e : Env) (L : Loc) (h : Heap), (∀ e' L' h', K e' L' h' → K' e' L' h') → V K e L h → V K' e L h
  frame : ∀ (K : Kont) (e : Env) (L : Loc) (h : Heap) (d : Nat) (r : Option IV), d ∉ R → D ≠ some d → V K (e.upd d r) L h → V (fun e' L' h' => K (e'.upd d r) L' h') e L h
  eff : ∀ (K : Kont) (e : Env) (L : Loc) (h : Heap), V K e L h →
    V (fun e' L' h' => (∀ t, D ≠ some t → e' t = e t) ∧ (kL = true → L' = L) ∧ (kH = true → ∀ i r, h.obj i = some r → h'.obj i = some r) ∧ K e' L' h') e L h

theorem Rd.good {V : Kont → Kont} {R : List Nat} {d : Nat} {nL nH : Bool} (H : Rd V R d nL nH) (kL kH : Bool) : Good V R (some d) kL kH where
  mono K K' e L h hk hv := by
    obtain ⟨r, h1, h2⟩ := H K e L h hv
    exact h2 K' e L h (fun _ _ => rfl) (fun _ => rfl) (fun _ _ _ x => x) (hk _ _ _ h1)
  frame K e L h d' r' hd hD hv := by
    obtain ⟨r, h1, h2⟩ := H K _ L h hv
    have hne : d' ≠ d := fun hc => hD (by rw [hc])
    refine h2 _ e L h (fun t ht => ?_) (fun _ => rfl) (fun _ _ _ x => x) ?_
    · simp only [Env.upd]; rw [if_neg (fun hc => hd (by rw [← hc]; exact ht))]
    · rw [Env.upd_comm _ _ _ hne.symm]; exact h1
  eff K e L h hv := by
    obtain ⟨r, h1, h2⟩ := H K e L h hv
    refine h2 _ e L h (fun _ _ => rfl) (fun _ => rfl) (fun _ _ _ x => x) ⟨fun t ht => ?_, fun _ => rfl, fun _ _ _ x => x, h1⟩
    simp only [Env.upd]; rw [if_neg (fun hc => ht (by rw [hc]))]

theorem swap_rd {X W : Kont → Kont} {R R' : List Nat} {d : Nat} {D : Option Nat} {nL nH kL kH : Bool} (hX : Rd X R d nL nH) (hW : Good W R' D kL kH) (h1 : d ∉ R') (h2 : D ≠ some d) (h3 : ∀ t, D = some t → t ∉ R)
    (h4 : nL = true → kL = true) (h5 : nH = true → kH = true) {K : Kont} {e : Env} {L : Loc} {h : Heap} (hv : X (W K) e L h) : W (X K) e L h := by
  obtain ⟨r, q1, q2⟩ := hX _ e L h hv
  have q3 := hW.eff _ e L h (hW.frame K e L h d r h1 h2 q1)
  refine hW.mono _ _ e L h (fun e' L' h' ⟨a1, a2, a3, a4⟩ => ?_) q3
  exact q2 K e' L' h' (fun t ht => a1 t (fun hc => h3 t hc ht)) (fun q => a2 (h4 q)) (fun q => a3 (h5 q)) a4

/-! ### what operations read -/
def Opd.rd : Opd → List Nat
  | .t n => [n]
  | .c _ => []
def Opd.rdO : Option Opd → List Nat
  | some x => x.rd
  | none => []
def VOp.reads : VOp → List Nat
  | .mov _ x | .not _ x | .nilchk _ x | .fieldA _ x _ | .load1 _ _ x | .loadN _ _ _ x | .len _ x | .box _ x | .boxH _ x | .ext _ x _ => x.rd
  | .pick _ c a b => c.rd ++ a.rd ++ b.rd
  | .bin _ _ x y | .eqv _ _ _ x y | .idxA _ _ x y | .store1 x y | .storeN _ x y | .app _ _ _ x y | .appR _ _ _ x y | .mm _ _ x y => x.rd ++ y.rd
  | .alloc _ _ | .allocH _ _ => []
  | .build _ _ ps => ps.flatMap fun p => p.2.2.rd
  | .bslice _ _ _ _ ps => ps.flatMap fun p => p.2.rd
  | .slc _ _ x lo hi mx => x.rd ++ Opd.rdO lo ++ Opd.rdO hi ++ Opd.rdO mx
  | .mkF _ _ caps => caps.flatMap Opd.rd
  | .call _ _ _ args => args.flatMap Opd.rd
  | .callv _ _ x args => x.rd ++ args.flatMap Opd.rd
  | .guard t _ o => t :: o.reads
  | .nilR _ _ | .nilO _ _ | .bad _ => []
  | .frz _ _ x | .eqNil _ _ x | .mkI _ _ x | .cap _ x | .un _ _ x | .cvi _ _ x | .mkS _ _ _ _ x => x.rd
  | .eqS _ _ _ x y | .appZ _ _ _ _ x y | .idxP _ _ _ x y | .idxV _ _ x y => x.rd ++ y.rd

theorem get_congr {e e' : Env} {x : Opd} (h : ∀ t, t ∈ x.rd → e' t = e t) : x.get e' = x.get e := by
  cases x with
  | t n => exact h n (by simp [Opd.rd])
  | c v => rfl
theorem args_congr {e e' : Env} : ∀ {xs : List Opd}, (∀ t, t ∈ xs.flatMap Opd.rd → e' t = e t) → getArgs e' xs = getArgs e xs
  | [], _ => rfl
  | x :: xs, h => by
    simp only [getArgs]
    rw [get_congr (fun t ht => h t (by simp [ht])), args_congr (fun t ht => h t (by simp only [List.flatMap_cons, List.mem_append]; exact .inr ht))]
theorem fill_congr {e e' : Env} : ∀ {ps : List (Nat × Nat × Opd)} {z : List IV}, (∀ t, t ∈ ps.flatMap (fun p => p.2.2.rd) → e' t = e t) → fillV e' z ps = fillV e z ps
  | [], _, _ => rfl
  | (off, n, x) :: ps, z, h => by
    have h1 : x.get e' = x.get e := get_congr (fun t ht => h t (by simp [ht]))
    have h2 : ∀ z, fillV e' z ps = fillV e z ps := fun z => fill_congr (fun t ht => h t (by simp only [List.flatMap_cons, List.mem_append]; exact .inr ht))
    simp only [fillV, h1, h2]
theorem rows_congr {e e' : Env} {n : Nat} : ∀ {ps : List (Nat × Opd)} {z : Rows}, (∀ t, t ∈ ps.flatMap (fun p => p.2.rd) → e' t = e t) → rowsV e' n z ps = rowsV e n z ps
  | [], _, _ => rfl
  | (i, x) :: ps, z, h => by
    have h1 : x.get e' = x.get e := get_congr (fun t ht => h t (by simp [ht]))
    have h2 : ∀ z, rowsV e' n z ps = rowsV e n z ps := fun z => rows_congr (fun t ht => h t (by simp only [List.flatMap_cons, List.mem_append]; exact .inr ht))
    simp only [rowsV, h1, h2]
theorem bound_congr {e e' : Env} {x : Option Opd} {d : Nat} (h : ∀ t, t ∈ Opd.rdO x → e' t = e t) : boundV e' d x = boundV e d x := by
  cases x with
  | none => rfl
  | some x => simp only [boundV]; rw [get_congr h]

/-! ### readers -/
theorem rd_mov {d : Nat} {x : Opd} : Rd (vop P (.mov d x)) (VOp.mov d x).reads d false false := by
  intro K e L h hv
  simp only [vop] at hv
  split at hv
  · rename_i v hx
    refine ⟨some v, hv, fun K' e' L' h' he _ _ hk => ?_⟩
    simp only [vop]
    rw [get_congr he, hx]; exact hk
  · exact hv.elim
theorem rd_pick {d : Nat} {c x y : Opd} : Rd (vop P (.pick d c x y)) (VOp.pick d c x y).reads d false false := by
  intro K e L h hv
  simp only [vop, br_iff] at hv
  split at hv
  · rename_i t ht
    have key : ∃ r, K (e.upd d (some r)) L h ∧ (if t then x.get e = some r else y.get e = some r) := by
      cases t with
      | true =>
        have := hv.1 rfl
        split at this
        · rename_i v hx; exact ⟨v, this, hx⟩
        · exact this.elim
      | false =>
        have := hv.2 rfl
        split at this
        · rename_i v hx; exact ⟨v, this, hx⟩
        · exact this.elim
    obtain ⟨r, q1, q2⟩ := key
    refine ⟨some r, q1, fun K' e' L' h' he _ _ hk => ?_⟩
    have e1 : c.get e' = c.get e := get_congr (fun t ht => he t (by simp [VOp.reads, ht]))
    have e2 : x.get e' = x.get e := get_congr (fun t ht => he t (by simp [VOp.reads, ht]))
    have e3 : y.get e' = y.get e := get_congr (fun t ht => he t (by simp [VOp.reads, ht]))
    simp only [vop, br_iff]
    rw [e1, e2, e3, ht]
    cases t with
    | true => exact ⟨fun _ => by rw [if_pos rfl] at q2; rw [q2]; exact hk, fun q => by cases q⟩
    | false => exact ⟨fun q => by (cases q), fun _ => by rw [if_neg (by simp)] at q2; rw [q2]; exact hk⟩
  · exact hv.elim
theorem binI_ex {op : BinOp} {k : IntKind} {a b : Int} {K : IV → Prop} (h : binI op k a b K) : ∃ r, K r ∧ ∀ K' : IV → Prop, K' r → binI op k a b K' := by
  cases op <;> simp only [binI] at h ⊢ <;> first
    | exact h.elim
    | exact ovf_ex h
    | exact (let ⟨r, q1, q2⟩ := ovf_ex h.2; ⟨r, q1, fun K' q => ⟨h.1, q2 K' q⟩⟩)
    | exact ⟨_, h, fun _ q => q⟩
    | exact ⟨_, h.2, fun _ q => ⟨h.1, q⟩⟩
theorem binV_ex {op : BinOp} {x y : IV} {K : IV → Prop} (h : binV op x y K) : ∃ r, K r ∧ ∀ K' : IV → Prop, K' r → binV op x y K' := by
  unfold binV at h
  split at h
  · rename_i k a k' b
    split at h
    · exact ⟨_, h.2, fun _ q => ⟨h.1, q⟩⟩
    · exact ⟨_, h.2, fun _ q => ⟨h.1, q⟩⟩
    · rename_i _ h1 h2
      rw [chkP_iff] at h
      obtain ⟨r, q1, q2⟩ := binI_ex h.2
      refine ⟨r, q1, fun K' q => ?_⟩
      cases op <;> first | exact chkP_iff.2 ⟨h.1, q2 K' q⟩ | exact (h1 rfl).elim | exact (h2 rfl).elim
  · exact h.elim
theorem rd_bin {d : Nat} {op : BinOp} {x y : Opd} : Rd (vop P (.bin d op x y)) (VOp.bin d op x y).reads d false false := by
  intro K e L h hv
  simp only [vop] at hv
  split at hv
  · rename_i u v hx hy
    obtain ⟨r, q1, q2⟩ := binV_ex hv
    refine ⟨some r, q1, fun K' e' L' h' he _ _ hk => ?_⟩
    have e1 : x.get e' = x.get e := get_congr (fun t ht => he t (by simp [VOp.reads, ht]))
    have e2 : y.get e' = y.get e := get_congr (fun t ht => he t (by simp [VOp.reads, ht]))
    simp only [vop]
    rw [e1, e2, hx, hy]; exact q2 (fun v => K' (e'.put d v) L' h') hk
  · exact hv.elim
theorem rd_eqv {d k : Nat} {neg : Bool} {x y : Opd} : Rd (vop P (.eqv d k neg x y)) (VOp.eqv d k neg x y).reads d false false := by
  intro K e L h hv
  simp only [vop] at hv
  split at hv
  · rename_i u v hx hy
    split at hv
    · rename_i t ht
      refine ⟨some _, hv, fun K' e' L' h' he _ _ hk => ?_⟩
      have e1 : x.get e' = x.get e := get_congr (fun t ht => he t (by simp [VOp.reads, ht]))
      have e2 : y.get e' = y.get e := get_congr (fun t ht => he t (by simp [VOp.reads, ht]))
      simp only [vop]
      rw [e1, e2, hx, hy]
      simp only [ht]; exact hk
    · exact hv.elim
  · exact hv.elim
theorem rd_not {d : Nat} {x : Opd} : Rd (vop P (.not d x)) (VOp.not d x).reads d false false := by
  intro K e L h hv
  simp only [vop] at hv
  split at hv
  · rename_i b hx
    refine ⟨some _, hv, fun K' e' L' h' he _ _ hk => ?_⟩
    simp only [vop]
    rw [get_congr he, hx]; exact hk
  · exact hv.elim
theorem rd_nil {d : Nat} {x : Opd} : Rd (vop P (.nilchk d x)) (VOp.nilchk d x).reads d false false := by
  intro K e L h hv
  simp only [vop] at hv
  split at hv
  · rename_i hx
    refine ⟨some _, hv, fun K' e' L' h' he _ _ hk => ?_⟩
    simp only [vop]
    rw [get_congr he, hx]; exact hk
  · rename_i hx
    refine ⟨some _, hv, fun K' e' L' h' he _ _ hk => ?_⟩
    simp only [vop]
    rw [get_congr he, hx]; exact hk
  · exact hv.elim
theorem rd_fieldA {d : Nat} {x : Opd} {off : Nat} : Rd (vop P (.fieldA d x off)) (VOp.fieldA d x off).reads d false false := by
  intro K e L h hv
  simp only [vop] at hv
  split at hv
  · rename_i hx
    refine ⟨some _, hv, fun K' e' L' h' he _ _ hk => ?_⟩
    simp only [vop]
    rw [get_congr he, hx]; exact hk
  · rename_i hx
    refine ⟨some _, hv, fun K' e' L' h' he _ _ hk => ?_⟩
    simp only [vop]
    rw [get_congr he, hx]; exact hk
  · rename_i hx
    refine ⟨some _, hv, fun K' e' L' h' he _ _ hk => ?_⟩
    simp only [vop]
    rw [get_congr he, hx]; exact hk
  · exact hv.elim
theorem rd_idxA {d n : Nat} {x i : Opd} : Rd (vop P (.idxA d n x i)) (VOp.idxA d n x i).reads d false false := by
  intro K e L h hv
  have cg : ∀ {e' : Env}, (∀ t, t ∈ (VOp.idxA d n x i).reads → e' t = e t) → x.get e' = x.get e ∧ i.get e' = i.get e :=
    fun he => ⟨get_congr (fun t ht => he t (by simp [VOp.reads, ht])), get_congr (fun t ht => he t (by simp [VOp.reads, ht]))⟩
  simp only [vop, chkP_iff, optK_def] at hv
  split at hv
  · rename_i n' rows tag k q hx hi
    obtain ⟨h1, h2, hv⟩ := hv
    split at hv
    · rename_i row hrow
      refine ⟨some _, hv, fun K' e' L' h' he _ _ hk => ?_⟩
      simp only [vop, chkP_iff, optK_def]
      rw [(cg he).1, (cg he).2, hx, hi]
      simp only [hrow]; exact ⟨h1, h2, hk⟩
    · exact hv.elim
  · rename_i hx hi
    obtain ⟨h1, h2, h3, hv⟩ := hv
    refine ⟨some _, hv, fun K' e' L' h' he _ _ hk => ?_⟩
    simp only [vop, chkP_iff, optK_def]
    rw [(cg he).1, (cg he).2, hx, hi]; exact ⟨h1, h2, h3, hk⟩
  · exact hv.elim
theorem rd_len {d : Nat} {x : Opd} : Rd (vop P (.len d x)) (VOp.len d x).reads d false false := by
  intro K e L h hv
  simp only [vop] at hv
  split at hv
  · rename_i hx
    refine ⟨some _, hv, fun K' e' L' h' he _ _ hk => ?_⟩
    simp only [vop]
    rw [get_congr he, hx]; exact hk
  · rename_i hx
    refine ⟨some _, hv, fun K' e' L' h' he _ _ hk => ?_⟩
    simp only [vop]
    rw [get_congr he, hx]; exact hk
  · exact hv.elim
theorem rd_build {d : Nat} {z : List IV} {ps : List (Nat × Nat × Opd)} : Rd (vop P (.build d z ps)) (VOp.build d z ps).reads d false false := by
  intro K e L h hv
  simp only [vop] at hv
  split at hv
  · rename_i xs hx
    refine ⟨some _, hv, fun K' e' L' h' he _ _ hk => ?_⟩
    simp only [vop]
    rw [fill_congr he, hx]; exact hk
  · exact hv.elim
theorem rd_bslice {d n : Nat} {z : List IV} {len : Nat} {ps : List (Nat × Opd)} : Rd (vop P (.bslice d n z len ps)) (VOp.bslice d n z len ps).reads d false false := by
  intro K e L h hv
  simp only [vop] at hv
  split at hv
  · rename_i xs hx
    refine ⟨some _, hv, fun K' e' L' h' he _ _ hk => ?_⟩
    simp only [vop]
    rw [rows_congr he, hx]; exact hk
  · exact hv.elim
theorem rd_slc {d n : Nat} {x : Opd} {lo hi mx : Option Opd} : Rd (vop P (.slc d n x lo hi mx)) (VOp.slc d n x lo hi mx).reads d false false := by
  intro K e L h hv
  have cg : ∀ {e' : Env}, (∀ t, t ∈ (VOp.slc d n x lo hi mx).reads → e' t = e t) → x.get e' = x.get e ∧ (∀ k, boundV e' k lo = boundV e k lo) ∧ (∀ k, boundV e' k hi = boundV e k hi) ∧ ∀ m, mx = some m → m.get e' = m.get e :=
    fun he => ⟨get_congr (fun t ht => he t (by simp [VOp.reads, ht])), fun k => bound_congr (fun t ht => he t (by simp [VOp.reads, ht])), fun k => bound_congr (fun t ht => he t (by simp [VOp.reads, ht])),
      fun m hm => get_congr (fun t ht => he t (by simp [VOp.reads, hm, Opd.rdO, ht]))⟩
  simp only [vop, chkP_iff] at hv
  split at hv
  · rename_i n1 rows tag hx
    split at hv
    · rename_i l k hlo hhi
      obtain ⟨h1, h2, h3, h4, hv⟩ := hv
      split at hv
      · refine ⟨some _, hv, fun K' e' L' h' he _ _ hk => ?_⟩
        obtain ⟨c1, c2, c3, c4⟩ := cg he
        simp only [vop, chkP_iff]
        rw [c1, hx]
        simp only [c2, c3, hlo, hhi]
        exact ⟨h1, h2, h3, h4, hk⟩
      · rename_i m
        split at hv
        · rename_i kd M hM
          obtain ⟨h5, h6, hv⟩ := hv
          refine ⟨some _, hv, fun K' e' L' h' he _ _ hk => ?_⟩
          obtain ⟨c1, c2, c3, c4⟩ := cg he
          simp only [vop, chkP_iff]
          rw [c1, hx]
          simp only [c2, c3, hlo, hhi, c4 m rfl, hM]
          exact ⟨h1, h2, h3, h4, h5, h6, hk⟩
        · exact hv.elim
    · exact hv.elim
  · rename_i n1 id len hx
    split at hv
    · rename_i k hhi
      obtain ⟨h1, h2, h3, hv⟩ := hv
      refine ⟨some _, hv, fun K' e' L' h' he _ _ hk => ?_⟩
      obtain ⟨c1, c2, c3, c4⟩ := cg he
      simp only [vop, chkP_iff]
      rw [c1, hx]
      simp only [c3, hhi]
      exact ⟨h1, h2, h3, hk⟩
    · exact hv.elim
  · exact hv.elim
theorem rd_mm {d : Nat} {isMax : Bool} {x y : Opd} : Rd (vop P (.mm d isMax x y)) (VOp.mm d isMax x y).reads d false false := by
  intro K e L h hv
  simp only [vop] at hv
  split at hv
  · rename_i k a k' b hx hy
    refine ⟨some (.int k (if isMax then max a b else min a b)), ?_, fun K' e' L' h' he _ _ hk => ?_⟩
    · cases isMax <;> exact hv
    have e1 : x.get e' = x.get e := get_congr (fun t ht => he t (by simp [VOp.reads, ht]))
    have e2 : y.get e' = y.get e := get_congr (fun t ht => he t (by simp [VOp.reads, ht]))
    simp only [vop]
    rw [e1, e2, hx, hy]
    cases isMax <;> exact hk
  · exact hv.elim
theorem rd_ext {d : Nat} {x : Opd} {i : Nat} : Rd (vop P (.ext d x i)) (VOp.ext d x i).reads d false false := by
  intro K e L h hv
  simp only [vop, optK_def] at hv
  split at hv
  · rename_i xs hx
    split at hv
    · rename_i v hv2
      refine ⟨some _, hv, fun K' e' L' h' he _ _ hk => ?_⟩
      simp only [vop, optK_def]
      rw [get_congr he, hx]
      simp only [hv2]; exact hk
    · exact hv.elim
  · exact hv.elim
theorem rd_mkF {d f : Nat} {caps : List Opd} : Rd (vop P (.mkF d f caps)) (VOp.mkF d f caps).reads d false false := by
  intro K e L h hv
  simp only [vop, chkP_iff] at hv
  split at hv
  · rename_i vs hx
    refine ⟨some _, hv.2, fun K' e' L' h' he _ _ hk => ?_⟩
    simp only [vop, chkP_iff]
    rw [args_congr he, hx]; exact ⟨hv.1, hk⟩
  · exact hv.elim
theorem getRow_ex {l : Bool} {L : Loc} {h : Heap} {p : IV} (hl : locP l p) {KK : List IV → Nat → Prop} (hk : getRow L h p KK) : ∃ row o, KK row o ∧
    ∀ (L' : Loc) (h' : Heap) (KK' : List IV → Nat → Prop), L' = L → ((!l) = true → ∀ i r, h.obj i = some r → h'.obj i = some r) → KK' row o → getRow L' h' p KK' := by
  rw [getRow_def] at hk
  split at hk
  · exact ⟨_, _, hk, fun L' h' KK' _ _ q => q⟩
  · split at hk
    · rename_i row hrow
      refine ⟨_, _, hk, fun L' h' KK' hL _ q => ?_⟩
      subst hL
      rw [getRow_def]; simp only [hrow]; exact q
    · exact hk.elim
  · split at hk
    · rename_i rows hrows
      split at hk
      · rename_i row hrow
        refine ⟨_, _, hk, fun L' h' KK' _ hh q => ?_⟩
        cases l with
        | true => exact hl.elim
        | false =>
          rw [getRow_def]; simp only [hh rfl _ _ hrows, hrow]; exact q
      · exact hk.elim
    · exact hk.elim
  · exact hk.elim
theorem rd_load1 {l : Bool} {d : Nat} {x : Opd} : Rd (vop P (.load1 l d x)) (VOp.load1 l d x).reads d true (!l) := by
  intro K e L h hv
  simp only [vop, chkP_iff, optK_def] at hv
  split at hv
  · rename_i p hx
    obtain ⟨hl, hv⟩ := hv
    obtain ⟨row, o, q1, q2⟩ := getRow_ex hl hv
    split at q1
    · rename_i v hr
      refine ⟨some _, q1, fun K' e' L' h' he hL hH hk => ?_⟩
      simp only [vop, chkP_iff, optK_def]
      rw [get_congr he, hx]
      refine ⟨hl, q2 L' h' _ (hL rfl) hH ?_⟩
      rw [hr]; exact hk
    · exact q1.elim
  · exact hv.elim
theorem rd_loadN {l : Bool} {d n : Nat} {x : Opd} : Rd (vop P (.loadN l d n x)) (VOp.loadN l d n x).reads d true (!l) := by
  intro K e L h hv
  simp only [vop, chkP_iff] at hv
  split at hv
  · rename_i p hx
    obtain ⟨hl, hv⟩ := hv
    obtain ⟨row, o, q1, q2⟩ := getRow_ex hl hv
    refine ⟨some _, q1.2, fun K' e' L' h' he hL hH hk => ?_⟩
    simp only [vop, chkP_iff]
    rw [get_congr he, hx]
    exact ⟨hl, q2 L' h' _ (hL rfl) hH ⟨q1.1, hk⟩⟩
  · exact hv.elim

theorem rd_eqS {d : Nat} {ks : List (Option IntKind)} {neg : Bool} {x y : Opd} : Rd (vop P (.eqS d ks neg x y)) (VOp.eqS d ks neg x y).reads d false false := by
  intro K e L h hv
  simp only [vop] at hv
  split at hv
  · rename_i u v hx hy
    split at hv
    · rename_i t ht
      refine ⟨some _, hv, fun K' e' L' h' he _ _ hk => ?_⟩
      have e1 : x.get e' = x.get e := get_congr (fun t ht => he t (by simp [VOp.reads, ht]))
      have e2 : y.get e' = y.get e := get_congr (fun t ht => he t (by simp [VOp.reads, ht]))
      simp only [vop]
      rw [e1, e2, hx, hy]
      simp only [ht]; exact hk
    · exact hv.elim
  · exact hv.elim
theorem rd_mkI {d : Nat} {t : TypeId} {x : Opd} : Rd (vop P (.mkI d t x)) (VOp.mkI d t x).reads d false false := by
  intro K e L h hv
  simp only [vop, chkP_iff] at hv
  split at hv
  · rename_i v hx
    refine ⟨some _, hv.2, fun K' e' L' h' he _ _ hk => ?_⟩
    simp only [vop, chkP_iff]
    rw [get_congr he, hx]; exact ⟨hv.1, hk⟩
  · exact hv.elim
theorem rd_cap {d : Nat} {x : Opd} : Rd (vop P (.cap d x)) (VOp.cap d x).reads d false false := by
  intro K e L h hv
  simp only [vop] at hv
  split at hv
  · rename_i hx
    refine ⟨some _, hv, fun K' e' L' h' he _ _ hk => ?_⟩
    simp only [vop]
    rw [get_congr he, hx]; exact hk
  · exact hv.elim
theorem rd_un {d : Nat} {op : UnOp} {x : Opd} : Rd (vop P (.un d op x)) (VOp.un d op x).reads d false false := by
  intro K e L h hv
  simp only [vop] at hv
  split at hv
  · rename_i k m hx
    split at hv
    · obtain ⟨r, q1, q2⟩ := binI_ex hv
      refine ⟨some r, q1, fun K' e' L' h' he _ _ hk => ?_⟩
      simp only [vop]
      rw [get_congr he, hx]; exact q2 (fun v => K' (e'.put d v) L' h') hk
    · obtain ⟨r, q1, q2⟩ := binI_ex hv
      refine ⟨some r, q1, fun K' e' L' h' he _ _ hk => ?_⟩
      simp only [vop]
      rw [get_congr he, hx]; exact q2 (fun v => K' (e'.put d v) L' h') hk
    · exact hv.elim
  · exact hv.elim
theorem rd_cvi {d : Nat} {k : IntKind} {x : Opd} : Rd (vop P (.cvi d k x)) (VOp.cvi d k x).reads d false false := by
  intro K e L h hv
  simp only [vop] at hv
  split at hv
  · rename_i hx
    obtain ⟨r, q1, q2⟩ := ovf_ex hv
    refine ⟨some r, q1, fun K' e' L' h' he _ _ hk => ?_⟩
    simp only [vop]
    rw [get_congr he, hx]; exact q2 (fun v => K' (e'.put d v) L' h') hk
  · exact hv.elim
theorem rd_idxP {d n len : Nat} {x i : Opd} : Rd (vop P (.idxP d n len x i)) (VOp.idxP d n len x i).reads d false false := by
  intro K e L h hv
  have cg : ∀ {e' : Env}, (∀ t, t ∈ (VOp.idxP d n len x i).reads → e' t = e t) → x.get e' = x.get e ∧ i.get e' = i.get e :=
    fun he => ⟨get_congr (fun t ht => he t (by simp [VOp.reads, ht])), get_congr (fun t ht => he t (by simp [VOp.reads, ht]))⟩
  simp only [vop] at hv
  split at hv
  · rename_i hx hi
    obtain ⟨h1, h2, hv⟩ := hv
    refine ⟨some _, hv, fun K' e' L' h' he _ _ hk => ?_⟩
    simp only [vop]
    rw [(cg he).1, (cg he).2, hx, hi]; exact ⟨h1, h2, hk⟩
  · rename_i hx hi
    obtain ⟨h1, h2, hv⟩ := hv
    refine ⟨some _, hv, fun K' e' L' h' he _ _ hk => ?_⟩
    simp only [vop]
    rw [(cg he).1, (cg he).2, hx, hi]; exact ⟨h1, h2, hk⟩
  · rename_i hx hi
    obtain ⟨h1, h2, hv⟩ := hv
    refine ⟨some _, hv, fun K' e' L' h' he _ _ hk => ?_⟩
    simp only [vop]
    rw [(cg he).1, (cg he).2, hx, hi]; exact ⟨h1, h2, hk⟩
  · exact hv.elim
theorem rd_idxV {d len : Nat} {x i : Opd} : Rd (vop P (.idxV d len x i)) (VOp.idxV d len x i).reads d false false := by
  intro K e L h hv
  have cg : ∀ {e' : Env}, (∀ t, t ∈ (VOp.idxV d len x i).reads → e' t = e t) → x.get e' = x.get e ∧ i.get e' = i.get e :=
    fun he => ⟨get_congr (fun t ht => he t (by simp [VOp.reads, ht])), get_congr (fun t ht => he t (by simp [VOp.reads, ht]))⟩
  simp only [vop, optK_def] at hv
  split at hv
  · rename_i hx hi
    obtain ⟨h1, h2, hv⟩ := hv
    split at hv
    · rename_i v hv2
      refine ⟨some _, hv, fun K' e' L' h' he _ _ hk => ?_⟩
      simp only [vop, optK_def]
      rw [(cg he).1, (cg he).2, hx, hi]
      simp only [hv2]; exact ⟨h1, h2, hk⟩
    · exact hv.elim
  · exact hv.elim

end VL
