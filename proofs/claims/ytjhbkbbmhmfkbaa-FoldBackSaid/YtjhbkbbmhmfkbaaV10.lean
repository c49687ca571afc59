/- The V layer, part 10: regions in any order that the edges allow. -/
import Derived.Test.YtjhbkbbmhmfkbaaV9
namespace VL
open Go
variable {P : Program} {β : Base} {N : Nat}

/-! ### which operations change places -/
def swapRd (x y : VOp) : Bool :=
  match x.rdi, y.god with
  | some (d, nL, nH), some (kL, kH) => !(y.reads.contains d) && !(y.dst == some d) && x.reads.all (fun t => !(y.dst == some t)) && (!nL || kL) && (!nH || kH)
  | _, _ => false
def swapX (x y : VOp) : Bool :=
  match x, y with
  | .call _ d _ args, .allocH d' _ => !((args.flatMap Opd.rd).contains d') && !(d == some d')
  | .allocH d _, .allocH d' _ => !(d == d')
  | .boxH d x, .allocH d' _ => !(d == d') && !(x.rd.contains d')
  | _, _ => false
def swapOK (x y : VOp) : Bool := swapRd x y || swapX x y

theorem Heap.put_comm (h : Heap) {i j : Nat} (x y : Rows) (hne : i ≠ j) : (h.put i x).put j y = (h.put j y).put i x := by
  simp only [Heap.put, Heap.mk.injEq, and_true]
  funext k
  by_cases h1 : k = j <;> by_cases h2 : k = i
  · exact absurd (h2.symm.trans h1) hne
  · rw [if_pos h1, if_neg h2, if_pos h1]
  · rw [if_neg h1, if_pos h2, if_pos h2]
  · rw [if_neg h1, if_neg h2, if_neg h2, if_neg h1]

/-- A call leaves an object alone that it does not know. -/
theorem CallsV.beside {f : FuncId} {args : List IV} {h : Heap} {Q : IV → Heap → Prop} (c : CallsV P f args h Q) {id : Nat} (z : Rows) (hid : h.obj id = none) :
    CallsV P f args (h.put id z) (fun x h' => ∃ h2, h' = h2.put id z ∧ h2.obj id = none ∧ Q x h2) :=
  fun G w hh vs hI hs hA => by
    have hz : hh.obj id = some z := hs.1 id z (by simp [Heap.put])
    have hs' : h.sub hh := ⟨fun i r hi => hs.1 i r (by simp only [Heap.put]; rw [if_neg (fun hc => by rw [hc, hid] at hi; cases hi)]; exact hi), fun t ht => hs.2 t ht⟩
    refine (c G w hh vs hI hs' hA).mono fun e w' he => ?_
    · obtain ⟨v, x, G', hh', h', e1, e2, e3, e4, e5, e6, e7, e8⟩ := he
      obtain ⟨k1, k2⟩ := e5.obj id z hz hid
      refine ⟨v, x, G', hh', h'.put id z, e1, e2, e3, ⟨fun i r hi => ?_, fun t ht => e4.2 t ht⟩, ⟨fun i r a b => ?_, fun t a b => e5.tok t a b⟩, e6, e7, h', rfl, k2, e8⟩
      · simp only [Heap.put] at hi
        split at hi
        · rename_i h1; cases hi; rw [h1]; exact k1
        · exact e4.1 i r hi
      · simp only [Heap.put] at b ⊢
        split at b
        · cases b
        · rename_i h1; rw [if_neg h1]; exact e5.obj i r a b

theorem swap_ok {x y : VOp} (hs : swapOK x y = true) {K : Kont} {e : Env} {L : Loc} {h : Heap} (hv : vop P x (vop P y K) e L h) : vop P y (vop P x K) e L h := by
  unfold swapOK at hs
  rw [Bool.or_eq_true] at hs
  rcases hs with hs | hs
  · unfold swapRd at hs
    split at hs
    · rename_i d nL nH kL kH hx hy
      simp only [Bool.and_eq_true, Bool.not_eq_true', List.all_eq_true, Bool.or_eq_true, beq_eq_false_iff_ne, ne_eq] at hs
      obtain ⟨⟨⟨⟨h1, h2⟩, h3⟩, h4⟩, h5⟩ := hs
      refine swap_rd (rd_op hx) (good_op hy) (fun hc => by simp [hc] at h1) h2 (fun t ht hc => h3 t hc ht) (fun q => ?_) (fun q => ?_) hv
      · rcases h4 with h4 | h4
        · rw [q] at h4; cases h4
        · exact h4
      · rcases h5 with h5 | h5
        · rw [q] at h5; cases h5
        · exact h5
    · cases hs
  · unfold swapX at hs
    split at hs
    · rename_i q d f args d' z
      simp only [Bool.and_eq_true, Bool.not_eq_true', beq_eq_false_iff_ne, ne_eq] at hs
      obtain ⟨h1, h2⟩ := hs
      have e1 : ∀ r, getArgs (e.upd d' r) args = getArgs e args := fun r => args_congr (fun t ht => Env.upd_ne r (fun hc => by subst hc; simp at h1; simp at ht; obtain ⟨a, ha, hb⟩ := ht; exact h1 a ha hb))
      simp only [vop, chkP_iff] at hv ⊢
      intro id hid
      rw [Env.put_upd, e1]
      split at hv
      · refine ⟨hv.1, (hv.2.beside [z] hid).mono fun v h' a => ?_⟩
        obtain ⟨h2', rfl, hn, hq, hk⟩ := a
        refine ⟨?_, ?_⟩
        · cases q with
          | false => trivial
          | true =>
            intro i r hi
            simp only [Heap.put] at hi ⊢
            split
            · rename_i h5; rw [if_pos h5] at hi; exact hi
            · rename_i h5; rw [if_neg h5] at hi; exact hq i r hi
        · have := hk id hn
          rw [Env.putD_upd_comm e _ v h2]; exact this
      · exact hv.elim
    · rename_i d z d' z'
      simp only [Bool.not_eq_true', beq_eq_false_iff_ne, ne_eq] at hs
      simp only [vop] at hv ⊢
      intro id hid id' hid'
      have hne : id' ≠ id := fun hc => by subst hc; simp [Heap.put] at hid'
      have hid2 : h.obj id' = none := by simpa [Heap.put, hne] using hid'
      have := hv id' hid2 id (by simp only [Heap.put]; rw [if_neg (fun hc => hne hc.symm)]; exact hid)
      rw [Heap.put_comm h _ _ hne] at this
      rw [Env.put_upd, Env.put_upd, Env.upd_comm e _ _ (fun hc => hs hc.symm)]; exact this
    · rename_i d x d' z'
      simp only [Bool.and_eq_true, Bool.not_eq_true', beq_eq_false_iff_ne, ne_eq] at hs
      obtain ⟨h1, h2⟩ := hs
      have e1 : ∀ r, x.get (e.upd d' r) = x.get e := fun r => get_congr (fun t ht => Env.upd_ne r (fun hc => by subst hc; simp at h2; exact h2 ht))
      simp only [vop, chkP_iff] at hv ⊢
      intro id hid
      rw [Env.put_upd, e1]
      split at hv
      · refine ⟨hv.1, fun id' hid' => ?_⟩
        have hne : id' ≠ id := fun hc => by subst hc; simp [Heap.put] at hid'
        have hid2 : h.obj id' = none := by simpa [Heap.put, hne] using hid'
        have := hv.2 id' hid2 id (by simp only [Heap.put]; rw [if_neg (fun hc => hne hc.symm)]; exact hid)
        rw [Heap.put_comm h _ _ hne] at this
        rw [Env.put_upd, Env.upd_comm e _ _ (fun hc => h1 hc.symm)]; exact this
      · exact hv.elim
    · cases hs

theorem swap_mono {x : VOp} {y : VOp} (hs : swapOK x y = true) {K K' : Kont} {e : Env} {L : Loc} {h : Heap} (hk : ∀ e L h, K e L h → K' e L h) (hv : vop P x K e L h) : vop P x K' e L h := by
  unfold swapOK at hs
  rw [Bool.or_eq_true] at hs
  rcases hs with hs | hs
  · unfold swapRd at hs
    split at hs
    · rename_i hx hy
      obtain ⟨r, q1, q2⟩ := rd_op hx K e L h hv
      exact q2 _ _ _ _ (fun _ _ => rfl) (fun _ => rfl) (fun _ _ _ q => q) (hk _ _ _ q1)
    · cases hs
  · unfold swapX at hs
    split at hs
    · exact good_call.mono _ _ _ _ _ hk hv
    · exact good_allocH.mono _ _ _ _ _ hk hv
    · exact good_boxH.mono _ _ _ _ _ hk hv
    · cases hs

/-! ### any order -/
abbrev DL := List (Nat × VOp)
theorem vops_app (K : Kont) : ∀ (a b : List VOp) (e : Env) (L : Loc) (h : Heap), vops P (a ++ b) K e L h = vops P a (vops P b K) e L h
  | [], _, _, _, _ => rfl
  | x :: a, b, e, L, h => by
    simp only [List.cons_append, vops]
    congr 1
    funext e L h
    exact vops_app K a b e L h
/-- An operation is brought to the front. -/
theorem vops_pull {K : Kont} {y : Nat × VOp} {l2 : DL} : ∀ {l1 : DL} {e : Env} {L : Loc} {h : Heap}, (∀ x, x ∈ l1 → swapOK x.2 y.2 = true) → vops P ((l1 ++ y :: l2).map (·.2)) K e L h → vop P y.2 (vops P ((l1 ++ l2).map (·.2)) K) e L h
  | [], _, _, _, _, hv => hv
  | x :: l1, e, L, h, hs, hv => by
    simp only [List.cons_append, List.map_cons, vops] at hv ⊢
    refine swap_ok (hs x (by simp)) (swap_mono (hs x (by simp)) (fun e L h hk => ?_) hv)
    exact vops_pull (fun z hz => hs z (by simp [hz])) hk

def isAfter (ops : Array Oper) (i j : Nat) : Bool := match ops[i]? with
  | some o => o.after.toList.any fun e => Region.binds .any e && e.on == j
  | none => false
/-- What goes ahead of each operation, by way of others too. -/
def ahead (ops : Array Oper) : List (List Nat) :=
  ops.toList.foldl (fun M o => M ++ [(o.after.toList.filter (Region.binds .any)).foldl (fun s e => (e.on :: M.getD e.on []).foldl (fun s z => if s.contains z then s else z :: s) s) []]) []
def aheadOK (ops : Array Oper) (M : List (List Nat)) : Bool :=
  (List.range ops.size).all fun i => (M.getD i []).all fun z => match ops[i]? with
    | some o => o.after.toList.any fun e => Region.binds .any e && decide (e.on < i) && (e.on == z || (M.getD e.on []).contains z)
    | none => false
def pairOK (ops : Array Oper) (M : List (List Nat)) (x y : Nat × VOp) : Bool :=
  !(x.1 == y.1) && !(isAfter ops x.1 y.1) && ((M.getD y.1 []).contains x.1 || swapOK x.2 y.2)
def pairsOK (ops : Array Oper) (M : List (List Nat)) : DL → Bool
  | [] => true
  | x :: l => l.all (pairOK ops M x) && pairsOK ops M l
def chkDr (P : Program) (n : Nat) (ops : Array Oper) (l : DL) : Bool :=
  let M := ahead ops
  aheadOK ops M && pairsOK ops M l && (List.range ops.size).all (fun i => l.any fun x => x.1 == i) &&
  l.all (fun x => match ops[x.1]? with
    | some o => chkG P n ops o x.2 && !(isAfter ops x.1 x.1) && o.after.toList.all (fun e => !(Region.binds .any e) || decide (e.on < ops.size))
    | none => false)

structure DInv (ops : Array Oper) (M : List (List Nat)) (l : DL) (listed : Array Bool) : Prop where
  size : listed.size = ops.size
  mem : ∀ i, i < ops.size → (listed.getD i true = false ↔ ∃ v, (i, v) ∈ l)
  lt : ∀ x, x ∈ l → x.1 < ops.size
  pair : l.Pairwise (fun x y => pairOK ops M x y = true)
  down : ∀ i, i < ops.size → listed.getD i true = true → ∀ o, ops[i]? = some o → ∀ e, e ∈ o.after.toList → Region.binds .any e = true → listed.getD e.on false = true

theorem mem_ready {ops : Array Oper} {listed : Array Bool} {i : Nat} : i ∈ Region.ready .any ops listed ↔ i < ops.size ∧ listed.getD i true = false ∧ ∃ o, ops[i]? = some o ∧ ∀ e, e ∈ o.after.toList → Region.binds .any e = true → listed.getD e.on false = true := by
  unfold Region.ready
  simp only [List.mem_filter, List.mem_range, Bool.and_eq_true, Bool.not_eq_true']
  refine and_congr_right fun hi => and_congr_right fun _ => ?_
  rw [Array.getElem?_eq_getElem hi]
  simp only [Option.map_some, Option.getD_some, Option.some.injEq, exists_eq_left', Array.all_eq_true_iff_forall_mem, Bool.or_eq_true, Bool.not_eq_true', Array.mem_toList_iff]
  refine forall_congr' fun e => imp_congr_right fun _ => ?_
  cases Region.binds .any e <;> simp

theorem ahead_listed {ops : Array Oper} {M : List (List Nat)} {l : DL} {listed : Array Bool} (hM : aheadOK ops M = true) (I : DInv ops M l listed) : ∀ (i : Nat), i < ops.size →
    (∀ o, ops[i]? = some o → ∀ e, e ∈ o.after.toList → Region.binds .any e = true → listed.getD e.on false = true) → ∀ z, z ∈ M.getD i [] → listed.getD z false = true := by
  intro i
  induction i using Nat.strongRecOn with
  | _ i ih =>
    intro hi ha z hz
    simp only [aheadOK, List.all_eq_true, List.mem_range] at hM
    have := hM i hi z hz
    rw [Array.getElem?_eq_getElem hi] at this
    simp only [List.any_eq_true, Bool.and_eq_true, decide_eq_true_eq, Bool.or_eq_true, beq_iff_eq] at this
    obtain ⟨e, he, ⟨hb, hlt⟩, hor⟩ := this
    have hl := ha _ (Array.getElem?_eq_getElem hi) e he hb
    rcases hor with hor | hor
    · rw [← hor]; exact hl
    · have hsz : e.on < ops.size := Nat.lt_trans hlt hi
      have hl' : listed.getD e.on true = true := by
        have h5 : e.on < listed.size := by rw [I.size]; exact hsz
        simp only [Array.getD_eq_getD_getElem?, Array.getElem?_eq_getElem h5, Option.getD_some] at hl ⊢
        exact hl
      exact ih e.on hlt hsz (fun o ho => I.down e.on hsz hl' o ho) z (by simpa using hor)

theorem any_sound {ops : Array Oper} {M : List (List Nat)} (hM : aheadOK ops M = true) {Q : Exit → Act → World → Prop} (hQ : LetsAny Q) {K : Kont} (hn : ∀ e' L' h' a' w' G' lam' hh', RelG β N e' L' h' a' w' G' lam' hh' → K e' L' h' → Q .normal a' w') :
    ∀ {fuel : Nat} {l : DL} {listed : Array Bool} {e : Env} {L : Loc} {h : Heap} {a : Act} {w : World} {G : Ghost} {lam : Nat → Option Nat} {hh : Heap}, l.length = fuel → DInv ops M l listed →
      (∀ x, x ∈ l → ∃ o, ops[x.1]? = some o ∧ chkG P N ops o x.2 = true ∧ isAfter ops x.1 x.1 = false ∧ ∀ e, e ∈ o.after.toList → Region.binds .any e = true → e.on < ops.size) →
      RelG β N e L h a w G lam hh → vops P (l.map (·.2)) K e L h → wpAny P .any ops Q fuel listed a w := by
  intro fuel
  induction fuel with
  | zero =>
    intro l listed e L h a w G lam hh hl I hc R hv
    have : l = [] := List.length_eq_zero_iff.1 hl
    subst this
    refine ⟨?_, hn _ _ _ _ _ _ _ _ R hv⟩
    refine List.eq_nil_iff_forall_not_mem.2 fun i hi => ?_
    obtain ⟨h1, h2, _⟩ := mem_ready.1 hi
    obtain ⟨v, hv'⟩ := (I.mem i h1).1 h2
    simp at hv'
  | succ fuel ih =>
    intro l listed e L h a w G lam hh hl I hc R hv
    refine ⟨fun hr => ?_, fun i hi => ?_⟩
    · exfalso
      match l, hl with
      | x :: l', hl =>
        obtain ⟨o, ho, _, h2, h3⟩ := hc x (by simp)
        have : x.1 ∈ Region.ready .any ops listed := by
          refine mem_ready.2 ⟨I.lt x (by simp), (I.mem x.1 (I.lt x (by simp))).2 ⟨x.2, by simp⟩, o, ho, fun ed he hb => ?_⟩
          have hlt := h3 ed he hb
          have h5 : ed.on < listed.size := by rw [I.size]; exact hlt
          cases hg : listed.getD ed.on true with
          | true =>
            simp only [Array.getD_eq_getD_getElem?, Array.getElem?_eq_getElem h5, Option.getD_some] at hg ⊢
            exact hg
          | false =>
            obtain ⟨v, hv'⟩ := (I.mem _ hlt).1 hg
            have haf : isAfter ops x.1 ed.on = true := by
              simp only [isAfter, ho, List.any_eq_true, Bool.and_eq_true, beq_iff_eq]
              exact ⟨ed, he, hb, rfl⟩
            rcases List.mem_cons.1 hv' with hv' | hv'
            · have : ed.on = x.1 := by rw [← hv']
              rw [this, h2] at haf; cases haf
            · have := (List.pairwise_cons.1 I.pair).1 _ hv'
              simp only [pairOK, Bool.and_eq_true, Bool.not_eq_true'] at this
              rw [this.1.2] at haf; cases haf
        rw [hr] at this; cases this
    · obtain ⟨h1, h2, o, ho, h3⟩ := mem_ready.1 hi
      obtain ⟨v, hv'⟩ := (I.mem i h1).1 h2
      obtain ⟨l1, l2, rfl⟩ := List.append_of_mem hv'
      have hpw := List.pairwise_append.1 I.pair
      have hsw : ∀ x, x ∈ l1 → swapOK x.2 v = true := by
        intro x hx
        have := hpw.2.2 x hx (i, v) (by simp)
        simp only [pairOK, Bool.and_eq_true, Bool.or_eq_true] at this
        rcases this.2 with h5 | h5
        · have h6 := ahead_listed hM I i h1 (fun o' ho' => by rw [ho] at ho'; cases ho'; exact h3) x.1 (by simpa using h5)
          have h7 := I.lt x (by simp [hx])
          have h8 := (I.mem x.1 h7).2 ⟨x.2, by simp [hx]⟩
          have h9 : x.1 < listed.size := by rw [I.size]; exact h7
          simp only [Array.getD_eq_getD_getElem?, Array.getElem?_eq_getElem h9, Option.getD_some] at h6 h8
          rw [h6] at h8; cases h8
        · exact h5
      have hv2 := vops_pull (y := (i, v)) hsw hv
      obtain ⟨o', ho', hcg, _, _⟩ := hc (i, v) (by simp)
      rw [ho] at ho'; cases ho'
      have hne1 : ∀ x, x ∈ l1 ++ l2 → x.1 ≠ i := by
        intro x hx hxi
        rcases List.mem_append.1 hx with hx | hx
        · have := hpw.2.2 x hx (i, v) (by simp)
          simp [pairOK, hxi] at this
        · have := (List.pairwise_cons.1 hpw.2.1).1 x hx
          simp [pairOK, hxi] at this
      have I' : DInv ops M (l1 ++ l2) (listed.setIfInBounds i true) := by
        have gd : ∀ (j : Nat) (b : Bool), (listed.setIfInBounds i true).getD j b = if j = i then true else listed.getD j b := by
          intro j b
          simp only [Array.getD_eq_getD_getElem?, Array.getElem?_setIfInBounds]
          by_cases hji : i = j
          · subst hji
            have : i < listed.size := by rw [I.size]; exact h1
            simp [this]
          · have hji2 : ¬ j = i := fun hc => hji hc.symm
            simp [hji, hji2]
        refine ⟨by simp [I.size], fun j hj => ?_, fun x hx => I.lt x ?_, ?_, fun j hj hjl o2 ho2 ed he hb => ?_⟩
        · rw [gd]
          by_cases hji : j = i
          · rw [if_pos hji]
            exact Iff.intro (fun q => by simp at q) (fun q => by obtain ⟨v', q⟩ := q; exact absurd hji (hne1 _ q))
          · rw [if_neg hji, I.mem j hj]
            refine exists_congr fun v' => ?_
            simp only [List.mem_append, List.mem_cons, Prod.mk.injEq]
            constructor
            · rintro (q | ⟨q, _⟩ | q)
              · exact .inl q
              · exact absurd q hji
              · exact .inr q
            · rintro (q | q)
              · exact .inl q
              · exact .inr (.inr q)
        · rcases List.mem_append.1 hx with q | q <;> simp [q]
        · refine List.pairwise_append.2 ⟨hpw.1, (List.pairwise_cons.1 hpw.2.1).2, fun x hx y hy => hpw.2.2 x hx y (by simp [hy])⟩
        · rw [gd] at hjl ⊢
          by_cases hon : ed.on = i
          · rw [if_pos hon]
          · rw [if_neg hon]
            by_cases hji : j = i
            · subst hji
              rw [ho] at ho2; cases ho2; exact h3 ed he hb
            · rw [if_neg hji] at hjl; exact I.down j hj hjl o2 ho2 ed he hb
      have := snd_g hcg R hv2 (next := wpAny P .any ops Q fuel (listed.setIfInBounds i true)) hQ (fun e' L' h' a' w' G' lam' hh' R' hk => ih (l := l1 ++ l2) (by simp at hl ⊢; omega) I' (fun x hx => hc x (by rcases List.mem_append.1 hx with q | q <;> simp [q])) R' hk)
      simp only [wpOp, ho]
      split
      · rename_i hw; rw [if_pos hw] at this; exact .inl this
      · rename_i hw; rw [if_neg hw] at this; exact this

theorem pairsOK_pw {ops : Array Oper} {M : List (List Nat)} : ∀ {l : DL}, pairsOK ops M l = true → l.Pairwise (fun x y => pairOK ops M x y = true)
  | [], _ => List.Pairwise.nil
  | x :: l, h => by
    simp only [pairsOK, Bool.and_eq_true, List.all_eq_true] at h
    exact List.pairwise_cons.2 ⟨h.1, pairsOK_pw h.2⟩

theorem regD_sound {id : Nat} {ops : Array Oper} {l : DL} (hP : P.follows .mixedOrders = true) (hc : chkDr P N ops l = true) {Q : Exit → Act → World → Prop} (hQ : LetsAny Q) {K : Kont}
    (hn : ∀ e' L' h' a' w' G' lam' hh', RelG β N e' L' h' a' w' G' lam' hh' → K e' L' h' → Q .normal a' w') {e : Env} {L : Loc} {h : Heap} {a : Act} {w : World} {G : Ghost} {lam : Nat → Option Nat} {hh : Heap}
    (R : RelG β N e L h a w G lam hh) (hv : vops P (l.map (·.2)) K e L h) : (Code.region id ops true).wp P Q a w := by
  simp only [chkDr, Bool.and_eq_true] at hc
  obtain ⟨⟨⟨h1, h2⟩, h3⟩, h4⟩ := hc
  have hcs : ∀ x, x ∈ l → ∃ o, ops[x.1]? = some o ∧ chkG P N ops o x.2 = true ∧ isAfter ops x.1 x.1 = false ∧ ∀ e, e ∈ o.after.toList → Region.binds .any e = true → e.on < ops.size := by
    intro x hx
    have := List.all_eq_true.1 h4 x hx
    split at this
    · rename_i o ho
      simp only [Bool.and_eq_true, Bool.not_eq_true', List.all_eq_true, Bool.or_eq_true, decide_eq_true_eq] at this
      refine ⟨o, ho, this.1.1, this.1.2, fun ed he hb => ?_⟩
      rcases this.2 ed he with q | q
      · rw [hb] at q; cases q
      · exact q
    · cases this
  have hlt : ∀ x, x ∈ l → x.1 < ops.size := fun x hx => by
    obtain ⟨o, ho, _⟩ := hcs x hx
    exact (Array.getElem?_eq_some_iff.1 ho).1
  have hpw := pairsOK_pw h2
  have hmem : ∀ i, i < ops.size → ∃ v, (i, v) ∈ l := fun i hi => by
    have := List.all_eq_true.1 h3 i (List.mem_range.2 hi)
    simp only [List.any_eq_true, beq_iff_eq] at this
    obtain ⟨x, hx, rfl⟩ := this
    exact ⟨x.2, hx⟩
  have hlen : l.length = ops.size := by
    have hnd : (l.map (·.1)).Nodup := by
      refine List.pairwise_map.2 (hpw.imp fun {x y} hxy hc => ?_)
      simp [pairOK, hc] at hxy
    have hp : (l.map (·.1)).Perm (List.range ops.size) := by
      refine (List.perm_ext_iff_of_nodup hnd List.nodup_range).2 fun i => ?_
      simp only [List.mem_map, List.mem_range]
      constructor
      · rintro ⟨x, hx, rfl⟩; exact hlt x hx
      · intro hi; obtain ⟨v, hv'⟩ := hmem i hi; exact ⟨_, hv', rfl⟩
    simpa using hp.length_eq
  refine wp_region_any hP (any_sound (K := K) h1 hQ hn hlen ⟨by simp, fun i hi => ?_, hlt, hpw, fun i hi hl => ?_⟩ hcs R.drew hv)
  · simp [Array.getD_eq_getD_getElem?, hi]; exact hmem i hi
  · simp [Array.getD_eq_getD_getElem?, hi] at hl

end VL
