/- The V layer, part 9: operations that change places; regions in any order that the edges allow. -/
import Derived.Test.YtjhbkbbmhmfkbaaV8
import Derived.Orders
namespace VL
open Go
variable {P : Program}

theorem Env.put_upd (e : Env) (d : Nat) (v : IV) : e.put d v = e.upd d (some v) := rfl
theorem Env.del_upd (e : Env) (d : Nat) : e.del d = e.upd d none := rfl
theorem Env.put_upd_comm (e : Env) {d t : Nat} (r : Option IV) (v : IV) (h : d ≠ t) : (e.upd d r).put t v = (e.put t v).upd d r := Env.upd_comm e r (some v) h
theorem Env.delO_upd_comm (e : Env) {d : Nat} (r : Option IV) {D : Option Nat} (h : D ≠ some d) : (e.upd d r).delO D = (e.delO D).upd d r := by
  cases D with
  | none => rfl
  | some t => exact Env.upd_comm e r none (fun hc => h (by rw [hc]))
theorem Env.putD_upd_comm (e : Env) {d : Nat} (r : Option IV) {D : Option Nat} (v : IV) (h : D ≠ some d) : (e.upd d r).putD D v = (e.putD D v).upd d r := by
  cases D with
  | none => rfl
  | some t => exact Env.upd_comm e r (some v) (fun hc => h (by rw [hc]))
theorem Env.upd_ne {e : Env} {d t : Nat} (r : Option IV) (h : t ≠ d) : e.upd d r t = e t := by simp only [Env.upd]; rw [if_neg h]
theorem Env.delO_ne {e : Env} {D : Option Nat} {t : Nat} (h : D ≠ some t) : e.delO D t = e t := by
  cases D with
  | none => rfl
  | some d => exact Env.upd_ne none (fun hc => h (by rw [hc]))
theorem Env.putD_ne {e : Env} {D : Option Nat} {t : Nat} (v : IV) (h : D ≠ some t) : e.putD D v t = e t := by
  cases D with
  | none => rfl
  | some d => exact Env.upd_ne (some v) (fun hc => h (by rw [hc]))

def VOp.rdi : VOp → Option (Nat × Bool × Bool)
  | .mov d _ | .pick d _ _ _ | .bin d _ _ _ | .eqv d _ _ _ _ | .not d _ | .nilchk d _ | .fieldA d _ _ | .idxA d _ _ _ | .len d _ | .build d _ _ | .bslice d _ _ _ _ | .slc d _ _ _ _ _ | .mm d _ _ _ | .ext d _ _ | .mkF d _ _
  | .eqS d _ _ _ _ | .mkI d _ _ | .cap d _ | .un d _ _ | .cvi d _ _ | .idxP d _ _ _ _ | .idxV d _ _ _ => some (d, false, false)
  | .load1 l d _ | .loadN l d _ _ => some (d, true, !l)
  | .guard _ _ o => o.rdi
  | _ => none

theorem rdi_dst : ∀ {v : VOp} {d : Nat} {nL nH : Bool}, v.rdi = some (d, nL, nH) → v.dst = some d := by
  intro v
  induction v with
  | guard t b o ih => intro d nL nH h; exact ih h
  | _ => intro d nL nH h; simp only [VOp.rdi] at h <;> first | (cases h; done) | (simp only [Option.some.injEq, Prod.mk.injEq] at h; simp only [VOp.dst, h.1])

theorem guard_iff {t : Nat} {b c : Bool} {o : VOp} {K : Kont} {e : Env} {L : Loc} {h : Heap} (hc : e t = some (.bool c)) :
    vop P (.guard t b o) K e L h ↔ if b = c then vop P o K e L h else K (e.delO o.dst) L h := by
  simp only [vop, hc, br_iff]
  cases c with
  | true => rw [Env.put_same hc]; cases b <;> simp
  | false => rw [Env.put_same hc]; cases b <;> simp
theorem guard_some {t : Nat} {b : Bool} {o : VOp} {K : Kont} {e : Env} {L : Loc} {h : Heap} (hv : vop P (.guard t b o) K e L h) : ∃ c, e t = some (.bool c) := by
  simp only [vop, br_iff] at hv
  split at hv
  · rename_i c hc; exact ⟨c, hc⟩
  · exact hv.elim

theorem rd_guard {t : Nat} {b : Bool} {o : VOp} {d : Nat} {nL nH : Bool} (H : Rd (vop P o) o.reads d nL nH) (hd : o.dst = some d) : Rd (vop P (.guard t b o)) (t :: o.reads) d nL nH := by
  intro K e L h hv
  obtain ⟨c, hc⟩ := guard_some hv
  rw [guard_iff hc] at hv
  split at hv
  · rename_i hbc
    obtain ⟨r, q1, q2⟩ := H K e L h hv
    refine ⟨r, q1, fun K' e' L' h' he hL hH hk => ?_⟩
    rw [guard_iff ((he t (by simp)).trans hc), if_pos hbc]
    exact q2 K' e' L' h' (fun t' ht' => he t' (by simp [ht'])) hL hH hk
  · rename_i hbc
    rw [hd] at hv
    refine ⟨none, hv, fun K' e' L' h' he hL hH hk => ?_⟩
    rw [guard_iff ((he t (by simp)).trans hc), if_neg hbc, hd]; exact hk

theorem rd_op : ∀ {v : VOp} {d : Nat} {nL nH : Bool}, v.rdi = some (d, nL, nH) → Rd (vop P v) v.reads d nL nH := by
  intro v
  induction v with
  | guard t b o ih => intro d nL nH h; exact rd_guard (ih h) (rdi_dst h)
  | _ =>
    intro d nL nH h
    simp only [VOp.rdi, Option.some.injEq, Prod.mk.injEq, reduceCtorEq] at h
    all_goals obtain ⟨rfl, rfl, rfl⟩ := h
    all_goals first
      | exact rd_mov | exact rd_pick | exact rd_bin | exact rd_eqv | exact rd_not | exact rd_nil | exact rd_fieldA | exact rd_idxA | exact rd_len | exact rd_build | exact rd_bslice | exact rd_slc | exact rd_mm | exact rd_ext | exact rd_mkF
      | exact rd_load1 | exact rd_loadN | exact rd_eqS | exact rd_mkI | exact rd_cap | exact rd_un | exact rd_cvi | exact rd_idxP | exact rd_idxV

/-! ### operations that change something -/
def VOp.god : VOp → Option (Bool × Bool)
  | .app _ _ _ _ _ | .allocH _ _ | .boxH _ _ => some (true, true)
  | .appR _ _ _ _ _ | .frz _ _ _ => some (true, false)
  | .nilR _ _ | .nilO _ _ | .appZ _ _ _ _ _ _ | .mkS _ _ _ _ _ | .eqNil _ _ _ => some (true, true)
  | .bad _ => none
  | .store1 _ _ | .storeN _ _ _ => some (false, false)
  | .call q _ _ _ | .callv q _ _ _ => some (true, q)
  | .alloc _ _ | .box _ _ => none
  | .guard _ _ o => o.god
  | _ => some (true, true)

theorem good_app {d n bytes : Nat} {x y : Opd} : Good (vop P (.app d n bytes x y)) (VOp.app d n bytes x y).reads (some d) true true where
  mono K K' e L h hk hv := by
    simp only [vop, chkP_iff] at hv ⊢
    split at hv
    · rename_i hx hy
      obtain ⟨h1, h2, h3, h4⟩ := hv
      exact ⟨h1, h2, h3, fun t ht => hk _ _ _ (h4 t ht)⟩
    · rename_i hx hy
      obtain ⟨h1, h2, h3, h4, h5⟩ := hv
      exact ⟨h1, h2, h3, h4, fun t ht => hk _ _ _ (h5 t ht)⟩
    · exact hv.elim
  frame K e L h d' r hd hD hv := by
    have e1 : x.get (e.upd d' r) = x.get e := get_congr (fun t ht => Env.upd_ne r (fun hc => hd (by rw [← hc]; simp [VOp.reads, ht])))
    have e2 : y.get (e.upd d' r) = y.get e := get_congr (fun t ht => Env.upd_ne r (fun hc => hd (by rw [← hc]; simp [VOp.reads, ht])))
    have hne : d' ≠ d := fun hc => hD (by rw [hc])
    simp only [vop, e1, e2, Env.put_upd_comm e r _ hne] at hv ⊢
    exact hv
  eff K e L h hv := by
    have key : ∀ v : IV, ∀ t, some d ≠ some t → (e.put d v) t = e t := fun v t ht => Env.upd_ne (some v) (fun hc => ht (by rw [hc]))
    simp only [vop, chkP_iff] at hv ⊢
    split at hv
    · rename_i hx hy
      obtain ⟨h1, h2, h3, h4⟩ := hv
      exact ⟨h1, h2, h3, fun t ht => ⟨key _, by simp, fun _ _ _ q => q, h4 t ht⟩⟩
    · rename_i hx hy
      obtain ⟨h1, h2, h3, h4, h5⟩ := hv
      exact ⟨h1, h2, h3, h4, fun t ht => ⟨key _, by simp, fun _ _ _ q => q, h5 t ht⟩⟩
    · exact hv.elim
theorem good_appR {d n bytes : Nat} {x y : Opd} : Good (vop P (.appR d n bytes x y)) (VOp.appR d n bytes x y).reads (some d) true false where
  mono K K' e L h hk hv := by
    simp only [vop, chkP_iff, optK_def] at hv ⊢
    split at hv
    · rename_i hx hy
      obtain ⟨h1, h2, h3, h4⟩ := hv
      refine ⟨h1, h2, h3, ?_⟩
      split at h4
      · exact ⟨h4.1, fun id' hid => hk _ _ _ (h4.2 id' hid)⟩
      · exact h4.elim
    · exact hv.elim
  frame K e L h d' r hd hD hv := by
    have e1 : x.get (e.upd d' r) = x.get e := get_congr (fun t ht => Env.upd_ne r (fun hc => hd (by rw [← hc]; simp [VOp.reads, ht])))
    have e2 : y.get (e.upd d' r) = y.get e := get_congr (fun t ht => Env.upd_ne r (fun hc => hd (by rw [← hc]; simp [VOp.reads, ht])))
    have hne : d' ≠ d := fun hc => hD (by rw [hc])
    simp only [vop, e1, e2, Env.put_upd_comm e r _ hne] at hv ⊢
    exact hv
  eff K e L h hv := by
    have key : ∀ v : IV, ∀ t, some d ≠ some t → (e.put d v) t = e t := fun v t ht => Env.upd_ne (some v) (fun hc => ht (by rw [hc]))
    simp only [vop, chkP_iff, optK_def] at hv ⊢
    split at hv
    · rename_i hx hy
      obtain ⟨h1, h2, h3, h4⟩ := hv
      refine ⟨h1, h2, h3, ?_⟩
      split at h4
      · exact ⟨h4.1, fun id' hid => ⟨key _, by simp, by simp, h4.2 id' hid⟩⟩
      · exact h4.elim
    · exact hv.elim
theorem good_allocH {d : Nat} {z : List IV} : Good (vop P (.allocH d z)) (VOp.allocH d z).reads (some d) true true where
  mono K K' e L h hk hv := fun id hid => hk _ _ _ (hv id hid)
  frame K e L h d' r hd hD hv := by
    have hne : d' ≠ d := fun hc => hD (by rw [hc])
    simp only [vop, Env.put_upd_comm e r _ hne] at hv ⊢
    exact hv
  eff K e L h hv := fun id hid => ⟨fun t ht => Env.upd_ne _ (fun hc => ht (by rw [hc])), by simp, fun _ i r q => by
    simp only [Heap.put]; rw [if_neg (fun hc => by rw [hc, hid] at q; cases q)]; exact q, hv id hid⟩
theorem good_boxH {d : Nat} {x : Opd} : Good (vop P (.boxH d x)) (VOp.boxH d x).reads (some d) true true where
  mono K K' e L h hk hv := by
    simp only [vop, chkP_iff] at hv ⊢
    split at hv
    · exact ⟨hv.1, fun id hid => hk _ _ _ (hv.2 id hid)⟩
    · exact hv.elim
  frame K e L h d' r hd hD hv := by
    have e1 : x.get (e.upd d' r) = x.get e := get_congr (fun t ht => Env.upd_ne r (fun hc => hd (by rw [← hc]; simp [VOp.reads, ht])))
    have hne : d' ≠ d := fun hc => hD (by rw [hc])
    simp only [vop, e1, Env.put_upd_comm e r _ hne] at hv ⊢
    exact hv
  eff K e L h hv := by
    simp only [vop, chkP_iff] at hv ⊢
    split at hv
    · exact ⟨hv.1, fun id hid => ⟨fun t ht => Env.upd_ne _ (fun hc => ht (by rw [hc])), by simp, fun _ i r q => by
        simp only [Heap.put]; rw [if_neg (fun hc => by rw [hc, hid] at q; cases q)]; exact q, hv.2 id hid⟩⟩
    · exact hv.elim
theorem good_call {q : Bool} {d : Option Nat} {f : Nat} {args : List Opd} : Good (vop P (.call q d f args)) (VOp.call q d f args).reads d true q where
  mono K K' e L h hk hv := by
    simp only [vop, chkP_iff] at hv ⊢
    split at hv
    · exact ⟨hv.1, hv.2.mono fun x h' a => ⟨a.1, hk _ _ _ a.2⟩⟩
    · exact hv.elim
  frame K e L h d' r hd hD hv := by
    have e1 : getArgs (e.upd d' r) args = getArgs e args := args_congr (fun t ht => Env.upd_ne r (fun hc => hd (by rw [← hc]; simp only [VOp.reads]; exact ht)))
    simp only [vop, e1, Env.putD_upd_comm e r _ hD] at hv ⊢
    exact hv
  eff K e L h hv := by
    simp only [vop, chkP_iff] at hv ⊢
    split at hv
    · exact ⟨hv.1, hv.2.mono fun x h' a => ⟨a.1, fun t ht => Env.putD_ne _ ht, by simp, fun hq i r hi => by subst hq; exact a.1 i r hi, a.2⟩⟩
    · exact hv.elim
theorem good_callv {q : Bool} {d : Option Nat} {x : Opd} {args : List Opd} : Good (vop P (.callv q d x args)) (VOp.callv q d x args).reads d true q where
  mono K K' e L h hk hv := by
    simp only [vop, chkP_iff] at hv ⊢
    split at hv
    · exact ⟨hv.1, hv.2.1, hv.2.2.mono fun x h' a => ⟨a.1, hk _ _ _ a.2⟩⟩
    · exact hv.elim
  frame K e L h d' r hd hD hv := by
    have e0 : x.get (e.upd d' r) = x.get e := get_congr (fun t ht => Env.upd_ne r (fun hc => hd (by rw [← hc]; simp [VOp.reads, ht])))
    have e1 : getArgs (e.upd d' r) args = getArgs e args := args_congr (fun t ht => Env.upd_ne r (fun hc => hd (by rw [← hc]; simp only [VOp.reads]; exact List.mem_append_right _ ht)))
    simp only [vop, e0, e1, Env.putD_upd_comm e r _ hD] at hv ⊢
    exact hv
  eff K e L h hv := by
    simp only [vop, chkP_iff] at hv ⊢
    split at hv
    · exact ⟨hv.1, hv.2.1, hv.2.2.mono fun x h' a => ⟨a.1, fun t ht => Env.putD_ne _ ht, by simp, fun hq i r hi => by subst hq; exact a.1 i r hi, a.2⟩⟩
    · exact hv.elim
theorem good_store1 {x v : Opd} : Good (vop P (.store1 x v)) (VOp.store1 x v).reads none false false where
  mono K K' e L h hk hv := by
    simp only [vop, chkP_iff, optK_def] at hv ⊢
    split at hv
    · refine ⟨hv.1, ?_⟩
      have hv2 := hv.2
      split at hv2
      · exact ⟨hv2.1, hk _ _ _ hv2.2⟩
      · exact hv2.elim
    · refine ⟨hv.1, ?_⟩
      have hv2 := hv.2
      split at hv2
      · split at hv2
        · exact ⟨hv2.1, hk _ _ _ hv2.2⟩
        · exact hv2.elim
      · exact hv2.elim
    · exact hv.elim
  frame K e L h d' r hd hD hv := by
    have e1 : x.get (e.upd d' r) = x.get e := get_congr (fun t ht => Env.upd_ne r (fun hc => hd (by rw [← hc]; simp [VOp.reads, ht])))
    have e2 : v.get (e.upd d' r) = v.get e := get_congr (fun t ht => Env.upd_ne r (fun hc => hd (by rw [← hc]; simp [VOp.reads, ht])))
    simp only [vop, e1, e2] at hv ⊢
    exact hv
  eff K e L h hv := by
    simp only [vop, chkP_iff, optK_def] at hv ⊢
    split at hv
    · refine ⟨hv.1, ?_⟩
      have hv2 := hv.2
      split at hv2
      · exact ⟨hv2.1, by simp, by simp, by simp, hv2.2⟩
      · exact hv2.elim
    · refine ⟨hv.1, ?_⟩
      have hv2 := hv.2
      split at hv2
      · split at hv2
        · exact ⟨hv2.1, by simp, by simp, by simp, hv2.2⟩
        · exact hv2.elim
      · exact hv2.elim
    · exact hv.elim
theorem good_storeN {n : Nat} {x v : Opd} : Good (vop P (.storeN n x v)) (VOp.storeN n x v).reads none false false where
  mono K K' e L h hk hv := by
    simp only [vop, optK_def] at hv ⊢
    split at hv
    · split at hv
      · exact ⟨hv.1, hv.2.1, hk _ _ _ hv.2.2⟩
      · exact hv.elim
    · split at hv
      · split at hv
        · exact ⟨hv.1, hv.2.1, hk _ _ _ hv.2.2⟩
        · exact hv.elim
      · exact hv.elim
    · exact hv.elim
  frame K e L h d' r hd hD hv := by
    have e1 : x.get (e.upd d' r) = x.get e := get_congr (fun t ht => Env.upd_ne r (fun hc => hd (by rw [← hc]; simp [VOp.reads, ht])))
    have e2 : v.get (e.upd d' r) = v.get e := get_congr (fun t ht => Env.upd_ne r (fun hc => hd (by rw [← hc]; simp [VOp.reads, ht])))
    simp only [vop, e1, e2] at hv ⊢
    exact hv
  eff K e L h hv := by
    simp only [vop, optK_def] at hv ⊢
    split at hv
    · split at hv
      · exact ⟨hv.1, hv.2.1, by simp, by simp, by simp, hv.2.2⟩
      · exact hv.elim
    · split at hv
      · split at hv
        · exact ⟨hv.1, hv.2.1, by simp, by simp, by simp, hv.2.2⟩
        · exact hv.elim
      · exact hv.elim
    · exact hv.elim
theorem put_stands {h : Heap} {id : Nat} {z : Rows} (hid : h.obj id = none) : ∀ i r, h.obj i = some r → (h.put id z).obj i = some r := fun i r q => by
  simp only [Heap.put]; rw [if_neg (fun hc => by rw [hc, hid] at q; cases q)]; exact q
theorem good_nilR {d n : Nat} : Good (vop P (.nilR d n)) (VOp.nilR d n).reads (some d) true true where
  mono K K' e L h hk hv := fun id hid => hk _ _ _ (hv id hid)
  frame K e L h d' r hd hD hv := by
    have hne : d' ≠ d := fun hc => hD (by rw [hc])
    simp only [vop, Env.put_upd_comm e r _ hne] at hv ⊢
    exact hv
  eff K e L h hv := fun id hid => ⟨fun t ht => Env.upd_ne _ (fun hc => ht (by rw [hc])), by simp, fun _ => put_stands hid, hv id hid⟩
theorem good_nilO {d n : Nat} : Good (vop P (.nilO d n)) (VOp.nilO d n).reads (some d) true true where
  mono K K' e L h hk hv := fun t ht => hk _ _ _ (hv t ht)
  frame K e L h d' r hd hD hv := by
    have hne : d' ≠ d := fun hc => hD (by rw [hc])
    simp only [vop, Env.put_upd_comm e r _ hne] at hv ⊢
    exact hv
  eff K e L h hv := fun t ht => ⟨fun t ht => Env.upd_ne _ (fun hc => ht (by rw [hc])), by simp, fun _ _ _ q => q, hv t ht⟩
theorem good_frz {d n : Nat} {x : Opd} : Good (vop P (.frz d n x)) (VOp.frz d n x).reads (some d) true false where
  mono K K' e L h hk hv := by
    simp only [vop, chkP_iff, optK_def] at hv ⊢
    split at hv
    · refine ⟨hv.1, ?_⟩
      have hv2 := hv.2
      split at hv2
      · exact ⟨hv2.1, hk _ _ _ hv2.2⟩
      · exact hv2.elim
    · exact ⟨hv.1, hk _ _ _ hv.2⟩
    · exact hv.elim
  frame K e L h d' r hd hD hv := by
    have e1 : x.get (e.upd d' r) = x.get e := get_congr (fun t ht => Env.upd_ne r (fun hc => hd (by rw [← hc]; simp [VOp.reads, ht])))
    have hne : d' ≠ d := fun hc => hD (by rw [hc])
    simp only [vop, e1, Env.put_upd_comm e r _ hne] at hv ⊢
    exact hv
  eff K e L h hv := by
    have key : ∀ v : IV, ∀ t, some d ≠ some t → (e.put d v) t = e t := fun v t ht => Env.upd_ne (some v) (fun hc => ht (by rw [hc]))
    simp only [vop, chkP_iff, optK_def] at hv ⊢
    split at hv
    · refine ⟨hv.1, ?_⟩
      have hv2 := hv.2
      split at hv2
      · exact ⟨hv2.1, key _, by simp, by simp, hv2.2⟩
      · exact hv2.elim
    · exact ⟨hv.1, key _, by simp, by simp, hv.2⟩
    · exact hv.elim
theorem good_eqNil {d : Nat} {neg : Bool} {x : Opd} : Good (vop P (.eqNil d neg x)) (VOp.eqNil d neg x).reads (some d) true true where
  mono K K' e L h hk hv := by
    simp only [vop] at hv ⊢
    split at hv
    · exact fun t ht => hk _ _ _ (hv t ht)
    · exact hv.elim
  frame K e L h d' r hd hD hv := by
    have e1 : x.get (e.upd d' r) = x.get e := get_congr (fun t ht => Env.upd_ne r (fun hc => hd (by rw [← hc]; simp [VOp.reads, ht])))
    have hne : d' ≠ d := fun hc => hD (by rw [hc])
    simp only [vop, e1, Env.put_upd_comm e r _ hne] at hv ⊢
    exact hv
  eff K e L h hv := by
    have key : ∀ v : IV, ∀ t, some d ≠ some t → (e.put d v) t = e t := fun v t ht => Env.upd_ne (some v) (fun hc => ht (by rw [hc]))
    simp only [vop] at hv ⊢
    split at hv
    · exact fun t ht => ⟨key _, by simp, fun _ _ _ q => q, hv t ht⟩
    · exact hv.elim
theorem good_appZ {d n bytes : Nat} {z : List IV} {x k : Opd} : Good (vop P (.appZ d n bytes z x k)) (VOp.appZ d n bytes z x k).reads (some d) true true where
  mono K K' e L h hk hv := by
    simp only [vop, chkP_iff] at hv ⊢
    split at hv
    · exact ⟨hv.1, hv.2.1, hv.2.2.1, fun id hid => hk _ _ _ (hv.2.2.2 id hid)⟩
    · exact hv.elim
  frame K e L h d' r hd hD hv := by
    have e1 : x.get (e.upd d' r) = x.get e := get_congr (fun t ht => Env.upd_ne r (fun hc => hd (by rw [← hc]; simp [VOp.reads, ht])))
    have e2 : k.get (e.upd d' r) = k.get e := get_congr (fun t ht => Env.upd_ne r (fun hc => hd (by rw [← hc]; simp [VOp.reads, ht])))
    have hne : d' ≠ d := fun hc => hD (by rw [hc])
    simp only [vop, e1, e2, Env.put_upd_comm e r _ hne] at hv ⊢
    exact hv
  eff K e L h hv := by
    have key : ∀ v : IV, ∀ t, some d ≠ some t → (e.put d v) t = e t := fun v t ht => Env.upd_ne (some v) (fun hc => ht (by rw [hc]))
    simp only [vop, chkP_iff] at hv ⊢
    split at hv
    · exact ⟨hv.1, hv.2.1, hv.2.2.1, fun id hid => ⟨key _, by simp, fun _ => put_stands hid, hv.2.2.2 id hid⟩⟩
    · exact hv.elim
theorem good_mkS {d n bytes : Nat} {z : List IV} {x : Opd} : Good (vop P (.mkS d n bytes z x)) (VOp.mkS d n bytes z x).reads (some d) true true where
  mono K K' e L h hk hv := by
    simp only [vop] at hv ⊢
    split at hv
    · exact ⟨hv.1, hv.2.1, fun id hid => hk _ _ _ (hv.2.2 id hid)⟩
    · exact hv.elim
  frame K e L h d' r hd hD hv := by
    have e1 : x.get (e.upd d' r) = x.get e := get_congr (fun t ht => Env.upd_ne r (fun hc => hd (by rw [← hc]; simp [VOp.reads, ht])))
    have hne : d' ≠ d := fun hc => hD (by rw [hc])
    simp only [vop, e1, Env.put_upd_comm e r _ hne] at hv ⊢
    exact hv
  eff K e L h hv := by
    have key : ∀ v : IV, ∀ t, some d ≠ some t → (e.put d v) t = e t := fun v t ht => Env.upd_ne (some v) (fun hc => ht (by rw [hc]))
    simp only [vop] at hv ⊢
    split at hv
    · exact ⟨hv.1, hv.2.1, fun id hid => ⟨key _, by simp, fun _ => put_stands hid, hv.2.2 id hid⟩⟩
    · exact hv.elim
theorem good_guard {t : Nat} {b : Bool} {o : VOp} {kL kH : Bool} (H : Good (vop P o) o.reads o.dst kL kH) : Good (vop P (.guard t b o)) (t :: o.reads) o.dst kL kH where
  mono K K' e L h hk hv := by
    obtain ⟨c, hc⟩ := guard_some hv
    rw [guard_iff hc] at hv ⊢
    split
    · rename_i hb; rw [if_pos hb] at hv; exact H.mono K K' e L h hk hv
    · rename_i hb; rw [if_neg hb] at hv; exact hk _ _ _ hv
  frame K e L h d' r hd hD hv := by
    have hne : t ≠ d' := fun hc => hd (by simp [hc])
    obtain ⟨c, hc⟩ := guard_some hv
    rw [guard_iff hc] at hv
    rw [guard_iff ((Env.upd_ne r hne).symm.trans hc)]
    split
    · rename_i hb; rw [if_pos hb] at hv; exact H.frame K e L h d' r (fun q => hd (by simp [q])) hD hv
    · rename_i hb; rw [if_neg hb, Env.delO_upd_comm e r hD] at hv; exact hv
  eff K e L h hv := by
    obtain ⟨c, hc⟩ := guard_some hv
    rw [guard_iff hc] at hv ⊢
    split
    · rename_i hb; rw [if_pos hb] at hv; exact H.eff K e L h hv
    · rename_i hb; rw [if_neg hb] at hv; exact ⟨fun t' ht' => Env.delO_ne ht', by simp, fun _ _ _ q => q, hv⟩

theorem good_op : ∀ {v : VOp} {kL kH : Bool}, v.god = some (kL, kH) → Good (vop P v) v.reads v.dst kL kH := by
  intro v
  induction v with
  | guard t b o ih => intro kL kH h; exact good_guard (ih h)
  | _ =>
    intro kL kH h
    simp only [VOp.god, Option.some.injEq, Prod.mk.injEq, reduceCtorEq] at h
    all_goals obtain ⟨rfl, rfl⟩ := h
    all_goals first
      | exact good_nilR | exact good_nilO | exact good_frz | exact good_eqNil | exact good_appZ | exact good_mkS
      | exact good_app | exact good_appR | exact good_allocH | exact good_boxH | exact good_call | exact good_callv | exact good_store1 | exact good_storeN
      | exact (rd_op rfl).good _ _

end VL
