/- The V layer, part 13: more may be said behind; loops by what they hold. -/
import Derived.Test.YtjhbkbbmhmfkbaaV12
namespace VL
open Go
variable {P : Program} {Q : VX → Kont} {K : Kont} {e : Env} {L : Loc} {h : Heap}

theorem vop_mono : ∀ {v : VOp} {K K' : Kont} {e : Env} {L : Loc} {h : Heap}, (∀ e' L' h', K e' L' h' → K' e' L' h') → vop P v K e L h → vop P v K' e L h := by
  intro v
  induction v with
  | guard t b o ih =>
    intro K K' e L h hk hv
    obtain ⟨c, hc⟩ := guard_some hv
    rw [guard_iff hc] at hv ⊢
    split
    · rename_i hb; rw [if_pos hb] at hv; exact ih hk hv
    · rename_i hb; rw [if_neg hb] at hv; exact hk _ _ _ hv
  | alloc d z => intro K K' e L h hk hv; exact hk _ _ _ hv
  | box d x =>
    intro K K' e L h hk hv
    simp only [vop, chkP_iff] at hv ⊢
    split at hv
    · exact ⟨hv.1, hk _ _ _ hv.2⟩
    · exact hv.elim
  | bad d => intro K K' e L h hk hv; exact hv.elim
  | _ => intro K K' e L h hk hv; exact (good_op rfl).mono _ _ _ _ _ hk hv
theorem vops_mono : ∀ {os : List VOp} {K K' : Kont} {e : Env} {L : Loc} {h : Heap}, (∀ e' L' h', K e' L' h' → K' e' L' h') → vops P os K e L h → vops P os K' e L h
  | [], _, _, _, _, _, hk, hv => hk _ _ _ hv
  | _ :: _, _, _, _, _, _, hk, hv => vop_mono (fun _ _ _ q => vops_mono hk q) hv
theorem vc_mono : ∀ {c : VC} {Q Q' : VX → Kont} {e : Env} {L : Loc} {h : Heap}, (∀ x e' L' h', Q x e' L' h' → Q' x e' L' h') → vc P c Q e L h → vc P c Q' e L h := by
  intro c
  induction c with
  | skip => intro Q Q' e L h hq hv; exact hq _ _ _ _ hv
  | reg ops ke kl => intro Q Q' e L h hq hv; exact vops_mono (fun _ _ _ q => hq _ _ _ _ q) hv
  | regD l ke kl => intro Q Q' e L h hq hv; exact vops_mono (fun _ _ _ q => hq _ _ _ _ q) hv
  | seq a b iha ihb =>
    intro Q Q' e L h hq hv
    refine iha (Q := seqQ (vc P b Q) Q) (fun x e' L' h' q => ?_) hv
    cases x with
    | normal => exact ihb hq q
    | exit i => exact hq _ _ _ _ q
    | ret => exact hq _ _ _ _ q
  | cond c a b iha ihb =>
    intro Q Q' e L h hq hv
    simp only [vc, br_iff] at hv ⊢
    split at hv
    · exact ⟨fun t => iha hq (hv.1 t), fun t => ihb hq (hv.2 t)⟩
    · exact hv.elim
  | block id a ih =>
    intro Q Q' e L h hq hv
    refine ih (Q := blockQ id Q) (fun x e' L' h' q => ?_) hv
    cases x with
    | normal => exact hq _ _ _ _ q
    | exit i =>
      simp only [blockQ] at q ⊢
      split at q
      · rename_i hi; rw [if_pos hi]; exact hq _ _ _ _ q
      · rename_i hi; rw [if_neg hi]; exact hq _ _ _ _ q
    | ret => exact hq _ _ _ _ q
  | loop a ih =>
    intro Q Q' e L h hq hv
    obtain ⟨I, n, h0, hs⟩ := hv
    refine ⟨I, n, h0, fun n e L h hi => ih (Q := loopQ I n Q) (fun x e' L' h' q => ?_) (hs n e L h hi)⟩
    cases x with
    | normal => exact q
    | exit i => exact hq _ _ _ _ q
    | ret => exact hq _ _ _ _ q
  | exit id => intro Q Q' e L h hq hv; exact hq _ _ _ _ hv
  | ret => intro Q Q' e L h hq hv; exact hq _ _ _ _ hv

def envOK (e : Env) : List (Nat × IV) → Prop
  | [] => True
  | (t, v) :: r => e t = some v ∧ envOK e r
def locOK (L : Loc) : List (Nat × List IV) → Prop
  | [] => True
  | (t, v) :: r => L t = some v ∧ locOK L r
theorem mkEnv_le : ∀ {l : List (Nat × IV)}, envOK e l → (mkEnv l).le e
  | [], _ => fun t v q => by cases q
  | (t, v) :: r, h => fun t' v' q => by
    simp only [mkEnv, Env.put] at q
    split at q
    · rename_i h1; cases q; rw [h1]; exact h.1
    · exact mkEnv_le h.2 _ _ q
theorem mkLoc_le : ∀ {l : List (Nat × List IV)}, locOK L l → (mkLoc l).le L
  | [], _ => fun t v q => by cases q
  | (t, v) :: r, h => fun t' v' q => by
    simp only [mkLoc, Loc.put] at q
    split at q
    · rename_i h1; cases q; rw [h1]; exact h.1
    · exact mkLoc_le h.2 _ _ q

/-- What a loop holds: slots, boxes, the heap, by a state of the reader's own. -/
structure Inv (α : Type) where
  E : α → List (Nat × IV)
  L : α → List (Nat × List IV)
  H : α → Heap
  ok : α → Prop
  meas : α → Nat
def Inv.at {α : Type} (J : Inv α) (y : α) (e : Env) (L : Loc) (h : Heap) : Prop := J.ok y ∧ envOK e (J.E y) ∧ locOK L (J.L y) ∧ (J.H y).sub h
def loopR {α : Type} (J : Inv α) (x : α) (Q : VX → Kont) : VX → Kont
  | .normal => fun e L h => ∃ y, J.meas y < J.meas x ∧ J.at y e L h
  | q => Q q
theorem loop_rule {α : Type} {a : VC} (J : Inv α) (x0 : α) (h0 : J.at x0 e L h)
    (hs : ∀ x, J.ok x → vc P a (loopR J x Q) (mkEnv (J.E x)) (mkLoc (J.L x)) (J.H x)) : vc P (.loop a) Q e L h := by
  refine ⟨fun m e L h => ∃ x, m = J.meas x ∧ J.ok x ∧ e = mkEnv (J.E x) ∧ L = mkLoc (J.L x) ∧ h = J.H x, J.meas x0, ⟨_, _, _, mkEnv_le h0.2.1, mkLoc_le h0.2.2.1, h0.2.2.2, x0, rfl, h0.1, rfl, rfl, rfl⟩, fun n e L h hi => ?_⟩
  obtain ⟨x, rfl, hx, rfl, rfl, rfl⟩ := hi
  refine vc_mono (fun q e' L' h' hq => ?_) (hs x hx)
  cases q with
  | normal =>
    obtain ⟨y, hy, y1, y2, y3, y4⟩ := hq
    exact ⟨J.meas y, _, _, _, hy, mkEnv_le y2, mkLoc_le y3, y4, y, rfl, y1, rfl, rfl, rfl⟩
  | exit i => exact hq
  | ret => exact hq

/-- A sequence, cut: what is known between. -/
theorem vc_cut {a b : VC} (M : Kont) (h1 : vc P a (seqQ M Q) e L h) (h2 : ∀ e L h, M e L h → vc P b Q e L h) : vc P (.seq a b) Q e L h := by
  show vc P a (seqQ (vc P b Q) Q) e L h
  refine vc_mono (Q := seqQ M Q) (fun q e' L' h' hq => ?_) h1
  cases q with
  | normal => exact h2 _ _ _ hq
  | exit i => exact hq
  | ret => exact hq

theorem addT_same {t : Nat} : (h.addT t).tok t = true := by simp [Heap.addT]
theorem swapT_sub {t t' : Nat} (ht : h.tok t = false) : (h.addT t').sub (((h.addT t).delT t).addT t') := by
  refine ⟨fun i r q => q, fun i q => ?_⟩
  simp only [Heap.addT, Heap.delT] at q ⊢
  split
  · rfl
  · rename_i h1
    rw [if_neg h1] at q
    split
    · rename_i h2; subst h2; rw [ht] at q; cases q
    · exact q
theorem addT_sub {t : Nat} : h.sub (h.addT t) := ⟨fun _ _ q => q, fun i q => by simp only [Heap.addT]; split <;> first | rfl | exact q⟩
theorem addT_none {t t' : Nat} (h1 : (h.addT t).tok t' = false) : h.tok t' = false := by
  simp only [Heap.addT] at h1
  split at h1
  · cases h1
  · exact h1

theorem call_eff {f : Nat} {args : List IV} {v : IV} {h2 : Heap} {K : IV → Heap → Prop} (c : CallsV P f args h (fun r h' => r = v ∧ h' = h2)) (hk : K v h2) : CallsV P f args h (fun x h' => quietP false h h' ∧ K x h') :=
  c.mono fun x h' ⟨e1, e2⟩ => by
    subst e1; subst e2
    exact ⟨trivial, hk⟩
theorem put_put {i : Nat} {r r' : Rows} : (h.put i r).put i r' = h.put i r' := by
  simp only [Heap.put, Heap.mk.injEq, and_true]
  funext j
  split <;> rfl

end VL
