/- The contract of joined. -/
import Derived.Test.YtjhbkbbmhmfkbaaS9
namespace VL
open Go
attribute [local irreducible] CallsV
variable {h : Heap}
def joinedR (ls : List (Rows × Tag)) : Rows := if ls.length = 1 then flat ls else [.int .i64 3, .int .i64 0, .int .i64 ls.length] :: flat ls
theorem joined_c {ls : List (Rows × Tag)} {tag : Tag} (hl : ls.length ≤ 1048575) (h1 : tot ls ≤ 1048575) :
    CallsV Go.Proofs.Try.prog 20 [.vs 1 (encL 3 ls) tag] h (fun r h' => r = .vs 3 (joinedR ls) .ro ∧ h' = h) := by
  refine callsV_of_vc hP k20 ?_
  have hle := encL_len (n := 3) (ls := ls)
  have e2 : tot [([[IV.int .i64 3, IV.int .i64 0, IV.int .i64 (encL 3 ls).length]], Tag.full), (flat ls, Tag.ro)] = 1 + tot ls := by
    simp only [tot, List.map_cons, List.map_nil, List.sum_cons, List.sum_nil, List.length_cons, List.length_nil, flat_len]; rfl
  repeat' ((conv => whnf); first
    | (refine br_intro (fun hc => ?_) (fun hc => ?_) <;> (try simp only [decide_eq_true_eq, decide_eq_false_iff_not] at hc) <;> (try (exfalso; omega)))
    | (refine optK_intro (by first | assumption | exact hput_same | fail) ?_)
    | (refine call_pure (concat21_c (ls := ls) (by omega) (by omega)) ?_)
    | (refine call_pure (concat21_c (ls := [([[IV.int .i64 3, IV.int .i64 0, IV.int .i64 (encL 3 ls).length]], Tag.full), (flat ls, Tag.ro)]) (by simp) (by omega)) ?_)
    | (refine fun t ht => ?_)
    | (refine And.intro (by first | exact rfl | exact addT_same | omega | exact Nat.le_of_ble_eq_true rfl | decide | exact ⟨by omega, by omega⟩ | (simp; done) | (simp; omega; done) | fail) ?_)
    | fail)
  all_goals (conv => whnf)
  all_goals refine ⟨_, Heap.sub_refl _, ?_, rfl⟩
  all_goals show IV.vs _ _ _ = IV.vs _ _ _
  all_goals congr 1
  all_goals unfold joinedR
  · rw [if_pos (by omega)]
  · rw [if_neg (by omega), hle]
    simp [flat]
end VL
