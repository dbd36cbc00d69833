/-
  Proved here: the statement TableKeepsSaid: for every input the law returns true, and the input reads as it did.
  Conditions: none beyond the given row.
-/
import Derived.Test.YtpljfhomnbcpdaaTabZ0
import Derived.Test.YtpljfhomnbcpdaaTabK
namespace Go.Proofs.Ytpljfhomnbcpdaa
open Go.W Go.ChangeShapes
set_option maxRecDepth 100000 in
theorem tableKeeps_lifted (os : Os) (started : os.Started) (H : Type) (eH : TypeId × Value → H) :
    ReturnsInHanded {} Try.checked os 3 .any (Rows.tableKeepsSpec.pre6 eH Try.prog Try.f3 Rows.tableKeepsRow.domain false) (Rows.tableKeepsSpec.post eH Try.prog Try.f3 false true false false) := by
  refine law_lift (C := Try.checked) own0 started (by kernel_rfl) Try.func3
    (ChangeSpec.witness6 (enc := eH) (C := Try.checked) false ⟨#[], #[.int .i64 0, .slice none 0 0, .agg #[.int .i64 0, .int .i64 0, .int .i64 0], .agg #[.int .i64 0, .int .i64 0, .int .i64 0], .int .i64 0], []⟩ 8 (by kernel_rfl) (by kernel_rfl) (by kernel_rfl) (by kernel_rfl)) laid0 (by kernel_rfl) rfl (tb := E.bool) (by kernel_rfl) (by kernel_rfl) ?_ ?_
  · intro ds hd
    match ds, hd with
    | [_, _, _, _, _], _ => rfl
  · intro W base args ds ps hval hA _
    have hval : ∀ (j : Nat) t v, Try.f3.params[j]? = some t → args[j]? = some v → Value.okWide Try.prog W .any base t v := hval
    have hA : DataW.TrodAll eH Try.prog W 0 (fun _ => true) true Try.f3.params.toList args.toList ds ps := hA
    rw [Try.params3] at hA hval
    obtain ⟨v0, v1, v2, v3, v4, d0, d1, d2, d3, d4, p0, p1, p2, p3, p4, rfl, rfl, rfl, h0, h1, h2, h3, h4⟩ := trodAll_five hA
    obtain ⟨most, rfl, mostb⟩ := arg_int (hval 0 _ _ rfl rfl) h0
    obtain ⟨la, ln, lc, l, rfl, ls⟩ := arg_tsteps (hval 1 _ _ rfl rfl) h1
    obtain ⟨k, rfl⟩ := arg_key (hval 2 _ _ rfl rfl) h2
    obtain ⟨o, rfl⟩ := arg_key (hval 3 _ _ rfl rfl) h3
    obtain ⟨n, rfl, nb⟩ := arg_int (hval 4 _ _ rfl rfl) h4
    exact stp_ext (l14_TableKeeps_sp ls)
theorem tableKeeps_holds : Rows.TableKeepsSaid :=
  OpenClaim.holds_of_wide 3 Try.f3 rfl rfl rfl rfl rfl rfl rfl ⟨rfl, rfl, rfl, rfl, rfl⟩ rfl rfl rfl rfl rfl (by kernel_rfl) Try.func3 (by kernel_rfl)
    (of_decide_eq_true (by kernel_rfl)) (by unfold Func.isWrapper; first | (rw [if_pos (by decide +kernel)]; kernel_rfl) | (rw [if_neg (by decide +kernel)]; exact ⟨rfl, rfl⟩))
    (fun os started H enc _ => tableKeeps_lifted os started H enc)
#print axioms tableKeeps_holds
end Go.Proofs.Ytpljfhomnbcpdaa
