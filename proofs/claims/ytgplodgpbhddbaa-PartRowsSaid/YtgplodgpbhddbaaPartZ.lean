/-
  Proved here: the statements PartHomesSaid, PartMergesSaid, PartWholeSaid, PartBackSaid, PartRowsSaid: for every input the law returns true, and the input reads as it did.
  Conditions: none beyond the given rows.
-/
import Derived.Test.YtgplodgpbhddbaaArgR
import Derived.Test.YtgplodgpbhddbaaPartY
namespace Go.Proofs.Ytgplodgpbhddbaa
open Go.W Go.ChangeShapes
set_option maxRecDepth 100000 in
theorem partHomes_lifted (os : Os) (started : os.Started) (H : Type) (eH : TypeId × Value → H) :
    ReturnsInHanded {} Try.checked os 3 .any (Rows.partHomesSpec.pre6 eH Try.prog Try.f3 Rows.partHomesRow.domain false) (Rows.partHomesSpec.post eH Try.prog Try.f3 false true false false) := by
  refine law_lift (C := Try.checked) own0 started (by kernel_rfl) Try.func3
    (ChangeSpec.witness6 (enc := eH) (C := Try.checked) false ⟨#[], #[.slice none 0 0, .int .i64 0, .int .i64 0, .int .i64 0], []⟩ 8 (by kernel_rfl) (by kernel_rfl) (by kernel_rfl) (by kernel_rfl)) laid0 (by kernel_rfl) rfl (tb := E.bool) (by kernel_rfl) (by kernel_rfl) ?_ ?_
  · intro ds hd
    match ds, hd with
    | [_, _, _, _], _ => rfl
  · intro W base args ds ps hval hA _
    have hval : ∀ (j : Nat) t v, Try.f3.params[j]? = some t → args[j]? = some v → Value.okWide Try.prog W .any base t v := hval
    have hA : DataW.TrodAll eH Try.prog W 0 (fun _ => true) true Try.f3.params.toList args.toList ds ps := hA
    rw [Try.params3] at hA hval
    obtain ⟨v0, v1, v2, v3, d0, d1, d2, d3, p0, p1, p2, p3, rfl, rfl, rfl, h0, h1, h2, h3⟩ := Go.RowKit.trodAll_four hA
    obtain ⟨la, ln, lc, l, rfl, ls⟩ := arg_ints (hval 0 _ _ rfl rfl) h0
    obtain ⟨v, rfl, vb⟩ := arg_int (hval 1 _ _ rfl rfl) h1
    obtain ⟨k, rfl, kb⟩ := arg_int (hval 2 _ _ rfl rfl) h2
    obtain ⟨n, rfl, nb⟩ := arg_int (hval 3 _ _ rfl rfl) h3
    exact stp_ext (l06_PartHomes_sp ls)
theorem partHomes_holds : Rows.PartHomesSaid :=
  OpenClaim.holds_of_wide 3 Try.f3 rfl rfl rfl rfl rfl rfl rfl ⟨rfl, rfl, rfl, rfl, rfl⟩ rfl rfl rfl rfl rfl (by kernel_rfl) Try.func3 (by kernel_rfl)
    (of_decide_eq_true (by kernel_rfl)) (by unfold Func.isWrapper; first | (rw [if_pos (by decide +kernel)]; kernel_rfl) | (rw [if_neg (by decide +kernel)]; exact ⟨rfl, rfl⟩))
    (fun os started H enc _ => partHomes_lifted os started H enc)
#print axioms partHomes_holds
set_option maxRecDepth 100000 in
theorem partMerges_lifted (os : Os) (started : os.Started) (H : Type) (eH : TypeId × Value → H) :
    ReturnsInHanded {} Try.checked os 4 .any (Rows.partMergesSpec.pre6 eH Try.prog Try.f4 Rows.partMergesRow.domain false) (Rows.partMergesSpec.post eH Try.prog Try.f4 false true false false) := by
  refine law_lift (C := Try.checked) own0 started (by kernel_rfl) Try.func4
    (ChangeSpec.witness6 (enc := eH) (C := Try.checked) false ⟨#[], #[.slice none 0 0], []⟩ 8 (by kernel_rfl) (by kernel_rfl) (by kernel_rfl) (by kernel_rfl)) laid0 (by kernel_rfl) rfl (tb := E.bool) (by kernel_rfl) (by kernel_rfl) ?_ ?_
  · intro ds hd
    match ds, hd with
    | [_], _ => rfl
  · intro W base args ds ps hval hA hwt
    have hval : ∀ (j : Nat) t v, Try.f4.params[j]? = some t → args[j]? = some v → Value.okWide Try.prog W .any base t v := hval
    have hA : DataW.TrodAll eH Try.prog W 0 (fun _ => true) true Try.f4.params.toList args.toList ds ps := hA
    rw [Try.params4] at hA hval
    have hwt : (DataW.weightsEach Try.prog Try.f4.params.toList ds).all (· ≤ reachBytes) = true := hwt
    rw [Try.params4] at hwt
    obtain ⟨v0, d0, rfl, rfl, h0⟩ := trodAll_one hA
    obtain ⟨la, ln, lc, l, rfl, ls, lb, lr⟩ := arg_rows (hval 0 _ _ rfl rfl) h0 (rows_w hwt)
    exact stp_ext (l06_PartMerges_sp ls lb lr)
theorem partMerges_holds : Rows.PartMergesSaid :=
  OpenClaim.holds_of_wide 4 Try.f4 rfl rfl rfl rfl rfl rfl rfl ⟨rfl, rfl, rfl, rfl, rfl⟩ rfl rfl rfl rfl rfl (by kernel_rfl) Try.func4 (by kernel_rfl)
    (of_decide_eq_true (by kernel_rfl)) (by unfold Func.isWrapper; first | (rw [if_pos (by decide +kernel)]; kernel_rfl) | (rw [if_neg (by decide +kernel)]; exact ⟨rfl, rfl⟩))
    (fun os started H enc _ => partMerges_lifted os started H enc)
#print axioms partMerges_holds
set_option maxRecDepth 100000 in
theorem partWhole_lifted (os : Os) (started : os.Started) (H : Type) (eH : TypeId × Value → H) :
    ReturnsInHanded {} Try.checked os 5 .any (Rows.partWholeSpec.pre6 eH Try.prog Try.f5 Rows.partWholeRow.domain false) (Rows.partWholeSpec.post eH Try.prog Try.f5 false true false false) := by
  refine law_lift (C := Try.checked) own0 started (by kernel_rfl) Try.func5
    (ChangeSpec.witness6 (enc := eH) (C := Try.checked) false ⟨#[], #[.int .i64 0, .int .i64 0], []⟩ 8 (by kernel_rfl) (by kernel_rfl) (by kernel_rfl) (by kernel_rfl)) laid0 (by kernel_rfl) rfl (tb := E.bool) (by kernel_rfl) (by kernel_rfl) ?_ ?_
  · intro ds hd
    match ds, hd with
    | [_, _], _ => rfl
  · intro W base args ds ps hval hA _
    have hval : ∀ (j : Nat) t v, Try.f5.params[j]? = some t → args[j]? = some v → Value.okWide Try.prog W .any base t v := hval
    have hA : DataW.TrodAll eH Try.prog W 0 (fun _ => true) true Try.f5.params.toList args.toList ds ps := hA
    rw [Try.params5] at hA hval
    obtain ⟨v0, v1, d0, d1, p0, p1, rfl, rfl, rfl, h0, h1⟩ := trodAll_two hA
    obtain ⟨n, rfl, nb⟩ := arg_int (hval 0 _ _ rfl rfl) h0
    obtain ⟨k, rfl, kb⟩ := arg_int (hval 1 _ _ rfl rfl) h1
    exact stp_ext l06_PartWhole_sp
theorem partWhole_holds : Rows.PartWholeSaid :=
  OpenClaim.holds_of_wide 5 Try.f5 rfl rfl rfl rfl rfl rfl rfl ⟨rfl, rfl, rfl, rfl, rfl⟩ rfl rfl rfl rfl rfl (by kernel_rfl) Try.func5 (by kernel_rfl)
    (of_decide_eq_true (by kernel_rfl)) (by unfold Func.isWrapper; first | (rw [if_pos (by decide +kernel)]; kernel_rfl) | (rw [if_neg (by decide +kernel)]; exact ⟨rfl, rfl⟩))
    (fun os started H enc _ => partWhole_lifted os started H enc)
#print axioms partWhole_holds
set_option maxRecDepth 100000 in
theorem partBack_lifted (os : Os) (started : os.Started) (H : Type) (eH : TypeId × Value → H) :
    ReturnsInHanded {} Try.checked os 6 .any (Rows.partBackSpec.pre6 eH Try.prog Try.f6 Rows.partBackRow.domain false) (Rows.partBackSpec.post eH Try.prog Try.f6 false true false false) := by
  refine law_lift (C := Try.checked) own0 started (by kernel_rfl) Try.func6
    (ChangeSpec.witness6 (enc := eH) (C := Try.checked) false ⟨#[], #[.slice none 0 0, .int .i64 0], []⟩ 8 (by kernel_rfl) (by kernel_rfl) (by kernel_rfl) (by kernel_rfl)) laid0 (by kernel_rfl) rfl (tb := E.bool) (by kernel_rfl) (by kernel_rfl) ?_ ?_
  · intro ds hd
    match ds, hd with
    | [_, _], _ => rfl
  · intro W base args ds ps hval hA _
    have hval : ∀ (j : Nat) t v, Try.f6.params[j]? = some t → args[j]? = some v → Value.okWide Try.prog W .any base t v := hval
    have hA : DataW.TrodAll eH Try.prog W 0 (fun _ => true) true Try.f6.params.toList args.toList ds ps := hA
    rw [Try.params6] at hA hval
    obtain ⟨v0, v1, d0, d1, p0, p1, rfl, rfl, rfl, h0, h1⟩ := trodAll_two hA
    obtain ⟨la, ln, lc, l, rfl, ls⟩ := arg_ints (hval 0 _ _ rfl rfl) h0
    obtain ⟨k, rfl, kb⟩ := arg_int (hval 1 _ _ rfl rfl) h1
    exact stp_ext (l06_PartBack_sp ls)
theorem partBack_holds : Rows.PartBackSaid :=
  OpenClaim.holds_of_wide 6 Try.f6 rfl rfl rfl rfl rfl rfl rfl ⟨rfl, rfl, rfl, rfl, rfl⟩ rfl rfl rfl rfl rfl (by kernel_rfl) Try.func6 (by kernel_rfl)
    (of_decide_eq_true (by kernel_rfl)) (by unfold Func.isWrapper; first | (rw [if_pos (by decide +kernel)]; kernel_rfl) | (rw [if_neg (by decide +kernel)]; exact ⟨rfl, rfl⟩))
    (fun os started H enc _ => partBack_lifted os started H enc)
#print axioms partBack_holds
set_option maxRecDepth 100000 in
theorem partRows_lifted (os : Os) (started : os.Started) (H : Type) (eH : TypeId × Value → H) :
    ReturnsInHanded {} Try.checked os 7 .any (Rows.partRowsSpec.pre6 eH Try.prog Try.f7 Rows.partRowsRow.domain false) (Rows.partRowsSpec.post eH Try.prog Try.f7 false true false false) := by
  refine law_lift (C := Try.checked) own0 started (by kernel_rfl) Try.func7
    (ChangeSpec.witness6 (enc := eH) (C := Try.checked) false ⟨#[], #[.slice none 0 0], []⟩ 8 (by kernel_rfl) (by kernel_rfl) (by kernel_rfl) (by kernel_rfl)) laid0 (by kernel_rfl) rfl (tb := E.bool) (by kernel_rfl) (by kernel_rfl) ?_ ?_
  · intro ds hd
    match ds, hd with
    | [_], _ => rfl
  · intro W base args ds ps hval hA hwt
    have hval : ∀ (j : Nat) t v, Try.f7.params[j]? = some t → args[j]? = some v → Value.okWide Try.prog W .any base t v := hval
    have hA : DataW.TrodAll eH Try.prog W 0 (fun _ => true) true Try.f7.params.toList args.toList ds ps := hA
    rw [Try.params7] at hA hval
    have hwt : (DataW.weightsEach Try.prog Try.f7.params.toList ds).all (· ≤ reachBytes) = true := hwt
    rw [Try.params7] at hwt
    obtain ⟨v0, d0, rfl, rfl, h0⟩ := trodAll_one hA
    obtain ⟨la, ln, lc, l, rfl, ls, lb, lr⟩ := arg_rows (hval 0 _ _ rfl rfl) h0 (rows_w hwt)
    exact stp_ext (l06_PartRows_sp ls lb lr)
theorem partRows_holds : Rows.PartRowsSaid :=
  OpenClaim.holds_of_wide 7 Try.f7 rfl rfl rfl rfl rfl rfl rfl ⟨rfl, rfl, rfl, rfl, rfl⟩ rfl rfl rfl rfl rfl (by kernel_rfl) Try.func7 (by kernel_rfl)
    (of_decide_eq_true (by kernel_rfl)) (by unfold Func.isWrapper; first | (rw [if_pos (by decide +kernel)]; kernel_rfl) | (rw [if_neg (by decide +kernel)]; exact ⟨rfl, rfl⟩))
    (fun os started H enc _ => partRows_lifted os started H enc)
#print axioms partRows_holds
end Go.Proofs.Ytgplodgpbhddbaa
