/-
  Proved here: the statements TableRunsSaid, TableKeysSaid, TableNilSaid, TableOrderSaid: for every input the law returns true, and the input reads as it did.
  Conditions: none beyond the given rows.
-/
import Derived.Test.YtpljfhomnbcpdaaTabZ0
import Derived.Test.YtpljfhomnbcpdaaTabX
namespace Go.W
open Go Go.Proofs
set_option maxRecDepth 100000 in
theorem arg_keys {W : World} {b : Nat} {v : Value} {H : Type} {eH : TypeId × Value → H} {d : DataW H} {ps : List MemPlace} (h : Value.okWide Try.prog W .any b E.s_api_Key v) (ht : DataW.Trod eH Try.prog W 0 (fun _ => true) true E.s_api_Key v d ps) :
    ∃ a n c, ∃ l : List KeyD, v = .slice a n c ∧ SlF W (.slice a n c) l := by
  obtain ⟨fuel, hx⟩ := ht
  have q_ := rd_slice (P := Try.prog) (α := KeyD) (e := E.api_Key) (by kernel_rfl) hx
  obtain ⟨a, n, c, l, hc, h1, h2, _⟩ := q_
  exact ⟨a, n, c, l, arg_one h (by kernel_rfl) hc, h1⟩
end Go.W
namespace Go.Proofs.Ytpljfhomnbcpdaa
open Go.W Go.ChangeShapes
set_option maxRecDepth 100000 in
theorem tableRuns_lifted (os : Os) (started : os.Started) (H : Type) (eH : TypeId × Value → H) :
    ReturnsInHanded {} Try.checked os 9 .any (Rows.tableRunsSpec.pre6 eH Try.prog Try.f9 Rows.tableRunsRow.domain false) (Rows.tableRunsSpec.post eH Try.prog Try.f9 false true false false) := by
  refine law_lift (C := Try.checked) own0 started (by kernel_rfl) Try.func9
    (ChangeSpec.witness6 (enc := eH) (C := Try.checked) false ⟨#[], #[.int .i64 0, .slice none 0 0], []⟩ 8 (by kernel_rfl) (by kernel_rfl) (by kernel_rfl) (by kernel_rfl)) laid0 (by kernel_rfl) rfl (tb := E.bool) (by kernel_rfl) (by kernel_rfl) ?_ ?_
  · intro ds hd
    match ds, hd with
    | [_, _], _ => rfl
  · intro W base args ds ps hval hA _
    have hval : ∀ (j : Nat) t v, Try.f9.params[j]? = some t → args[j]? = some v → Value.okWide Try.prog W .any base t v := hval
    have hA : DataW.TrodAll eH Try.prog W 0 (fun _ => true) true Try.f9.params.toList args.toList ds ps := hA
    rw [Try.params9] at hA hval
    obtain ⟨v0, v1, d0, d1, p0, p1, rfl, rfl, rfl, h0, h1⟩ := trodAll_two hA
    obtain ⟨most, rfl, mostb⟩ := arg_int (hval 0 _ _ rfl rfl) h0
    obtain ⟨la, ln, lc, l, rfl, ls⟩ := arg_tsteps (hval 1 _ _ rfl rfl) h1
    exact stp_ext (l14_TableRuns_sp ls)
theorem tableRuns_holds : Rows.TableRunsSaid :=
  OpenClaim.holds_of_wide 9 Try.f9 rfl rfl rfl rfl rfl rfl rfl ⟨rfl, rfl, rfl, rfl, rfl⟩ rfl rfl rfl rfl rfl (by kernel_rfl) Try.func9 (by kernel_rfl)
    (of_decide_eq_true (by kernel_rfl)) (by unfold Func.isWrapper; first | (rw [if_pos (by decide +kernel)]; kernel_rfl) | (rw [if_neg (by decide +kernel)]; exact ⟨rfl, rfl⟩))
    (fun os started H enc _ => tableRuns_lifted os started H enc)
#print axioms tableRuns_holds
set_option maxRecDepth 100000 in
theorem tableKeys_lifted (os : Os) (started : os.Started) (H : Type) (eH : TypeId × Value → H) :
    ReturnsInHanded {} Try.checked os 10 .any (Rows.tableKeysSpec.pre6 eH Try.prog Try.f10 Rows.tableKeysRow.domain false) (Rows.tableKeysSpec.post eH Try.prog Try.f10 false true false false) := by
  refine law_lift (C := Try.checked) own0 started (by kernel_rfl) Try.func10
    (ChangeSpec.witness6 (enc := eH) (C := Try.checked) false ⟨#[], #[.int .i64 0, .slice none 0 0, .agg #[.int .i64 0, .int .i64 0, .int .i64 0]], []⟩ 8 (by kernel_rfl) (by kernel_rfl) (by kernel_rfl) (by kernel_rfl)) laid0 (by kernel_rfl) rfl (tb := E.bool) (by kernel_rfl) (by kernel_rfl) ?_ ?_
  · intro ds hd
    match ds, hd with
    | [_, _, _], _ => rfl
  · intro W base args ds ps hval hA _
    have hval : ∀ (j : Nat) t v, Try.f10.params[j]? = some t → args[j]? = some v → Value.okWide Try.prog W .any base t v := hval
    have hA : DataW.TrodAll eH Try.prog W 0 (fun _ => true) true Try.f10.params.toList args.toList ds ps := hA
    rw [Try.params10] at hA hval
    obtain ⟨v0, v1, v2, d0, d1, d2, p0, p1, p2, rfl, rfl, rfl, h0, h1, h2⟩ := trodAll_three hA
    obtain ⟨most, rfl, mostb⟩ := arg_int (hval 0 _ _ rfl rfl) h0
    obtain ⟨la, ln, lc, l, rfl, ls⟩ := arg_tsteps (hval 1 _ _ rfl rfl) h1
    obtain ⟨k, rfl⟩ := arg_key (hval 2 _ _ rfl rfl) h2
    exact stp_ext (l14_TableKeys_sp ls)
theorem tableKeys_holds : Rows.TableKeysSaid :=
  OpenClaim.holds_of_wide 10 Try.f10 rfl rfl rfl rfl rfl rfl rfl ⟨rfl, rfl, rfl, rfl, rfl⟩ rfl rfl rfl rfl rfl (by kernel_rfl) Try.func10 (by kernel_rfl)
    (of_decide_eq_true (by kernel_rfl)) (by unfold Func.isWrapper; first | (rw [if_pos (by decide +kernel)]; kernel_rfl) | (rw [if_neg (by decide +kernel)]; exact ⟨rfl, rfl⟩))
    (fun os started H enc _ => tableKeys_lifted os started H enc)
#print axioms tableKeys_holds
set_option maxRecDepth 100000 in
theorem tableNil_lifted (os : Os) (started : os.Started) (H : Type) (eH : TypeId × Value → H) :
    ReturnsInHanded {} Try.checked os 11 .any (Rows.tableNilSpec.pre6 eH Try.prog Try.f11 Rows.tableNilRow.domain false) (Rows.tableNilSpec.post eH Try.prog Try.f11 false true false false) := by
  refine law_lift (C := Try.checked) own0 started (by kernel_rfl) Try.func11
    (ChangeSpec.witness6 (enc := eH) (C := Try.checked) false ⟨#[], #[.agg #[.int .i64 0, .int .i64 0, .int .i64 0], .int .i64 0], []⟩ 8 (by kernel_rfl) (by kernel_rfl) (by kernel_rfl) (by kernel_rfl)) laid0 (by kernel_rfl) rfl (tb := E.bool) (by kernel_rfl) (by kernel_rfl) ?_ ?_
  · intro ds hd
    match ds, hd with
    | [_, _], _ => rfl
  · intro W base args ds ps hval hA _
    have hval : ∀ (j : Nat) t v, Try.f11.params[j]? = some t → args[j]? = some v → Value.okWide Try.prog W .any base t v := hval
    have hA : DataW.TrodAll eH Try.prog W 0 (fun _ => true) true Try.f11.params.toList args.toList ds ps := hA
    rw [Try.params11] at hA hval
    obtain ⟨v0, v1, d0, d1, p0, p1, rfl, rfl, rfl, h0, h1⟩ := trodAll_two hA
    obtain ⟨k, rfl⟩ := arg_key (hval 0 _ _ rfl rfl) h0
    obtain ⟨n, rfl, nb⟩ := arg_int (hval 1 _ _ rfl rfl) h1
    exact stp_ext l14_TableNil_sp
theorem tableNil_holds : Rows.TableNilSaid :=
  OpenClaim.holds_of_wide 11 Try.f11 rfl rfl rfl rfl rfl rfl rfl ⟨rfl, rfl, rfl, rfl, rfl⟩ rfl rfl rfl rfl rfl (by kernel_rfl) Try.func11 (by kernel_rfl)
    (of_decide_eq_true (by kernel_rfl)) (by unfold Func.isWrapper; first | (rw [if_pos (by decide +kernel)]; kernel_rfl) | (rw [if_neg (by decide +kernel)]; exact ⟨rfl, rfl⟩))
    (fun os started H enc _ => tableNil_lifted os started H enc)
#print axioms tableNil_holds
set_option maxRecDepth 100000 in
theorem tableOrder_lifted (os : Os) (started : os.Started) (H : Type) (eH : TypeId × Value → H) :
    ReturnsInHanded {} Try.checked os 12 .any (Rows.tableOrderSpec.pre6 eH Try.prog Try.f12 Rows.tableOrderRow.domain false) (Rows.tableOrderSpec.post eH Try.prog Try.f12 false true false false) := by
  refine law_lift (C := Try.checked) own0 started (by kernel_rfl) Try.func12
    (ChangeSpec.witness6 (enc := eH) (C := Try.checked) false ⟨#[], #[.slice none 0 0], []⟩ 8 (by kernel_rfl) (by kernel_rfl) (by kernel_rfl) (by kernel_rfl)) laid0 (by kernel_rfl) rfl (tb := E.bool) (by kernel_rfl) (by kernel_rfl) ?_ ?_
  · intro ds hd
    match ds, hd with
    | [_], _ => rfl
  · intro W base args ds ps hval hA _
    have hval : ∀ (j : Nat) t v, Try.f12.params[j]? = some t → args[j]? = some v → Value.okWide Try.prog W .any base t v := hval
    have hA : DataW.TrodAll eH Try.prog W 0 (fun _ => true) true Try.f12.params.toList args.toList ds ps := hA
    rw [Try.params12] at hA hval
    obtain ⟨v0, d0, rfl, rfl, h0⟩ := trodAll_one hA
    obtain ⟨la, ln, lc, l, rfl, ls⟩ := arg_keys (hval 0 _ _ rfl rfl) h0
    exact stp_ext (l14_TableOrder_sp ls)
theorem tableOrder_holds : Rows.TableOrderSaid :=
  OpenClaim.holds_of_wide 12 Try.f12 rfl rfl rfl rfl rfl rfl rfl ⟨rfl, rfl, rfl, rfl, rfl⟩ rfl rfl rfl rfl rfl (by kernel_rfl) Try.func12 (by kernel_rfl)
    (of_decide_eq_true (by kernel_rfl)) (by unfold Func.isWrapper; first | (rw [if_pos (by decide +kernel)]; kernel_rfl) | (rw [if_neg (by decide +kernel)]; exact ⟨rfl, rfl⟩))
    (fun os started H enc _ => tableOrder_lifted os started H enc)
#print axioms tableOrder_holds
end Go.Proofs.Ytpljfhomnbcpdaa
