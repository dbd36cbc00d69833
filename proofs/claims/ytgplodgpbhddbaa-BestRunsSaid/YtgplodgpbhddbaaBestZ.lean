/-
  Proved here: the statements BestRunsSaid, BestOrderSaid, BestNilSaid, BestFirstSaid, BestKeepsSaid: for every input the law returns true, and the input reads as it did.
  Conditions: none beyond the given rows.
-/
import Derived.Test.YtgplodgpbhddbaaArgZ
import Derived.Test.YtgplodgpbhddbaaBestX
namespace Go.W
open Go Go.Proofs
open Enc (enc)
set_option maxRecDepth 100000
instance : Rd Try.prog E.api_Hit HitD where
  G _ _ := True
  cells := by kernel_rfl
  rd := by
    intro H eH w sp fuel cs x hx
    have q_ := rd_struct (P := Try.prog) (t := E.api_Hit) (fl := [(E.int, 0, 1), (E.int, 1, 1)]) (n := 2) (by kernel_rfl) hx
    obtain ⟨hl, hf⟩ := q_
    have q_ := rd_field (P := Try.prog) (α := Int) hf 0 rfl
    obtain ⟨a0, h0, _⟩ := q_
    have q_ := rd_field (P := Try.prog) (α := Int) hf 1 rfl
    obtain ⟨a1, h1, _⟩ := q_
    refine ⟨⟨a0, a1⟩, ?_, trivial⟩
    have := tile h0 (tile h1 (tile0 hl) rfl) rfl
    rw [List.drop_zero] at this
    rw [this]; simp [enc]
instance : Rd Try.prog E.waysideref10_Op HStep where
  G _ _ := True
  cells := by kernel_rfl
  rd := by
    intro H eH w sp fuel cs x hx
    have q_ := rd_struct (P := Try.prog) (t := E.waysideref10_Op) (fl := [(E.int, 0, 1), (E.api_Hit, 1, 2)]) (n := 3) (by kernel_rfl) hx
    obtain ⟨hl, hf⟩ := q_
    have q_ := rd_field (P := Try.prog) (α := Int) hf 0 rfl
    obtain ⟨a0, h0, _⟩ := q_
    have q_ := rd_field (P := Try.prog) (α := HitD) hf 1 rfl
    obtain ⟨a1, h1, _⟩ := q_
    refine ⟨⟨a0, a1⟩, ?_, trivial⟩
    have := tile h0 (tile h1 (tile0 hl) rfl) rfl
    rw [List.drop_zero] at this
    rw [this]; simp [enc]
theorem arg_hit {W : World} {b : Nat} {v : Value} {H : Type} {eH : TypeId × Value → H} {d : DataW H} {ps : List MemPlace} (h : Value.okWide Try.prog W .any b E.api_Hit v) (ht : DataW.Trod eH Try.prog W 0 (fun _ => true) true E.api_Hit v d ps) :
    ∃ k : HitD, v = agg k := by
  obtain ⟨fuel, hx⟩ := ht
  have q_ := Rd.rd (P := Try.prog) (t := E.api_Hit) (α := HitD) hx
  obtain ⟨k, hc, _⟩ := q_
  exact ⟨k, arg_agg h (by kernel_rfl) hc⟩
theorem arg_hits {W : World} {b : Nat} {v : Value} {H : Type} {eH : TypeId × Value → H} {d : DataW H} {ps : List MemPlace} (h : Value.okWide Try.prog W .any b E.s_api_Hit v) (ht : DataW.Trod eH Try.prog W 0 (fun _ => true) true E.s_api_Hit v d ps) :
    ∃ a n c, ∃ l : List HitD, v = .slice a n c ∧ SlF W (.slice a n c) l := by
  obtain ⟨fuel, hx⟩ := ht
  have q_ := rd_slice (P := Try.prog) (α := HitD) (e := E.api_Hit) (by kernel_rfl) hx
  obtain ⟨a, n, c, l, hc, h1, h2, _⟩ := q_
  exact ⟨a, n, c, l, arg_one h (by kernel_rfl) hc, h1⟩
theorem arg_hsteps {W : World} {b : Nat} {v : Value} {H : Type} {eH : TypeId × Value → H} {d : DataW H} {ps : List MemPlace} (h : Value.okWide Try.prog W .any b E.s_waysideref10_Op v) (ht : DataW.Trod eH Try.prog W 0 (fun _ => true) true E.s_waysideref10_Op v d ps) :
    ∃ a n c, ∃ l : List HStep, v = .slice a n c ∧ SlF W (.slice a n c) l := by
  obtain ⟨fuel, hx⟩ := ht
  have q_ := rd_slice (P := Try.prog) (α := HStep) (e := E.waysideref10_Op) (by kernel_rfl) hx
  obtain ⟨a, n, c, l, hc, h1, h2, _⟩ := q_
  exact ⟨a, n, c, l, arg_one h (by kernel_rfl) hc, h1⟩
end Go.W
namespace Go.Proofs.Ytgplodgpbhddbaa
open Go.W Go.ChangeShapes
set_option maxRecDepth 100000 in
theorem bestRuns_lifted (os : Os) (started : os.Started) (H : Type) (eH : TypeId × Value → H) :
    ReturnsInHanded {} Try.checked os 8 .any (Rows.bestRunsSpec.pre6 eH Try.prog Try.f8 Rows.bestRunsRow.domain false) (Rows.bestRunsSpec.post eH Try.prog Try.f8 false true false false) := by
  refine law_lift (C := Try.checked) own0 started (by kernel_rfl) Try.func8
    (ChangeSpec.witness6 (enc := eH) (C := Try.checked) false ⟨#[], #[.int .i64 0, .slice none 0 0], []⟩ 8 (by kernel_rfl) (by kernel_rfl) (by kernel_rfl) (by kernel_rfl)) laid0 (by kernel_rfl) rfl (tb := E.bool) (by kernel_rfl) (by kernel_rfl) ?_ ?_
  · intro ds hd
    match ds, hd with
    | [_, _], _ => rfl
  · intro W base args ds ps hval hA _
    have hval : ∀ (j : Nat) t v, Try.f8.params[j]? = some t → args[j]? = some v → Value.okWide Try.prog W .any base t v := hval
    have hA : DataW.TrodAll eH Try.prog W 0 (fun _ => true) true Try.f8.params.toList args.toList ds ps := hA
    rw [Try.params8] at hA hval
    obtain ⟨v0, v1, d0, d1, p0, p1, rfl, rfl, rfl, h0, h1⟩ := trodAll_two hA
    obtain ⟨most, rfl, mostb⟩ := arg_int (hval 0 _ _ rfl rfl) h0
    obtain ⟨la, ln, lc, l, rfl, ls⟩ := arg_hsteps (hval 1 _ _ rfl rfl) h1
    exact stp_ext (l10_BestRuns_sp ls)
theorem bestRuns_holds : Rows.BestRunsSaid :=
  OpenClaim.holds_of_wide 8 Try.f8 rfl rfl rfl rfl rfl rfl rfl ⟨rfl, rfl, rfl, rfl, rfl⟩ rfl rfl rfl rfl rfl (by kernel_rfl) Try.func8 (by kernel_rfl)
    (of_decide_eq_true (by kernel_rfl)) (by unfold Func.isWrapper; first | (rw [if_pos (by decide +kernel)]; kernel_rfl) | (rw [if_neg (by decide +kernel)]; exact ⟨rfl, rfl⟩))
    (fun os started H enc _ => bestRuns_lifted os started H enc)
#print axioms bestRuns_holds
set_option maxRecDepth 100000 in
theorem bestOrder_lifted (os : Os) (started : os.Started) (H : Type) (eH : TypeId × Value → H) :
    ReturnsInHanded {} Try.checked os 9 .any (Rows.bestOrderSpec.pre6 eH Try.prog Try.f9 Rows.bestOrderRow.domain false) (Rows.bestOrderSpec.post eH Try.prog Try.f9 false true false false) := by
  refine law_lift (C := Try.checked) own0 started (by kernel_rfl) Try.func9
    (ChangeSpec.witness6 (enc := eH) (C := Try.checked) false ⟨#[], #[.slice none 0 0], []⟩ 8 (by kernel_rfl) (by kernel_rfl) (by kernel_rfl) (by kernel_rfl)) laid0 (by kernel_rfl) rfl (tb := E.bool) (by kernel_rfl) (by kernel_rfl) ?_ ?_
  · intro ds hd
    match ds, hd with
    | [_], _ => rfl
  · intro W base args ds ps hval hA _
    have hval : ∀ (j : Nat) t v, Try.f9.params[j]? = some t → args[j]? = some v → Value.okWide Try.prog W .any base t v := hval
    have hA : DataW.TrodAll eH Try.prog W 0 (fun _ => true) true Try.f9.params.toList args.toList ds ps := hA
    rw [Try.params9] at hA hval
    obtain ⟨v0, d0, rfl, rfl, h0⟩ := trodAll_one hA
    obtain ⟨la, ln, lc, l, rfl, ls⟩ := arg_hits (hval 0 _ _ rfl rfl) h0
    exact stp_ext (l10_BestOrder_sp ls)
theorem bestOrder_holds : Rows.BestOrderSaid :=
  OpenClaim.holds_of_wide 9 Try.f9 rfl rfl rfl rfl rfl rfl rfl ⟨rfl, rfl, rfl, rfl, rfl⟩ rfl rfl rfl rfl rfl (by kernel_rfl) Try.func9 (by kernel_rfl)
    (of_decide_eq_true (by kernel_rfl)) (by unfold Func.isWrapper; first | (rw [if_pos (by decide +kernel)]; kernel_rfl) | (rw [if_neg (by decide +kernel)]; exact ⟨rfl, rfl⟩))
    (fun os started H enc _ => bestOrder_lifted os started H enc)
#print axioms bestOrder_holds
set_option maxRecDepth 100000 in
theorem bestNil_lifted (os : Os) (started : os.Started) (H : Type) (eH : TypeId × Value → H) :
    ReturnsInHanded {} Try.checked os 10 .any (Rows.bestNilSpec.pre6 eH Try.prog Try.f10 Rows.bestNilRow.domain false) (Rows.bestNilSpec.post eH Try.prog Try.f10 false true false false) := by
  refine law_lift (C := Try.checked) own0 started (by kernel_rfl) Try.func10
    (ChangeSpec.witness6 (enc := eH) (C := Try.checked) false ⟨#[], #[.agg #[.int .i64 0, .int .i64 0]], []⟩ 8 (by kernel_rfl) (by kernel_rfl) (by kernel_rfl) (by kernel_rfl)) laid0 (by kernel_rfl) rfl (tb := E.bool) (by kernel_rfl) (by kernel_rfl) ?_ ?_
  · intro ds hd
    match ds, hd with
    | [_], _ => rfl
  · intro W base args ds ps hval hA _
    have hval : ∀ (j : Nat) t v, Try.f10.params[j]? = some t → args[j]? = some v → Value.okWide Try.prog W .any base t v := hval
    have hA : DataW.TrodAll eH Try.prog W 0 (fun _ => true) true Try.f10.params.toList args.toList ds ps := hA
    rw [Try.params10] at hA hval
    obtain ⟨v0, d0, rfl, rfl, h0⟩ := trodAll_one hA
    obtain ⟨h, rfl⟩ := arg_hit (hval 0 _ _ rfl rfl) h0
    exact stp_ext l10_BestNil_sp
theorem bestNil_holds : Rows.BestNilSaid :=
  OpenClaim.holds_of_wide 10 Try.f10 rfl rfl rfl rfl rfl rfl rfl ⟨rfl, rfl, rfl, rfl, rfl⟩ rfl rfl rfl rfl rfl (by kernel_rfl) Try.func10 (by kernel_rfl)
    (of_decide_eq_true (by kernel_rfl)) (by unfold Func.isWrapper; first | (rw [if_pos (by decide +kernel)]; kernel_rfl) | (rw [if_neg (by decide +kernel)]; exact ⟨rfl, rfl⟩))
    (fun os started H enc _ => bestNil_lifted os started H enc)
#print axioms bestNil_holds
set_option maxRecDepth 100000 in
theorem bestFirst_lifted (os : Os) (started : os.Started) (H : Type) (eH : TypeId × Value → H) :
    ReturnsInHanded {} Try.checked os 11 .any (Rows.bestFirstSpec.pre6 eH Try.prog Try.f11 Rows.bestFirstRow.domain false) (Rows.bestFirstSpec.post eH Try.prog Try.f11 false true false false) := by
  refine law_lift (C := Try.checked) own0 started (by kernel_rfl) Try.func11
    (ChangeSpec.witness6 (enc := eH) (C := Try.checked) false ⟨#[], #[.slice none 0 0, .int .i64 0], []⟩ 8 (by kernel_rfl) (by kernel_rfl) (by kernel_rfl) (by kernel_rfl)) laid0 (by kernel_rfl) rfl (tb := E.bool) (by kernel_rfl) (by kernel_rfl) ?_ ?_
  · intro ds hd
    match ds, hd with
    | [_, _], _ => rfl
  · intro W base args ds ps hval hA _
    have hval : ∀ (j : Nat) t v, Try.f11.params[j]? = some t → args[j]? = some v → Value.okWide Try.prog W .any base t v := hval
    have hA : DataW.TrodAll eH Try.prog W 0 (fun _ => true) true Try.f11.params.toList args.toList ds ps := hA
    rw [Try.params11] at hA hval
    obtain ⟨v0, v1, d0, d1, p0, p1, rfl, rfl, rfl, h0, h1⟩ := trodAll_two hA
    obtain ⟨la, ln, lc, l, rfl, ls⟩ := arg_hits (hval 0 _ _ rfl rfl) h0
    obtain ⟨k, rfl, kb⟩ := arg_int (hval 1 _ _ rfl rfl) h1
    exact stp_ext (l10_BestFirst_sp ls)
theorem bestFirst_holds : Rows.BestFirstSaid :=
  OpenClaim.holds_of_wide 11 Try.f11 rfl rfl rfl rfl rfl rfl rfl ⟨rfl, rfl, rfl, rfl, rfl⟩ rfl rfl rfl rfl rfl (by kernel_rfl) Try.func11 (by kernel_rfl)
    (of_decide_eq_true (by kernel_rfl)) (by unfold Func.isWrapper; first | (rw [if_pos (by decide +kernel)]; kernel_rfl) | (rw [if_neg (by decide +kernel)]; exact ⟨rfl, rfl⟩))
    (fun os started H enc _ => bestFirst_lifted os started H enc)
#print axioms bestFirst_holds
set_option maxRecDepth 100000 in
theorem bestKeeps_lifted (os : Os) (started : os.Started) (H : Type) (eH : TypeId × Value → H) :
    ReturnsInHanded {} Try.checked os 12 .any (Rows.bestKeepsSpec.pre6 eH Try.prog Try.f12 Rows.bestKeepsRow.domain false) (Rows.bestKeepsSpec.post eH Try.prog Try.f12 false true false false) := by
  refine law_lift (C := Try.checked) own0 started (by kernel_rfl) Try.func12
    (ChangeSpec.witness6 (enc := eH) (C := Try.checked) false ⟨#[], #[.slice none 0 0, .int .i64 0], []⟩ 8 (by kernel_rfl) (by kernel_rfl) (by kernel_rfl) (by kernel_rfl)) laid0 (by kernel_rfl) rfl (tb := E.bool) (by kernel_rfl) (by kernel_rfl) ?_ ?_
  · intro ds hd
    match ds, hd with
    | [_, _], _ => rfl
  · intro W base args ds ps hval hA _
    have hval : ∀ (j : Nat) t v, Try.f12.params[j]? = some t → args[j]? = some v → Value.okWide Try.prog W .any base t v := hval
    have hA : DataW.TrodAll eH Try.prog W 0 (fun _ => true) true Try.f12.params.toList args.toList ds ps := hA
    rw [Try.params12] at hA hval
    obtain ⟨v0, v1, d0, d1, p0, p1, rfl, rfl, rfl, h0, h1⟩ := trodAll_two hA
    obtain ⟨la, ln, lc, l, rfl, ls⟩ := arg_hits (hval 0 _ _ rfl rfl) h0
    obtain ⟨k, rfl, kb⟩ := arg_int (hval 1 _ _ rfl rfl) h1
    exact stp_ext (l10_BestKeeps_sp ls)
theorem bestKeeps_holds : Rows.BestKeepsSaid :=
  OpenClaim.holds_of_wide 12 Try.f12 rfl rfl rfl rfl rfl rfl rfl ⟨rfl, rfl, rfl, rfl, rfl⟩ rfl rfl rfl rfl rfl (by kernel_rfl) Try.func12 (by kernel_rfl)
    (of_decide_eq_true (by kernel_rfl)) (by unfold Func.isWrapper; first | (rw [if_pos (by decide +kernel)]; kernel_rfl) | (rw [if_neg (by decide +kernel)]; exact ⟨rfl, rfl⟩))
    (fun os started H enc _ => bestKeeps_lifted os started H enc)
#print axioms bestKeeps_holds
end Go.Proofs.Ytgplodgpbhddbaa
