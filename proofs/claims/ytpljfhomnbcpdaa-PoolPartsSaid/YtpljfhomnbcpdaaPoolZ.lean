/-
  Proved here: the statements PoolDoesSaid, PoolApartSaid, PoolRunsSaid and PoolPartsSaid: for every input the law returns true, and the input reads as it did.
  Conditions: none beyond the given rows.
-/
import Derived.Test.YtpljfhomnbcpdaaPoolN
namespace Go.W
open Go Go.Proofs
open Enc (enc)
set_option maxRecDepth 100000

instance : Rd Try.prog E.int Int := rdInt (by kernel_rfl) (by kernel_rfl)
instance : Rd Try.prog E.s_int SV := rdSl (α := Int) (e := E.int) (by kernel_rfl) (by kernel_rfl)
instance : Rd Try.prog E.api_Pool RPool where
  G w p := ∃ l : List Int, SlF w p.free.v l
  cells := by kernel_rfl
  rd := by
    intro H eH w sp fuel cs x hx
    have q_ := rd_struct (P := Try.prog) (t := E.api_Pool) (fl := [(E.int, 0, 1), (E.s_int, 1, 1)]) (n := 2) (by kernel_rfl) hx
    obtain ⟨hl, hf⟩ := q_
    have q_ := rd_field (P := Try.prog) (α := Int) hf 0 rfl
    obtain ⟨a0, h0, _⟩ := q_
    have q_ := rd_field (P := Try.prog) (α := SV) hf 1 rfl
    obtain ⟨a1, h1, g1⟩ := q_
    refine ⟨⟨a0, a1⟩, ?_, ?_⟩
    · have := tile h0 (tile h1 (tile0 hl) rfl) rfl
      rw [List.drop_zero] at this
      rw [this]; simp [enc]
    · obtain ⟨l, hl, _⟩ := g1
      exact ⟨l, hl⟩
instance : Rd Try.prog E.waysidelaw13_Op PStep where
  G _ _ := True
  cells := by kernel_rfl
  rd := by
    intro H eH w sp fuel cs x hx
    have q_ := rd_struct (P := Try.prog) (t := E.waysidelaw13_Op) (fl := [(E.int, 0, 1), (E.int, 1, 1)]) (n := 2) (by kernel_rfl) hx
    obtain ⟨hl, hf⟩ := q_
    have q_ := rd_field (P := Try.prog) (α := Int) hf 0 rfl
    obtain ⟨a0, h0, _⟩ := q_
    have q_ := rd_field (P := Try.prog) (α := Int) hf 1 rfl
    obtain ⟨a1, h1, _⟩ := q_
    refine ⟨⟨a0, a1⟩, ?_, trivial⟩
    have := tile h0 (tile h1 (tile0 hl) rfl) rfl
    rw [List.drop_zero] at this
    rw [this]; simp [enc]
theorem arg_int {W : World} {b : Nat} {v : Value} {H : Type} {eH : TypeId × Value → H} {d : DataW H} {ps : List MemPlace} (h : Value.okWide Try.prog W .any b E.int v) (ht : DataW.Trod eH Try.prog W 0 (fun _ => true) true E.int v d ps) : ∃ q : Int, v = .int .i64 q ∧ -9223372036854775808 ≤ q ∧ q ≤ 9223372036854775807 := by
  obtain ⟨fuel, hx⟩ := ht
  have q_ := Rd.rd (P := Try.prog) (t := E.int) (α := Int) hx
  obtain ⟨q, hc, hq⟩ := q_
  exact ⟨q, arg_one h (by kernel_rfl) hc, hq⟩
theorem arg_pool {W : World} {b : Nat} {v : Value} {H : Type} {eH : TypeId × Value → H} {d : DataW H} {ps : List MemPlace} (h : Value.okWide Try.prog W .any b E.api_Pool v) (ht : DataW.Trod eH Try.prog W 0 (fun _ => true) true E.api_Pool v d ps) :
    ∃ sz a n c, ∃ l : List Int, v = plV sz a n c ∧ SlF W (.slice a n c) l := by
  obtain ⟨fuel, hx⟩ := ht
  have q_ := Rd.rd (P := Try.prog) (t := E.api_Pool) (α := RPool) hx
  obtain ⟨⟨sz, ⟨a, n, c⟩⟩, hc, l, hq⟩ := q_
  exact ⟨sz, a, n, c, l, arg_agg h (by kernel_rfl) hc, hq⟩
theorem arg_psteps {W : World} {b : Nat} {v : Value} {H : Type} {eH : TypeId × Value → H} {d : DataW H} {ps : List MemPlace} (h : Value.okWide Try.prog W .any b E.s_waysidelaw13_Op v) (ht : DataW.Trod eH Try.prog W 0 (fun _ => true) true E.s_waysidelaw13_Op v d ps) :
    ∃ a n c, ∃ l : List PStep, v = .slice a n c ∧ SlF W (.slice a n c) l := by
  obtain ⟨fuel, hx⟩ := ht
  have q_ := rd_slice (P := Try.prog) (α := PStep) (e := E.waysidelaw13_Op) (by kernel_rfl) hx
  obtain ⟨a, n, c, l, hc, h1, h2, _⟩ := q_
  exact ⟨a, n, c, l, arg_one h (by kernel_rfl) hc, h1⟩
theorem stp_ext {w : World} : ∀ {f : FuncId} {args : Array Value} {P : Program}, Sp P f args w (fun v w' => v = .bool true ∧ Stp w w') → Sp P f args w (fun v w' => v = .bool true ∧ Ext w w') := fun h => h.mono fun _ _ h => ⟨h.1, h.2.e⟩
end Go.W

namespace Go.Proofs.Ytpljfhomnbcpdaa
open Go.W Go.ChangeShapes
theorem own0 : ownKnob Try.prog.godebug = none := by kernel_rfl
theorem laid0 : laidOutB Try.prog = true := by kernel_rfl
set_option maxRecDepth 100000 in
theorem poolDoes_lifted (os : Os) (started : os.Started) (H : Type) (eH : TypeId × Value → H) :
    ReturnsInHanded {} Try.checked os 4 .any (Rows.poolDoesSpec.pre6 eH Try.prog Try.f4 Rows.poolDoesRow.domain false) (Rows.poolDoesSpec.post eH Try.prog Try.f4 false true false false) := by
  refine law_lift (C := Try.checked) own0 started (by kernel_rfl) Try.func4
    (ChangeSpec.witness6 (enc := eH) (C := Try.checked) false ⟨#[], #[.agg #[.int .i64 0, .slice none 0 0], .int .i64 0, .int .i64 0, .int .i64 0], []⟩ 8 (by kernel_rfl) (by kernel_rfl) (by kernel_rfl) (by kernel_rfl)) laid0 (by kernel_rfl) rfl (tb := E.bool) (by kernel_rfl) (by kernel_rfl) ?_ ?_
  · intro ds hd
    match ds, hd with
    | [_, _, _, _], _ => rfl
  · intro W base args ds ps hval hA _
    have hval : ∀ (j : Nat) t v, Try.f4.params[j]? = some t → args[j]? = some v → Value.okWide Try.prog W .any base t v := hval
    have hA : DataW.TrodAll eH Try.prog W 0 (fun _ => true) true Try.f4.params.toList args.toList ds ps := hA
    rw [Try.params4] at hA hval
    obtain ⟨v0, v1, v2, v3, d0, d1, d2, d3, p0, p1, p2, p3, rfl, rfl, rfl, h0, h1, h2, h3⟩ := Go.RowKit.trodAll_four hA
    obtain ⟨pz, pa, pn, pc, pl, rfl, ps⟩ := arg_pool (hval 0 _ _ rfl rfl) h0
    obtain ⟨n, rfl, nb⟩ := arg_int (hval 1 _ _ rfl rfl) h1
    obtain ⟨many, rfl, manyb⟩ := arg_int (hval 2 _ _ rfl rfl) h2
    obtain ⟨size, rfl, sizeb⟩ := arg_int (hval 3 _ _ rfl rfl) h3
    exact stp_ext (l13_PoolDoes_sp ps ⟨manyb.1, manyb.2⟩)
theorem poolDoes_holds : Rows.PoolDoesSaid :=
  OpenClaim.holds_of_wide 4 Try.f4 rfl rfl rfl rfl rfl rfl rfl ⟨rfl, rfl, rfl, rfl, rfl⟩ rfl rfl rfl rfl rfl (by kernel_rfl) Try.func4 (by kernel_rfl)
    (of_decide_eq_true (by kernel_rfl)) (by unfold Func.isWrapper; first | (rw [if_pos (by decide +kernel)]; kernel_rfl) | (rw [if_neg (by decide +kernel)]; exact ⟨rfl, rfl⟩))
    (fun os started H enc _ => poolDoes_lifted os started H enc)
#print axioms poolDoes_holds
set_option maxRecDepth 100000 in
theorem poolApart_lifted (os : Os) (started : os.Started) (H : Type) (eH : TypeId × Value → H) :
    ReturnsInHanded {} Try.checked os 5 .any (Rows.poolApartSpec.pre6 eH Try.prog Try.f5 Rows.poolApartRow.domain false) (Rows.poolApartSpec.post eH Try.prog Try.f5 false true false false) := by
  refine law_lift (C := Try.checked) own0 started (by kernel_rfl) Try.func5
    (ChangeSpec.witness6 (enc := eH) (C := Try.checked) false ⟨#[], #[.agg #[.int .i64 0, .slice none 0 0], .int .i64 0], []⟩ 8 (by kernel_rfl) (by kernel_rfl) (by kernel_rfl) (by kernel_rfl)) laid0 (by kernel_rfl) rfl (tb := E.bool) (by kernel_rfl) (by kernel_rfl) ?_ ?_
  · intro ds hd
    match ds, hd with
    | [_, _], _ => rfl
  · intro W base args ds ps hval hA _
    have hval : ∀ (j : Nat) t v, Try.f5.params[j]? = some t → args[j]? = some v → Value.okWide Try.prog W .any base t v := hval
    have hA : DataW.TrodAll eH Try.prog W 0 (fun _ => true) true Try.f5.params.toList args.toList ds ps := hA
    rw [Try.params5] at hA hval
    obtain ⟨v0, v1, d0, d1, p0, p1, rfl, rfl, rfl, h0, h1⟩ := trodAll_two hA
    obtain ⟨pz, pa, pn, pc, pl, rfl, ps⟩ := arg_pool (hval 0 _ _ rfl rfl) h0
    obtain ⟨many, rfl, manyb⟩ := arg_int (hval 1 _ _ rfl rfl) h1
    exact stp_ext (l13_PoolApart_sp ps ⟨manyb.1, manyb.2⟩)
theorem poolApart_holds : Rows.PoolApartSaid :=
  OpenClaim.holds_of_wide 5 Try.f5 rfl rfl rfl rfl rfl rfl rfl ⟨rfl, rfl, rfl, rfl, rfl⟩ rfl rfl rfl rfl rfl (by kernel_rfl) Try.func5 (by kernel_rfl)
    (of_decide_eq_true (by kernel_rfl)) (by unfold Func.isWrapper; first | (rw [if_pos (by decide +kernel)]; kernel_rfl) | (rw [if_neg (by decide +kernel)]; exact ⟨rfl, rfl⟩))
    (fun os started H enc _ => poolApart_lifted os started H enc)
#print axioms poolApart_holds
set_option maxRecDepth 100000 in
theorem poolRuns_lifted (os : Os) (started : os.Started) (H : Type) (eH : TypeId × Value → H) :
    ReturnsInHanded {} Try.checked os 6 .any (Rows.poolRunsSpec.pre6 eH Try.prog Try.f6 Rows.poolRunsRow.domain false) (Rows.poolRunsSpec.post eH Try.prog Try.f6 false true false false) := by
  refine law_lift (C := Try.checked) own0 started (by kernel_rfl) Try.func6
    (ChangeSpec.witness6 (enc := eH) (C := Try.checked) false ⟨#[], #[.int .i64 0, .slice none 0 0], []⟩ 8 (by kernel_rfl) (by kernel_rfl) (by kernel_rfl) (by kernel_rfl)) laid0 (by kernel_rfl) rfl (tb := E.bool) (by kernel_rfl) (by kernel_rfl) ?_ ?_
  · intro ds hd
    match ds, hd with
    | [_, _], _ => rfl
  · intro W base args ds ps hval hA _
    have hval : ∀ (j : Nat) t v, Try.f6.params[j]? = some t → args[j]? = some v → Value.okWide Try.prog W .any base t v := hval
    have hA : DataW.TrodAll eH Try.prog W 0 (fun _ => true) true Try.f6.params.toList args.toList ds ps := hA
    rw [Try.params6] at hA hval
    obtain ⟨v0, v1, d0, d1, p0, p1, rfl, rfl, rfl, h0, h1⟩ := trodAll_two hA
    obtain ⟨size, rfl, sizeb⟩ := arg_int (hval 0 _ _ rfl rfl) h0
    obtain ⟨la, ln, lc, l, rfl, ls⟩ := arg_psteps (hval 1 _ _ rfl rfl) h1
    exact stp_ext (l13_PoolRuns_sp ls)
theorem poolRuns_holds : Rows.PoolRunsSaid :=
  OpenClaim.holds_of_wide 6 Try.f6 rfl rfl rfl rfl rfl rfl rfl ⟨rfl, rfl, rfl, rfl, rfl⟩ rfl rfl rfl rfl rfl (by kernel_rfl) Try.func6 (by kernel_rfl)
    (of_decide_eq_true (by kernel_rfl)) (by unfold Func.isWrapper; first | (rw [if_pos (by decide +kernel)]; kernel_rfl) | (rw [if_neg (by decide +kernel)]; exact ⟨rfl, rfl⟩))
    (fun os started H enc _ => poolRuns_lifted os started H enc)
#print axioms poolRuns_holds
set_option maxRecDepth 100000 in
theorem poolParts_lifted (os : Os) (started : os.Started) (H : Type) (eH : TypeId × Value → H) :
    ReturnsInHanded {} Try.checked os 7 .any (Rows.poolPartsSpec.pre6 eH Try.prog Try.f7 Rows.poolPartsRow.domain false) (Rows.poolPartsSpec.post eH Try.prog Try.f7 false true false false) := by
  refine law_lift (C := Try.checked) own0 started (by kernel_rfl) Try.func7
    (ChangeSpec.witness6 (enc := eH) (C := Try.checked) false ⟨#[], #[.agg #[.int .i64 0, .slice none 0 0], .int .i64 0, .int .i64 0], []⟩ 8 (by kernel_rfl) (by kernel_rfl) (by kernel_rfl) (by kernel_rfl)) laid0 (by kernel_rfl) rfl (tb := E.bool) (by kernel_rfl) (by kernel_rfl) ?_ ?_
  · intro ds hd
    match ds, hd with
    | [_, _, _], _ => rfl
  · intro W base args ds ps hval hA _
    have hval : ∀ (j : Nat) t v, Try.f7.params[j]? = some t → args[j]? = some v → Value.okWide Try.prog W .any base t v := hval
    have hA : DataW.TrodAll eH Try.prog W 0 (fun _ => true) true Try.f7.params.toList args.toList ds ps := hA
    rw [Try.params7] at hA hval
    obtain ⟨v0, v1, v2, d0, d1, d2, p0, p1, p2, rfl, rfl, rfl, h0, h1, h2⟩ := trodAll_three hA
    obtain ⟨pz, pa, pn, pc, pl, rfl, ps⟩ := arg_pool (hval 0 _ _ rfl rfl) h0
    obtain ⟨a, rfl, ab⟩ := arg_int (hval 1 _ _ rfl rfl) h1
    obtain ⟨b, rfl, bb⟩ := arg_int (hval 2 _ _ rfl rfl) h2
    exact stp_ext (l13_PoolParts_sp ps)
theorem poolParts_holds : Rows.PoolPartsSaid :=
  OpenClaim.holds_of_wide 7 Try.f7 rfl rfl rfl rfl rfl rfl rfl ⟨rfl, rfl, rfl, rfl, rfl⟩ rfl rfl rfl rfl rfl (by kernel_rfl) Try.func7 (by kernel_rfl)
    (of_decide_eq_true (by kernel_rfl)) (by unfold Func.isWrapper; first | (rw [if_pos (by decide +kernel)]; kernel_rfl) | (rw [if_neg (by decide +kernel)]; exact ⟨rfl, rfl⟩))
    (fun os started H enc _ => poolParts_lifted os started H enc)
#print axioms poolParts_holds
end Go.Proofs.Ytpljfhomnbcpdaa
