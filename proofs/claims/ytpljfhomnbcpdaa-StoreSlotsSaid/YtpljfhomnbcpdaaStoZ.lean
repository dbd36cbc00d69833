/-
  Proved here: the statements StoreEmptySaid, StoreSlotsSaid, StoreRunsSaid, StoreNilSaid, StoreGetsSaid: for every input the law returns true, and the input reads as it did.
  Conditions: none beyond the given rows.
-/
import Derived.Test.YtpljfhomnbcpdaaTabZ0
import Derived.Test.YtpljfhomnbcpdaaStoV
namespace Go.W
open Go Go.Proofs
open Enc (enc)
set_option maxRecDepth 100000

instance : Rd Try.prog E.api_State StD where
  G _ _ := True
  cells := by kernel_rfl
  rd := by
    intro H eH w sp fuel cs x hx
    have q_ := rd_struct (P := Try.prog) (t := E.api_State) (fl := [(E.api_Key, 0, 3), (E.int, 3, 1)]) (n := 4) (by kernel_rfl) hx
    obtain ⟨hl, hf⟩ := q_
    have q_ := rd_field (P := Try.prog) (α := KeyD) hf 0 rfl
    obtain ⟨a0, h0, _⟩ := q_
    have q_ := rd_field (P := Try.prog) (α := Int) hf 1 rfl
    obtain ⟨a1, h1, _⟩ := q_
    refine ⟨⟨a0, a1⟩, ?_, trivial⟩
    have := tile h0 (tile h1 (tile0 hl) rfl) rfl
    rw [List.drop_zero] at this
    rw [this]; simp [enc]
instance : Rd Try.prog E.waysideref15_Op SStep where
  G _ _ := True
  cells := by kernel_rfl
  rd := by
    intro H eH w sp fuel cs x hx
    have q_ := rd_struct (P := Try.prog) (t := E.waysideref15_Op) (fl := [(E.int, 0, 1), (E.api_State, 1, 4)]) (n := 5) (by kernel_rfl) hx
    obtain ⟨hl, hf⟩ := q_
    have q_ := rd_field (P := Try.prog) (α := Int) hf 0 rfl
    obtain ⟨a0, h0, _⟩ := q_
    have q_ := rd_field (P := Try.prog) (α := StD) hf 1 rfl
    obtain ⟨a1, h1, _⟩ := q_
    refine ⟨⟨a0, a1⟩, ?_, trivial⟩
    have := tile h0 (tile h1 (tile0 hl) rfl) rfl
    rw [List.drop_zero] at this
    rw [this]; simp [enc]
theorem arg_state {W : World} {b : Nat} {v : Value} {H : Type} {eH : TypeId × Value → H} {d : DataW H} {ps : List MemPlace} (h : Value.okWide Try.prog W .any b E.api_State v) (ht : DataW.Trod eH Try.prog W 0 (fun _ => true) true E.api_State v d ps) :
    ∃ k : StD, v = agg k := by
  obtain ⟨fuel, hx⟩ := ht
  have q_ := Rd.rd (P := Try.prog) (t := E.api_State) (α := StD) hx
  obtain ⟨k, hc, _⟩ := q_
  exact ⟨k, arg_agg h (by kernel_rfl) hc⟩
theorem arg_ssteps {W : World} {b : Nat} {v : Value} {H : Type} {eH : TypeId × Value → H} {d : DataW H} {ps : List MemPlace} (h : Value.okWide Try.prog W .any b E.s_waysideref15_Op v) (ht : DataW.Trod eH Try.prog W 0 (fun _ => true) true E.s_waysideref15_Op v d ps) :
    ∃ a n c, ∃ l : List SStep, v = .slice a n c ∧ SlF W (.slice a n c) l := by
  obtain ⟨fuel, hx⟩ := ht
  have q_ := rd_slice (P := Try.prog) (α := SStep) (e := E.waysideref15_Op) (by kernel_rfl) hx
  obtain ⟨a, n, c, l, hc, h1, h2, _⟩ := q_
  exact ⟨a, n, c, l, arg_one h (by kernel_rfl) hc, h1⟩
end Go.W
namespace Go.Proofs.Ytpljfhomnbcpdaa
open Go.W Go.ChangeShapes
set_option maxRecDepth 100000 in
theorem storeEmpty_lifted (os : Os) (started : os.Started) (H : Type) (eH : TypeId × Value → H) :
    ReturnsInHanded {} Try.checked os 8 .any (Rows.storeEmptySpec.pre6 eH Try.prog Try.f8 Rows.storeEmptyRow.domain false) (Rows.storeEmptySpec.post eH Try.prog Try.f8 false true false false) := by
  refine law_lift (C := Try.checked) own0 started (by kernel_rfl) Try.func8
    (ChangeSpec.witness6 (enc := eH) (C := Try.checked) false ⟨#[], #[.int .i64 0, .slice none 0 0], []⟩ 8 (by kernel_rfl) (by kernel_rfl) (by kernel_rfl) (by kernel_rfl)) laid0 (by kernel_rfl) rfl (tb := E.bool) (by kernel_rfl) (by kernel_rfl) ?_ ?_
  · intro ds hd
    match ds, hd with
    | [_, _], _ => rfl
  · intro W base args ds ps hval hA _
    have hval : ∀ (j : Nat) t v, Try.f8.params[j]? = some t → args[j]? = some v → Value.okWide Try.prog W .any base t v := hval
    have hA : DataW.TrodAll eH Try.prog W 0 (fun _ => true) true Try.f8.params.toList args.toList ds ps := hA
    rw [Try.params8] at hA hval
    obtain ⟨v0, v1, d0, d1, p0, p1, rfl, rfl, rfl, h0, h1⟩ := trodAll_two hA
    obtain ⟨size, rfl, sizeb⟩ := arg_int (hval 0 _ _ rfl rfl) h0
    obtain ⟨la, ln, lc, l, rfl, ls⟩ := arg_ssteps (hval 1 _ _ rfl rfl) h1
    exact stp_ext (l15_StoreEmpty_sp ls)
theorem storeEmpty_holds : Rows.StoreEmptySaid :=
  OpenClaim.holds_of_wide 8 Try.f8 rfl rfl rfl rfl rfl rfl rfl ⟨rfl, rfl, rfl, rfl, rfl⟩ rfl rfl rfl rfl rfl (by kernel_rfl) Try.func8 (by kernel_rfl)
    (of_decide_eq_true (by kernel_rfl)) (by unfold Func.isWrapper; first | (rw [if_pos (by decide +kernel)]; kernel_rfl) | (rw [if_neg (by decide +kernel)]; exact ⟨rfl, rfl⟩))
    (fun os started H enc _ => storeEmpty_lifted os started H enc)
#print axioms storeEmpty_holds
set_option maxRecDepth 100000 in
theorem storeSlots_lifted (os : Os) (started : os.Started) (H : Type) (eH : TypeId × Value → H) :
    ReturnsInHanded {} Try.checked os 13 .any (Rows.storeSlotsSpec.pre6 eH Try.prog Try.f13 Rows.storeSlotsRow.domain false) (Rows.storeSlotsSpec.post eH Try.prog Try.f13 false true false false) := by
  refine law_lift (C := Try.checked) own0 started (by kernel_rfl) Try.func13
    (ChangeSpec.witness6 (enc := eH) (C := Try.checked) false ⟨#[], #[.int .i64 0, .slice none 0 0, .int .i64 0, .int .i64 0], []⟩ 8 (by kernel_rfl) (by kernel_rfl) (by kernel_rfl) (by kernel_rfl)) laid0 (by kernel_rfl) rfl (tb := E.bool) (by kernel_rfl) (by kernel_rfl) ?_ ?_
  · intro ds hd
    match ds, hd with
    | [_, _, _, _], _ => rfl
  · intro W base args ds ps hval hA _
    have hval : ∀ (j : Nat) t v, Try.f13.params[j]? = some t → args[j]? = some v → Value.okWide Try.prog W .any base t v := hval
    have hA : DataW.TrodAll eH Try.prog W 0 (fun _ => true) true Try.f13.params.toList args.toList ds ps := hA
    rw [Try.params13] at hA hval
    obtain ⟨v0, v1, v2, v3, d0, d1, d2, d3, p0, p1, p2, p3, rfl, rfl, rfl, h0, h1, h2, h3⟩ := Go.RowKit.trodAll_four hA
    obtain ⟨size, rfl, sizeb⟩ := arg_int (hval 0 _ _ rfl rfl) h0
    obtain ⟨la, ln, lc, l, rfl, ls⟩ := arg_ssteps (hval 1 _ _ rfl rfl) h1
    obtain ⟨slot, rfl, slotb⟩ := arg_int (hval 2 _ _ rfl rfl) h2
    obtain ⟨other, rfl, otherb⟩ := arg_int (hval 3 _ _ rfl rfl) h3
    exact stp_ext (l15_StoreSlots_sp ls)
theorem storeSlots_holds : Rows.StoreSlotsSaid :=
  OpenClaim.holds_of_wide 13 Try.f13 rfl rfl rfl rfl rfl rfl rfl ⟨rfl, rfl, rfl, rfl, rfl⟩ rfl rfl rfl rfl rfl (by kernel_rfl) Try.func13 (by kernel_rfl)
    (of_decide_eq_true (by kernel_rfl)) (by unfold Func.isWrapper; first | (rw [if_pos (by decide +kernel)]; kernel_rfl) | (rw [if_neg (by decide +kernel)]; exact ⟨rfl, rfl⟩))
    (fun os started H enc _ => storeSlots_lifted os started H enc)
#print axioms storeSlots_holds
set_option maxRecDepth 100000 in
theorem storeRuns_lifted (os : Os) (started : os.Started) (H : Type) (eH : TypeId × Value → H) :
    ReturnsInHanded {} Try.checked os 14 .any (Rows.storeRunsSpec.pre6 eH Try.prog Try.f14 Rows.storeRunsRow.domain false) (Rows.storeRunsSpec.post eH Try.prog Try.f14 false true false false) := by
  refine law_lift (C := Try.checked) own0 started (by kernel_rfl) Try.func14
    (ChangeSpec.witness6 (enc := eH) (C := Try.checked) false ⟨#[], #[.int .i64 0, .slice none 0 0], []⟩ 8 (by kernel_rfl) (by kernel_rfl) (by kernel_rfl) (by kernel_rfl)) laid0 (by kernel_rfl) rfl (tb := E.bool) (by kernel_rfl) (by kernel_rfl) ?_ ?_
  · intro ds hd
    match ds, hd with
    | [_, _], _ => rfl
  · intro W base args ds ps hval hA _
    have hval : ∀ (j : Nat) t v, Try.f14.params[j]? = some t → args[j]? = some v → Value.okWide Try.prog W .any base t v := hval
    have hA : DataW.TrodAll eH Try.prog W 0 (fun _ => true) true Try.f14.params.toList args.toList ds ps := hA
    rw [Try.params14] at hA hval
    obtain ⟨v0, v1, d0, d1, p0, p1, rfl, rfl, rfl, h0, h1⟩ := trodAll_two hA
    obtain ⟨size, rfl, sizeb⟩ := arg_int (hval 0 _ _ rfl rfl) h0
    obtain ⟨la, ln, lc, l, rfl, ls⟩ := arg_ssteps (hval 1 _ _ rfl rfl) h1
    exact stp_ext (l15_StoreRuns_sp ls)
theorem storeRuns_holds : Rows.StoreRunsSaid :=
  OpenClaim.holds_of_wide 14 Try.f14 rfl rfl rfl rfl rfl rfl rfl ⟨rfl, rfl, rfl, rfl, rfl⟩ rfl rfl rfl rfl rfl (by kernel_rfl) Try.func14 (by kernel_rfl)
    (of_decide_eq_true (by kernel_rfl)) (by unfold Func.isWrapper; first | (rw [if_pos (by decide +kernel)]; kernel_rfl) | (rw [if_neg (by decide +kernel)]; exact ⟨rfl, rfl⟩))
    (fun os started H enc _ => storeRuns_lifted os started H enc)
#print axioms storeRuns_holds
set_option maxRecDepth 100000 in
theorem storeNil_lifted (os : Os) (started : os.Started) (H : Type) (eH : TypeId × Value → H) :
    ReturnsInHanded {} Try.checked os 15 .any (Rows.storeNilSpec.pre6 eH Try.prog Try.f15 Rows.storeNilRow.domain false) (Rows.storeNilSpec.post eH Try.prog Try.f15 false true false false) := by
  refine law_lift (C := Try.checked) own0 started (by kernel_rfl) Try.func15
    (ChangeSpec.witness6 (enc := eH) (C := Try.checked) false ⟨#[], #[.agg #[.int .i64 0, .int .i64 0, .int .i64 0, .int .i64 0], .int .i64 0], []⟩ 8 (by kernel_rfl) (by kernel_rfl) (by kernel_rfl) (by kernel_rfl)) laid0 (by kernel_rfl) rfl (tb := E.bool) (by kernel_rfl) (by kernel_rfl) ?_ ?_
  · intro ds hd
    match ds, hd with
    | [_, _], _ => rfl
  · intro W base args ds ps hval hA _
    have hval : ∀ (j : Nat) t v, Try.f15.params[j]? = some t → args[j]? = some v → Value.okWide Try.prog W .any base t v := hval
    have hA : DataW.TrodAll eH Try.prog W 0 (fun _ => true) true Try.f15.params.toList args.toList ds ps := hA
    rw [Try.params15] at hA hval
    obtain ⟨v0, v1, d0, d1, p0, p1, rfl, rfl, rfl, h0, h1⟩ := trodAll_two hA
    obtain ⟨x, rfl⟩ := arg_state (hval 0 _ _ rfl rfl) h0
    obtain ⟨slot, rfl, slotb⟩ := arg_int (hval 1 _ _ rfl rfl) h1
    exact stp_ext l15_StoreNil_sp
theorem storeNil_holds : Rows.StoreNilSaid :=
  OpenClaim.holds_of_wide 15 Try.f15 rfl rfl rfl rfl rfl rfl rfl ⟨rfl, rfl, rfl, rfl, rfl⟩ rfl rfl rfl rfl rfl (by kernel_rfl) Try.func15 (by kernel_rfl)
    (of_decide_eq_true (by kernel_rfl)) (by unfold Func.isWrapper; first | (rw [if_pos (by decide +kernel)]; kernel_rfl) | (rw [if_neg (by decide +kernel)]; exact ⟨rfl, rfl⟩))
    (fun os started H enc _ => storeNil_lifted os started H enc)
#print axioms storeNil_holds
set_option maxRecDepth 100000 in
theorem storeGets_lifted (os : Os) (started : os.Started) (H : Type) (eH : TypeId × Value → H) :
    ReturnsInHanded {} Try.checked os 16 .any (Rows.storeGetsSpec.pre6 eH Try.prog Try.f16 Rows.storeGetsRow.domain false) (Rows.storeGetsSpec.post eH Try.prog Try.f16 false true false false) := by
  refine law_lift (C := Try.checked) own0 started (by kernel_rfl) Try.func16
    (ChangeSpec.witness6 (enc := eH) (C := Try.checked) false ⟨#[], #[.int .i64 0, .slice none 0 0], []⟩ 8 (by kernel_rfl) (by kernel_rfl) (by kernel_rfl) (by kernel_rfl)) laid0 (by kernel_rfl) rfl (tb := E.bool) (by kernel_rfl) (by kernel_rfl) ?_ ?_
  · intro ds hd
    match ds, hd with
    | [_, _], _ => rfl
  · intro W base args ds ps hval hA _
    have hval : ∀ (j : Nat) t v, Try.f16.params[j]? = some t → args[j]? = some v → Value.okWide Try.prog W .any base t v := hval
    have hA : DataW.TrodAll eH Try.prog W 0 (fun _ => true) true Try.f16.params.toList args.toList ds ps := hA
    rw [Try.params16] at hA hval
    obtain ⟨v0, v1, d0, d1, p0, p1, rfl, rfl, rfl, h0, h1⟩ := trodAll_two hA
    obtain ⟨size, rfl, sizeb⟩ := arg_int (hval 0 _ _ rfl rfl) h0
    obtain ⟨la, ln, lc, l, rfl, ls⟩ := arg_ssteps (hval 1 _ _ rfl rfl) h1
    exact stp_ext (l15_StoreGets_sp ls)
theorem storeGets_holds : Rows.StoreGetsSaid :=
  OpenClaim.holds_of_wide 16 Try.f16 rfl rfl rfl rfl rfl rfl rfl ⟨rfl, rfl, rfl, rfl, rfl⟩ rfl rfl rfl rfl rfl (by kernel_rfl) Try.func16 (by kernel_rfl)
    (of_decide_eq_true (by kernel_rfl)) (by unfold Func.isWrapper; first | (rw [if_pos (by decide +kernel)]; kernel_rfl) | (rw [if_neg (by decide +kernel)]; exact ⟨rfl, rfl⟩))
    (fun os started H enc _ => storeGets_lifted os started H enc)
#print axioms storeGets_holds
end Go.Proofs.Ytpljfhomnbcpdaa
