/-
  Proved here: the statements WaitOrderSaid, WaitDoesSaid, WaitBackSaid and WaitFirstSaid: for every input the law returns true, and the input reads as it did.
  Conditions: none beyond the given rows.
-/
import Derived.Test.YtgjaclnnacemfaaC8
import Derived.Test.YtgjaclnnacemfaaW12
namespace Go.W
open Go Go.Proofs
open Enc (enc)
set_option maxRecDepth 100000

instance : Rd Try.prog E.int Int := rdInt (by kernel_rfl) (by kernel_rfl)
instance : Rd Try.prog E.bool Bool := rdBool (by kernel_rfl) (by kernel_rfl)
instance : Rd Try.prog E.string ByteArray := rdStr (by kernel_rfl) (by kernel_rfl)
instance : Rd Try.prog E.s_string SV := rdSl (α := ByteArray) (e := E.string) (by kernel_rfl) (by kernel_rfl)
/-- the words of a query can be read -/
def QRd (w : World) (q : RQ) : Prop := ∃ l : List ByteArray, SlF w q.words.v l
instance : Rd Try.prog E.api_Query RQ where
  G w q := QRd w q
  cells := by kernel_rfl
  rd := by
    intro H eH w sp fuel cs x hx
    obtain ⟨hl, hf⟩ := rd_struct (P := Try.prog) (t := E.api_Query) (fl := [(E.int, 0, 1), (E.int, 1, 1), (E.int, 2, 1), (E.s_string, 3, 1), (E.int, 4, 1), (E.int, 5, 1)]) (n := 6) (by kernel_rfl) hx
    obtain ⟨a0, h0, _⟩ := rd_field (P := Try.prog) (α := Int) hf 0 rfl
    obtain ⟨a1, h1, _⟩ := rd_field (P := Try.prog) (α := Int) hf 1 rfl
    obtain ⟨a2, h2, _⟩ := rd_field (P := Try.prog) (α := Int) hf 2 rfl
    obtain ⟨a3, h3, g3⟩ := rd_field (P := Try.prog) (α := SV) hf 3 rfl
    obtain ⟨a4, h4, _⟩ := rd_field (P := Try.prog) (α := Int) hf 4 rfl
    obtain ⟨a5, h5, _⟩ := rd_field (P := Try.prog) (α := Int) hf 5 rfl
    refine ⟨⟨a0, a1, a2, a3, a4, a5⟩, ?_, ?_⟩
    · have := tile h0 (tile h1 (tile h2 (tile h3 (tile h4 (tile h5 (tile0 hl) rfl) rfl) rfl) rfl) rfl) rfl
      rw [List.drop_zero] at this
      rw [this]; rfl
    · obtain ⟨l, hl, _⟩ := g3
      exact ⟨l, hl⟩
instance : Rd Try.prog E.api_Request RReq where
  G w r := QRd w r.q
  cells := by kernel_rfl
  rd := by
    intro H eH w sp fuel cs x hx
    obtain ⟨hl, hf⟩ := rd_struct (P := Try.prog) (t := E.api_Request) (fl := [(E.int, 0, 1), (E.int, 1, 1), (E.api_Query, 2, 6)]) (n := 8) (by kernel_rfl) hx
    obtain ⟨a0, h0, _⟩ := rd_field (P := Try.prog) (α := Int) hf 0 rfl
    obtain ⟨a1, h1, _⟩ := rd_field (P := Try.prog) (α := Int) hf 1 rfl
    obtain ⟨a2, h2, g2⟩ := rd_field (P := Try.prog) (α := RQ) hf 2 rfl
    refine ⟨⟨a0, a1, a2⟩, ?_, g2⟩
    have := tile h0 (tile h1 (tile h2 (tile0 hl) rfl) rfl) rfl
    rw [List.drop_zero] at this
    rw [this]; simp [enc]

/-- the words that lie there -/
theorem words_of (w : World) : ∃ wd : Wd, wd ⟨none, 0, 0⟩ = [] ∧ ∀ q : RQ, QRd w q → QOk wd w q := by
  have h : ∀ s : SV, ∃ l : List ByteArray, (∃ m : List ByteArray, SlF w s.v m) → SlF w s.v l := by
    intro s
    by_cases hs : ∃ m : List ByteArray, SlF w s.v m
    · obtain ⟨m, hm⟩ := hs; exact ⟨m, fun _ => hm⟩
    · exact ⟨[], fun h => absurd h hs⟩
  obtain ⟨wd, hw⟩ := Classical.axiomOfChoice h
  refine ⟨wd, ?_, fun q hq => hw _ hq⟩
  have := (hw ⟨none, 0, 0⟩ ⟨[], SlF.nil w⟩).shape
  obtain ⟨a, c, hac⟩ := this
  injection hac with _ h2 _
  exact List.eq_nil_of_length_eq_zero h2.symm

theorem arg_int {W : World} {b : Nat} {v : Value} {H : Type} {eH : TypeId × Value → H} {d : DataW H} {ps : List MemPlace} (h : Value.okWide Try.prog W .any b E.int v) (ht : DataW.Trod eH Try.prog W 0 (fun _ => true) true E.int v d ps) : ∃ q : Int, v = .int .i64 q ∧ -9223372036854775808 ≤ q ∧ q ≤ 9223372036854775807 := by
  obtain ⟨fuel, hx⟩ := ht
  obtain ⟨q, hc, hq⟩ := Rd.rd (P := Try.prog) (t := E.int) (α := Int) hx
  exact ⟨q, arg_one h (by kernel_rfl) hc, hq⟩
theorem arg_reqs {W : World} {b : Nat} {v : Value} {H : Type} {eH : TypeId × Value → H} {d : DataW H} {ps : List MemPlace} (h : Value.okWide Try.prog W .any b E.s_api_Request v) (ht : DataW.Trod eH Try.prog W 0 (fun _ => true) true E.s_api_Request v d ps) :
    ∃ a n c, ∃ l : List RReq, v = .slice a n c ∧ SlF W (.slice a n c) l ∧ ∀ y ∈ l, QRd W y.q := by
  obtain ⟨fuel, hx⟩ := ht
  obtain ⟨a, n, c, l, hc, h1, h2, _⟩ := rd_slice (P := Try.prog) (α := RReq) (e := E.api_Request) (by kernel_rfl) hx
  exact ⟨a, n, c, l, arg_one h (by kernel_rfl) hc, h1, h2⟩
theorem arg_req {W : World} {b : Nat} {v : Value} {H : Type} {eH : TypeId × Value → H} {d : DataW H} {ps : List MemPlace} (h : Value.okWide Try.prog W .any b E.api_Request v) (ht : DataW.Trod eH Try.prog W 0 (fun _ => true) true E.api_Request v d ps) :
    ∃ r : RReq, v = agg r ∧ QRd W r.q := by
  obtain ⟨fuel, hx⟩ := ht
  obtain ⟨r, hc, hq⟩ := Rd.rd (P := Try.prog) (t := E.api_Request) (α := RReq) hx
  exact ⟨r, arg_agg h (by kernel_rfl) hc, hq⟩
end Go.W

namespace Go.Proofs.Ytgjaclnnacemfaa
open Go.W Go.ChangeShapes
theorem own0 : ownKnob Try.prog.godebug = none := by kernel_rfl
theorem laid0 : laidOutB Try.prog = true := by kernel_rfl
set_option maxRecDepth 100000 in
theorem waitOrder_lifted (os : Os) (started : os.Started) (H : Type) (eH : TypeId × Value → H) :
    ReturnsInHanded {} Try.checked os 3 .any (Rows.waitOrderSpec.pre6 eH Try.prog Try.f3 Rows.waitOrderRow.domain false) (Rows.waitOrderSpec.post eH Try.prog Try.f3 false true false false) := by
  refine law_lift (C := Try.checked) own0 started (by kernel_rfl) Try.func3
    (ChangeSpec.witness6 (enc := eH) (C := Try.checked) false ⟨#[], #[.slice none 0 0, .int .i64 0], []⟩ 8 (by kernel_rfl) (by kernel_rfl) (by kernel_rfl) (by kernel_rfl)) laid0 (by kernel_rfl) rfl (tb := E.bool) (by kernel_rfl) (by kernel_rfl) ?_ ?_
  · intro ds hd
    match ds, hd with
    | [_, _], _ => rfl
  · intro W base args ds ps hval hA _
    have hval : ∀ (j : Nat) t v, Try.f3.params[j]? = some t → args[j]? = some v → Value.okWide Try.prog W .any base t v := hval
    have hA : DataW.TrodAll eH Try.prog W 0 (fun _ => true) true Try.f3.params.toList args.toList ds ps := hA
    rw [Try.params3] at hA hval
    obtain ⟨v0, v1, d0, d1, p0, p1, rfl, rfl, rfl, h0, h1⟩ := trodAll_two hA
    obtain ⟨a, n, c, l, rfl, hl, hq⟩ := arg_reqs (hval 0 _ _ rfl rfl) h0
    obtain ⟨most, rfl, _⟩ := arg_int (hval 1 _ _ rfl rfl) h1
    obtain ⟨wd, _, hw⟩ := words_of W
    exact l23_WaitOrder_sp hl fun r hr => hw _ (hq r hr)
theorem waitOrder_holds : Rows.WaitOrderSaid :=
  OpenClaim.holds_of_wide 3 Try.f3 rfl rfl rfl rfl rfl rfl rfl ⟨rfl, rfl, rfl, rfl, rfl⟩ rfl rfl rfl rfl rfl (by kernel_rfl) Try.func3 (by kernel_rfl)
    (of_decide_eq_true (by kernel_rfl)) (by unfold Func.isWrapper; first | (rw [if_pos (by decide +kernel)]; kernel_rfl) | (rw [if_neg (by decide +kernel)]; exact ⟨rfl, rfl⟩))
    (fun os started H enc _ => waitOrder_lifted os started H enc)
#print axioms waitOrder_holds
set_option maxRecDepth 100000 in
theorem waitDoes_lifted (os : Os) (started : os.Started) (H : Type) (eH : TypeId × Value → H) :
    ReturnsInHanded {} Try.checked os 4 .any (Rows.waitDoesSpec.pre6 eH Try.prog Try.f4 Rows.waitDoesRow.domain false) (Rows.waitDoesSpec.post eH Try.prog Try.f4 false true false false) := by
  refine law_lift (C := Try.checked) own0 started (by kernel_rfl) Try.func4
    (ChangeSpec.witness6 (enc := eH) (C := Try.checked) false ⟨#[], #[.slice none 0 0, .int .i64 0, .agg #[.int .i64 0, .int .i64 0, .int .i64 0, .int .i64 0, .int .i64 0, .slice none 0 0, .int .i64 0, .int .i64 0], .int .i64 0], []⟩ 8 (by kernel_rfl) (by kernel_rfl) (by kernel_rfl) (by kernel_rfl)) laid0 (by kernel_rfl) rfl (tb := E.bool) (by kernel_rfl) (by kernel_rfl) ?_ ?_
  · intro ds hd
    match ds, hd with
    | [_, _, _, _], _ => rfl
  · intro W base args ds ps hval hA _
    have hval : ∀ (j : Nat) t v, Try.f4.params[j]? = some t → args[j]? = some v → Value.okWide Try.prog W .any base t v := hval
    have hA : DataW.TrodAll eH Try.prog W 0 (fun _ => true) true Try.f4.params.toList args.toList ds ps := hA
    rw [Try.params4] at hA hval
    obtain ⟨v0, v1, v2, v3, d0, d1, d2, d3, p0, p1, p2, p3, rfl, rfl, rfl, h0, h1, h2, h3⟩ := Go.RowKit.trodAll_four hA
    obtain ⟨a, n, c, l, rfl, hl, hq⟩ := arg_reqs (hval 0 _ _ rfl rfl) h0
    obtain ⟨most, rfl, _⟩ := arg_int (hval 1 _ _ rfl rfl) h1
    obtain ⟨x, rfl, hx⟩ := arg_req (hval 2 _ _ rfl rfl) h2
    obtain ⟨id, rfl, _⟩ := arg_int (hval 3 _ _ rfl rfl) h3
    obtain ⟨wd, hz, hw⟩ := words_of W
    exact l23_WaitDoes_sp hz hl (fun r hr => hw _ (hq r hr)) (hw _ hx)
theorem waitDoes_holds : Rows.WaitDoesSaid :=
  OpenClaim.holds_of_wide 4 Try.f4 rfl rfl rfl rfl rfl rfl rfl ⟨rfl, rfl, rfl, rfl, rfl⟩ rfl rfl rfl rfl rfl (by kernel_rfl) Try.func4 (by kernel_rfl)
    (of_decide_eq_true (by kernel_rfl)) (by unfold Func.isWrapper; first | (rw [if_pos (by decide +kernel)]; kernel_rfl) | (rw [if_neg (by decide +kernel)]; exact ⟨rfl, rfl⟩))
    (fun os started H enc _ => waitDoes_lifted os started H enc)
#print axioms waitDoes_holds
set_option maxRecDepth 100000 in
theorem waitBack_lifted (os : Os) (started : os.Started) (H : Type) (eH : TypeId × Value → H) :
    ReturnsInHanded {} Try.checked os 5 .any (Rows.waitBackSpec.pre6 eH Try.prog Try.f5 Rows.waitBackRow.domain false) (Rows.waitBackSpec.post eH Try.prog Try.f5 false true false false) := by
  refine law_lift (C := Try.checked) own0 started (by kernel_rfl) Try.func5
    (ChangeSpec.witness6 (enc := eH) (C := Try.checked) false ⟨#[], #[.slice none 0 0, .int .i64 0], []⟩ 8 (by kernel_rfl) (by kernel_rfl) (by kernel_rfl) (by kernel_rfl)) laid0 (by kernel_rfl) rfl (tb := E.bool) (by kernel_rfl) (by kernel_rfl) ?_ ?_
  · intro ds hd
    match ds, hd with
    | [_, _], _ => rfl
  · intro W base args ds ps hval hA _
    have hval : ∀ (j : Nat) t v, Try.f5.params[j]? = some t → args[j]? = some v → Value.okWide Try.prog W .any base t v := hval
    have hA : DataW.TrodAll eH Try.prog W 0 (fun _ => true) true Try.f5.params.toList args.toList ds ps := hA
    rw [Try.params5] at hA hval
    obtain ⟨v0, v1, d0, d1, p0, p1, rfl, rfl, rfl, h0, h1⟩ := trodAll_two hA
    obtain ⟨a, n, c, l, rfl, hl, hq⟩ := arg_reqs (hval 0 _ _ rfl rfl) h0
    obtain ⟨id, rfl, _⟩ := arg_int (hval 1 _ _ rfl rfl) h1
    obtain ⟨wd, _, hw⟩ := words_of W
    exact l23_WaitBack_sp hl fun r hr => hw _ (hq r hr)
theorem waitBack_holds : Rows.WaitBackSaid :=
  OpenClaim.holds_of_wide 5 Try.f5 rfl rfl rfl rfl rfl rfl rfl ⟨rfl, rfl, rfl, rfl, rfl⟩ rfl rfl rfl rfl rfl (by kernel_rfl) Try.func5 (by kernel_rfl)
    (of_decide_eq_true (by kernel_rfl)) (by unfold Func.isWrapper; first | (rw [if_pos (by decide +kernel)]; kernel_rfl) | (rw [if_neg (by decide +kernel)]; exact ⟨rfl, rfl⟩))
    (fun os started H enc _ => waitBack_lifted os started H enc)
#print axioms waitBack_holds
set_option maxRecDepth 100000 in
theorem waitFirst_lifted (os : Os) (started : os.Started) (H : Type) (eH : TypeId × Value → H) :
    ReturnsInHanded {} Try.checked os 6 .any (Rows.waitFirstSpec.pre6 eH Try.prog Try.f6 Rows.waitFirstRow.domain false) (Rows.waitFirstSpec.post eH Try.prog Try.f6 false true false false) := by
  refine law_lift (C := Try.checked) own0 started (by kernel_rfl) Try.func6
    (ChangeSpec.witness6 (enc := eH) (C := Try.checked) false ⟨#[], #[.slice none 0 0], []⟩ 8 (by kernel_rfl) (by kernel_rfl) (by kernel_rfl) (by kernel_rfl)) laid0 (by kernel_rfl) rfl (tb := E.bool) (by kernel_rfl) (by kernel_rfl) ?_ ?_
  · intro ds hd
    match ds, hd with
    | [_], _ => rfl
  · intro W base args ds ps hval hA _
    have hval : ∀ (j : Nat) t v, Try.f6.params[j]? = some t → args[j]? = some v → Value.okWide Try.prog W .any base t v := hval
    have hA : DataW.TrodAll eH Try.prog W 0 (fun _ => true) true Try.f6.params.toList args.toList ds ps := hA
    rw [Try.params6] at hA hval
    obtain ⟨v0, d0, rfl, rfl, h0⟩ := trodAll_one hA
    obtain ⟨a, n, c, l, rfl, hl, hq⟩ := arg_reqs (hval 0 _ _ rfl rfl) h0
    obtain ⟨wd, _, hw⟩ := words_of W
    exact l23_WaitFirst_sp hl fun r hr => hw _ (hq r hr)
theorem waitFirst_holds : Rows.WaitFirstSaid :=
  OpenClaim.holds_of_wide 6 Try.f6 rfl rfl rfl rfl rfl rfl rfl ⟨rfl, rfl, rfl, rfl, rfl⟩ rfl rfl rfl rfl rfl (by kernel_rfl) Try.func6 (by kernel_rfl)
    (of_decide_eq_true (by kernel_rfl)) (by unfold Func.isWrapper; first | (rw [if_pos (by decide +kernel)]; kernel_rfl) | (rw [if_neg (by decide +kernel)]; exact ⟨rfl, rfl⟩))
    (fun os started H enc _ => waitFirst_lifted os started H enc)
#print axioms waitFirst_holds
end Go.Proofs.Ytgjaclnnacemfaa
