/-
  Proved here: arguments that are numbers can be opened; facts of the seat's tables that every row asks; the statements StatsTellSaid, StatsSumsSaid, StatsOnceSaid, StatsBackSaid: for every input the law returns true, and the input reads as it did.
  Conditions: those that each fact names.
-/
import Derived.Test.YtgplodgpbhddbaaHd
import Derived.Test.YtgplodgpbhddbaaTF
namespace Go.W
open Go Go.Proofs
open Enc (enc)
set_option maxRecDepth 100000

instance : Rd Try.prog E.int Int := rdInt (by kernel_rfl) (by kernel_rfl)
theorem arg_int {W : World} {b : Nat} {v : Value} {H : Type} {eH : TypeId × Value → H} {d : DataW H} {ps : List MemPlace} (h : Value.okWide Try.prog W .any b E.int v) (ht : DataW.Trod eH Try.prog W 0 (fun _ => true) true E.int v d ps) : ∃ q : Int, v = .int .i64 q ∧ -9223372036854775808 ≤ q ∧ q ≤ 9223372036854775807 := by
  obtain ⟨fuel, hx⟩ := ht
  have q_ := Rd.rd (P := Try.prog) (t := E.int) (α := Int) hx
  obtain ⟨q, hc, hq⟩ := q_
  exact ⟨q, arg_one h (by kernel_rfl) hc, hq⟩
theorem stp_ext {w : World} : ∀ {f : FuncId} {args : Array Value} {P : Program}, Sp P f args w (fun v w' => v = .bool true ∧ Stp w w') → Sp P f args w (fun v w' => v = .bool true ∧ Ext w w') := fun h => h.mono fun _ _ h => ⟨h.1, h.2.e⟩
end Go.W
namespace Go.Proofs.Ytgplodgpbhddbaa
open Go.W Go.ChangeShapes
theorem own0 : ownKnob Try.prog.godebug = none := by kernel_rfl
theorem laid0 : laidOutB Try.prog = true := by kernel_rfl
end Go.Proofs.Ytgplodgpbhddbaa
namespace Go.W
open Go Go.Proofs
open Enc (enc)
set_option maxRecDepth 100000
instance : Rd Try.prog E.string ByteArray := rdStr (by kernel_rfl) (by kernel_rfl)
theorem arg_texts {W : World} {b : Nat} {v : Value} {H : Type} {eH : TypeId × Value → H} {d : DataW H} {ps : List MemPlace} (h : Value.okWide Try.prog W .any b E.s_string v) (ht : DataW.Trod eH Try.prog W 0 (fun _ => true) true E.s_string v d ps) :
    ∃ a n c, ∃ l : List ByteArray, v = .slice a n c ∧ SlF W (.slice a n c) l := by
  obtain ⟨fuel, hx⟩ := ht
  have q_ := rd_slice (P := Try.prog) (α := ByteArray) (e := E.string) (by kernel_rfl) hx
  obtain ⟨a, n, c, l, hc, h1, h2, _⟩ := q_
  exact ⟨a, n, c, l, arg_one h (by kernel_rfl) hc, h1⟩
end Go.W
namespace Go.Proofs.Ytgplodgpbhddbaa
open Go.W Go.ChangeShapes
set_option maxRecDepth 100000 in
theorem statsTell_lifted (os : Os) (started : os.Started) (H : Type) (eH : TypeId × Value → H) :
    ReturnsInHanded {} Try.checked os 13 .any (Rows.statsTellSpec.pre6 eH Try.prog Try.f13 Rows.statsTellRow.domain false) (Rows.statsTellSpec.post eH Try.prog Try.f13 false true false false) := by
  refine law_lift (C := Try.checked) own0 started (by kernel_rfl) Try.func13
    (ChangeSpec.witness6 (enc := eH) (C := Try.checked) false ⟨#[], #[.slice none 0 0, .int .i64 0], []⟩ 8 (by kernel_rfl) (by kernel_rfl) (by kernel_rfl) (by kernel_rfl)) laid0 (by kernel_rfl) rfl (tb := E.bool) (by kernel_rfl) (by kernel_rfl) ?_ ?_
  · intro ds hd
    match ds, hd with
    | [_, _], _ => rfl
  · intro W base args ds ps hval hA _
    have hval : ∀ (j : Nat) t v, Try.f13.params[j]? = some t → args[j]? = some v → Value.okWide Try.prog W .any base t v := hval
    have hA : DataW.TrodAll eH Try.prog W 0 (fun _ => true) true Try.f13.params.toList args.toList ds ps := hA
    rw [Try.params13] at hA hval
    obtain ⟨v0, v1, d0, d1, p0, p1, rfl, rfl, rfl, h0, h1⟩ := trodAll_two hA
    obtain ⟨la, ln, lc, l, rfl, ls⟩ := arg_texts (hval 0 _ _ rfl rfl) h0
    obtain ⟨i, rfl, ib⟩ := arg_int (hval 1 _ _ rfl rfl) h1
    exact stp_ext (l26_StatsTell_sp ls)
theorem statsTell_holds : Rows.StatsTellSaid :=
  OpenClaim.holds_of_wide 13 Try.f13 rfl rfl rfl rfl rfl rfl rfl ⟨rfl, rfl, rfl, rfl, rfl⟩ rfl rfl rfl rfl rfl (by kernel_rfl) Try.func13 (by kernel_rfl)
    (of_decide_eq_true (by kernel_rfl)) (by unfold Func.isWrapper; first | (rw [if_pos (by decide +kernel)]; kernel_rfl) | (rw [if_neg (by decide +kernel)]; exact ⟨rfl, rfl⟩))
    (fun os started H enc _ => statsTell_lifted os started H enc)
#print axioms statsTell_holds
set_option maxRecDepth 100000 in
theorem statsSums_lifted (os : Os) (started : os.Started) (H : Type) (eH : TypeId × Value → H) :
    ReturnsInHanded {} Try.checked os 14 .any (Rows.statsSumsSpec.pre6 eH Try.prog Try.f14 Rows.statsSumsRow.domain false) (Rows.statsSumsSpec.post eH Try.prog Try.f14 false true false false) := by
  refine law_lift (C := Try.checked) own0 started (by kernel_rfl) Try.func14
    (ChangeSpec.witness6 (enc := eH) (C := Try.checked) false ⟨#[], #[.slice none 0 0, .slice none 0 0, .int .i64 0], []⟩ 8 (by kernel_rfl) (by kernel_rfl) (by kernel_rfl) (by kernel_rfl)) laid0 (by kernel_rfl) rfl (tb := E.bool) (by kernel_rfl) (by kernel_rfl) ?_ ?_
  · intro ds hd
    match ds, hd with
    | [_, _, _], _ => rfl
  · intro W base args ds ps hval hA _
    have hval : ∀ (j : Nat) t v, Try.f14.params[j]? = some t → args[j]? = some v → Value.okWide Try.prog W .any base t v := hval
    have hA : DataW.TrodAll eH Try.prog W 0 (fun _ => true) true Try.f14.params.toList args.toList ds ps := hA
    rw [Try.params14] at hA hval
    obtain ⟨v0, v1, v2, d0, d1, d2, p0, p1, p2, rfl, rfl, rfl, h0, h1, h2⟩ := trodAll_three hA
    obtain ⟨la, ln, lc, l, rfl, ls⟩ := arg_texts (hval 0 _ _ rfl rfl) h0
    obtain ⟨ma, mn, mc, m, rfl, ms⟩ := arg_texts (hval 1 _ _ rfl rfl) h1
    obtain ⟨i, rfl, ib⟩ := arg_int (hval 2 _ _ rfl rfl) h2
    exact stp_ext (l26_StatsSums_sp ls ms)
theorem statsSums_holds : Rows.StatsSumsSaid :=
  OpenClaim.holds_of_wide 14 Try.f14 rfl rfl rfl rfl rfl rfl rfl ⟨rfl, rfl, rfl, rfl, rfl⟩ rfl rfl rfl rfl rfl (by kernel_rfl) Try.func14 (by kernel_rfl)
    (of_decide_eq_true (by kernel_rfl)) (by unfold Func.isWrapper; first | (rw [if_pos (by decide +kernel)]; kernel_rfl) | (rw [if_neg (by decide +kernel)]; exact ⟨rfl, rfl⟩))
    (fun os started H enc _ => statsSums_lifted os started H enc)
#print axioms statsSums_holds
set_option maxRecDepth 100000 in
theorem statsOnce_lifted (os : Os) (started : os.Started) (H : Type) (eH : TypeId × Value → H) :
    ReturnsInHanded {} Try.checked os 15 .any (Rows.statsOnceSpec.pre6 eH Try.prog Try.f15 Rows.statsOnceRow.domain false) (Rows.statsOnceSpec.post eH Try.prog Try.f15 false true false false) := by
  refine law_lift (C := Try.checked) own0 started (by kernel_rfl) Try.func15
    (ChangeSpec.witness6 (enc := eH) (C := Try.checked) false ⟨#[], #[.slice none 0 0], []⟩ 8 (by kernel_rfl) (by kernel_rfl) (by kernel_rfl) (by kernel_rfl)) laid0 (by kernel_rfl) rfl (tb := E.bool) (by kernel_rfl) (by kernel_rfl) ?_ ?_
  · intro ds hd
    match ds, hd with
    | [_], _ => rfl
  · intro W base args ds ps hval hA _
    have hval : ∀ (j : Nat) t v, Try.f15.params[j]? = some t → args[j]? = some v → Value.okWide Try.prog W .any base t v := hval
    have hA : DataW.TrodAll eH Try.prog W 0 (fun _ => true) true Try.f15.params.toList args.toList ds ps := hA
    rw [Try.params15] at hA hval
    obtain ⟨v0, d0, rfl, rfl, h0⟩ := trodAll_one hA
    obtain ⟨la, ln, lc, l, rfl, ls⟩ := arg_texts (hval 0 _ _ rfl rfl) h0
    exact stp_ext (l26_StatsOnce_sp ls)
theorem statsOnce_holds : Rows.StatsOnceSaid :=
  OpenClaim.holds_of_wide 15 Try.f15 rfl rfl rfl rfl rfl rfl rfl ⟨rfl, rfl, rfl, rfl, rfl⟩ rfl rfl rfl rfl rfl (by kernel_rfl) Try.func15 (by kernel_rfl)
    (of_decide_eq_true (by kernel_rfl)) (by unfold Func.isWrapper; first | (rw [if_pos (by decide +kernel)]; kernel_rfl) | (rw [if_neg (by decide +kernel)]; exact ⟨rfl, rfl⟩))
    (fun os started H enc _ => statsOnce_lifted os started H enc)
#print axioms statsOnce_holds
set_option maxRecDepth 100000 in
theorem statsBack_lifted (os : Os) (started : os.Started) (H : Type) (eH : TypeId × Value → H) :
    ReturnsInHanded {} Try.checked os 16 .any (Rows.statsBackSpec.pre6 eH Try.prog Try.f16 Rows.statsBackRow.domain false) (Rows.statsBackSpec.post eH Try.prog Try.f16 false true false false) := by
  refine law_lift (C := Try.checked) own0 started (by kernel_rfl) Try.func16
    (ChangeSpec.witness6 (enc := eH) (C := Try.checked) false ⟨#[], #[.slice none 0 0, .int .i64 0], []⟩ 8 (by kernel_rfl) (by kernel_rfl) (by kernel_rfl) (by kernel_rfl)) laid0 (by kernel_rfl) rfl (tb := E.bool) (by kernel_rfl) (by kernel_rfl) ?_ ?_
  · intro ds hd
    match ds, hd with
    | [_, _], _ => rfl
  · intro W base args ds ps hval hA _
    have hval : ∀ (j : Nat) t v, Try.f16.params[j]? = some t → args[j]? = some v → Value.okWide Try.prog W .any base t v := hval
    have hA : DataW.TrodAll eH Try.prog W 0 (fun _ => true) true Try.f16.params.toList args.toList ds ps := hA
    rw [Try.params16] at hA hval
    obtain ⟨v0, v1, d0, d1, p0, p1, rfl, rfl, rfl, h0, h1⟩ := trodAll_two hA
    obtain ⟨la, ln, lc, l, rfl, ls⟩ := arg_texts (hval 0 _ _ rfl rfl) h0
    obtain ⟨i, rfl, ib⟩ := arg_int (hval 1 _ _ rfl rfl) h1
    exact stp_ext (l26_StatsBack_sp ls)
theorem statsBack_holds : Rows.StatsBackSaid :=
  OpenClaim.holds_of_wide 16 Try.f16 rfl rfl rfl rfl rfl rfl rfl ⟨rfl, rfl, rfl, rfl, rfl⟩ rfl rfl rfl rfl rfl (by kernel_rfl) Try.func16 (by kernel_rfl)
    (of_decide_eq_true (by kernel_rfl)) (by unfold Func.isWrapper; first | (rw [if_pos (by decide +kernel)]; kernel_rfl) | (rw [if_neg (by decide +kernel)]; exact ⟨rfl, rfl⟩))
    (fun os started H enc _ => statsBack_lifted os started H enc)
#print axioms statsBack_holds
end Go.Proofs.Ytgplodgpbhddbaa
