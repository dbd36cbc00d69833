/-
  Proved here: the statement that the last theorem names: for every input the law returns true, and the input reads as it did.
  Conditions: none beyond the given rows.
-/
import Derived.Test.YtgmagfjlabkcjaaGreatRows
import Derived.Test.YtgmagfjlabkcjaaGreatChecked
import Derived.Test.YtgmagfjlabkcjaaGreatV5
namespace Go.W
open Go Go.Proofs
open Enc (enc)
set_option maxRecDepth 100000
set_option warn.classDefReducibility false
noncomputable instance : Rd PP E.string ByteArray := rdStr (by kernel_rfl) (by kernel_rfl)
theorem arg_str {W : World} {b : Nat} {v : Value} {H : Type} {eH : TypeId × Value → H} {d : DataW H} {ps : List MemPlace} (h : Value.okWide PP W .any b E.string v) (ht : DataW.Trod eH PP W 0 (fun _ => true) true E.string v d ps) :
    ∃ f : List UInt8, v = txt f := by
  obtain ⟨fuel, hx⟩ := ht
  have q_ := Rd.rd (P := PP) (t := E.string) (α := ByteArray) hx
  obtain ⟨s, hc, _⟩ := q_
  exact ⟨s.data.toList, zI4 h (by kernel_rfl) hc⟩
theorem arg_ints {W : World} {b : Nat} {v : Value} {H : Type} {eH : TypeId × Value → H} {d : DataW H} {ps : List MemPlace} (h : Value.okWide PP W .any b E.s_int v) (ht : DataW.Trod eH PP W 0 (fun _ => true) true E.s_int v d ps) :
    ∃ a n c, ∃ l : List Int, v = .slice a n c ∧ SlF W (.slice a n c) l := by
  obtain ⟨fuel, hx⟩ := ht
  have q_ := zLy (P := PP) (α := Int) (e := E.int) (by kernel_rfl) hx
  obtain ⟨a, n, c, l, hc, h1, h2, _⟩ := q_
  exact ⟨a, n, c, l, zI4 h (by kernel_rfl) hc, h1⟩
end Go.W
namespace Go.Proofs.YtgmagfjlabkcjaaGreat
theorem and_tt {a b : Bool} (h : a = true) (k : b = true) : (a && b) = true := by rw [h, k]; rfl
open Go.W Go.ChangeShapes
set_option maxRecDepth 100000
set_option maxRecDepth 100000 in
theorem serverNil_lifted (os : Os) (started : os.Started) (H : Type) (eH : TypeId × Value → H) :
    ReturnsInHanded {} Tryz.checked os 4 .any (Rows.serverNilSpec.pre6 eH PP Tryz.f4 Rows.serverNilRow.domain false) (Rows.serverNilSpec.post eH PP Tryz.f4 false true false false) := by
  refine zLh (C := Tryz.checked) own0 started (by kernel_rfl) Tryz.func4
    (ChangeSpec.witness6 (enc := eH) (C := Tryz.checked) false ⟨#[], #[.string ⟨#[]⟩, .slice none 0 0], []⟩ 8 (by kernel_rfl) (by kernel_rfl) (by kernel_rfl) (by kernel_rfl)) laid0 (by kernel_rfl) rfl (tb := E.bool) (by kernel_rfl) (by kernel_rfl) ?_ ?_
  · intro ds hd
    match ds, hd with
    | [_, _], _ => rfl
  · intro W base args ds ps hval hA _
    have hval : ∀ (j : Nat) t v, Tryz.f4.params[j]? = some t → args[j]? = some v → Value.okWide PP W .any base t v := hval
    have hA : DataW.TrodAll eH PP W 0 (fun _ => true) true Tryz.f4.params.toList args.toList ds ps := hA
    rw [Tryz.params4] at hA hval
    obtain ⟨v0, v1, d0, d1, p0, p1, rfl, rfl, rfl, h0, h1⟩ := trodAll_two hA
    obtain ⟨f, rfl⟩ := arg_str (hval 0 _ _ rfl rfl) h0
    obtain ⟨pa, pn, pc, p, rfl, ps⟩ := arg_ints (hval 1 _ _ rfl rfl) h1
    exact zME zFm
theorem serverNil_k0 : (fun (_P : Program) (_f : FuncId) (_fn : Func) (s : ChangeSpec) (c : OpenClaim) => (c.wf (OpenSpec.ofChange s) : Bool)) PP 4 Tryz.f4 Rows.serverNilSpec Rows.serverNilRow = true := by kernel_rfl
theorem serverNil_k1 : (fun (P : Program) (_f : FuncId) (_fn : Func) (_s : ChangeSpec) (_c : OpenClaim) => (laidOutB P : Bool)) PP 4 Tryz.f4 Rows.serverNilSpec Rows.serverNilRow = true := by kernel_rfl
theorem serverNil_k2 : (fun (P : Program) (_f : FuncId) (_fn : Func) (_s : ChangeSpec) (_c : OpenClaim) => (mapsRowed P : Bool)) PP 4 Tryz.f4 Rows.serverNilSpec Rows.serverNilRow = true := by kernel_rfl
theorem serverNil_k3 : (fun (P : Program) (_f : FuncId) (fn : Func) (_s : ChangeSpec) (_c : OpenClaim) => (fn.params.all (P.readableRec ·) : Bool)) PP 4 Tryz.f4 Rows.serverNilSpec Rows.serverNilRow = true := by kernel_rfl
theorem serverNil_k4 : (fun (P : Program) (_f : FuncId) (_fn : Func) (s : ChangeSpec) (c : OpenClaim) => (namedTie P c.named s.vars : Bool)) PP 4 Tryz.f4 Rows.serverNilSpec Rows.serverNilRow = true := by kernel_rfl
theorem serverNil_k5 : (fun (_P : Program) (_f : FuncId) (_fn : Func) (_s : ChangeSpec) (c : OpenClaim) => ((c.stops == []) : Bool)) PP 4 Tryz.f4 Rows.serverNilSpec Rows.serverNilRow = true := by kernel_rfl
theorem serverNil_k6 : (fun (P : Program) (_f : FuncId) (_fn : Func) (_s : ChangeSpec) (_c : OpenClaim) => ((P.stops == []) : Bool)) PP 4 Tryz.f4 Rows.serverNilSpec Rows.serverNilRow = true := by kernel_rfl
theorem serverNil_k7 : (fun (_P : Program) (_f : FuncId) (_fn : Func) (_s : ChangeSpec) (c : OpenClaim) => ((c.knobs == []) : Bool)) PP 4 Tryz.f4 Rows.serverNilSpec Rows.serverNilRow = true := by kernel_rfl
theorem serverNil_k8 : (fun (P : Program) (_f : FuncId) (_fn : Func) (_s : ChangeSpec) (_c : OpenClaim) => ((P.stopKnobs == []) : Bool)) PP 4 Tryz.f4 Rows.serverNilSpec Rows.serverNilRow = true := by kernel_rfl
theorem serverNil_k9 : (fun (P : Program) (f : FuncId) (_fn : Func) (_s : ChangeSpec) (c : OpenClaim) => ((c.inPlace == P.inPlace f) : Bool)) PP 4 Tryz.f4 Rows.serverNilSpec Rows.serverNilRow = true := by kernel_rfl
theorem serverNil_k10 : (fun (P : Program) (f : FuncId) (_fn : Func) (_s : ChangeSpec) (c : OpenClaim) => ((c.unfollowed == P.unfollowed f) : Bool)) PP 4 Tryz.f4 Rows.serverNilSpec Rows.serverNilRow = true := by kernel_rfl
theorem serverNil_k11 : (fun (P : Program) (f : FuncId) (_fn : Func) (_s : ChangeSpec) (c : OpenClaim) => ((c.recurses == P.recurses f) : Bool)) PP 4 Tryz.f4 Rows.serverNilSpec Rows.serverNilRow = true := by kernel_rfl
theorem serverNil_k12 : (fun (P : Program) (f : FuncId) (_fn : Func) (_s : ChangeSpec) (c : OpenClaim) => ((c.named == P.varsNamed f) : Bool)) PP 4 Tryz.f4 Rows.serverNilSpec Rows.serverNilRow = true := by kernel_rfl
theorem serverNil_k13 : (fun (P : Program) (_f : FuncId) (fn : Func) (s : ChangeSpec) (c : OpenClaim) => ((c.maps == (fn.params.toList ++ s.plain.varTypes P).any (P.mapsRec ·)) : Bool)) PP 4 Tryz.f4 Rows.serverNilSpec Rows.serverNilRow = true := by kernel_rfl
theorem serverNil_k14 : (fun (P : Program) (_f : FuncId) (fn : Func) (s : ChangeSpec) (c : OpenClaim) => ((c.ifaces == (fn.params.toList ++ s.plain.varTypes P).any (P.ifacesRec ·)) : Bool)) PP 4 Tryz.f4 Rows.serverNilSpec Rows.serverNilRow = true := by kernel_rfl
theorem serverNil_k15 : (fun (P : Program) (_f : FuncId) (fn : Func) (_s : ChangeSpec) (c : OpenClaim) => ((c.mapsOut == P.mapsAmong fn.resultTypes.toList) : Bool)) PP 4 Tryz.f4 Rows.serverNilSpec Rows.serverNilRow = true := by kernel_rfl
theorem serverNil_k16 : (fun (P : Program) (_f : FuncId) (fn : Func) (s : ChangeSpec) (c : OpenClaim) => ((c.loops == (fn.params.toList ++ s.plain.varTypes P).any (P.loopsFrom ·)) : Bool)) PP 4 Tryz.f4 Rows.serverNilSpec Rows.serverNilRow = true := by kernel_rfl
theorem serverNil_k17 : (fun (P : Program) (_f : FuncId) (fn : Func) (s : ChangeSpec) (c : OpenClaim) => ((c.wideKeys == (fn.params.toList ++ s.plain.varTypes P ++ fn.resultTypes.toList).any (P.wideKeysFrom ·)) : Bool)) PP 4 Tryz.f4 Rows.serverNilSpec Rows.serverNilRow = true := by kernel_rfl
theorem serverNil_k18 : (fun (P : Program) (_f : FuncId) (_fn : Func) (s : ChangeSpec) (_c : OpenClaim) => (s.vars.all (P.varReadable ·) : Bool)) PP 4 Tryz.f4 Rows.serverNilSpec Rows.serverNilRow = true := by kernel_rfl
theorem serverNil_k19 : (fun (P : Program) (_f : FuncId) (fn : Func) (_s : ChangeSpec) (_c : OpenClaim) => (fn.resultTypes.all (fun t => P.readableRec t && decide (t < P.types.size)) : Bool)) PP 4 Tryz.f4 Rows.serverNilSpec Rows.serverNilRow = true := by kernel_rfl
theorem serverNil_k20 : (fun (P : Program) (_f : FuncId) (fn : Func) (_s : ChangeSpec) (c : OpenClaim) => ((c.ifacesOut == fn.resultTypes.toList.any (P.ifacesRec ·)) : Bool)) PP 4 Tryz.f4 Rows.serverNilSpec Rows.serverNilRow = true := by kernel_rfl
theorem serverNil_k21 : (fun (P : Program) (_f : FuncId) (fn : Func) (_s : ChangeSpec) (c : OpenClaim) => ((c.loopsOut == fn.resultTypes.toList.any (P.loopsFrom ·)) : Bool)) PP 4 Tryz.f4 Rows.serverNilSpec Rows.serverNilRow = true := by kernel_rfl
theorem serverNil_k22 : (fun (P : Program) (_f : FuncId) (_fn : Func) (_s : ChangeSpec) (c : OpenClaim) => ((c.plainKeys == P.plainKeys) : Bool)) PP 4 Tryz.f4 Rows.serverNilSpec Rows.serverNilRow = true := by kernel_rfl
theorem serverNil_k23 : (fun (_P : Program) (_f : FuncId) (_fn : Func) (_s : ChangeSpec) (c : OpenClaim) => (c.shortTexts.isNone : Bool)) PP 4 Tryz.f4 Rows.serverNilSpec Rows.serverNilRow = true := by kernel_rfl
theorem serverNil_k24 : (fun (P : Program) (_f : FuncId) (_fn : Func) (_s : ChangeSpec) (_c : OpenClaim) => (P.stopsHeard : Bool)) PP 4 Tryz.f4 Rows.serverNilSpec Rows.serverNilRow = true := by kernel_rfl
theorem serverNil_k25 : (fun (P : Program) (_f : FuncId) (_fn : Func) (_s : ChangeSpec) (_c : OpenClaim) => (P.mayEnter : Bool)) PP 4 Tryz.f4 Rows.serverNilSpec Rows.serverNilRow = true := by kernel_rfl
theorem serverNil_k26 : (fun (P : Program) (_f : FuncId) (_fn : Func) (_s : ChangeSpec) (c : OpenClaim) => ((c.lifted == P.liftsFinal) : Bool)) PP 4 Tryz.f4 Rows.serverNilSpec Rows.serverNilRow = true := by kernel_rfl
theorem serverNil_k27 : (fun (P : Program) (_f : FuncId) (_fn : Func) (_s : ChangeSpec) (c : OpenClaim) => ((P.make == some c.make) : Bool)) PP 4 Tryz.f4 Rows.serverNilSpec Rows.serverNilRow = true := by kernel_rfl
theorem serverNil_k28 : (fun (P : Program) (_f : FuncId) (fn : Func) (_s : ChangeSpec) (c : OpenClaim) => ((c.kinds == (if c.domain.isEmpty then [] else fn.params.toList.map fun t => match P.underlying t with | some (.int k) => some k | _ => none)) : Bool)) PP 4 Tryz.f4 Rows.serverNilSpec Rows.serverNilRow = true := by kernel_rfl
theorem serverNil_k29 : (fun (_P : Program) (_f : FuncId) (_fn : Func) (_s : ChangeSpec) (c : OpenClaim) => ((c.pinned == c.pinnedBy) : Bool)) PP 4 Tryz.f4 Rows.serverNilSpec Rows.serverNilRow = true := by kernel_rfl
theorem serverNil_k30 : (fun (P : Program) (_f : FuncId) (fn : Func) (s : ChangeSpec) (c : OpenClaim) => ((c.veiled == (fn.params.toList ++ s.plain.varTypes P ++ fn.resultTypes.toList).any (P.veiledRec ·)) : Bool)) PP 4 Tryz.f4 Rows.serverNilSpec Rows.serverNilRow = true := by kernel_rfl
theorem serverNil_k31 : (fun (P : Program) (_f : FuncId) (fn : Func) (s : ChangeSpec) (c : OpenClaim) => (c.veiledFits P fn.params.toList (fn.params.toList ++ s.plain.varTypes P ++ fn.resultTypes.toList) : Bool)) PP 4 Tryz.f4 Rows.serverNilSpec Rows.serverNilRow = true := by kernel_rfl
theorem serverNil_closed : joinedFacts PP 4 Tryz.f4 Rows.serverNilSpec Rows.serverNilRow = true := (and_tt (and_tt (and_tt (and_tt (and_tt (and_tt (and_tt (and_tt (and_tt (and_tt (and_tt (and_tt (and_tt (and_tt (and_tt (and_tt (and_tt (and_tt (and_tt (and_tt (and_tt (and_tt (and_tt (and_tt (and_tt (and_tt (and_tt (and_tt (and_tt (and_tt (and_tt serverNil_k0 serverNil_k1) serverNil_k2) serverNil_k3) serverNil_k4) serverNil_k5) serverNil_k6) serverNil_k7) serverNil_k8) serverNil_k9) serverNil_k10) serverNil_k11) serverNil_k12) serverNil_k13) serverNil_k14) serverNil_k15) serverNil_k16) serverNil_k17) serverNil_k18) serverNil_k19) serverNil_k20) serverNil_k21) serverNil_k22) serverNil_k23) serverNil_k24) serverNil_k25) serverNil_k26) serverNil_k27) serverNil_k28) serverNil_k29) serverNil_k30) serverNil_k31)
theorem serverNil_named : PP.funcNamed Rows.serverNilRow.func = some 4 := by kernel_rfl
theorem serverNil_inst : Tryz.f4.isInstance PP Rows.serverNilRow.origin Rows.serverNilRow.targs := of_decide_eq_true (by kernel_rfl)
theorem serverNil_wrap : Tryz.f4.isWrapper PP Rows.serverNilRow.wrapper Rows.serverNilRow.mainSum := by unfold Func.isWrapper; first | (rw [if_pos (by decide +kernel)]; kernel_rfl) | (rw [if_neg (by decide +kernel)]; exact ⟨rfl, rfl⟩)
theorem serverNil_holds : Rows.ServerNilSaid :=
  OpenClaim.holds_of_wide (p := Tryz.pinned) 4 Tryz.f4 rfl rfl rfl rfl rfl rfl rfl ⟨rfl, rfl, rfl, rfl, rfl⟩ rfl rfl rfl rfl rfl serverNil_named Tryz.func4 serverNil_closed serverNil_inst serverNil_wrap
    (fun os started H enc _ => serverNil_lifted os started H enc)
#print axioms serverNil_holds
end Go.Proofs.YtgmagfjlabkcjaaGreat
