/-
  Proved here: the statements SlotsDoSaid, SlotsKeepSaid, SlotsFullSaid and SlotsUsedSaid: for every input the law returns true, and the input reads as it did.
  Conditions: none beyond the given rows.
-/
import Derived.Test.YtgjaclnnacemfaaA8
import Derived.Test.YtgjaclnnacemfaaW12
namespace Go.W
open Go Go.Proofs
open Enc (enc)
set_option maxRecDepth 100000

instance : Rd Try.prog E.int Int := rdInt (by kernel_rfl) (by kernel_rfl)
instance : Rd Try.prog E.bool Bool := rdBool (by kernel_rfl) (by kernel_rfl)
instance : Rd Try.prog E.string ByteArray := rdStr (by kernel_rfl) (by kernel_rfl)
instance : Rd Try.prog E.s_string SV := rdSl (α := ByteArray) (e := E.string) (by kernel_rfl) (by kernel_rfl)
/-- the words of a query can be read -/
def QRd (w : World) (q : RQ) : Prop := ∃ l : List ByteArray, SlF w q.words.v l
instance : Rd Try.prog E.api_Query RQ where
  G w q := QRd w q
  cells := by kernel_rfl
  rd := by
    intro H eH w sp fuel cs x hx
    have q_ := rd_struct (P := Try.prog) (t := E.api_Query) (fl := [(E.int, 0, 1), (E.int, 1, 1), (E.int, 2, 1), (E.s_string, 3, 1), (E.int, 4, 1), (E.int, 5, 1)]) (n := 6) (by kernel_rfl) hx
    obtain ⟨hl, hf⟩ := q_
    have q_ := rd_field (P := Try.prog) (α := Int) hf 0 rfl
    obtain ⟨a0, h0, _⟩ := q_
    have q_ := rd_field (P := Try.prog) (α := Int) hf 1 rfl
    obtain ⟨a1, h1, _⟩ := q_
    have q_ := rd_field (P := Try.prog) (α := Int) hf 2 rfl
    obtain ⟨a2, h2, _⟩ := q_
    have q_ := rd_field (P := Try.prog) (α := SV) hf 3 rfl
    obtain ⟨a3, h3, g3⟩ := q_
    have q_ := rd_field (P := Try.prog) (α := Int) hf 4 rfl
    obtain ⟨a4, h4, _⟩ := q_
    have q_ := rd_field (P := Try.prog) (α := Int) hf 5 rfl
    obtain ⟨a5, h5, _⟩ := q_
    refine ⟨⟨a0, a1, a2, a3, a4, a5⟩, ?_, ?_⟩
    · have := tile h0 (tile h1 (tile h2 (tile h3 (tile h4 (tile h5 (tile0 hl) rfl) rfl) rfl) rfl) rfl) rfl
      rw [List.drop_zero] at this
      rw [this]; rfl
    · obtain ⟨l, hl, _⟩ := g3
      exact ⟨l, hl⟩
instance : Rd Try.prog E.api_Request RReq where
  G w r := QRd w r.q
  cells := by kernel_rfl
  rd := by
    intro H eH w sp fuel cs x hx
    have q_ := rd_struct (P := Try.prog) (t := E.api_Request) (fl := [(E.int, 0, 1), (E.int, 1, 1), (E.api_Query, 2, 6)]) (n := 8) (by kernel_rfl) hx
    obtain ⟨hl, hf⟩ := q_
    have q_ := rd_field (P := Try.prog) (α := Int) hf 0 rfl
    obtain ⟨a0, h0, _⟩ := q_
    have q_ := rd_field (P := Try.prog) (α := Int) hf 1 rfl
    obtain ⟨a1, h1, _⟩ := q_
    have q_ := rd_field (P := Try.prog) (α := RQ) hf 2 rfl
    obtain ⟨a2, h2, g2⟩ := q_
    refine ⟨⟨a0, a1, a2⟩, ?_, g2⟩
    have := tile h0 (tile h1 (tile h2 (tile0 hl) rfl) rfl) rfl
    rw [List.drop_zero] at this
    rw [this]; simp [enc]

/-- the words that lie there -/
theorem words_of (w : World) : ∃ wd : Wd, wd ⟨none, 0, 0⟩ = [] ∧ ∀ q : RQ, QRd w q → QOk wd w q := by
  have h : ∀ s : SV, ∃ l : List ByteArray, (∃ m : List ByteArray, SlF w s.v m) → SlF w s.v l := by
    intro s
    by_cases hs : ∃ m : List ByteArray, SlF w s.v m
    · obtain ⟨m, hm⟩ := hs; exact ⟨m, fun _ => hm⟩
    · exact ⟨[], fun h => absurd h hs⟩
  have q_ := Classical.axiomOfChoice h
  obtain ⟨wd, hw⟩ := q_
  refine ⟨wd, ?_, fun q hq => hw _ hq⟩
  have := (hw ⟨none, 0, 0⟩ ⟨[], SlF.nil w⟩).shape
  obtain ⟨a, c, hac⟩ := this
  injection hac with _ h2 _
  exact List.eq_nil_of_length_eq_zero h2.symm

theorem arg_int {W : World} {b : Nat} {v : Value} {H : Type} {eH : TypeId × Value → H} {d : DataW H} {ps : List MemPlace} (h : Value.okWide Try.prog W .any b E.int v) (ht : DataW.Trod eH Try.prog W 0 (fun _ => true) true E.int v d ps) : ∃ q : Int, v = .int .i64 q ∧ -9223372036854775808 ≤ q ∧ q ≤ 9223372036854775807 := by
  obtain ⟨fuel, hx⟩ := ht
  have q_ := Rd.rd (P := Try.prog) (t := E.int) (α := Int) hx
  obtain ⟨q, hc, hq⟩ := q_
  exact ⟨q, arg_one h (by kernel_rfl) hc, hq⟩
theorem arg_reqs {W : World} {b : Nat} {v : Value} {H : Type} {eH : TypeId × Value → H} {d : DataW H} {ps : List MemPlace} (h : Value.okWide Try.prog W .any b E.s_api_Request v) (ht : DataW.Trod eH Try.prog W 0 (fun _ => true) true E.s_api_Request v d ps) :
    ∃ a n c, ∃ l : List RReq, v = .slice a n c ∧ SlF W (.slice a n c) l ∧ ∀ y ∈ l, QRd W y.q := by
  obtain ⟨fuel, hx⟩ := ht
  have q_ := rd_slice (P := Try.prog) (α := RReq) (e := E.api_Request) (by kernel_rfl) hx
  obtain ⟨a, n, c, l, hc, h1, h2, _⟩ := q_
  exact ⟨a, n, c, l, arg_one h (by kernel_rfl) hc, h1, h2⟩
theorem arg_req {W : World} {b : Nat} {v : Value} {H : Type} {eH : TypeId × Value → H} {d : DataW H} {ps : List MemPlace} (h : Value.okWide Try.prog W .any b E.api_Request v) (ht : DataW.Trod eH Try.prog W 0 (fun _ => true) true E.api_Request v d ps) :
    ∃ r : RReq, v = agg r ∧ QRd W r.q := by
  obtain ⟨fuel, hx⟩ := ht
  have q_ := Rd.rd (P := Try.prog) (t := E.api_Request) (α := RReq) hx
  obtain ⟨r, hc, hq⟩ := q_
  exact ⟨r, arg_agg h (by kernel_rfl) hc, hq⟩
instance : Rd Try.prog E.api_Held RHeld where
  G w h := QRd w h.r.q
  cells := by kernel_rfl
  rd := by
    intro H eH w sp fuel cs x hx
    have q_ := rd_struct (P := Try.prog) (t := E.api_Held) (fl := [(E.bool, 0, 1), (E.api_Request, 1, 8)]) (n := 9) (by kernel_rfl) hx
    obtain ⟨hl, hf⟩ := q_
    have q_ := rd_field (P := Try.prog) (α := Bool) hf 0 rfl
    obtain ⟨a0, h0, _⟩ := q_
    have q_ := rd_field (P := Try.prog) (α := RReq) hf 1 rfl
    obtain ⟨a1, h1, g1⟩ := q_
    refine ⟨⟨a0, a1⟩, ?_, g1⟩
    have := tile h0 (tile h1 (tile0 hl) rfl) rfl
    rw [List.drop_zero] at this
    rw [this]; simp [enc]
theorem arg_helds {W : World} {b : Nat} {v : Value} {H : Type} {eH : TypeId × Value → H} {d : DataW H} {ps : List MemPlace} (h : Value.okWide Try.prog W .any b E.s_api_Held v) (ht : DataW.Trod eH Try.prog W 0 (fun _ => true) true E.s_api_Held v d ps) :
    ∃ a n c, ∃ l : List RHeld, v = .slice a n c ∧ SlF W (.slice a n c) l ∧ ∀ y ∈ l, QRd W y.r.q := by
  obtain ⟨fuel, hx⟩ := ht
  have q_ := rd_slice (P := Try.prog) (α := RHeld) (e := E.api_Held) (by kernel_rfl) hx
  obtain ⟨a, n, c, l, hc, h1, h2, _⟩ := q_
  exact ⟨a, n, c, l, arg_one h (by kernel_rfl) hc, h1, h2⟩
theorem stp_ext {w : World} : ∀ {f : FuncId} {args : Array Value} {P : Program}, Sp P f args w (fun v w' => v = .bool true ∧ Stp w w') → Sp P f args w (fun v w' => v = .bool true ∧ Ext w w') := fun h => h.mono fun _ _ h => ⟨h.1, h.2.e⟩
end Go.W

namespace Go.Proofs.Ytgjaclnnacemfaa
open Go.W Go.ChangeShapes
theorem own0 : ownKnob Try.prog.godebug = none := by kernel_rfl
theorem laid0 : laidOutB Try.prog = true := by kernel_rfl
theorem trodAll_five {H : Type} {enc : TypeId × Value → H} {P : Program} {w : World} {base : Nat} {spare : Nat → Bool} {held : Bool} {t0 t1 t2 t3 t4 : TypeId} {args : Array Value} {ds : List (DataW H)} {ps : List MemPlace} (h : DataW.TrodAll enc P w base spare held [t0, t1, t2, t3, t4] args.toList ds ps) :
    ∃ v0 v1 v2 v3 v4 d0 d1 d2 d3 d4 p0 p1 p2 p3 p4, args = #[v0, v1, v2, v3, v4] ∧ ds = [d0, d1, d2, d3, d4] ∧ ps = p0 ++ (p1 ++ (p2 ++ (p3 ++ p4))) ∧ DataW.Trod enc P w base spare held t0 v0 d0 p0 ∧ DataW.Trod enc P w base spare held t1 v1 d1 p1 ∧ DataW.Trod enc P w base spare held t2 v2 d2 p2 ∧ DataW.Trod enc P w base spare held t3 v3 d3 p3 ∧ DataW.Trod enc P w base spare held t4 v4 d4 p4 := by
  have q_ := trodAll_cons h
  obtain ⟨v, vs, d, ds', p, q, hargs, rfl, rfl, hd, hrest⟩ := q_
  have q_ := trodAll_cons hrest
  obtain ⟨v', vs', d', ds'', p', q', rfl, rfl, rfl, hd', hrest'⟩ := q_
  have q_ := trodAll_cons hrest'
  obtain ⟨v'', vs'', d'', ds''', p'', q'', rfl, rfl, rfl, hd'', hrest''⟩ := q_
  have q_ := trodAll_cons hrest''
  obtain ⟨v3, vs3, d3, ds3, p3, q3, rfl, rfl, rfl, hd3, hrest3⟩ := q_
  have q_ := trodAll_cons hrest3
  obtain ⟨v4, vs4, d4, ds4, p4, q4, rfl, rfl, rfl, hd4, hrest4⟩ := q_
  have q_ := trodAll_nil hrest4
  obtain ⟨rfl, rfl, rfl⟩ := q_
  exact ⟨v, v', v'', v3, v4, d, d', d'', d3, d4, p, p', p'', p3, p4, by cases args; simp_all, rfl, by simp, hd, hd', hd'', hd3, hd4⟩
set_option maxRecDepth 100000 in
theorem slotsDo_lifted (os : Os) (started : os.Started) (H : Type) (eH : TypeId × Value → H) :
    ReturnsInHanded {} Try.checked os 7 .any (Rows.slotsDoSpec.pre6 eH Try.prog Try.f7 Rows.slotsDoRow.domain false) (Rows.slotsDoSpec.post eH Try.prog Try.f7 false true false false) := by
  refine law_lift (C := Try.checked) own0 started (by kernel_rfl) Try.func7
    (ChangeSpec.witness6 (enc := eH) (C := Try.checked) false ⟨#[], #[.slice none 0 0, .agg #[.int .i64 0, .int .i64 0, .int .i64 0, .int .i64 0, .int .i64 0, .slice none 0 0, .int .i64 0, .int .i64 0], .int .i64 0, .int .i64 0, .int .i64 0], []⟩ 8 (by kernel_rfl) (by kernel_rfl) (by kernel_rfl) (by kernel_rfl)) laid0 (by kernel_rfl) rfl (tb := E.bool) (by kernel_rfl) (by kernel_rfl) ?_ ?_
  · intro ds hd
    match ds, hd with
    | [_, _, _, _, _], _ => rfl
  · intro W base args ds ps hval hA _
    have hval : ∀ (j : Nat) t v, Try.f7.params[j]? = some t → args[j]? = some v → Value.okWide Try.prog W .any base t v := hval
    have hA : DataW.TrodAll eH Try.prog W 0 (fun _ => true) true Try.f7.params.toList args.toList ds ps := hA
    rw [Try.params7] at hA hval
    obtain ⟨v0, v1, v2, v3, v4, d0, d1, d2, d3, d4, p0, p1, p2, p3, p4, rfl, rfl, rfl, h0, h1, h2, h3, h4⟩ := trodAll_five hA
    obtain ⟨la, ln, lc, l, rfl, ls, lq⟩ := arg_helds (hval 0 _ _ rfl rfl) h0
    obtain ⟨x, rfl, xq⟩ := arg_req (hval 1 _ _ rfl rfl) h1
    obtain ⟨slot, rfl, slotb⟩ := arg_int (hval 2 _ _ rfl rfl) h2
    obtain ⟨id, rfl, idb⟩ := arg_int (hval 3 _ _ rfl rfl) h3
    obtain ⟨size, rfl, sizeb⟩ := arg_int (hval 4 _ _ rfl rfl) h4
    have q_ := words_of W
    obtain ⟨wd, hz, hw⟩ := q_
    exact stp_ext (l24_SlotsDo_sp hz ls (fun r hr => hw _ (lq r hr)) (hw _ xq))
theorem slotsDo_holds : Rows.SlotsDoSaid :=
  OpenClaim.holds_of_wide 7 Try.f7 rfl rfl rfl rfl rfl rfl rfl ⟨rfl, rfl, rfl, rfl, rfl⟩ rfl rfl rfl rfl rfl (by kernel_rfl) Try.func7 (by kernel_rfl)
    (of_decide_eq_true (by kernel_rfl)) (by unfold Func.isWrapper; first | (rw [if_pos (by decide +kernel)]; kernel_rfl) | (rw [if_neg (by decide +kernel)]; exact ⟨rfl, rfl⟩))
    (fun os started H enc _ => slotsDo_lifted os started H enc)
#print axioms slotsDo_holds
set_option maxRecDepth 100000 in
theorem slotsKeep_lifted (os : Os) (started : os.Started) (H : Type) (eH : TypeId × Value → H) :
    ReturnsInHanded {} Try.checked os 8 .any (Rows.slotsKeepSpec.pre6 eH Try.prog Try.f8 Rows.slotsKeepRow.domain false) (Rows.slotsKeepSpec.post eH Try.prog Try.f8 false true false false) := by
  refine law_lift (C := Try.checked) own0 started (by kernel_rfl) Try.func8
    (ChangeSpec.witness6 (enc := eH) (C := Try.checked) false ⟨#[], #[.slice none 0 0, .agg #[.int .i64 0, .int .i64 0, .int .i64 0, .int .i64 0, .int .i64 0, .slice none 0 0, .int .i64 0, .int .i64 0]], []⟩ 8 (by kernel_rfl) (by kernel_rfl) (by kernel_rfl) (by kernel_rfl)) laid0 (by kernel_rfl) rfl (tb := E.bool) (by kernel_rfl) (by kernel_rfl) ?_ ?_
  · intro ds hd
    match ds, hd with
    | [_, _], _ => rfl
  · intro W base args ds ps hval hA _
    have hval : ∀ (j : Nat) t v, Try.f8.params[j]? = some t → args[j]? = some v → Value.okWide Try.prog W .any base t v := hval
    have hA : DataW.TrodAll eH Try.prog W 0 (fun _ => true) true Try.f8.params.toList args.toList ds ps := hA
    rw [Try.params8] at hA hval
    obtain ⟨v0, v1, d0, d1, p0, p1, rfl, rfl, rfl, h0, h1⟩ := trodAll_two hA
    obtain ⟨la, ln, lc, l, rfl, ls, lq⟩ := arg_helds (hval 0 _ _ rfl rfl) h0
    obtain ⟨x, rfl, xq⟩ := arg_req (hval 1 _ _ rfl rfl) h1
    have q_ := words_of W
    obtain ⟨wd, hz, hw⟩ := q_
    exact stp_ext (l24_SlotsKeep_sp hz ls (fun r hr => hw _ (lq r hr)) (hw _ xq))
theorem slotsKeep_holds : Rows.SlotsKeepSaid :=
  OpenClaim.holds_of_wide 8 Try.f8 rfl rfl rfl rfl rfl rfl rfl ⟨rfl, rfl, rfl, rfl, rfl⟩ rfl rfl rfl rfl rfl (by kernel_rfl) Try.func8 (by kernel_rfl)
    (of_decide_eq_true (by kernel_rfl)) (by unfold Func.isWrapper; first | (rw [if_pos (by decide +kernel)]; kernel_rfl) | (rw [if_neg (by decide +kernel)]; exact ⟨rfl, rfl⟩))
    (fun os started H enc _ => slotsKeep_lifted os started H enc)
#print axioms slotsKeep_holds
set_option maxRecDepth 100000 in
theorem slotsFull_lifted (os : Os) (started : os.Started) (H : Type) (eH : TypeId × Value → H) :
    ReturnsInHanded {} Try.checked os 9 .any (Rows.slotsFullSpec.pre6 eH Try.prog Try.f9 Rows.slotsFullRow.domain false) (Rows.slotsFullSpec.post eH Try.prog Try.f9 false true false false) := by
  refine law_lift (C := Try.checked) own0 started (by kernel_rfl) Try.func9
    (ChangeSpec.witness6 (enc := eH) (C := Try.checked) false ⟨#[], #[.int .i64 0, .agg #[.int .i64 0, .int .i64 0, .int .i64 0, .int .i64 0, .int .i64 0, .slice none 0 0, .int .i64 0, .int .i64 0], .int .i64 0], []⟩ 8 (by kernel_rfl) (by kernel_rfl) (by kernel_rfl) (by kernel_rfl)) laid0 (by kernel_rfl) rfl (tb := E.bool) (by kernel_rfl) (by kernel_rfl) ?_ ?_
  · intro ds hd
    match ds, hd with
    | [_, _, _], _ => rfl
  · intro W base args ds ps hval hA _
    have hval : ∀ (j : Nat) t v, Try.f9.params[j]? = some t → args[j]? = some v → Value.okWide Try.prog W .any base t v := hval
    have hA : DataW.TrodAll eH Try.prog W 0 (fun _ => true) true Try.f9.params.toList args.toList ds ps := hA
    rw [Try.params9] at hA hval
    obtain ⟨v0, v1, v2, d0, d1, d2, p0, p1, p2, rfl, rfl, rfl, h0, h1, h2⟩ := trodAll_three hA
    obtain ⟨n, rfl, nb⟩ := arg_int (hval 0 _ _ rfl rfl) h0
    obtain ⟨x, rfl, xq⟩ := arg_req (hval 1 _ _ rfl rfl) h1
    obtain ⟨at0, rfl, at0b⟩ := arg_int (hval 2 _ _ rfl rfl) h2
    have q_ := words_of W
    obtain ⟨wd, hz, hw⟩ := q_
    exact stp_ext (l24_SlotsFull_sp (hw _ xq))
theorem slotsFull_holds : Rows.SlotsFullSaid :=
  OpenClaim.holds_of_wide 9 Try.f9 rfl rfl rfl rfl rfl rfl rfl ⟨rfl, rfl, rfl, rfl, rfl⟩ rfl rfl rfl rfl rfl (by kernel_rfl) Try.func9 (by kernel_rfl)
    (of_decide_eq_true (by kernel_rfl)) (by unfold Func.isWrapper; first | (rw [if_pos (by decide +kernel)]; kernel_rfl) | (rw [if_neg (by decide +kernel)]; exact ⟨rfl, rfl⟩))
    (fun os started H enc _ => slotsFull_lifted os started H enc)
#print axioms slotsFull_holds
set_option maxRecDepth 100000 in
theorem slotsUsed_lifted (os : Os) (started : os.Started) (H : Type) (eH : TypeId × Value → H) :
    ReturnsInHanded {} Try.checked os 10 .any (Rows.slotsUsedSpec.pre6 eH Try.prog Try.f10 Rows.slotsUsedRow.domain false) (Rows.slotsUsedSpec.post eH Try.prog Try.f10 false true false false) := by
  refine law_lift (C := Try.checked) own0 started (by kernel_rfl) Try.func10
    (ChangeSpec.witness6 (enc := eH) (C := Try.checked) false ⟨#[], #[.slice none 0 0, .int .i64 0], []⟩ 8 (by kernel_rfl) (by kernel_rfl) (by kernel_rfl) (by kernel_rfl)) laid0 (by kernel_rfl) rfl (tb := E.bool) (by kernel_rfl) (by kernel_rfl) ?_ ?_
  · intro ds hd
    match ds, hd with
    | [_, _], _ => rfl
  · intro W base args ds ps hval hA _
    have hval : ∀ (j : Nat) t v, Try.f10.params[j]? = some t → args[j]? = some v → Value.okWide Try.prog W .any base t v := hval
    have hA : DataW.TrodAll eH Try.prog W 0 (fun _ => true) true Try.f10.params.toList args.toList ds ps := hA
    rw [Try.params10] at hA hval
    obtain ⟨v0, v1, d0, d1, p0, p1, rfl, rfl, rfl, h0, h1⟩ := trodAll_two hA
    obtain ⟨la, ln, lc, l, rfl, ls, lq⟩ := arg_helds (hval 0 _ _ rfl rfl) h0
    obtain ⟨id, rfl, idb⟩ := arg_int (hval 1 _ _ rfl rfl) h1
    have q_ := words_of W
    obtain ⟨wd, hz, hw⟩ := q_
    exact stp_ext (l24_SlotsUsed_sp ls (fun r hr => hw _ (lq r hr)))
theorem slotsUsed_holds : Rows.SlotsUsedSaid :=
  OpenClaim.holds_of_wide 10 Try.f10 rfl rfl rfl rfl rfl rfl rfl ⟨rfl, rfl, rfl, rfl, rfl⟩ rfl rfl rfl rfl rfl (by kernel_rfl) Try.func10 (by kernel_rfl)
    (of_decide_eq_true (by kernel_rfl)) (by unfold Func.isWrapper; first | (rw [if_pos (by decide +kernel)]; kernel_rfl) | (rw [if_neg (by decide +kernel)]; exact ⟨rfl, rfl⟩))
    (fun os started H enc _ => slotsUsed_lifted os started H enc)
#print axioms slotsUsed_holds
end Go.Proofs.Ytgjaclnnacemfaa
