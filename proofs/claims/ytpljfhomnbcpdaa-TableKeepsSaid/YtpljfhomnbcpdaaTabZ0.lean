/-
  Proved here: the arguments of the laws of tables can be opened.
  Conditions: those that each fact names.
-/
import Derived.Test.YtpljfhomnbcpdaaTabL
namespace Go.W
open Go Go.Proofs
open Enc (enc)
set_option maxRecDepth 100000

instance : Rd Try.prog E.int Int := rdInt (by kernel_rfl) (by kernel_rfl)
instance : Rd Try.prog E.api_Key KeyD where
  G _ _ := True
  cells := by kernel_rfl
  rd := by
    intro H eH w sp fuel cs x hx
    have q_ := rd_struct (P := Try.prog) (t := E.api_Key) (fl := [(E.int, 0, 1), (E.int, 1, 1), (E.int, 2, 1)]) (n := 3) (by kernel_rfl) hx
    obtain ⟨hl, hf⟩ := q_
    have q_ := rd_field (P := Try.prog) (α := Int) hf 0 rfl
    obtain ⟨a0, h0, _⟩ := q_
    have q_ := rd_field (P := Try.prog) (α := Int) hf 1 rfl
    obtain ⟨a1, h1, _⟩ := q_
    have q_ := rd_field (P := Try.prog) (α := Int) hf 2 rfl
    obtain ⟨a2, h2, _⟩ := q_
    refine ⟨⟨a0, a1, a2⟩, ?_, trivial⟩
    have := tile h0 (tile h1 (tile h2 (tile0 hl) rfl) rfl) rfl
    rw [List.drop_zero] at this
    rw [this]; simp [enc]
instance : Rd Try.prog E.waysideref14_Op TStep where
  G _ _ := True
  cells := by kernel_rfl
  rd := by
    intro H eH w sp fuel cs x hx
    have q_ := rd_struct (P := Try.prog) (t := E.waysideref14_Op) (fl := [(E.int, 0, 1), (E.api_Key, 1, 3), (E.int, 4, 1)]) (n := 5) (by kernel_rfl) hx
    obtain ⟨hl, hf⟩ := q_
    have q_ := rd_field (P := Try.prog) (α := Int) hf 0 rfl
    obtain ⟨a0, h0, _⟩ := q_
    have q_ := rd_field (P := Try.prog) (α := KeyD) hf 1 rfl
    obtain ⟨a1, h1, _⟩ := q_
    have q_ := rd_field (P := Try.prog) (α := Int) hf 2 rfl
    obtain ⟨a2, h2, _⟩ := q_
    refine ⟨⟨a0, a1, a2⟩, ?_, trivial⟩
    have := tile h0 (tile h1 (tile h2 (tile0 hl) rfl) rfl) rfl
    rw [List.drop_zero] at this
    rw [this]; simp [enc]
theorem arg_int {W : World} {b : Nat} {v : Value} {H : Type} {eH : TypeId × Value → H} {d : DataW H} {ps : List MemPlace} (h : Value.okWide Try.prog W .any b E.int v) (ht : DataW.Trod eH Try.prog W 0 (fun _ => true) true E.int v d ps) : ∃ q : Int, v = .int .i64 q ∧ -9223372036854775808 ≤ q ∧ q ≤ 9223372036854775807 := by
  obtain ⟨fuel, hx⟩ := ht
  have q_ := Rd.rd (P := Try.prog) (t := E.int) (α := Int) hx
  obtain ⟨q, hc, hq⟩ := q_
  exact ⟨q, arg_one h (by kernel_rfl) hc, hq⟩
theorem arg_key {W : World} {b : Nat} {v : Value} {H : Type} {eH : TypeId × Value → H} {d : DataW H} {ps : List MemPlace} (h : Value.okWide Try.prog W .any b E.api_Key v) (ht : DataW.Trod eH Try.prog W 0 (fun _ => true) true E.api_Key v d ps) :
    ∃ k : KeyD, v = agg k := by
  obtain ⟨fuel, hx⟩ := ht
  have q_ := Rd.rd (P := Try.prog) (t := E.api_Key) (α := KeyD) hx
  obtain ⟨k, hc, _⟩ := q_
  exact ⟨k, arg_agg h (by kernel_rfl) hc⟩
theorem arg_tsteps {W : World} {b : Nat} {v : Value} {H : Type} {eH : TypeId × Value → H} {d : DataW H} {ps : List MemPlace} (h : Value.okWide Try.prog W .any b E.s_waysideref14_Op v) (ht : DataW.Trod eH Try.prog W 0 (fun _ => true) true E.s_waysideref14_Op v d ps) :
    ∃ a n c, ∃ l : List TStep, v = .slice a n c ∧ SlF W (.slice a n c) l := by
  obtain ⟨fuel, hx⟩ := ht
  have q_ := rd_slice (P := Try.prog) (α := TStep) (e := E.waysideref14_Op) (by kernel_rfl) hx
  obtain ⟨a, n, c, l, hc, h1, h2, _⟩ := q_
  exact ⟨a, n, c, l, arg_one h (by kernel_rfl) hc, h1⟩
theorem stp_ext {w : World} : ∀ {f : FuncId} {args : Array Value} {P : Program}, Sp P f args w (fun v w' => v = .bool true ∧ Stp w w') → Sp P f args w (fun v w' => v = .bool true ∧ Ext w w') := fun h => h.mono fun _ _ h => ⟨h.1, h.2.e⟩
end Go.W

namespace Go.Proofs.Ytpljfhomnbcpdaa
open Go.W Go.ChangeShapes
theorem own0 : ownKnob Try.prog.godebug = none := by kernel_rfl
theorem laid0 : laidOutB Try.prog = true := by kernel_rfl
theorem trodAll_five {H : Type} {enc : TypeId × Value → H} {P : Program} {w : World} {base : Nat} {spare : Nat → Bool} {held : Bool} {t0 t1 t2 t3 t4 : TypeId} {args : Array Value} {ds : List (DataW H)} {ps : List MemPlace} (h : DataW.TrodAll enc P w base spare held [t0, t1, t2, t3, t4] args.toList ds ps) :
    ∃ v0 v1 v2 v3 v4 d0 d1 d2 d3 d4 p0 p1 p2 p3 p4, args = #[v0, v1, v2, v3, v4] ∧ ds = [d0, d1, d2, d3, d4] ∧ ps = p0 ++ (p1 ++ (p2 ++ (p3 ++ p4))) ∧ DataW.Trod enc P w base spare held t0 v0 d0 p0 ∧ DataW.Trod enc P w base spare held t1 v1 d1 p1 ∧ DataW.Trod enc P w base spare held t2 v2 d2 p2 ∧ DataW.Trod enc P w base spare held t3 v3 d3 p3 ∧ DataW.Trod enc P w base spare held t4 v4 d4 p4 := by
  have q_ := trodAll_cons h
  obtain ⟨v, vs, d, ds', p, q, hargs, rfl, rfl, hd, hrest⟩ := q_
  have q_ := trodAll_cons hrest
  obtain ⟨v', vs', d', ds'', p', q', rfl, rfl, rfl, hd', hrest'⟩ := q_
  have q_ := trodAll_cons hrest'
  obtain ⟨v'', vs'', d'', ds''', p'', q'', rfl, rfl, rfl, hd'', hrest''⟩ := q_
  have q_ := trodAll_cons hrest''
  obtain ⟨v3, vs3, d3, ds3, p3, q3, rfl, rfl, rfl, hd3, hrest3⟩ := q_
  have q_ := trodAll_cons hrest3
  obtain ⟨v4, vs4, d4, ds4, p4, q4, rfl, rfl, rfl, hd4, hrest4⟩ := q_
  have q_ := trodAll_nil hrest4
  obtain ⟨rfl, rfl, rfl⟩ := q_
  exact ⟨v, v', v'', v3, v4, d, d', d'', d3, d4, p, p', p'', p3, p4, by cases args; simp_all, rfl, by simp, hd, hd', hd'', hd3, hd4⟩
end Go.Proofs.Ytpljfhomnbcpdaa
