/-
  Proved here: what Put and Next answer (contracts, of the reference and of the program).
  Conditions: the rows can be read, and are no longer than is said at each.
-/
import Derived.Test.YtgjaclnnacemfaaC2
namespace Go.W
open Go Go.Proofs
open Enc (enc)
set_option maxRecDepth 10000

theorem plcV_cases (l : List RReq) (id : Int) : (plc l id = none ∧ plcV (plc l id) = .tuple #[.int .i64 0, .bool false]) ∨ ∃ k, plc l id = some k ∧ plcV (plc l id) = .tuple #[.int .i64 (k : Nat), .bool true] := by
  cases h : plc l id with
  | none => exact .inl ⟨rfl, rfl⟩
  | some k => exact .inr ⟨k, rfl, rfl⟩

theorem r23_Put_sp {a : Option Addr} {n c : Nat} {l : List RReq} {most : Int} {x : RReq} {w : World} (h : SlF w (.slice a n c) l) (hn : l.length ≤ 100000) :
    Sp Try.prog F.r23_Put #[.slice a n c, .int .i64 most, agg x] w fun v w' => (∃ v', v = .tuple #[v', .int .i64 (putR l most x).2] ∧ Own w.heap.size E.api_Request w' v' (putR l most x).1) ∧ Ext w w' := by
  obtain rfl := h.len
  refine en TBok rfl ?_
  refine rbox fun b w1 n1 => ?_
  have A1 : At w1 b 0 (enc x) := At.blk n1.blk
  refine rload1 (A1.cell 0 rfl) ?_
  refine rcall (r23_Place_sp (h.ext n1.ext) (by omega)) ?_
  rintro v w2 ⟨rfl, e2⟩
  have E2 := n1.ext.t e2
  unfold putR
  rcases plcV_cases l x.id with ⟨hp, hv⟩ | ⟨k, hp, hv⟩ <;> rw [hv, hp]
  · refine ite (fun hm => ?_) (fun hm => ?_)
    · simp only [Option.isSome_none, Bool.false_eq_true, if_false, hm, if_true]
      exact ⟨⟨_, rfl, Own.nil _ _ _⟩, E2⟩
    · simp only [Option.isSome_none, Bool.false_eq_true, if_false, hm]
      refine rapp (B := w.heap.size) ⟨rfl, rfl⟩ (Own.nil _ E.api_Request _) (h.ext E2) E2.size (by simp; omega) fun v3 w3 O3 f3 => ?_
      have E3 := Fr.st E2 f3 fun i hi => hi.1
      refine rloadA ((A1.ext e2).fr f3 fun hd => no_own hd) rfl ?_
      refine rbs1 x rfl rfl (by decide) fun b4 w4 e4 _ S4 => ?_
      refine rapp (B := w.heap.size) ⟨rfl, rfl⟩ (O3.ext e4) S4 (E3.t e4).size (by simp; omega) fun v5 w5 O5 f5 => ?_
      exact ⟨⟨v5, rfl, by simpa using O5⟩, Fr.st (E3.t e4) f5 fun i hi => hi.1⟩
  · simp only [Option.isSome_some, if_true]
    exact ⟨⟨_, rfl, Own.nil _ _ _⟩, E2⟩

theorem wait_Put_sp {a : Option Addr} {n c : Nat} {l : List RReq} {most : Int} {x : RReq} {w : World} (h : SlF w (.slice a n c) l) (hn : l.length ≤ 100000) :
    Sp Try.prog F.wait_Put #[.slice a n c, .int .i64 most, agg x] w fun v w' => (∃ v', v = .tuple #[v', .int .i64 (putR l most x).2] ∧ Own w.heap.size E.api_Request w' v' (putR l most x).1) ∧ Ext w w' := by
  obtain rfl := h.len
  refine en TBok rfl ?_
  refine rbox fun b w1 n1 => ?_
  have A1 : At w1 b 0 (enc x) := At.blk n1.blk
  refine rload1 (A1.cell 0 rfl) ?_
  refine rcall (wait_Place_sp (h.ext n1.ext) (by omega)) ?_
  rintro v w2 ⟨rfl, e2⟩
  have E2 := n1.ext.t e2
  unfold putR
  rcases plcV_cases l x.id with ⟨hp, hv⟩ | ⟨k, hp, hv⟩ <;> rw [hv, hp]
  · refine ite (fun hm => ?_) (fun hm => ?_)
    · simp only [Option.isSome_none, Bool.false_eq_true, if_false, hm, if_true]
      exact ⟨⟨_, rfl, Own.nil _ _ _⟩, E2⟩
    · simp only [Option.isSome_none, Bool.false_eq_true, if_false, hm]
      refine rloadA (A1.ext e2) rfl ?_
      refine rbs1 x rfl rfl (by decide) fun b4 w4 e4 _ S4 => ?_
      refine rcall (wait_joined_sp (lb := [x]) (h.ext (E2.t e4)) S4 ⟨by omega, by simp⟩) ?_
      rintro v5 w5 ⟨O5, e5⟩
      exact ⟨⟨_, rfl, O5.mono (E2.t e4).size⟩, (E2.t e4).t e5⟩
  · simp only [Option.isSome_some, if_true]
    exact ⟨⟨_, rfl, Own.nil _ _ _⟩, E2⟩

/-- what Next answers -/
def nextR (l : List RReq) : RReq × List RReq × Bool := match l with
  | [] => (zeroR, [], false)
  | x :: r => (x, r, true)
theorem tail_drop {α : Type} (l : List α) : (l.drop 1).take (l.length - 1) = l.tail := by
  rw [List.take_of_length_le (by simp), List.drop_one]

theorem r23_Next_sp {a : Option Addr} {n c : Nat} {l : List RReq} {w : World} (h : SlF w (.slice a n c) l) (hn : l.length ≤ 100000) :
    Sp Try.prog F.r23_Next #[.slice a n c] w fun v w' => (∃ v', v = .tuple #[agg (nextR l).1, v', .bool (nextR l).2.2] ∧ Own w.heap.size E.api_Request w' v' (nextR l).2.1) ∧ Ext w w' := by
  obtain rfl := h.len
  refine en TBok rfl ?_
  refine ralloc fun b w1 n1 => ?_
  refine ite (fun h0 => ?_) (fun h0 => ?_)
  · obtain rfl : l = [] := List.eq_nil_of_length_eq_zero (by omega)
    refine rbuild (cs := enc zeroR) rfl ?_
    refine rst n1.blk (vs := enc zeroR) rfl rfl (by decide) (Enc.one _) fun w2 h2 f2 _ => ?_
    refine rresA (cs := enc zeroR) (At.blk h2) rfl ?_
    exact ⟨⟨_, rfl, Own.nil _ _ _⟩, Fr.st n1.ext f2 fun i hi => by rw [hi]; exact n1.lo⟩
  · obtain ⟨x, r, rfl⟩ : ∃ x r, l = x :: r := by cases l; exact absurd rfl h0; exact ⟨_, _, rfl⟩
    refine rsl (some 1) none (h.ext n1.ext) (by simp) (by simp) fun a' c' S' => ?_
    have S' : SlF w1 (.slice a' ((x :: r).length - 1) c') r := by
      have := S'; simp only [Option.getD_none, Option.getD_some] at this; rw [tail_drop] at this; exact this
    refine rapp (B := w1.heap.size) (m := r) ⟨rfl, rfl⟩ (Own.nil _ E.api_Request _) S' (Nat.le_refl _) (by simp at hn ⊢; omega) fun v3 w3 O3 f3 => ?_
    have E3 := Fr.st n1.ext f3 fun i hi => Nat.le_trans n1.ext.size hi.1
    refine rix (i := 0) (h.ext E3) (x := x) rfl fun bb o A => ?_
    refine rloadA A rfl ?_
    refine rst (f3.blk n1.blk no_own) (vs := enc x) rfl rfl (Nat.le_refl 8) (Enc.one _) fun w4 h4 f4 _ => ?_
    refine rresA (cs := enc x) (At.blk h4) rfl ?_
    refine ⟨⟨v3, rfl, ?_⟩, Fr.st E3 f4 fun i hi => by rw [hi]; exact n1.lo⟩
    refine Own.mono (Own.fr (show Own _ _ _ _ r by simpa using O3) f4 fun i hi hv hd => ?_) n1.ext.size
    have := blk_lt n1.blk; omega

theorem wait_Next_sp {a : Option Addr} {n c : Nat} {l : List RReq} {w : World} (h : SlF w (.slice a n c) l) (hn : l.length ≤ 100000) :
    Sp Try.prog F.wait_Next #[.slice a n c] w fun v w' => (∃ v', v = .tuple #[agg (nextR l).1, v', .bool (nextR l).2.2] ∧ Own w.heap.size E.api_Request w' v' (nextR l).2.1) ∧ Ext w w' := by
  obtain rfl := h.len
  refine en TBok rfl ?_
  refine ralloc fun b w1 n1 => ?_
  refine ite (fun h0 => ?_) (fun h0 => ?_)
  · obtain rfl : l = [] := List.eq_nil_of_length_eq_zero (by omega)
    refine rbuild (cs := enc zeroR) rfl ?_
    refine rst n1.blk (vs := enc zeroR) rfl rfl (by decide) (Enc.one _) fun w2 h2 f2 _ => ?_
    refine rresA (cs := enc zeroR) (At.blk h2) rfl ?_
    exact ⟨⟨_, rfl, Own.nil _ _ _⟩, Fr.st n1.ext f2 fun i hi => by rw [hi]; exact n1.lo⟩
  · obtain ⟨x, r, rfl⟩ : ∃ x r, l = x :: r := by cases l; exact absurd rfl h0; exact ⟨_, _, rfl⟩
    refine drawR TBok mixed (fun i => i = b) (upF 9 0) (by kernel_rfl) fun w2 e2 _ => ?_
    have E2 := n1.ext.t e2
    refine tix (i := 0) (h.ext E2) (x := x) rfl fun bb o A hbb => ?_
    have hne : bb ≠ b := by
      obtain ⟨b', h1, h2⟩ := h.lt (by simp)
      rw [hbb] at h1; cases h1; have := n1.lo; omega
    refine tloadA A rfl hne ?_
    refine tsl (some 1) none (h.ext E2) (by simp) (by simp) fun a' c' S' => ?_
    have S' : SlF w2 (.slice a' ((x :: r).length - 1) c') r := by
      have := S'; simp only [Option.getD_none, Option.getD_some] at this; rw [tail_drop] at this; exact this
    refine rcall (wait_joined_sp (la := []) (lb := r) (SlF.nil w2) S' ⟨by simp, by simp at hn; omega⟩) ?_
    rintro v3 w3 ⟨O3, e3⟩
    refine ⟨Fr.fr e3, ?_⟩
    have hb2 := (e2.t e3).blk n1.blk
    refine rst hb2 (vs := enc x) rfl rfl (Nat.le_refl 8) (Enc.one _) fun w4 h4 f4 _ => ⟨f4, ?_⟩
    refine rresA (cs := enc x) (At.blk h4) rfl ?_
    refine ⟨⟨v3, rfl, ?_⟩, Fr.st (E2.t e3) f4 fun i hi => by rw [hi]; exact n1.lo⟩
    refine Own.mono (Own.fr (show Own _ _ _ _ r by simpa using O3) f4 fun i hi hv hd => ?_) E2.size
    have := blk_lt (e2.blk n1.blk); omega
end Go.W
