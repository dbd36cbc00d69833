/-
  Proved here: WaitBack returns true (the walk through the law).
  Conditions: the rows can be read.
-/
import Derived.Test.YtgjaclnnacemfaaC4
namespace Go.W
open Go Go.Proofs
open Enc (enc)
set_option maxRecDepth 10000

def rqI (i : Int) : RReq := { zeroR with id := i }
theorem put0 (x : RReq) : putR [] 1 x = ([x], 0) := rfl
theorem put1 : (putR [rqI 1] 1 (rqI 2)).2 = 252 := by decide
theorem put2 : (putR [rqI 1] 1 (rqI 1)).2 = 150 := by decide
theorem Own.val {α : Type} [Enc α] {B : Nat} {e : TypeId} {w : World} {v : Value} {l : List α} (h : Own B e w v l) : ∃ a c, v = .slice a l.length c := h.sl.shape

theorem l23_waits_sp {w : World} : Sp Try.prog F.l23_waits #[] w fun v w' => v = .bool true ∧ Ext w w' := by
  refine en TBok rfl ?_
  refine rbuild (cs := enc (rqI 1)) rfl ?_
  refine rcall (wait_Put_sp (l := []) (x := rqI 1) (SlF.nil w) (by simp)) ?_
  rintro v w1 ⟨⟨v1, rfl, O1⟩, e1⟩
  rw [put0] at O1 ⊢
  obtain ⟨a, c, rfl⟩ := O1.val
  refine rbuild (cs := enc (rqI 2)) rfl ?_
  refine rcall (wait_Put_sp (l := [rqI 1]) (x := rqI 2) O1.sl (by simp)) ?_
  rintro v w2 ⟨⟨v2, rfl, O2⟩, e2⟩
  rw [put1]
  refine rbuild (cs := enc (rqI 1)) rfl ?_
  refine rcall (wait_Put_sp (l := [rqI 1]) (x := rqI 1) (O1.sl.ext e2) (by simp)) ?_
  rintro v w3 ⟨⟨v3, rfl, O3⟩, e3⟩
  rw [put2]
  refine rcall (wait_Next_sp (l := [rqI 1]) (O1.sl.ext (e2.t e3)) (by simp)) ?_
  rintro v w4 ⟨⟨v4, rfl, O4⟩, e4⟩
  obtain ⟨a4, c4, rfl⟩ := O4.val
  refine ralloc fun b w5 n5 => ?_
  refine rst n5.blk (vs := enc (rqI 1)) rfl rfl (Nat.le_refl 8) (Enc.one _) fun w6 h6 f6 _ => ?_
  have A : At w6 b 0 (enc (rqI 1)) := At.blk h6
  refine ite (fun _ => ?_) (fun h => absurd rfl h)
  refine ite (fun _ => ?_) (fun h => absurd rfl h)
  refine ite (fun _ => ?_) (fun h => absurd rfl h)
  refine ite (fun _ => ?_) (fun h => absurd rfl h)
  refine rload1 (A.cell 0 rfl) (ite (fun _ => ?_) (fun h => absurd rfl h))
  refine ite (fun _ => ?_) (fun h => absurd rfl h)
  exact ⟨rfl, Fr.st ((e1.t e2).t ((e3.t e4).t n5.ext)) f6 fun i hi => by rw [hi]; exact Nat.le_trans ((e1.t e2).t (e3.t e4)).size n5.lo⟩

/-- with as many as may wait, the rest is let go: what is put behind one another -/
def putAll (most : Int) (l : List RReq) : List RReq := l.foldl (fun q x => if (putR q most x).2 = 0 then (putR q most x).1 else q) []
theorem putAll_next (most : Int) (l : List RReq) (x : RReq) : putAll most (l ++ [x]) = if (putR (putAll most l) most x).2 = 0 then (putR (putAll most l) most x).1 else putAll most l := by
  unfold putAll; rw [List.foldl_append]; rfl
theorem putR_cases (q : List RReq) (most : Int) (x : RReq) : (putR q most x = (q ++ [x], 0) ∧ (∀ r ∈ q, r.id ≠ x.id) ∧ ((q.length : Int) < most)) ∨ (putR q most x).2 ≠ 0 := by
  unfold putR
  by_cases h : (plc q x.id).isSome
  · right; rw [if_pos h]; decide
  · rw [if_neg h]
    by_cases h2 : most ≤ q.length
    · right; rw [if_pos h2]; decide
    · left; rw [if_neg h2]
      refine ⟨rfl, ?_, by omega⟩
      intro r hr he
      apply h
      unfold plc
      rw [List.findIdx?_isSome]
      simp only [List.any_eq_true, decide_eq_true_eq]
      exact ⟨r, hr, he⟩
structure PutOk (most : Int) (l q : List RReq) : Prop where
  len : q.length ≤ l.length
  most : (q.length : Int) ≤ max most 0
  apart : q.Pairwise (fun a b => a.id ≠ b.id)
  sub : ∀ r ∈ q, r ∈ l
theorem PutOk.nil (most : Int) (l : List RReq) : PutOk most l [] := ⟨by simp, by simp; omega, .nil, by simp⟩
theorem PutOk.more {most : Int} {l m q : List RReq} (h : PutOk most l q) (hl : l.length ≤ m.length) (hs : ∀ r ∈ l, r ∈ m) : PutOk most m q := ⟨Nat.le_trans h.len hl, h.most, h.apart, fun r hr => hs r (h.sub r hr)⟩
theorem PutOk.put {most : Int} {l q : List RReq} {x : RReq} (h : PutOk most l q) (h1 : ∀ r ∈ q, r.id ≠ x.id) (h2 : (q.length : Int) < most) : PutOk most (l ++ [x]) (q ++ [x]) := by
  refine ⟨by simp; exact h.len, by simp; omega, ?_, ?_⟩
  · rw [List.pairwise_append]
    refine ⟨h.apart, List.pairwise_singleton _ _, ?_⟩
    intro a ha b hb; simp at hb; subst hb; exact h1 a ha
  · intro r hr; simp at hr ⊢; exact hr.imp (h.sub r) id
theorem not_big {wd : Wd} {l : List RReq} {w : World} (hq : ∀ r ∈ l, QOk wd w r.q) (h : ¬ bigRs wd l) : l.length ≤ 60 ∧ RsOk wd w l := by
  unfold bigRs at h
  refine ⟨Nat.le_of_not_lt fun h' => h (.inl h'), fun r hr => ⟨hq r hr, ?_⟩⟩
  exact Nat.le_of_not_lt fun h' => h (.inr ⟨r, hr, .inl (by omega)⟩)
theorem sameRs.refl (wd : Wd) (l : List RReq) : sameRs wd l l := Alike2.refl (sameR.refl wd) l
theorem RsOk.sub {wd : Wd} {w : World} {l m : List RReq} (h : RsOk wd w l) (hs : ∀ r ∈ m, r ∈ l) : RsOk wd w m := fun r hr => h r (hs r hr)
theorem take_sub {l : List RReq} {id : Int} : ∀ r ∈ (takeR l id).1, r ∈ l := by
  unfold takeR
  cases h : plc l id with
  | none => exact fun r hr => hr
  | some k =>
    intro r hr
    rcases List.mem_append.1 hr with h | h
    · exact List.mem_of_mem_take h
    · exact List.mem_of_mem_drop h
theorem sl_take {α : Type} (l : List α) (k : Nat) : ((l.drop ((none : Option Nat).getD 0)).take ((some k).getD l.length - (none : Option Nat).getD 0)) = l.take k := by simp
theorem sl_drop {α : Type} (l : List α) (k : Nat) : ((l.drop ((some k).getD 0)).take ((none : Option Nat).getD l.length - (some k).getD 0)) = l.drop k := by
  simp only [Option.getD_none, Option.getD_some]; rw [List.take_of_length_le (by simp)]

theorem plcV_of {l : List RReq} {id : Int} {v : Value} (h : v = plcV (plc l id)) : (plc l id = none ∧ v = .tuple #[.int .i64 0, .bool false]) ∨ ∃ k, plc l id = some k ∧ v = .tuple #[.int .i64 (k : Nat), .bool true] := by
  subst h; exact plcV_cases l id
theorem takeR_none {l : List RReq} {id : Int} (h : plc l id = none) : takeR l id = (l, false) := by unfold takeR; rw [h]
theorem takeR_some {l : List RReq} {id : Int} {k : Nat} (h : plc l id = some k) : takeR l id = (l.take k ++ l.drop (k + 1), true) := by unfold takeR; rw [h]

/-- a question whose answer is known -/
theorem Sp.tt {P : Program} {f : FuncId} {args : Array Value} {w : World} {p : Prop} (h : Sp P f args w fun v w' => Tells p v ∧ Ext w w') (hp : p) : Sp P f args w fun v w' => v = .bool true ∧ Ext w w' :=
  h.mono fun v w' hv => by rcases hv with ⟨⟨rfl, _⟩ | ⟨rfl, h⟩, e⟩; exact ⟨rfl, e⟩; exact absurd hp h
theorem Sp.ff {P : Program} {f : FuncId} {args : Array Value} {w : World} {p : Prop} (h : Sp P f args w fun v w' => Tells p v ∧ Ext w w') (hp : ¬ p) : Sp P f args w fun v w' => v = .bool false ∧ Ext w w' :=
  h.mono fun v w' hv => by rcases hv with ⟨⟨rfl, h⟩ | ⟨rfl, _⟩, e⟩; exact absurd h hp; exact ⟨rfl, e⟩

theorem l23_WaitBack_sp {wd : Wd} {a : Option Addr} {n c : Nat} {l : List RReq} {id : Int} {w : World} (h : SlF w (.slice a n c) l) (hq : ∀ r ∈ l, QOk wd w r.q) :
    Sp Try.prog F.l23_WaitBack #[.slice a n c, .int .i64 id] w fun v w' => v = .bool true ∧ Ext w w' := by
  obtain rfl := h.len
  refine en TBok rfl ?_
  refine rcall (r23_Big_sp h hq) ?_
  rintro v w1 ⟨⟨rfl, hb⟩ | ⟨rfl, hb⟩, e1⟩
  · exact ⟨rfl, e1⟩
  obtain ⟨hn, hr⟩ := not_big hq hb
  refine rcall (wait_Place_sp (h.ext e1) (by omega)) ?_
  rintro v w2 ⟨hv, e2⟩
  have T := wait_Take_sp (id := id) (h.ext (e1.t e2)) (by omega)
  have hv := plcV_of hv; rcases hv with ⟨hp, rfl⟩ | ⟨k, hp, rfl⟩
  · rw [takeR_none hp] at T
    refine rcall T ?_
    rintro v w3 ⟨⟨v3, rfl, O3⟩, e3⟩
    obtain ⟨a3, c3, rfl⟩ := O3.val
    have E3 := (e1.t e2).t e3
    refine rcall l23_waits_sp ?_
    rintro v w4 ⟨rfl, e4⟩
    refine ite (fun _ => ?_) (fun h => absurd rfl h)
    refine rcall ((r23_Same_sp (wd := wd) (O3.sl.ext e4) (h.ext (E3.t e4)) (hr.ext (E3.t e4)) (hr.ext (E3.t e4)) (by simp; omega)).tt (sameRs.refl wd _)) ?_
    rintro v w5 ⟨rfl, e5⟩
    exact ⟨rfl, (E3.t e4).t e5⟩
  · rw [takeR_some hp] at T
    refine rcall T ?_
    rintro v w3 ⟨⟨v3, rfl, O3⟩, e3⟩
    obtain ⟨a3, c3, rfl⟩ := O3.val
    have E3 := (e1.t e2).t e3
    obtain ⟨hk, hid⟩ := plc_lt hp
    have hlen : (l.take k ++ l.drop (k + 1)).length = l.length - 1 := by simp; omega
    have O3 := O3.sl
    simp only at O3
    refine ite (fun h' => by omega) (fun _ => ?_)
    refine ite (fun h' => by omega) (fun _ => ?_)
    refine rix (h.ext E3) (x := l[k]) (by simp) fun b o A => ?_
    refine rload1 (A.cell 0 rfl) (ite (fun h' => absurd hid h') (fun _ => ?_))
    refine rar (by omega) ?_
    refine ite (fun h' => absurd (show (((l.take k ++ l.drop (k + 1)).length : Nat) : Int) = l.length - 1 by omega) h') (fun _ => ?_)
    refine drawR TBok mixed (fun _ => False) (upF 24 0) (by kernel_rfl) fun w5 e5 _ => ?_
    refine rcall l23_waits_sp ?_
    rintro v w6 ⟨rfl, e6⟩
    refine ⟨e6, ?_⟩
    have E6 := (E3.t e5).t e6
    have hmk : k ≤ (l.take k ++ l.drop (k + 1)).length := by omega
    have t1 : (l.take k ++ l.drop (k + 1)).take k = l.take k := by rw [List.take_append_of_le_length (by simp; omega), List.take_take, Nat.min_self]
    have t2 : (l.take k ++ l.drop (k + 1)).drop k = l.drop (k + 1) := by rw [List.drop_append_of_le_length (by simp; omega), List.drop_eq_nil_of_le (by simp; omega), List.nil_append]
    refine tsl none (some k) (O3.ext (e5.t e6)) (by simp) (by simp; omega) fun a1 c1 S1 => ?_
    refine tsl none (some k) (h.ext E6) (by simp) (by simp; omega) fun a2 c2 S2 => ?_
    rw [sl_take] at S1 S2
    rw [t1] at S1
    simp only [Option.getD_none, Option.getD_some] at S1 S2
    refine rcall ((r23_Same_sp (wd := wd) S1 S2 ((hr.ext E6).sub fun r h => List.mem_of_mem_take h) ((hr.ext E6).sub fun r h => List.mem_of_mem_take h) (by simp; omega)).tt (sameRs.refl wd _)) ?_
    rintro v w7 ⟨rfl, e7⟩
    refine ⟨e7, ?_⟩
    have E7 := E6.t e7
    refine tsl (some k) none (O3.ext ((e5.t e6).t e7)) hmk (by simp) fun a3 c3 S3 => ?_
    refine rar (by omega) ?_
    refine tsl (some (k + 1)) none (h.ext E7) (by simp; omega) (by simp) fun a4 c4 S4 => ?_
    rw [sl_drop] at S3 S4
    rw [t2] at S3
    simp only [Option.getD_none, Option.getD_some] at S3 S4
    refine rcall ((r23_Same_sp (wd := wd) S3 S4 ((hr.ext E7).sub fun r h => List.mem_of_mem_drop h) ((hr.ext E7).sub fun r h => List.mem_of_mem_drop h) (by simp; omega)).tt (sameRs.refl wd _)) ?_
    rintro v w8 ⟨rfl, e8⟩
    exact ⟨e8, rfl, E7.t e8⟩
end Go.W
