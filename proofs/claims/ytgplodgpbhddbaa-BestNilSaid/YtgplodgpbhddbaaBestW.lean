/-
  Proved here: the laws of queues return true: BestRuns, BestOrder, BestNil, BestFirst, BestKeeps (walks through the laws).
  Conditions: the rows can be read.
-/
import Derived.Test.YtgplodgpbhddbaaBestR
namespace Go.W
open Go Go.Proofs
open Enc (enc)
set_option maxRecDepth 10000

theorem l10_BestNil_sp {h : HitD} {w : World} : Sp Try.prog F.l10_BestNil #[agg h] w fun v w' => v = .bool true ∧ Stp w w' := by
  refine en TBok rfl ?_
  refine rbx fun bk w1 n1 B1 => ?_
  refine rldG (ds := enc h) (B := B1) rfl rfl ?_
  refine rcall (Queue_Put_nil_sp) ?_
  rintro v w2 ⟨rfl, e2⟩
  refine ral fun b3 w3 n3 z3 => ?_
  refine rsto (B := z3) (vs := enc zH) rfl rfl rfl (Enc.one _) fun w4 B4 f4 _ => ?_
  have s4 : Stp w2 w4 := ⟨Fr.st Le.e f4 fun i hi => by subst hi; exact n3.lo⟩
  refine rcall (Queue_Take_nil_sp) ?_
  rintro v w5 ⟨rfl, e5⟩
  refine ral fun b6 w6 n6 z6 => ?_
  refine rsto (B := z6) (vs := enc zH) rfl rfl rfl (Enc.one _) fun w7 B7 f7 _ => ?_
  have s7 : Stp w5 w7 := ⟨Fr.st Le.e f7 fun i hi => by subst hi; exact n6.lo⟩
  have A4 : Bk w4 b3 (enc zH) E.api_Hit := B4
  have A7 : Bk w7 b6 (enc zH) E.api_Hit := B7
  clear B4 B7 z3 z6 f4 f7
  refine rcall (l10_bests_sp) ?_
  rintro v w8 ⟨rfl, e8⟩
  refine rldG (ds := enc zH) (B := A4) rfl rfl ?_
  refine rbuild (cs := enc zH) rfl ?_
  refine rgeq HitD zH zH (fun _ => ?_) (fun h => absurd rfl h)
  refine rldG (ds := enc zH) (B := A7) rfl rfl ?_
  refine rldG (ds := enc zH) (B := A4) rfl rfl ?_
  refine rgeq HitD zH zH (fun _ => ?_) (fun h => absurd rfl h)
  refine rcall (Queue_Len_nil_sp) ?_
  rintro v w9 ⟨rfl, e9⟩
  refine ite (fun _ => ?_) (fun h => absurd rfl h)
  refine rcall (Queue_All_nil_sp) ?_
  rintro v w10 ⟨rfl, e10⟩
  refine ite (fun _ => ?_) (fun h => absurd rfl h)
  exact ⟨rfl, stp⟩

/-- a step of a script -/
structure HStep where
  kind : Int
  hit : HitD
instance : Enc HStep := ⟨3, fun x => [.int .i64 x.kind, .int .i64 x.hit.v, .int .i64 x.hit.d], fun _ => rfl, by intro x u hu; simp at hu; rcases hu with rfl | rfl | rfl <;> rfl, by decide⟩

set_option maxHeartbeats 1000000 in
theorem l10_BestRuns_sp {most : Int} {a0 : Option Addr} {n0 c0 : Nat} {l : List HStep} {w : World} (h : SlF w (.slice a0 n0 c0) l) :
    Sp Try.prog F.l10_BestRuns #[.int .i64 most, .slice a0 n0 c0] w fun v w' => v = .bool true ∧ Stp w w' := by
  have q_ := h.len
  obtain rfl := q_
  refine en TBok rfl ?_
  refine rcall (best_New_sp (most := most) (w := w)) ?_
  rintro v w3 ⟨⟨hm, rfl⟩ | ⟨hm, b, rfl, Q⟩, e3⟩
  · refine rpnil ?_
    refine rcall (l10_bests_sp) ?_
    rintro v w4 ⟨rfl, e4⟩
    refine ite (fun h1 => ?_) (fun h1 => ?_)
    · refine rpnnil ?_
      refine ite (fun _ => ?_) (fun h => absurd rfl h)
      exact ⟨rfl, stp⟩
    · refine ite (fun _ => ?_) (fun h => absurd (by first | omega | decide | (dsimp only <;> omega)) h)
      refine rpnnil ?_
      refine ite (fun _ => ?_) (fun h => absurd rfl h)
      exact ⟨rfl, stp⟩
  refine rpnil ?_
  refine ite (fun h => absurd rfl h) (fun _ => ?_)
  refine ite (fun h1 => ?_) (fun h1 => ?_)
  · refine rcall (l10_bests_sp) ?_
    rintro v w4 ⟨rfl, e4⟩
    refine ite (fun h => absurd h (by first | omega | decide | (dsimp only <;> omega))) (fun _ => ?_)
    refine ite (fun h => absurd h (by first | omega | decide | (dsimp only <;> omega))) (fun _ => ?_)
    refine ite (fun _ => ?_) (fun h => absurd (by first | omega | decide | (dsimp only <;> omega)) h)
    refine rpnnil ?_
    refine rpnnil ?_
    exact ⟨rfl, stp⟩
  have q_ := Int.eq_ofNat_of_zero_le (show (0 : Int) ≤ most by omega)
  obtain ⟨N, rfl⟩ := q_
  refine rbuild (cs := [.slice none 0 0, .int .i64 (N : Nat)]) rfl ?_
  refine rbx fun bm w4 n4 B4 => ?_
  have RQ : RQu w.heap.size w4 bm N [] := ⟨n4.lo, .nil, by simp, none, 0, B4, SlY.nil _ _⟩
  refine cnt TBok 9 [4] 8 l.length (fun i u => ∃ L, Qu w.heap.size u b N L ∧ RQu w.heap.size u bm N L ∧ Stp w u) rfl rfl ⟨[], Q.up, RQ, stp⟩ ?_
  rintro i g u hi ⟨L, Qs, Rs, e⟩
  have hLN := Rs.2.2.1
  refine ite (fun hlt => ?_) (fun hge => ?_)
  · have hka : i < l.length := by omega
    refine rix (h.up (w' := u)) (x := l[i]) (by simp) fun b4 o4 A4 => rload1 (A4.cell0 rfl) ?_
    refine ite (fun h1 => ?p1) (fun h1 => ?q1)
    case' p1 =>
      refine rix (h.up (w' := u)) (x := l[i]) (by simp) fun b5 o5 A5 => rloadA (A5.sub 1 2) rfl ?_
      refine rcall (Queue_Put_sp (x := l[i].hit) Qs (by omega)) ?_
      rintro v u2 ⟨rfl, Q2, f2⟩
      have R2 := Rs.kept f2 (by decide) (by decide)
      have s2 : Stp w u2 := ⟨FrT.st Le.e f2 (Nat.le_refl _)⟩
      refine ral fun b6 u6 n6 z6 => ?_
      refine rsto (B := z6) (vs := enc (putQ N L l[i].hit).2.1) rfl rfl rfl (Enc.one _) fun u7 B7 f7 _ => ?_
      have s7 : Stp u2 u7 := ⟨Fr.st Le.e f7 fun i hi => by subst hi; exact n6.lo⟩
      have B7' : Bk u7 b6 (enc (putQ N L l[i].hit).2.1) E.api_Hit := B7
      clear z6 f7 B7 f2
      refine rix (h.up (w' := u7)) (x := l[i]) (by simp) fun b8 o8 A8 => rloadA (A8.sub 1 2) rfl ?_
      refine rcall (r10_Queue_Put_sp (x := l[i].hit) (by omega) (R2.up (w' := u7))) ?_
      rintro v u9 ⟨rfl, R9, f9⟩
      have Q9 := (Q2.up (w' := u7)).kept f9 (by decide) (by decide)
      have s9 : Stp w u9 := ⟨FrT.st Le.e f9 (Nat.le_refl _)⟩
      have B9 := B7'.kept f9 (by decide)
      refine ral fun b10 u10 n10 z10 => ?_
      refine rsto (B := z10) (vs := enc (putQ N L l[i].hit).2.1) rfl rfl rfl (Enc.one _) fun u11 B11 f11 _ => ?_
      have s11 : Stp u9 u11 := ⟨Fr.st Le.e f11 fun i hi => by subst hi; exact n10.lo⟩
      have B11' : Bk u11 b10 (enc (putQ N L l[i].hit).2.1) E.api_Hit := B11
      clear z10 f11 B11 f9
      refine rldG (ds := enc (putQ N L l[i].hit).2.1) (B := B9) rfl rfl ?_
      refine rldG (ds := enc (putQ N L l[i].hit).2.1) (B := B11') rfl rfl ?_
      refine rgne HitD _ _ (fun h => absurd rfl h) (fun _ => ?_)
      refine rbne (fun h => absurd rfl h) (fun _ => ?_)
      refine rix (h.up (w' := u11)) (x := l[i]) (by simp) fun b4 o4 A4 => rload1 (A4.cell0 rfl) ?_
      refine ite (fun h => absurd h (by first | omega | decide | (dsimp only <;> omega))) (fun _ => ?_)
      have QX := Q9.up (w' := u11)
      have RX := R9.up (w' := u11)
      have sX : Stp w u11 := stp
    case' q1 =>
      refine rix (h.up (w' := u)) (x := l[i]) (by simp) fun b4 o4 A4 => rload1 (A4.cell0 rfl) ?_
      refine ite (fun h2 => ?p2) (fun h2 => ?q2)
      case' p2 =>
        refine rcall (Queue_Take_sp Qs) ?_
        rintro v u2 ⟨rfl, Q2, f2⟩
        have R2 := Rs.kept f2 (by decide) (by decide)
        have s2 : Stp w u2 := ⟨FrT.st Le.e f2 (Nat.le_refl _)⟩
        refine ral fun b6 u6 n6 z6 => ?_
        refine rsto (B := z6) (vs := enc (takeQ L).2.1) rfl rfl rfl (Enc.one _) fun u7 B7 f7 _ => ?_
        have s7 : Stp u2 u7 := ⟨Fr.st Le.e f7 fun i hi => by subst hi; exact n6.lo⟩
        have B7' : Bk u7 b6 (enc (takeQ L).2.1) E.api_Hit := B7
        clear z6 f7 B7 f2
        refine rcall (r10_Queue_Take_sp (R2.up (w' := u7))) ?_
        rintro v u9 ⟨rfl, R9, f9⟩
        have Q9 := (Q2.up (w' := u7)).kept f9 (by decide) (by decide)
        have s9 : Stp w u9 := ⟨FrT.st Le.e f9 (Nat.le_refl _)⟩
        have B9 := B7'.kept f9 (by decide)
        refine ral fun b10 u10 n10 z10 => ?_
        refine rsto (B := z10) (vs := enc (takeQ L).2.1) rfl rfl rfl (Enc.one _) fun u11 B11 f11 _ => ?_
        have s11 : Stp u9 u11 := ⟨Fr.st Le.e f11 fun i hi => by subst hi; exact n10.lo⟩
        have B11' : Bk u11 b10 (enc (takeQ L).2.1) E.api_Hit := B11
        clear z10 f11 B11 f9
        refine rldG (ds := enc (takeQ L).2.1) (B := B9) rfl rfl ?_
        refine rldG (ds := enc (takeQ L).2.1) (B := B11') rfl rfl ?_
        refine rgne HitD _ _ (fun h => absurd rfl h) (fun _ => ?_)
        refine rbne (fun h => absurd rfl h) (fun _ => ?_)
        have QX := Q9.up (w' := u11)
        have RX := R9.up (w' := u11)
        have sX : Stp w u11 := stp
      case' q2 =>
        have QX := Qs
        have RX := Rs
        have sX : Stp w u := stp
    all_goals
      clear Qs Rs Q RQ
      refine drawR TBok mixed (fun _ => False) [0,2,3,4,5,6,1,7] (by kernel_rfl) fun v1 g1 _ => ?_
      have RR := RX.up (w' := v1)
      obtain ⟨_, _, _, a1, c1, C1, S1⟩ := RR
      refine tld (B := C1) rfl not_false ?_
      refine rcall (Queue_Len_sp (QX.up (w' := v1))) ?_
      rintro v v2 ⟨rfl, e2⟩
      refine ⟨e2.e, ?_⟩
      refine ite (fun h => absurd rfl h) (fun _ => ?_)
      exact rar (by omega) ⟨rfl, hka, _, QX.up, RX.up, stp⟩
  · have q_ : i = l.length := by omega
    obtain rfl := q_
    refine drawR TBok mixed (fun _ => False) [0,1,2,4,5,6,7,3,8,9,10] (by kernel_rfl) fun v1 g1 _ => ?_
    refine rcall l10_bests_sp ?_
    rintro v v2 ⟨rfl, e2⟩
    refine ⟨e2.e, ?_⟩
    have RR := Rs.up (w' := v2)
    obtain ⟨_, _, _, a1, c1, C1, S1⟩ := RR
    refine tld (B := C1) rfl not_false ?_
    refine rcall (Queue_All_sp (Qs.up (w' := v2))) ?_
    rintro v v3 ⟨O3, e3'⟩
    have q_ := O3.shape
    obtain ⟨ak, ck, rfl⟩ := q_
    refine ⟨e3'.e, ?_⟩
    refine rcall (r09_Same_sp O3.sl (S1.sl.up (w' := v3)) (by omega)) ?_
    rintro v v4 ⟨⟨rfl, _⟩ | ⟨rfl, hne⟩, e4⟩
    · exact ⟨e4.e, rfl, stp⟩
    · exact absurd rfl hne
end Go.W
