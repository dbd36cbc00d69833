/-
  Proved here: queues of hits: made, put into, taken from, told whole (contracts).
  Conditions: the queue lies in memory as is said at each.
-/
import Derived.Test.YtgplodgpbhddbaaQueL
import Derived.Test.YtgplodgpbhddbaaW21
import Derived.Test.YtgplodgpbhddbaaSortH
namespace Go.W
open Go Go.Proofs
open Enc (enc)
set_option maxRecDepth 10000

/-- a queue that holds these, in order -/
def Qu (B : Nat) (w : World) (b : Nat) (most : Int) (L : List HitD) : Prop := (∃ l : List HitD, QSt B b most l w ∧ HeapN hgt l l.length ∧ l.Perm L) ∧ SrtH L
theorem Qu.up {B : Nat} {w w' : World} [Le w w'] {b : Nat} {most : Int} {L : List HitD} (h : Qu B w b most L) : Qu B w' b most L := by
  obtain ⟨⟨l, h1, h2⟩, h3⟩ := h; exact ⟨⟨l, h1.up, h2⟩, h3⟩
theorem Qu.kept {B C : Nat} {w w' : World} {es : List TypeId} {b : Nat} {most : Int} {L : List HitD} (h : Qu B w b most L) (f : FrT C es w w') (h1 : E.best_Queue ∉ es) (h2 : E.best_hit ∉ es) : Qu B w' b most L := by
  obtain ⟨⟨l, ⟨a, c, q⟩, r⟩, h3⟩ := h
  exact ⟨⟨l, ⟨a, c, q.lo, q.cell.kept f h1, q.row.kept f h2, q.size⟩, r⟩, h3⟩
theorem Qu.lt {B : Nat} {w : World} {b : Nat} {most : Int} {L : List HitD} (h : Qu B w b most L) : B ≤ b ∧ b < w.heap.size := by
  obtain ⟨⟨l, ⟨a, c, q⟩, r⟩, h3⟩ := h; exact ⟨q.lo, q.cell.lt⟩

theorem best_New_sp {most : Int} {w : World} : Sp Try.prog F.best_New #[.int .i64 most] w fun v w' =>
    ((most < 1 ∨ 1000 < most) ∧ v = .tuple #[.pointer none, .int .i64 1] ∨ (1 ≤ most ∧ most ≤ 1000) ∧ ∃ b, v = .tuple #[.pointer (some ⟨b, 0, none⟩), .int .i64 0] ∧ Qu w.heap.size w' b most []) ∧ Stp w w' := by
  refine en TBok rfl ?_
  refine ite (fun h1 => ⟨.inl ⟨.inl h1, rfl⟩, stp⟩) (fun h1 => ?_)
  refine ite (fun h2 => ⟨.inl ⟨.inr h2, rfl⟩, stp⟩) (fun h2 => ?_)
  refine rbuild (cs := [.slice none 0 0, .int .i64 most]) rfl ?_
  refine rbx fun b w1 n1 B1 => ?_
  exact ⟨.inr ⟨by omega, b, rfl, ⟨[], ⟨none, 0, n1.lo, B1, Own.nil _ _ _, by simp⟩, fun c c0 cn => absurd cn (by simp), .refl _⟩, .nil⟩, stp⟩
theorem Queue_Len_sp {B b : Nat} {most : Int} {L : List HitD} {w : World} (Q : Qu B w b most L) : Sp Try.prog F.best_Queue_Len #[.pointer (some ⟨b, 0, none⟩)] w fun v w' => v = .int .i64 (L.length : Nat) ∧ Stp w w' := by
  obtain ⟨⟨l, ⟨a, c, q⟩, _, hp⟩, _⟩ := Q
  refine en TBok rfl ?_
  refine rpnil ?_
  refine rcall (pile_Len_sp q) ?_
  rintro v w1 ⟨rfl, rfl⟩
  rw [hp.length_eq]
  exact ⟨rfl, stp⟩
theorem Queue_Len_nil_sp {w : World} : Sp Try.prog F.best_Queue_Len #[.pointer none] w fun v w' => v = .int .i64 0 ∧ Stp w w' := by
  refine en TBok rfl ?_
  refine rpnil ?_
  exact ⟨rfl, stp⟩

theorem pile_last_sp {B b : Nat} {most : Int} {l : List HitD} {w : World} (S : QSt B b most l w) (hh : HeapN hgt l l.length) (hne : l ≠ []) :
    Sp Try.prog F.best_pile_last #[.pointer (some ⟨b, 0, none⟩)] w fun v w' => v = agg (atL l 0) ∧ (∃ l' : List HitD, (atL l 0 :: l').Perm l ∧ QSt B b most l' w' ∧ HeapN hgt l' l'.length) ∧ FrT B pE w w' := by
  refine en TBok rfl ?_
  refine ral fun b2 w1 n1 B1 => ?_
  refine rmki ?_
  refine rcall (Pop_sp (pile_heap B b most) (RX := fun x v => v = .iface E.best_hit (agg x)) (pile_pop B b most) (S.up (w' := w1)) hne hh) ?_
  rintro v w2 ⟨⟨rfl, l', hp, S2, hh2⟩, f2⟩
  have hb2 := n1.lo (u := w)
  have F2 : FrT B pE w w2 := (FrT.ext Le.e).trans f2
  have C2 : Bk w2 b2 [.int .i64 0, .int .i64 0] E.api_Hit := B1.kept f2 (by decide)
  refine rta ?_
  refine ral fun b3 w3 n3 B3 => ?_
  refine rsto (B := B3) (vs := enc (atL l 0)) rfl rfl rfl (Enc.one _) fun w4 B4 f4 _ => ?_
  have s4 : Stp w2 w4 := ⟨Fr.st Le.e f4 fun i hi => by subst hi; exact n3.lo⟩
  clear B3 f4
  refine rldG (ds := enc (atL l 0)) (B := B4) rfl rfl ?_
  refine rsto (B := C2) (vs := enc (atL l 0)) rfl rfl rfl (Enc.one _) fun w5 B5 f5 _ => ?_
  have F5 : FrT B pE w w5 := Fr.new (Fr.trans F2 (Fr.fr (Le.e (a := w2) (b := w4)))) f5 fun i hi => by subst hi; exact hb2
  have K5 : FrT w.heap.size [E.api_Hit] w4 w5 := (C2.mv (w := w4)).wrote f5 hb2 (by decide)
  refine rresG rfl ?_
  have q_ := S2.up (w' := w4)
  obtain ⟨a, c, q⟩ := q_
  exact ⟨rfl, ⟨l', hp, ⟨a, c, q.lo, q.cell.kept K5 (by decide), q.row.kept K5 (by decide), q.size⟩, hh2⟩, F5⟩

set_option maxHeartbeats 400000 in
theorem Queue_Put_sp {B b : Nat} {most : Int} {L : List HitD} {x : HitD} {w : World} (Q : Qu B w b most L) (hL : L.length ≤ 99999) :
    Sp Try.prog F.best_Queue_Put #[.pointer (some ⟨b, 0, none⟩), agg x] w fun v w' => v = .tuple #[agg (putQ most L x).2.1, .bool (putQ most L x).2.2] ∧ Qu B w' b most (putQ most L x).1 ∧ FrT B pE w w' := by
  have QQ := Q
  obtain ⟨⟨l, S, hh, hp⟩, hs⟩ := Q
  have hll := hp.length_eq
  refine en TBok rfl ?_
  refine rbx fun bh w1 n1 B1 => ?_
  refine ral fun b2 w2 n2 B2 => ?_
  have hb2 := n2.lo (u := w)
  refine rpnil ?_
  refine drawR TBok mixed (fun i => i ≠ bh) [0,1,2,3,4,5,6] (by kernel_rfl) fun w3 e3 _ => ?_
  refine tmki ?_
  refine tldG (ds := enc x) (B := B1) rfl rfl (fun h => h rfl) ?_
  refine tmki ?_
  refine rcall (Push_sp (pile_heap B b most) (y := x) (S.up (w' := w3)) (by omega) hh (pile_push (S.up (w' := w3)) (by omega))) ?_
  rintro v w4 ⟨⟨l', hp', S4, hh4⟩, f4⟩
  refine ⟨f4.ne (B1.mv (w := w3)) (by decide), ?_⟩
  have F4 : FrT B pE w w4 := (FrT.ext Le.e).trans f4
  have C4 : Bk w4 b2 [.int .i64 0, .int .i64 0] E.api_Hit := (B2.mv (w := w3)).kept f4 (by decide)
  have hq : l'.Perm (insH x L) := by
    refine hp'.trans ((List.perm_append_singleton x l).trans ((hp.cons x).trans (insH_perm x L).symm))
  have hsI := insH_srt x hs
  have Q4 : Qu B w4 b most (insH x L) := ⟨⟨l', S4, hh4, hq⟩, hsI⟩
  have hlI := insH_len x L
  refine drawR TBok mixed (fun _ => False) [0,2,3,4,5,1,6] (by kernel_rfl) fun w5 e5 _ => ?_
  have q_ := S4.up (w' := w5)
  obtain ⟨a5, c5, q5⟩ := q_
  refine tld (B := q5.cell) rfl not_false ?_
  refine rcall (Queue_Len_sp (Q4.up (w' := w5))) ?_
  rintro v w6 ⟨rfl, e6⟩
  refine ⟨e6.e, ?_⟩
  refine ite (fun hle => ?_) (fun hgt => ?_)
  · have hpq : putQ most L x = (insH x L, zH, false) := by unfold putQ; rw [if_pos hle]
    rw [hpq]
    refine rbuild (cs := enc zH) rfl ?_
    refine rsto (B := C4) (vs := enc zH) rfl rfl rfl (Enc.one _) fun w7 B7 f7 _ => ?_
    have K7 : FrT w.heap.size [E.api_Hit] w6 w7 := (C4.mv (w := w6)).wrote f7 hb2 (by decide)
    have F7 : FrT B pE w w7 := Fr.new (Fr.trans F4 (Fr.fr (Le.e (a := w4) (b := w6)))) f7 fun i hi => by subst hi; exact hb2
    refine rresG rfl ?_
    exact ⟨rfl, (Q4.up (w' := w6)).kept K7 (by decide) (by decide), F7⟩
  · have hpq : putQ most L x = ((insH x L).dropLast, (insH x L).getLast?.getD zH, true) := by unfold putQ; rw [if_neg hgt]
    rw [hpq]
    have hne : l' ≠ [] := by rintro rfl; have := hq.length_eq; simp at this; omega
    refine rcall (pile_last_sp (S4.up (w' := w6)) hh4 hne) ?_
    rintro v w7 ⟨rfl, ⟨l7, hp7, S7, hh7⟩, f7⟩
    have hfst := heap_first hgt_ord hh4
    have hlast := hsI.last (hp7.trans hq) (fun y hy => by
      have q_ := List.mem_iff_getElem.1 (hq.mem_iff.2 hy)
      obtain ⟨i, hi, rfl⟩ := q_
      have := hfst i hi
      rw [atL_get hi] at this; exact this)
    rw [hlast.1]
    have C7 := (C4.mv (w := w6)).kept f7 (by decide)
    have F7 : FrT B pE w w7 := (F4.trans (FrT.ext Le.e)).trans f7
    refine rsto (B := C7) (vs := enc (atL l' 0)) rfl rfl rfl (Enc.one _) fun w8 B8 f8 _ => ?_
    have K8 : FrT w.heap.size [E.api_Hit] w7 w8 := C7.wrote f8 hb2 (by decide)
    have F8 : FrT B pE w w8 := Fr.new F7 f8 fun i hi => by subst hi; exact hb2
    have Q7 : Qu B w7 b most (insH x L).dropLast := ⟨⟨l7, S7, hh7, hlast.2⟩, hsI.sublist (List.dropLast_sublist _)⟩
    refine rresG rfl ?_
    exact ⟨rfl, Q7.kept K8 (by decide) (by decide), F8⟩
theorem Queue_Put_nil_sp {x : HitD} {w : World} : Sp Try.prog F.best_Queue_Put #[.pointer none, agg x] w fun v w' => v = .tuple #[agg zH, .bool false] ∧ Stp w w' := by
  refine en TBok rfl ?_
  refine rbx fun bh w1 n1 B1 => ?_
  refine ral fun b2 w2 n2 B2 => ?_
  refine rpnil ?_
  refine rbuild (cs := enc zH) rfl ?_
  refine rsto (B := B2) (vs := enc zH) rfl rfl rfl (Enc.one _) fun w7 B7 f7 _ => ?_
  have s7 : Stp w w7 := ⟨Fr.st Le.e f7 fun i hi => by subst hi; exact n2.lo⟩
  refine rresG rfl ?_
  exact ⟨rfl, stp⟩

set_option maxHeartbeats 400000 in
theorem Queue_Take_sp {B b : Nat} {most : Int} {L : List HitD} {w : World} (Q : Qu B w b most L) :
    Sp Try.prog F.best_Queue_Take #[.pointer (some ⟨b, 0, none⟩)] w fun v w' => v = .tuple #[agg (takeQ L).2.1, .bool (takeQ L).2.2] ∧ Qu B w' b most (takeQ L).1 ∧ FrT B pE w w' := by
  have QQ := Q
  obtain ⟨⟨l, S, hh, hp⟩, hs⟩ := Q
  have hll := hp.length_eq
  refine en TBok rfl ?_
  refine ral fun b2 w2 n2 B2 => ?_
  have hb2 := n2.lo (u := w)
  refine rcall (Queue_Len_sp (QQ.up (w' := w2))) ?_
  rintro v w3 ⟨rfl, e3⟩
  refine ite (fun h0 => ?_) (fun h0 => ?_)
  · have hL : L = [] := List.eq_nil_of_length_eq_zero (by omega)
    subst hL
    refine rbuild (cs := enc zH) rfl ?_
    refine rsto (B := B2.mv (w := w3)) (vs := enc zH) rfl rfl rfl (Enc.one _) fun w7 B7 f7 _ => ?_
    have s7 : Stp w w7 := ⟨Fr.st Le.e f7 fun i hi => by subst hi; exact hb2⟩
    refine rresG rfl ?_
    exact ⟨rfl, QQ.up, FrT.ext Le.e⟩
  have hpos : 0 < l.length := by omega
  obtain ⟨a, c, q⟩ := S
  have hsz := q.size
  refine rld (B := q.cell) rfl ?_
  refine cnt1 TBok 19 [5, 6] 4 19 l.length (fun k v u => (∃ i : Nat, v = .int .i64 i ∧ i < l.length ∧ ∀ j, j < k → j < l.length → hlt (atL l j) (atL l i) = false) ∧ Stp w3 u) rfl rfl ⟨⟨0, rfl, hpos, by omega⟩, stp⟩ ?_
  rintro k _ g u hk ⟨⟨i, rfl, hi, hb⟩, e⟩
  refine ite (fun hlt' => ?_) (fun hge => ?_)
  · have hka : k < l.length := by omega
    refine rix (q.row.sl.up (w' := u)) (x := l[k]) (by simp) fun b4 o4 A4 => rloadA A4 rfl ?_
    refine ral fun b5 u5 n5 z5 => ?_
    refine rsto (B := z5) (vs := enc l[k]) rfl rfl rfl (Enc.one _) fun u6 B6 f6 _ => ?_
    have s6 : Stp u u6 := ⟨Fr.st Le.e f6 fun i hi => by subst hi; exact n5.lo⟩
    clear z5 f6
    refine drawR TBok mixed (fun _ => False) (upF 11 0) (by kernel_rfl) fun u7 e7 _ => ?_
    refine tldG (ds := enc l[k]) (B := B6) rfl rfl not_false ?_
    refine tld (B := q.cell) rfl not_false ?_
    refine tix (q.row.sl.up (w' := u7)) (x := l[i]) (by simp) fun b8 o8 A8 _ => tloadA A8 rfl not_false ?_
    refine rcall (hit_to_sp (a := l[k]) (b := l[i])) ?_
    rintro v u8 ⟨rfl, g8⟩
    have s8 : Stp u7 u8 := ⟨g8.ext⟩
    refine ⟨g8.ext, ?_⟩
    refine ite (fun hlt2 => ?_) (fun hge2 => ?_)
    · have h1 := (toI_lt _ _).1 hlt2
      refine rar (by omega) ⟨rfl, hka, ⟨k, rfl, hka, fun j hj hjl => ?_⟩, stp⟩
      have q_ := Nat.lt_or_ge j k
      rcases q_ with h' | h'
      · have h2 := hb j h' hjl
        rw [atL_get hi] at h2; rw [atL_get hka]
        rw [hlt_ff] at *; rw [hlt_iff] at h1; omega
      · have q_ : j = k := by omega
        obtain rfl := q_
        exact hlt_irr _
    · refine rar (by omega) ⟨rfl, hka, ⟨i, rfl, hi, fun j hj hjl => ?_⟩, stp⟩
      have q_ := Nat.lt_or_ge j k
      rcases q_ with h' | h'
      · exact hb j h' hjl
      · have q_ : j = k := by omega
        obtain rfl := q_
        rw [atL_get hi, atL_get hka]
        cases hq : hlt l[j] l[i] with
        | false => rfl
        | true => exact absurd ((toI_lt _ _).2 hq) hge2
  · have q_ : k = l.length := by omega
    obtain rfl := q_
    refine rmki ?_
    refine rcall (Remove_sp (pile_heap B b most) (RX := fun x v => v = .iface E.best_hit (agg x)) (pile_pop B b most) (show QSt B b most l u from ⟨a, c, q.up⟩) hi hh) ?_
    rintro v w5 ⟨⟨rfl, l', hp', S5, hh5⟩, f5⟩
    have F5 : FrT B pE w w5 := (FrT.ext Le.e).trans f5
    have C5 : Bk w5 b2 [.int .i64 0, .int .i64 0] E.api_Hit := (B2.mv (w := u)).kept f5 (by decide)
    have hfst := hs.first (hp'.trans hp) (fun y hy => by
      have q_ := List.mem_iff_getElem.1 (hp.mem_iff.2 hy)
      obtain ⟨j, hj, rfl⟩ := q_
      have := hb j hj hj
      rw [atL_get hj] at this; exact this)
    obtain ⟨T, hT, hpT⟩ := hfst
    have htq : takeQ L = (T, atL l i, true) := by rw [hT]; rfl
    rw [htq]
    refine rta ?_
    refine ral fun b6 w6 n6 B6 => ?_
    refine rsto (B := B6) (vs := enc (atL l i)) rfl rfl rfl (Enc.one _) fun w7 B7 f7 _ => ?_
    have s7 : Stp w5 w7 := ⟨Fr.st Le.e f7 fun i hi => by subst hi; exact n6.lo⟩
    clear B6 f7
    refine rldG (ds := enc (atL l i)) (B := B7) rfl rfl ?_
    refine rsto (B := C5) (vs := enc (atL l i)) rfl rfl rfl (Enc.one _) fun w8 B8 f8 _ => ?_
    have K8 : FrT w.heap.size [E.api_Hit] w7 w8 := (C5.mv (w := w7)).wrote f8 hb2 (by decide)
    have F8 : FrT B pE w w8 := Fr.new (Fr.trans F5 (Fr.fr (Le.e (a := w5) (b := w7)))) f8 fun i hi => by subst hi; exact hb2
    have hsT : SrtH T := by rw [hT] at hs; exact (List.pairwise_cons.1 hs).2
    have Q5 : Qu B w5 b most T := ⟨⟨l', S5, hh5, hpT⟩, hsT⟩
    refine rresG rfl ?_
    exact ⟨rfl, (Q5.up (w' := w7)).kept K8 (by decide) (by decide), F8⟩
theorem Queue_Take_nil_sp {w : World} : Sp Try.prog F.best_Queue_Take #[.pointer none] w fun v w' => v = .tuple #[agg zH, .bool false] ∧ Stp w w' := by
  refine en TBok rfl ?_
  refine ral fun b2 w2 n2 B2 => ?_
  refine rcall (Queue_Len_nil_sp) ?_
  rintro v w3 ⟨rfl, e3⟩
  refine ite (fun _ => ?_) (fun h => absurd (by first | omega | decide | (dsimp only <;> omega)) h)
  refine rbuild (cs := enc zH) rfl ?_
  refine rsto (B := B2.mv (w := w3)) (vs := enc zH) rfl rfl rfl (Enc.one _) fun w7 B7 f7 _ => ?_
  have s7 : Stp w w7 := ⟨Fr.st Le.e f7 fun i hi => by subst hi; exact n2.lo⟩
  refine rresG rfl ?_
  exact ⟨rfl, stp⟩

theorem Clone_hit_sp {a : Option Addr} {n c : Nat} {l : List HitD} {w : World} (h : SlF w (.slice a n c) l) (hn : l.length ≤ 1000000) : Sp Try.prog F.slices_Clone_best_hit #[.slice a n c] w fun v w' => Own w.heap.size E.best_hit w' v l ∧ Stp w w' := by
  have q_ := h.len
  obtain rfl := q_
  refine en TBok rfl ?_
  refine rsnil (fun ha => ?_) (fun ha => ?_)
  · have hl : l = [] := by
      obtain ⟨a', c', hv, _, h'⟩ := h
      cases hv
      rcases h' with h' | ⟨b, o, hb, _⟩
      · exact h'
      · rw [ha] at hb; cases hb
    subst hl
    exact ⟨Own.nil _ _ _, stp⟩
  · refine rbs (α := HitD) [] rfl (vs := []) rfl rfl (by decide) fun b1 w1 n1 _ => ?_
    have s1 : Stp w w1 := ⟨n1.ext⟩
    refine rapp (u := w) ⟨rfl, rfl⟩ (Own.nil' _ E.best_hit _ _) (h.up (w' := w1)) (by simp; omega) fun v3 w3 O3 f3 s3 => ?_
    rw [List.nil_append] at O3
    exact ⟨O3, stp⟩
instance : Inhabited HitD := ⟨zH⟩
theorem toI_swo : Go.Sort.SWO (ltOf toI) := by
  have h := toI_lt
  refine ⟨fun x => ?_, fun x y z h1 h2 => ?_, fun x y z h1 h2 => ?_⟩ <;> simp only [ltOf, decide_eq_false_iff_not, decide_eq_true_eq, h, hlt_iff] at * <;> omega
theorem Queue_All_sp {B b : Nat} {most : Int} {L : List HitD} {w : World} (Q : Qu B w b most L) :
    Sp Try.prog F.best_Queue_All #[.pointer (some ⟨b, 0, none⟩)] w fun v w' => Own w.heap.size E.api_Hit w' v L ∧ Stp w w' := by
  obtain ⟨⟨l, ⟨a, c, q⟩, hh, hp⟩, hs⟩ := Q
  have hll := hp.length_eq
  have hsz := q.size
  refine en TBok rfl ?_
  refine rpnil ?_
  refine rld (B := q.cell) rfl ?_
  refine rcall (Clone_hit_sp q.row.sl (by omega)) ?_
  rintro v w1 ⟨O1, e1⟩
  have q_ := O1.shape
  obtain ⟨a1, c1, rfl⟩ := q_
  refine rcall (sort_sp Try.sortH (k := 2) (show Agg Try.prog E.best_hit 2 from inferInstance) rfl toI toI_swo (f := F.slices_SortFunc_best_hit) rfl (fun x y W => hit_to_sp) O1 (by omega)) ?_
  rintro r w2 ⟨rfl, l2, hp2, hs2, O2, f2⟩
  have s2 : Stw w w1 w2 := ownD_stw f2
  have hS2 : SrtH l2 := hs2.imp fun {x y} h => by
    cases hq : hlt y x with
    | false => rfl
    | true => exact (h ((toI_lt _ _).2 hq)).elim
  have hl2 : l2 = L := hS2.uniq hs (hp2.trans hp)
  subst hl2
  rw [hll] at O2 ⊢
  refine cnt1 TBok 19 [6] 4 19 l2.length (fun k v u => Own w2.heap.size E.api_Hit u v (l2.take k) ∧ Stp w2 u) rfl rfl ⟨Own.nil _ E.api_Hit _, stp⟩ ?_
  rintro k v g u hk ⟨O, e⟩
  refine ite (fun hlt' => ?_) (fun hge => ?_)
  · have hka : k < l2.length := by omega
    refine rix (O2.sl.up (w' := u)) (x := l2[k]) (by simp) fun b4 o4 A4 => rloadA A4 rfl ?_
    refine ral fun b5 u5 n5 z5 => ?_
    refine rsto (B := z5) (vs := enc l2[k]) rfl rfl rfl (Enc.one _) fun u6 B6 f6 _ => ?_
    have s6 : Stp u u6 := ⟨Fr.st Le.e f6 fun i hi => by subst hi; exact n5.lo⟩
    clear z5 f6
    refine rldG (ds := enc l2[k]) (B := B6) rfl rfl ?_
    refine rbs1 l2[k] rfl rfl (by decide) fun b7 u7 e7 _ S7 => ?_
    refine rapp1 (u := w2) ⟨rfl, rfl⟩ (O.up (w' := u7)) S7 (by rw [List.length_take]; omega) fun v8 u8 O8 f8 s8 => ?_
    refine rar (by omega) ⟨rfl, hka, ?_, stp⟩
    rw [take_add hka]; exact O8
  · have q_ : k = l2.length := by omega
    obtain rfl := q_
    rw [List.take_length] at O
    exact ⟨O.older, stp⟩
theorem Queue_All_nil_sp {w : World} : Sp Try.prog F.best_Queue_All #[.pointer none] w fun v w' => v = .slice none 0 0 ∧ Stp w w' := by
  refine en TBok rfl ?_
  refine rpnil ?_
  exact ⟨rfl, stp⟩

def firstQ (k : Int) (l : List HitD) : List HitD := l.foldl (fun L x => (putQ k L x).1) []
theorem firstQ_len (k : Int) (l : List HitD) : (firstQ k l).length ≤ l.length := by
  have : ∀ (l L : List HitD), (l.foldl (fun L x => (putQ k L x).1) L).length ≤ L.length + l.length := by
    intro l
    induction l with
    | nil => intro L; simp
    | cons x r ih => intro L; rw [List.foldl_cons]; have := ih (putQ k L x).1; have := putQ_len (most := k) (L := L) (x := x); simp; omega
  have := this l []
  unfold firstQ; simpa using this
theorem firstQ_succ {k : Int} {l : List HitD} {i : Nat} (h : i < l.length) : firstQ k (l.take (i + 1)) = (putQ k (firstQ k (l.take i)) l[i]).1 := by
  unfold firstQ; rw [take_add h, List.foldl_append]; rfl
theorem best_First_sp {a : Option Addr} {n c : Nat} {l : List HitD} {k : Int} {w : World} (h : SlF w (.slice a n c) l) (hn : l.length ≤ 1000) :
    Sp Try.prog F.best_First #[.slice a n c, .int .i64 k] w fun v w' => Own w.heap.size E.api_Hit w' v (if k < 1 then [] else firstQ k l) ∧ Stp w w' := by
  have q_ := h.len
  obtain rfl := q_
  refine en TBok rfl ?_
  refine ite (fun h1 => ?_) (fun h1 => ?_)
  · rw [if_pos h1]; exact ⟨Own.nil _ _ _, stp⟩
  rw [if_neg h1]
  refine rbuild (cs := [.slice none 0 0, .int .i64 k]) rfl ?_
  refine rbx fun b w1 n1 B1 => ?_
  have Q1 : Qu w.heap.size w1 b k (firstQ k (l.take 0)) := ⟨⟨[], ⟨none, 0, n1.lo, B1, Own.nil _ _ _, by simp⟩, fun c c0 cn => absurd cn (by simp), .refl _⟩, .nil⟩
  refine cnt TBok 15 [7] 15 l.length (fun i u => Qu w.heap.size u b k (firstQ k (l.take i)) ∧ Stp w u) rfl rfl ⟨Q1, stp⟩ ?_
  rintro i g u hi ⟨Q, e⟩
  refine ite (fun hlt' => ?_) (fun hge => ?_)
  · have hka : i < l.length := by omega
    refine rix (h.up (w' := u)) (x := l[i]) (by simp) fun b4 o4 A4 => rloadA A4 rfl ?_
    refine ral fun b5 u5 n5 z5 => ?_
    refine rsto (B := z5) (vs := enc l[i]) rfl rfl rfl (Enc.one _) fun u6 B6 f6 _ => ?_
    have s6 : Stp u u6 := ⟨Fr.st Le.e f6 fun i hi => by subst hi; exact n5.lo⟩
    clear z5 f6
    have hfl := firstQ_len k (l.take i)
    rw [List.length_take] at hfl
    refine rldG (ds := enc l[i]) (B := B6) rfl rfl ?_
    refine rcall (Queue_Put_sp (x := l[i]) (Q.up (w' := u6)) (by omega)) ?_
    rintro v u7 ⟨rfl, Q7, f7⟩
    have s7 : Stp w u7 := ⟨FrT.st Le.e f7 (Nat.le_refl _)⟩
    refine rar (by omega) ⟨rfl, hka, ?_, stp⟩
    rw [firstQ_succ hka]; exact Q7
  · have q_ : i = l.length := by omega
    obtain rfl := q_
    rw [List.take_length] at Q
    refine rcall (Queue_All_sp Q) ?_
    rintro v u1 ⟨O1, e1⟩
    exact ⟨O1.older, stp⟩
end Go.W
