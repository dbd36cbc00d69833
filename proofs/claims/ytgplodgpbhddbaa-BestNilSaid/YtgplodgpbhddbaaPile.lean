/-
  Proved here: hits compared; the heap of hits as the library sees it (contracts).
  Conditions: the queue lies in memory as is said at each.
-/
import Derived.Test.YtgplodgpbhddbaaHeapP
namespace Go.W
open Go Go.Proofs
open Enc (enc)
set_option maxRecDepth 10000

structure HitD where
  v : Int
  d : Int
deriving DecidableEq, Inhabited
instance : Enc HitD := ⟨2, fun x => [.int .i64 x.v, .int .i64 x.d], fun _ => rfl, by intro x u hu; simp at hu; rcases hu with rfl | rfl <;> rfl, by decide⟩
/-- a comes ahead of b -/
def hlt (a b : HitD) : Bool := decide (a.d < b.d ∨ a.d = b.d ∧ a.v < b.v)
def toI (a b : HitD) : Int := if hlt a b then -1 else if hlt b a then 1 else 0
theorem toI_lt (a b : HitD) : toI a b < 0 ↔ hlt a b = true := by
  unfold toI; split
  · rename_i h; simp [h]
  · rename_i h; split <;> simp [h]
theorem order_sp {b : Bool} {w : World} : Sp Try.prog F.best_order #[.bool b] w fun v w' => v = .int .i64 (if b then -1 else 1) ∧ w' = w := by
  refine en TBok rfl ?_
  cases b
  · exact ⟨rfl, rfl⟩
  · exact ⟨rfl, rfl⟩
theorem hit_to_sp {a b : HitD} {w : World} : Sp Try.prog F.best_hit_to #[agg a, agg b] w fun v w' => v = .int .i64 (toI a b) ∧ Gw w w' := by
  refine en TBok rfl ?_
  refine rbx fun b1 w1 n1 B1 => rbx fun b2 w2 n2 B2 => ?_
  have g2 := n1.gw.trans n2.gw
  refine rld (B := B1) rfl (rld (B := B2) rfl ?_)
  refine ite (fun h1 => ?_) (fun h1 => ?_)
  · refine rld (B := B1) rfl (rld (B := B2) rfl ?_)
    refine ite (fun h2 => ?_) (fun h2 => ?_)
    · refine rcall order_sp ?_
      rintro v w3 ⟨rfl, rfl⟩
      have e : toI a b = -1 := by unfold toI hlt; rw [if_pos (by simp [h2])]
      exact ⟨by rw [e]; rfl, g2⟩
    · refine rcall order_sp ?_
      rintro v w3 ⟨rfl, rfl⟩
      have e : toI a b = 1 := by unfold toI hlt; rw [if_neg (by simp; omega), if_pos (by simp; omega)]
      exact ⟨by rw [e]; rfl, g2⟩
  · have h1 := Classical.not_not.1 h1
    refine rld (B := B1) rfl (rld (B := B2) rfl ?_)
    refine ite (fun h2 => ?_) (fun h2 => ?_)
    · refine rld (B := B1) rfl (rld (B := B2) rfl ?_)
      refine ite (fun h3 => ?_) (fun h3 => ?_)
      · refine rcall order_sp ?_
        rintro v w3 ⟨rfl, rfl⟩
        have e : toI a b = -1 := by unfold toI hlt; rw [if_pos (by simp; omega)]
        exact ⟨by rw [e]; rfl, g2⟩
      · refine rcall order_sp ?_
        rintro v w3 ⟨rfl, rfl⟩
        have e : toI a b = 1 := by unfold toI hlt; rw [if_neg (by simp; omega), if_pos (by simp; omega)]
        exact ⟨by rw [e]; rfl, g2⟩
    · have h2 := Classical.not_not.1 h2
      have e : toI a b = 0 := by unfold toI hlt; rw [if_neg (by simp; omega), if_neg (by simp; omega)]
      exact ⟨by rw [e]; rfl, g2⟩

/-- a queue in memory: its block, its row -/
structure QAt (B : Nat) (w : World) (b : Nat) (a : Option Addr) (c : Nat) (most : Int) (l : List HitD) : Prop where
  lo : B ≤ b
  cell : Bk w b [.slice a l.length c, .int .i64 most] E.best_Queue
  row : Own B E.best_hit w (.slice a l.length c) l
  size : l.length ≤ 100000
abbrev pE : List TypeId := [E.best_Queue, E.best_hit]
theorem QAt.up {B : Nat} {w w' : World} [L : Le w w'] {b : Nat} {a : Option Addr} {c : Nat} {most : Int} {l : List HitD} (h : QAt B w b a c most l) : QAt B w' b a c most l := ⟨h.lo, h.cell.mv, h.row.up, h.size⟩
theorem sl_one (a : Option Addr) (n c : Nat) : ∀ u ∈ [Value.slice a n c], u.oneCell' = true := by intro u hu; simp at hu; subst hu; rfl

theorem pile_Len_sp {B b c : Nat} {a : Option Addr} {most : Int} {l : List HitD} {w : World} (Q : QAt B w b a c most l) : Sp Try.prog F.best_pile_Len #[.pointer (some ⟨b, 0, none⟩)] w fun v w' => v = .int .i64 (l.length : Nat) ∧ w' = w := by
  refine en TBok rfl ?_
  refine rld (B := Q.cell) rfl ?_
  exact ⟨rfl, rfl⟩
theorem pile_Less_sp {B b c i j : Nat} {a : Option Addr} {most : Int} {l : List HitD} {w : World} (Q : QAt B w b a c most l) (hi : i < l.length) (hj : j < l.length) :
    Sp Try.prog F.best_pile_Less #[.pointer (some ⟨b, 0, none⟩), .int .i64 i, .int .i64 j] w fun v w' => v = .bool (hlt (atL l j) (atL l i)) ∧ Stp w w' := by
  refine en TBok rfl ?_
  refine drawR TBok mixed (fun _ => False) (upF 17 0) (by kernel_rfl) fun u1 e1 _ => ?_
  refine tld (B := Q.cell) rfl not_false ?_
  refine tix (Q.row.sl.up (w' := u1)) (x := l[j]) (by simp) fun b4 o4 A4 _ => tloadA A4 rfl not_false ?_
  refine tld (B := Q.cell) rfl not_false ?_
  refine tix (Q.row.sl.up (w' := u1)) (x := l[i]) (by simp) fun b5 o5 A5 _ => tloadA A5 rfl not_false ?_
  refine rcall (hit_to_sp (a := l[j]) (b := l[i])) ?_
  rintro v u2 ⟨rfl, g2⟩
  have s2 : Stp u1 u2 := ⟨g2.ext⟩
  refine ⟨g2.ext, ?_⟩
  rw [atL_get hi, atL_get hj]
  refine ite (fun h => ?_) (fun h => ?_)
  · rw [(toI_lt _ _).1 h]; exact ⟨rfl, stp⟩
  · have : hlt l[j] l[i] = false := by
      cases hq : hlt l[j] l[i] with
      | false => rfl
      | true => exact absurd ((toI_lt _ _).2 hq) h
    rw [this]; exact ⟨rfl, stp⟩
theorem pile_Swap_sp {B b c i j : Nat} {a : Option Addr} {most : Int} {l : List HitD} {w : World} (Q : QAt B w b a c most l) (hi : i < l.length) (hj : j < l.length) :
    Sp Try.prog F.best_pile_Swap #[.pointer (some ⟨b, 0, none⟩), .int .i64 i, .int .i64 j] w fun _ w' => QAt B w' b a c most (swL l i j) ∧ FrT B pE w w' := by
  refine en TBok rfl ?_
  have C := Q.cell; have O := Q.row
  refine drawRT TBok mixed (ownD B (.slice a l.length c)) (.one 0 (.one 1 (.one 2 (.one 3 (.one 4 (.one 5 (.one 6 (.one 7 (.one 8 (.one 9 (.one 10 (.one 11 (.one 12 (.one 13 (.one 14 (.one 15 (.one 17 (.one 18 (.one 19 (.one 20 (.one 21 (.one 22 (.duo 16 (.lone 23 (.one 24 (.one 25 (.one 26 (.one 27 .nil))))) 23 (.lone 16 (.one 24 (.one 25 (.one 26 (.one 27 .nil)))))))))))))))))))))))))))) (by kernel_rfl) fun u1 e1 _ => ?_
  refine tld (B := C) rfl (C.notOwn O (by decide)) ?_
  refine tld (B := C) rfl (C.notOwn O (by decide)) ?_
  refine tld (B := C) rfl (C.notOwn O (by decide)) ?_
  refine tix (O.sl.up (w' := u1)) (x := l[j]) (by simp) fun b4 o4 A4 _ => ?_
  refine tld (B := C) rfl (C.notOwn O (by decide)) ?_
  refine tix (O.sl.up (w' := u1)) (x := l[i]) (by simp) fun b5 o5 A5 _ => ?_
  have fin : ∀ u2, Own B E.best_hit u2 (.slice a l.length c) ((l.set i l[j]).set j l[i]) → Bk u2 b [.slice a l.length c, .int .i64 most] E.best_Queue → FrT B pE u1 u2 → QAt B u2 b a c most (swL l i j) ∧ FrT B pE w u2 := fun u2 O2 C2 F2 => by
    refine ⟨⟨Q.lo, by rw [swL_len]; exact C2, ?_, by rw [swL_len]; exact Q.size⟩, (FrT.ext Le.e).trans F2⟩
    rw [swL_len]
    unfold swL
    rw [atL_get hi, atL_get hj]; exact O2
  refine ⟨?_, ?_⟩
  · refine rloadA A4 rfl ⟨Fr.refl _ _, ?_⟩
    refine rloadA A5 rfl ⟨Fr.refl _ _, ?_⟩
    refine tixO rfl (O.up (w' := u1)) (x := l[i]) (by simp) fun g1 hg1 _ A => ?_
    refine rstO' rfl l[j] (O.up (w' := u1)) hg1 hi rfl fun u7 O7 f7 _ => ⟨f7, ?_⟩
    refine tixO rfl O7 (x := (l.set i l[j])[j]'(by simpa using hj)) (by simp) fun g2 hg2 _ A => ?_
    refine rstO' rfl l[i] O7 hg2 (by simpa using hj) rfl fun u8 O8 f8 _ => ⟨f8, ?_⟩
    exact fin u8 O8 (((C.mv (w := u1)).fro (O.up (w' := u1)) f7 (by decide)).fro O7 f8 (by decide)) (((O.up (w' := u1)).wrote f7 (Nat.le_refl _) (by decide)).trans (O7.wrote f8 (Nat.le_refl _) (by decide)))
  · refine rloadA A5 rfl ⟨Fr.refl _ _, ?_⟩
    refine rloadA A4 rfl ⟨Fr.refl _ _, ?_⟩
    refine tixO rfl (O.up (w' := u1)) (x := l[i]) (by simp) fun g1 hg1 _ A => ?_
    refine rstO' rfl l[j] (O.up (w' := u1)) hg1 hi rfl fun u7 O7 f7 _ => ⟨f7, ?_⟩
    refine tixO rfl O7 (x := (l.set i l[j])[j]'(by simpa using hj)) (by simp) fun g2 hg2 _ A => ?_
    refine rstO' rfl l[i] O7 hg2 (by simpa using hj) rfl fun u8 O8 f8 _ => ⟨f8, ?_⟩
    exact fin u8 O8 (((C.mv (w := u1)).fro (O.up (w' := u1)) f7 (by decide)).fro O7 f8 (by decide)) (((O.up (w' := u1)).wrote f7 (Nat.le_refl _) (by decide)).trans (O7.wrote f8 (Nat.le_refl _) (by decide)))

theorem pile_Push_sp {B b c : Nat} {a : Option Addr} {most : Int} {l : List HitD} {x : HitD} {w : World} (Q : QAt B w b a c most l) (hl : l.length ≤ 99999) :
    Sp Try.prog F.best_pile_Push #[.pointer (some ⟨b, 0, none⟩), .iface E.best_hit (agg x)] w fun _ w' => (∃ a c, QAt B w' b a c most (l ++ [x])) ∧ FrT B pE w w' := by
  have hb := Q.cell.lt
  refine en TBok rfl ?_
  refine rta ?_
  refine ral fun b4 w1 n1 B1 => ?_
  refine rsto (B := B1) (vs := enc x) rfl rfl rfl (Enc.one _) fun w2 B2 f2 _ => ?_
  have s2 : Stp w w2 := ⟨Fr.st Le.e f2 fun i hi => by subst hi; exact n1.lo⟩
  have C2 := Q.cell.mv (w := w2)
  have O2 := Q.row.up (w' := w2)
  clear B1 f2
  have hb4 : b ≠ b4 := by rintro rfl; have h1 := C2.h; have h2 := B2.h; rw [h1] at h2; cases h2
  refine drawRT TBok mixed (fun i => i = b ∨ ownD B (.slice a l.length c) i) (.one 0 (.one 1 (.one 2 (.one 3 (.one 5 (.duo 4 (.one 6 (.one 7 (.one 8 (.one 9 (.one 10 .nil))))) 6 (.lone 4 (.one 7 (.one 8 (.one 9 (.one 10 .nil))))))))))) (by kernel_rfl) fun u3 e3 _ => ?_
  refine tldG (ds := enc x) (B := B2) rfl rfl (fun h => h.elim (fun h => hb4 h.symm) (fun h => by have := Q.row.wr h; have := n1.lo (u := w); omega)) ?_
  have C3 := C2.mv (w := u3)
  have O3 := O2.up (w' := u3)
  have hB3 : B ≤ u3.heap.size := by have := C3.lt; have := Q.lo; omega
  have F3 : FrT B pE w u3 := FrT.ext Le.e
  have hsz := Q.size
  refine ⟨?_, ?_⟩
  · refine rld (B := C3) rfl ⟨Fr.refl _ _, ?_⟩
    refine rbs1 x rfl rfl (by decide) fun b6 u6 e6 _ S6 => ⟨Fr.fr e6.e, ?_⟩
    refine rappB ⟨rfl, rfl⟩ (O3.up (w' := u6)) S6 (by have := e6.e.size; omega) (by simp; omega) fun v7 u7 O7 f7 => ⟨f7.mono fun i _ hi => .inr hi, ?_⟩
    have C7 := (C3.mv (w := u6)).fro (O3.up (w' := u6)) f7 (by decide)
    have F7 := (O3.up (w' := u6)).wrote f7 (Nat.le_refl _) (show E.best_hit ∈ pE by decide)
    have q_ := O7.shape
    obtain ⟨a7, c7, rfl⟩ := q_
    refine rsto (B := C7) (vs := [.slice a7 (l ++ [x]).length c7]) rfl rfl rfl (sl_one _ _ _) fun u8 C8 f8 _ => ⟨f8.mono fun i _ hi => .inl hi, ?_⟩
    exact ⟨⟨a7, c7, Q.lo, C8, O7.frc f8 C7 (by decide), by simp; omega⟩, ((F3.trans (FrT.ext e6.e)).trans F7).trans (C7.wrote f8 Q.lo (by decide))⟩
  · refine rbs1 x rfl rfl (by decide) fun b6 u6 e6 _ S6 => ⟨Fr.fr e6.e, ?_⟩
    refine rld (B := C3) rfl ⟨Fr.refl _ _, ?_⟩
    refine rappB ⟨rfl, rfl⟩ (O3.up (w' := u6)) S6 (by have := e6.e.size; omega) (by simp; omega) fun v7 u7 O7 f7 => ⟨f7.mono fun i _ hi => .inr hi, ?_⟩
    have C7 := (C3.mv (w := u6)).fro (O3.up (w' := u6)) f7 (by decide)
    have F7 := (O3.up (w' := u6)).wrote f7 (Nat.le_refl _) (show E.best_hit ∈ pE by decide)
    have q_ := O7.shape
    obtain ⟨a7, c7, rfl⟩ := q_
    refine rsto (B := C7) (vs := [.slice a7 (l ++ [x]).length c7]) rfl rfl rfl (sl_one _ _ _) fun u8 C8 f8 _ => ⟨f8.mono fun i _ hi => .inl hi, ?_⟩
    exact ⟨⟨a7, c7, Q.lo, C8, O7.frc f8 C7 (by decide), by simp; omega⟩, ((F3.trans (FrT.ext e6.e)).trans F7).trans (C7.wrote f8 Q.lo (by decide))⟩

theorem pile_Pop_sp {B b c : Nat} {a : Option Addr} {most : Int} {l : List HitD} {w : World} (Q : QAt B w b a c most l) (hl : l ≠ []) :
    Sp Try.prog F.best_pile_Pop #[.pointer (some ⟨b, 0, none⟩)] w fun v w' => v = .iface E.best_hit (agg (atL l (l.length - 1))) ∧ QAt B w' b a c most l.dropLast ∧ FrT B pE w w' := by
  have hpos := List.length_pos_iff.2 hl
  have hsz := Q.size
  have hi : l.length - 1 < l.length := by omega
  refine en TBok rfl ?_
  have C := Q.cell; have O := Q.row
  rw [atL_get hi]
  refine drawR TBok mixed (fun i => w.heap.size ≤ i) [0,1,2,3,4,5,6,7,8,9,10,11,12,13] (by kernel_rfl) fun u1 e1 _ => ?_
  have hb := C.lt
  refine tld (B := C) rfl (by omega) ?_
  refine tld (B := C) rfl (by omega) ?_
  refine rarE (y := ((l.length - 1 : Nat) : Int)) (by omega) (by omega) ?_
  have hOlt := O.lt hl
  obtain ⟨g0, hg0, _, hg0'⟩ := hOlt
  refine tix (O.sl.up (w' := u1)) (x := l[l.length - 1]) (by simp) fun b4 o4 A4 hb4 => tloadA A4 rfl (by rw [hg0] at hb4; cases hb4; omega) ?_
  refine ral fun b5 u2 n5 z5 => ⟨n5.e.fr, ?_⟩
  refine rsto (B := z5) (vs := enc l[l.length - 1]) rfl rfl rfl (Enc.one _) fun u3 B5 f5 _ => ?_
  have s3 : Stp w u3 := ⟨Fr.st Le.e f5 fun i hi => by subst hi; exact n5.lo⟩
  refine ⟨f5.mono fun i _ hi => by subst hi; exact n5.lo, ?_⟩
  clear z5 f5
  have C3 := C.mv (w := u3)
  have O3 := O.up (w' := u3)
  have hb5 : b ≠ b5 := by rintro rfl; have h1 := C3.h; have h2 := B5.h; rw [h1] at h2; cases h2
  have hcut := O3.cut (m := l.length - 1) (by omega) hl
  obtain ⟨Oc, ga, hga⟩ := hcut
  subst hga
  have hnc : l.length ≤ c := by obtain ⟨_, _, hv, hc, _⟩ := O3.sl; cases hv; exact hc
  have hdl : l.dropLast = l.take (l.length - 1) := List.dropLast_eq_take
  have hdlen : l.dropLast.length = l.length - 1 := by simp
  refine drawRT TBok mixed (fun i => i = b) (.one 0 (.one 1 (.one 2 (.one 3 (.one 5 (.one 6 (.one 7 (.duo 4 (.lone 8 (.one 9 (.one 10 (.one 11 (.one 12 (.one 13 (.one 14 .nil))))))) 8 (.one 9 (.one 10 (.lone 4 (.one 11 (.one 12 (.one 13 (.one 14 .nil))))))))))))))) (by kernel_rfl) fun u4 e4 _ => ?_
  have C4 := C3.mv (w := u4)
  have F4 : FrT B pE w u4 := FrT.ext Le.e
  refine ⟨?_, ?_⟩
  all_goals
    refine rld (B := C4) rfl ⟨Fr.refl _ _, ?_⟩
    first
    | refine rarE (y := ((l.length - 1 : Nat) : Int)) (by omega) (by omega) ?_
      refine rld (B := C4) rfl ⟨Fr.refl _ _, ?_⟩
    | refine rld (B := C4) rfl ⟨Fr.refl _ _, ?_⟩
      refine rarE (y := ((l.length - 1 : Nat) : Int)) (by omega) (by omega) ?_
    refine tslP (m := l.length - 1) (by omega) ?_
    refine rsto (B := C4) (vs := [.slice (some ⟨ga, 0, none⟩) (l.length - 1) c]) rfl rfl rfl (sl_one _ _ _) fun u5 C5 f5 _ => ⟨f5, ?_⟩
    have B6 := (B5.mv (w := u4)).fr f5 (Ne.symm hb5)
    refine rldG (ds := enc l[l.length - 1]) (B := B6) rfl rfl ?_
    refine rmki ?_
    refine ⟨rfl, ⟨Q.lo, by rw [hdlen]; exact C5, ?_, by omega⟩, F4.trans (C4.wrote f5 Q.lo (by decide))⟩
    rw [hdlen, hdl]
    exact (Oc.up (w' := u4)).frc f5 C4 (by decide)

/-! the heap of hits: y comes ahead of x -/
def hgt (x y : HitD) : Bool := hlt y x
theorem hlt_iff (a b : HitD) : hlt a b = true ↔ a.d < b.d ∨ a.d = b.d ∧ a.v < b.v := by unfold hlt; simp
theorem hlt_ff (a b : HitD) : hlt a b = false ↔ ¬ (a.d < b.d ∨ a.d = b.d ∧ a.v < b.v) := by unfold hlt; simp
theorem hgt_ord : Ord hgt := ⟨fun x => by unfold hgt; rw [hlt_ff]; omega, fun x y z h k => by unfold hgt at *; rw [hlt_iff] at *; omega, fun x y z h k => by unfold hgt at *; rw [hlt_ff] at *; omega⟩
def QSt (B b : Nat) (most : Int) (l : List HitD) (w : World) : Prop := ∃ a c, QAt B w b a c most l
theorem QSt.up {B b : Nat} {most : Int} {l : List HitD} {w w' : World} [Le w w'] (h : QSt B b most l w) : QSt B b most l w' := by obtain ⟨a, c, h⟩ := h; exact ⟨a, c, h.up⟩
theorem pile_heap (B b : Nat) (most : Int) : HeapI Try.prog E.p_best_pile (.pointer (some ⟨b, 0, none⟩)) hgt (QSt B b most) B pE where
  ord := hgt_ord
  size := fun _ _ ⟨_, _, h⟩ => h.size
  len := fun _ _ ⟨a, c, h⟩ => .p ((pile_Len_sp h).mono fun _ _ ⟨h1, h2⟩ => by subst h2; exact ⟨h1, ⟨a, c, h⟩, FrT.refl _ _ _⟩)
  less := fun _ _ _ _ ⟨a, c, h⟩ hi hj => .p ((pile_Less_sp h hi hj).mono fun _ _ ⟨h1, h2⟩ => ⟨h1, ⟨a, c, h.up⟩, FrT.ext h2.e⟩)
  swap := fun _ _ _ _ ⟨a, c, h⟩ hi hj => .p ((pile_Swap_sp h hi hj).mono fun _ _ ⟨h1, h2⟩ => ⟨⟨a, c, h1⟩, h2⟩)
theorem pile_pop (B b : Nat) (most : Int) : ∀ l w, QSt B b most l w → l ≠ [] → InvS Try.prog E.p_best_pile (.pointer (some ⟨b, 0, none⟩)) "Pop" [] w fun x w' => x = .iface E.best_hit (agg (atL l (l.length - 1))) ∧ QSt B b most l.dropLast w' ∧ FrT B pE w w' :=
  fun _ _ ⟨a, c, h⟩ hl => .p ((pile_Pop_sp h hl).mono fun _ _ ⟨h1, h2, h3⟩ => ⟨h1, ⟨a, c, h2⟩, h3⟩)
theorem pile_push {B b : Nat} {most : Int} {l : List HitD} {x : HitD} {w : World} (h : QSt B b most l w) (hl : l.length ≤ 99999) : InvS Try.prog E.p_best_pile (.pointer (some ⟨b, 0, none⟩)) "Push" [.iface E.best_hit (agg x)] w fun _ w' => QSt B b most (l ++ [x]) w' ∧ FrT B pE w w' := by
  obtain ⟨a, c, h⟩ := h
  exact .p ((pile_Push_sp (x := x) h hl).mono fun _ _ ⟨h1, h2⟩ => ⟨h1, h2⟩)
end Go.W
