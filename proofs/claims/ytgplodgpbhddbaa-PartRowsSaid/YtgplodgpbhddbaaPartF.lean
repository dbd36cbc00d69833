/-
  Proved here: the heap of rows, by their first numbers, as the library sees it (contracts).
  Conditions: the heap lies in memory as is said at each.
-/
import Derived.Test.YtgplodgpbhddbaaPartR
import Derived.Test.YtgplodgpbhddbaaHeapP
namespace Go.W
open Go Go.Proofs
open Enc (enc)
set_option maxRecDepth 10000

/-- a heap of rows in memory: its block, its row -/
structure FAt (B : Nat) (w : World) (b : Nat) (a : Option Addr) (c : Nat) (L : List Rw) : Prop where
  lo : B ≤ b
  cell : Bk w b [.slice a L.length c] E.part_fronts
  row : Own B E.s_int w (.slice a L.length c) L
  size : L.length ≤ 100000
  rows : ∀ x ∈ L, x.l ≠ [] ∧ SlY E.int w x.v x.l
abbrev fE : List TypeId := [E.part_fronts, E.s_int]
theorem FAt.up {B : Nat} {w w' : World} [Le w w'] {b : Nat} {a : Option Addr} {c : Nat} {L : List Rw} (h : FAt B w b a c L) : FAt B w' b a c L := ⟨h.lo, h.cell.mv, h.row.up, h.size, fun x hx => ⟨(h.rows x hx).1, (h.rows x hx).2.up⟩⟩
/-- the first number -/
def hd0 (x : Rw) : Int := x.l.headD 0
def flt (x y : Rw) : Bool := decide (hd0 x < hd0 y)
theorem flt_ord : Ord flt := ⟨fun x => by unfold flt; simp, fun x y z h k => by unfold flt at *; simp at *; omega, fun x y z h k => by unfold flt at *; simp at *; omega⟩
theorem hd0_get {x : Rw} (h : x.l ≠ []) : x.l[0]? = some (hd0 x) := by
  unfold hd0
  cases hx : x.l with
  | nil => exact absurd hx h
  | cons a r => rfl
theorem one_sl (a : Option Addr) (n c : Nat) : ∀ u ∈ [Value.slice a n c], u.oneCell' = true := by intro u hu; simp at hu; subst hu; rfl

theorem fr_Len_sp {a : Option Addr} {n c : Nat} {w : World} : Sp Try.prog F.part_fronts_Len #[.slice a n c] w fun v w' => v = .int .i64 (n : Nat) ∧ w' = w := by
  refine en TBok rfl ?_
  exact ⟨rfl, rfl⟩
theorem fr_Less_sp {B b c i j : Nat} {a : Option Addr} {L : List Rw} {w : World} (Q : FAt B w b a c L) (hi : i < L.length) (hj : j < L.length) :
    Sp Try.prog F.part_fronts_Less #[.slice a L.length c, .int .i64 i, .int .i64 j] w fun v w' => v = .bool (flt (atL L i) (atL L j)) ∧ Stp w w' := by
  rw [atL_get hi, atL_get hj]
  have ri := Q.rows _ (List.getElem_mem hi)
  have rj := Q.rows _ (List.getElem_mem hj)
  refine en TBok rfl ?_
  refine drawR TBok mixed (fun _ => False) (upF 14 0) (by kernel_rfl) fun u1 e1 _ => ?_
  refine tix (Q.row.sl.up (w' := u1)) (x := L[i]) (by simp) fun b4 o4 A4 _ => tload1 (A4.cell0 rfl) not_false ?_
  refine tix (ri.2.sl.up (w' := u1)) (x := hd0 L[i]) (hd0_get ri.1) fun b5 o5 A5 _ => tload1 (A5.cell0 rfl) not_false ?_
  refine tix (Q.row.sl.up (w' := u1)) (x := L[j]) (by simp) fun b6 o6 A6 _ => tload1 (A6.cell0 rfl) not_false ?_
  refine tix (rj.2.sl.up (w' := u1)) (x := hd0 L[j]) (hd0_get rj.1) fun b7 o7 A7 _ => tload1 (A7.cell0 rfl) not_false ?_
  refine ite (fun h => ?_) (fun h => ?_)
  · have e : flt L[i] L[j] = true := by unfold flt; exact decide_eq_true h
    rw [e]; exact ⟨rfl, stp⟩
  · have e : flt L[i] L[j] = false := by unfold flt; exact decide_eq_false h
    rw [e]; exact ⟨rfl, stp⟩
theorem FAt.wrote {B b c : Nat} {a a' : Option Addr} {c' : Nat} {L M : List Rw} {w w' : World} (Q : FAt B w b a c L) (C : Bk w' b [.slice a' M.length c'] E.part_fronts) (O : Own B E.s_int w' (.slice a' M.length c') M) (hs : M.length ≤ 100000)
    (F : FrT B fE w w') (hM : ∀ x ∈ M, x ∈ L) : FAt B w' b a' c' M :=
  ⟨Q.lo, C, O, hs, fun x hx => ⟨(Q.rows x (hM x hx)).1, (Q.rows x (hM x hx)).2.kept F (by decide)⟩⟩
theorem swL_mem {L : List Rw} {i j : Nat} (hi : i < L.length) (hj : j < L.length) : ∀ x ∈ swL L i j, x ∈ L := fun _ hx => (swL_perm hi hj).mem_iff.1 hx
theorem fr_Swap_sp {B b c i j : Nat} {a : Option Addr} {L : List Rw} {w : World} (Q : FAt B w b a c L) (hi : i < L.length) (hj : j < L.length) :
    Sp Try.prog F.part_fronts_Swap #[.slice a L.length c, .int .i64 i, .int .i64 j] w fun _ w' => FAt B w' b a c (swL L i j) ∧ FrT B fE w w' := by
  refine en TBok rfl ?_
  have C := Q.cell; have O := Q.row
  refine drawRT TBok mixed (ownD B (.slice a L.length c)) (.one 0 (.one 1 (.one 2 (.one 3 (.one 4 (.one 5 (.one 6 (.one 8 (.one 9 (.one 10 (.duo 7 (.lone 11 (.one 12 (.one 13 (.one 14 (.one 15 .nil))))) 11 (.lone 7 (.one 12 (.one 13 (.one 14 (.one 15 .nil)))))))))))))))) (by kernel_rfl) fun u1 e1 _ => ?_
  refine tix (O.sl.up (w' := u1)) (x := L[j]) (by simp) fun b4 o4 A4 _ => ?_
  refine tix (O.sl.up (w' := u1)) (x := L[i]) (by simp) fun b5 o5 A5 _ => ?_
  have fin : ∀ u2, Own B E.s_int u2 (.slice a L.length c) ((L.set i L[j]).set j L[i]) → Bk u2 b [.slice a L.length c] E.part_fronts → FrT B fE u1 u2 → FAt B u2 b a c (swL L i j) ∧ FrT B fE w u2 := fun u2 O2 C2 F2 => by
    have F := (FrT.ext (B := B) (es := fE) (a := w) (b := u1) Le.e).trans F2
    refine ⟨Q.wrote (by rw [swL_len]; exact C2) ?_ (by rw [swL_len]; exact Q.size) F (swL_mem hi hj), F⟩
    rw [swL_len]
    unfold swL
    rw [atL_get hi, atL_get hj]; exact O2
  refine ⟨?_, ?_⟩
  · refine rload1 (A4.cell0 rfl) ⟨Fr.refl _ _, ?_⟩
    refine rload1 (A5.cell0 rfl) ⟨Fr.refl _ _, ?_⟩
    refine tixO rfl (O.up (w' := u1)) (x := L[i]) (by simp) fun g1 hg1 _ A => ?_
    refine rstO' rfl L[j] (O.up (w' := u1)) hg1 hi rfl fun u7 O7 f7 _ => ⟨f7, ?_⟩
    refine tixO rfl O7 (x := (L.set i L[j])[j]'(by simpa using hj)) (by simp) fun g2 hg2 _ A => ?_
    refine rstO' rfl L[i] O7 hg2 (by simpa using hj) rfl fun u8 O8 f8 _ => ⟨f8, ?_⟩
    exact fin u8 O8 (((C.mv (w := u1)).fro (O.up (w' := u1)) f7 (by decide)).fro O7 f8 (by decide)) (((O.up (w' := u1)).wrote f7 (Nat.le_refl _) (by decide)).trans (O7.wrote f8 (Nat.le_refl _) (by decide)))
  · refine rload1 (A5.cell0 rfl) ⟨Fr.refl _ _, ?_⟩
    refine rload1 (A4.cell0 rfl) ⟨Fr.refl _ _, ?_⟩
    refine tixO rfl (O.up (w' := u1)) (x := L[i]) (by simp) fun g1 hg1 _ A => ?_
    refine rstO' rfl L[j] (O.up (w' := u1)) hg1 hi rfl fun u7 O7 f7 _ => ⟨f7, ?_⟩
    refine tixO rfl O7 (x := (L.set i L[j])[j]'(by simpa using hj)) (by simp) fun g2 hg2 _ A => ?_
    refine rstO' rfl L[i] O7 hg2 (by simpa using hj) rfl fun u8 O8 f8 _ => ⟨f8, ?_⟩
    exact fin u8 O8 (((C.mv (w := u1)).fro (O.up (w' := u1)) f7 (by decide)).fro O7 f8 (by decide)) (((O.up (w' := u1)).wrote f7 (Nat.le_refl _) (by decide)).trans (O7.wrote f8 (Nat.le_refl _) (by decide)))
theorem fr_Push_sp {B b c : Nat} {a : Option Addr} {L : List Rw} {x : Rw} {w : World} (Q : FAt B w b a c L) (hl : L.length ≤ 99999) (hx : x.l ≠ []) (hY : SlY E.int w x.v x.l) :
    Sp Try.prog F.part_fronts_Push #[.pointer (some ⟨b, 0, none⟩), .iface E.s_int x.v] w fun _ w' => (∃ a c, FAt B w' b a c (L ++ [x])) ∧ FrT B fE w w' := by
  have hb := Q.cell.lt
  have hlo := Q.lo
  refine en TBok rfl ?_
  refine rta ?_
  refine rld (B := Q.cell) rfl ?_
  refine rbs1 x rfl rfl (by decide) fun b6 u6 e6 _ S6 => ?_
  refine rappB ⟨rfl, rfl⟩ (Q.row.up (w' := u6)) S6 (by have := e6.e.size; omega) (by simp; omega) fun v7 u7 O7 f7 => ?_
  have C7 := (Q.cell.mv (w := u6)).fro (Q.row.up (w' := u6)) f7 (by decide)
  have F7 := (Q.row.up (w' := u6)).wrote f7 (Nat.le_refl _) (show E.s_int ∈ fE by decide)
  have q_ := O7.shape
  obtain ⟨a7, c7, rfl⟩ := q_
  refine rsto (B := C7) (vs := [.slice a7 (L ++ [x]).length c7]) rfl rfl rfl (one_sl _ _ _) fun u8 C8 f8 _ => ?_
  have F8 := ((FrT.ext (B := B) (es := fE) e6.e).trans F7).trans (C7.wrote f8 Q.lo (show E.part_fronts ∈ fE by decide))
  refine ⟨⟨a7, c7, Q.lo, C8, O7.frc f8 C7 (by decide), by simp; omega, fun y hy => ?_⟩, F8⟩
  have q_ := List.mem_append.1 hy
  rcases q_ with hy | hy
  · exact ⟨(Q.rows y hy).1, (Q.rows y hy).2.kept F8 (by decide)⟩
  · have q_ := List.mem_singleton.1 hy
    obtain rfl := q_
    exact ⟨hx, hY.kept F8 (by decide)⟩
theorem fr_Pop_sp {B b c : Nat} {a : Option Addr} {L : List Rw} {w : World} (Q : FAt B w b a c L) (hl : L ≠ []) :
    Sp Try.prog F.part_fronts_Pop #[.pointer (some ⟨b, 0, none⟩)] w fun v w' => v = .iface E.s_int (atL L (L.length - 1)).v ∧ FAt B w' b a c L.dropLast ∧ FrT B fE w w' := by
  have hpos := List.length_pos_iff.2 hl
  have hsz := Q.size
  have hi : L.length - 1 < L.length := by omega
  have C := Q.cell; have O := Q.row
  rw [atL_get hi]
  have hcut := O.cut (m := L.length - 1) (by omega) hl
  obtain ⟨Oc, ga, hga⟩ := hcut
  have hnc : L.length ≤ c := by obtain ⟨_, _, hv, hc, _⟩ := O.sl; cases hv; exact hc
  have hdl : L.dropLast = L.take (L.length - 1) := List.dropLast_eq_take
  have hdlen : L.dropLast.length = L.length - 1 := by simp
  refine en TBok rfl ?_
  refine rld (B := C) rfl ?_
  refine rarE (y := ((L.length - 1 : Nat) : Int)) (by omega) (by omega) ?_
  refine rix O.sl (x := L[L.length - 1]) (by simp) fun b4 o4 A4 => rload1 (A4.cell0 rfl) ?_
  refine rarE (y := ((L.length - 1 : Nat) : Int)) (by omega) (by omega) ?_
  subst hga
  refine rslP (m := L.length - 1) (by omega) ?_
  refine rsto (B := C) (vs := [.slice (some ⟨ga, 0, none⟩) (L.length - 1) c]) rfl rfl rfl (one_sl _ _ _) fun u5 C5 f5 _ => ?_
  refine rmki ?_
  have F5 : FrT B fE w u5 := C.wrote f5 Q.lo (by decide)
  refine ⟨rfl, Q.wrote (by rw [hdlen]; exact C5) ?_ (by omega) F5 fun x hx => (List.dropLast_sublist L).subset hx, F5⟩
  rw [hdlen, hdl]
  exact Oc.frc f5 C (by decide)

def FSt (B b : Nat) (L : List Rw) (w : World) : Prop := ∃ a c, FAt B w b a c L
theorem FSt.up {B b : Nat} {L : List Rw} {w w' : World} [Le w w'] (h : FSt B b L w) : FSt B b L w' := by obtain ⟨a, c, h⟩ := h; exact ⟨a, c, h.up⟩
theorem FAt.ld {B b c : Nat} {a : Option Addr} {L : List Rw} {w : World} (h : FAt B w b a c L) : (loadVar E.part_fronts ⟨b, 0, none⟩).run Try.prog w = .ok (.slice a L.length c) w :=
  run_load1 inferInstance (((h.cell).at (w := w)).cell0 rfl)
theorem fr_heap (B b : Nat) : HeapI Try.prog E.p_part_fronts (.pointer (some ⟨b, 0, none⟩)) flt (FSt B b) B fE where
  ord := flt_ord
  size := fun _ _ ⟨_, _, h⟩ => h.size
  len := fun _ _ ⟨a, c, h⟩ => .v h.ld (fr_Len_sp.mono fun _ _ ⟨h1, h2⟩ => by subst h2; exact ⟨h1, ⟨a, c, h⟩, FrT.refl _ _ _⟩)
  less := fun _ _ _ _ ⟨a, c, h⟩ hi hj => .v h.ld ((fr_Less_sp h hi hj).mono fun _ _ ⟨h1, h2⟩ => ⟨h1, ⟨a, c, h.up⟩, FrT.ext h2.e⟩)
  swap := fun _ _ _ _ ⟨a, c, h⟩ hi hj => .v h.ld ((fr_Swap_sp h hi hj).mono fun _ _ ⟨h1, h2⟩ => ⟨⟨a, c, h1⟩, h2⟩)
theorem fr_pop (B b : Nat) : ∀ L w, FSt B b L w → L ≠ [] → InvS Try.prog E.p_part_fronts (.pointer (some ⟨b, 0, none⟩)) "Pop" [] w fun x w' => x = .iface E.s_int (atL L (L.length - 1)).v ∧ FSt B b L.dropLast w' ∧ FrT B fE w w' :=
  fun _ _ ⟨a, c, h⟩ hl => .p ((fr_Pop_sp h hl).mono fun _ _ ⟨h1, h2, h3⟩ => ⟨h1, ⟨a, c, h2⟩, h3⟩)
theorem fr_push {B b : Nat} {L : List Rw} {x : Rw} {w : World} (h : FSt B b L w) (hl : L.length ≤ 99999) (hx : x.l ≠ []) (hY : SlY E.int w x.v x.l) : InvS Try.prog E.p_part_fronts (.pointer (some ⟨b, 0, none⟩)) "Push" [.iface E.s_int x.v] w fun _ w' => FSt B b (L ++ [x]) w' ∧ FrT B fE w w' := by
  obtain ⟨a, c, h⟩ := h
  exact .p ((fr_Push_sp h hl hx hY).mono fun _ _ ⟨h1, h2⟩ => ⟨h1, h2⟩)
end Go.W
