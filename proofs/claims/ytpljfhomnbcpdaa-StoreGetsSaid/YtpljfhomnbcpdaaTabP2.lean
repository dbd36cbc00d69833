/-
  Proved here: tables: made, put into, asked, how many there are (contracts).
  Conditions: the table lies in memory as is said at each.
-/
import Derived.Test.YtpljfhomnbcpdaaTabP
namespace Go.W
open Go Go.Proofs
open Enc (enc)
set_option maxRecDepth 10000

/-! what a table tells: of each key, and how many there are -/
structure TS where
  M : KeyD → Option Int
  u : Nat
def putTS (most : Nat) (s : TS) (k : KeyD) (n : Int) : TS × Int :=
  if mayK k then (match s.M k with
    | some _ => (⟨fun k' => if k' = k then some n else s.M k', s.u⟩, 0)
    | none => if s.u = most then (s, 140) else (⟨fun k' => if k' = k then some n else s.M k', s.u + 1⟩, 0))
  else (s, 1)
def getTS (s : TS) (k : KeyD) : Int × Bool := match s.M k with | some n => (n, true) | none => (0, false)
def dropTS (s : TS) (k : KeyD) : TS × Bool := match s.M k with | some _ => (⟨fun k' => if k' = k then none else s.M k', s.u - 1⟩, true) | none => (s, false)
def zTS : TS := ⟨fun _ => none, 0⟩
def TabS (B : Nat) (w : World) (b : Nat) (a : Option Addr) (c most : Nat) (s : TS) : Prop := B ≤ b ∧ ∃ R, TabH B w b a c most R ∧ getT R = s.M ∧ usedN R = s.u
def tabD (B b : Nat) (a : Option Addr) (c most : Nat) : Nat → Prop := fun i => i = b ∨ ownD B (.slice a (2 * most) c) i
theorem TabS.up {B : Nat} {w w' : World} [L : Le w w'] {b : Nat} {a : Option Addr} {c most : Nat} {s : TS} (h : TabS B w b a c most s) : TabS B w' b a c most s := by
  obtain ⟨h0, R, h1, h2⟩ := h; exact ⟨h0, R, h1.up, h2⟩

theorem usedN_zero (n : Nat) : usedN (List.replicate n zPl) = 0 := by
  unfold usedN; rw [List.countP_eq_zero]; intro x hx; rw [(List.mem_replicate.1 hx).2]; simp [zPl]
theorem rowF_zero (n p : Nat) : rowF (List.replicate n zPl) p = zPl := by
  unfold rowF; rw [List.getD_eq_getElem?_getD, List.getElem?_replicate]; split <;> rfl
theorem tab_zero (n : Nat) : TabL (List.replicate n zPl) ∧ getT (List.replicate n zPl) = fun _ => none := by
  have hT : TabL (List.replicate n zPl) := by
    constructor
    · intro i hi u; rw [rowF_zero] at u; cases u
    · intro i j hi hj u; rw [rowF_zero] at u; cases u
  refine ⟨hT, getT_ext hT fun k m => ⟨?_, fun h => by cases h⟩⟩
  rintro ⟨i, _, u, _⟩
  rw [rowF_zero] at u; cases u

theorem table_New_sp {most : Int} {w : World} : Sp Try.prog F.table_New #[.int .i64 most] w fun v w' =>
    ((most < 1 ∨ 400 < most) ∧ v = .tuple #[.pointer none, .int .i64 1] ∨ ∃ (N b : Nat) (a : Option Addr) (c : Nat), most = (N : Int) ∧ 1 ≤ N ∧ N ≤ 400 ∧ v = .tuple #[.pointer (some ⟨b, 0, none⟩), .int .i64 0] ∧ TabS w.heap.size w' b a c N zTS) ∧ Stp w w' := by
  refine en TBok rfl ?_
  refine ite (fun h1 => ⟨.inl ⟨.inl h1, rfl⟩, stp⟩) (fun h1 => ?_)
  refine ite (fun h2 => ⟨.inl ⟨.inr h2, rfl⟩, stp⟩) (fun h2 => ?_)
  have q_ := Int.eq_ofNat_of_zero_le (show (0 : Int) ≤ most by omega)
  obtain ⟨N, rfl⟩ := q_
  refine rarE (y := ((2 * N : Nat) : Int)) (by omega) (by omega) ?_
  refine rmk zPl rfl rfl (by omega) fun g w1 O1 s1 hg => ?_
  refine rbuild (cs := [.slice (some ⟨g, 0, none⟩) (2 * N) (2 * N), .int .i64 (N : Nat), .int .i64 0]) rfl ?_
  refine rbx fun b w2 n2 B2 => ?_
  refine ⟨.inr ⟨N, b, some ⟨g, 0, none⟩, 2 * N, rfl, by omega, by omega, rfl, n2.lo, _, ⟨?_, O1.up, by simp, (tab_zero _).1, ⟨by omega, by omega, by rw [usedN_zero]; omega⟩, fun x hx u => ?_, fun x hx _ => (List.mem_replicate.1 hx).2⟩, (tab_zero _).2, usedN_zero _⟩, stp⟩
  · rw [usedN_zero]; exact B2
  · rw [(List.mem_replicate.1 hx).2] at u; cases u

theorem Len_sp {B b c most : Nat} {a : Option Addr} {s : TS} {w : World} (T : TabS B w b a c most s) : Sp Try.prog F.table_Table_Len #[.pointer (some ⟨b, 0, none⟩)] w fun v w' => v = .int .i64 (s.u : Nat) ∧ Stp w w' := by
  obtain ⟨_, R, T, _, hu⟩ := T
  refine en TBok rfl ?_
  refine rpnil ?_
  refine rld (B := T.cell) rfl ?_
  rw [← hu]
  exact ⟨rfl, stp⟩
theorem Len_nil_sp {w : World} : Sp Try.prog F.table_Table_Len #[.pointer none] w fun v w' => v = .int .i64 0 ∧ Stp w w' := by
  refine en TBok rfl ?_
  refine rpnil ?_
  exact ⟨rfl, stp⟩

theorem getT_may {B b c most : Nat} {a : Option Addr} {R : List PlD} {w : World} (T : TabH B w b a c most R) {k : KeyD} (h : ¬ mayK k) : getT R k = none := by
  cases hg : getT R k with
  | none => rfl
  | some n =>
    have q_ := (getT_has T.tab).1 hg
    obtain ⟨i, hi, hu, hk, _⟩ := q_
    rw [rowF_get hi] at hu hk
    exact absurd (hk ▸ T.may _ (List.getElem_mem hi) hu) h

theorem Get_sp {B b c most : Nat} {a : Option Addr} {s : TS} {k : KeyD} {w : World} (T : TabS B w b a c most s) :
    Sp Try.prog F.table_Table_Get #[.pointer (some ⟨b, 0, none⟩), agg k] w fun v w' => v = .tuple #[.int .i64 (getTS s k).1, .bool (getTS s k).2] ∧ Stp w w' := by
  obtain ⟨_, R, T, hM, hu⟩ := T
  refine en TBok rfl ?_
  refine rbx fun bk w1 n1 B1 => ?_
  refine rpnil ?_
  refine rldG (B := B1) rfl rfl ?_
  refine rcall may_sp ?_
  rintro v w2 ⟨⟨rfl, hk⟩ | ⟨rfl, hk⟩, e2⟩
  · have T2 := T.up (w' := w2)
    have hlen := T.len
    have base : ∀ i : Nat, FindAt R.length (rowF R) k i → ∃ hi : i < R.length, getTS s k = (R[i].n, R[i].used) := by
      intro i hF
      refine ⟨hF.lt, ?_⟩
      have h1 := getT_find T.tab hF
      rw [rowF_get hF.lt, hM] at h1
      unfold getTS
      rw [h1]
      cases hui : (R[i]'(hF.lt)).used with
      | true => simp only [if_true]
      | false =>
        have hz := T.zero _ (List.getElem_mem hF.lt) hui
        simp only [Bool.false_eq_true, if_false]
        rw [hz]; rfl
    have C := T2.cell; have O := T2.row
    refine drawRT TBok mixed (fun i => w2.heap.size ≤ i) (.one 0 (.one 1 (.one 2 (.one 3 (.one 4 (.one 5 (.two 6 (.one 7 (.one 8 (.one 9 (.one 10 .nil)))) 9 (.one 6 (.one 7 (.one 8 (.one 10 .nil))))))))))) (by kernel_rfl) fun u1 e1 _ => ?_
    have zC := C.lt
    refine tld (B := C) rfl (by omega) ?_
    refine tldG (B := B1) rfl rfl (by have := B1.lt; have := Le.size (a := w1) (b := w2); omega) ?_
    have hOlt : ∀ g, Value.blk (.slice a (2 * most) c) = some g → R ≠ [] → g < w2.heap.size := fun g hg hne => by
      obtain ⟨g', h1, _, h2⟩ := O.lt hne; rw [hg] at h1; cases h1; exact h2
    refine ⟨?_, ?_⟩
    · refine rcall (find_sp (T.up (w' := u1)) hk) ?_
      rintro v u2 ⟨⟨i, rfl, hF⟩, e2'⟩
      have hb := base i hF; obtain ⟨hi, hget⟩ := hb
      refine ⟨e2'.e.fr, ?_⟩
      refine tix (O.sl.up (w' := u2)) (x := R[i]) (by simp) fun b4 o4 A4 hb4 => tloadA A4 rfl (by have := hOlt _ hb4 (by rintro rfl; simp at hi); omega) ?_
      refine ral fun b5 u3 n5 z5 => ⟨n5.e.fr, ?_⟩
      refine rsto (B := z5) (vs := enc R[i]) rfl rfl rfl (Enc.one _) fun u4 B5 f5 _ => ?_
      have s5 : Stp u2 u4 := ⟨Fr.st Le.e f5 fun i hi => by subst hi; exact n5.lo⟩
      refine ⟨f5.mono fun i _ hi => by subst hi; exact n5.lo, ?_⟩
      clear z5
      refine drawR TBok mixed (fun _ => False) (upF 6 0) (by kernel_rfl) fun u5 e5 _ => ?_
      refine tld (B := B5) rfl not_false (tld (B := B5) rfl not_false ?_)
      rw [hget]
      exact ⟨rfl, stp⟩
    · refine ral fun b5 u3 n5 z5 => ⟨n5.e.fr, ?_⟩
      refine rcall (find_sp (T.up (w' := u3)) hk) ?_
      rintro v u2 ⟨⟨i, rfl, hF⟩, e2'⟩
      have hb := base i hF; obtain ⟨hi, hget⟩ := hb
      refine ⟨e2'.e.fr, ?_⟩
      refine tix (O.sl.up (w' := u2)) (x := R[i]) (by simp) fun b4 o4 A4 hb4 => tloadA A4 rfl (by have := hOlt _ hb4 (by rintro rfl; simp at hi); omega) ?_
      have z5' := z5.mv (w := u2)
      refine rsto (B := z5') (vs := enc R[i]) rfl rfl rfl (Enc.one _) fun u4 B5 f5 _ => ?_
      have s5 : Stp u1 u4 := ⟨Fr.st Le.e f5 fun i hi => by subst hi; exact n5.lo⟩
      refine ⟨f5.mono fun i _ hi => by subst hi; exact n5.lo, ?_⟩
      clear z5 z5'
      refine drawR TBok mixed (fun _ => False) (upF 6 0) (by kernel_rfl) fun u5 e5 _ => ?_
      refine tld (B := B5) rfl not_false (tld (B := B5) rfl not_false ?_)
      rw [hget]
      exact ⟨rfl, stp⟩
  · have hg := getT_may T hk
    rw [hM] at hg
    unfold getTS; rw [hg]
    exact ⟨rfl, stp⟩
theorem Get_nil_sp {k : KeyD} {w : World} : Sp Try.prog F.table_Table_Get #[.pointer none, agg k] w fun v w' => v = .tuple #[.int .i64 0, .bool false] ∧ Stp w w' := by
  refine en TBok rfl ?_
  refine rbx fun bk w1 n1 B1 => ?_
  refine rpnil ?_
  exact ⟨rfl, stp⟩
end Go.W
