/-
  Proved here: heaps of the library, over whatever interface: up and down (contracts).
  Conditions: what the interface's methods do, as is said at each.
-/
import Derived.Test.YtgplodgpbhddbaaHd
import Derived.Test.YtgplodgpbhddbaaHeapL
namespace Go.W
open Go Go.Proofs
open Enc (enc)
set_option maxRecDepth 10000

theorem rdivE {k : Value → World → Prop} {w : World} {x y q : Int} (hy : y ≠ 0) (hq : x.tdiv y = q) (h : -9223372036854775808 ≤ q ∧ q ≤ 9223372036854775807) (hk : k (.int .i64 q) w) : DivS .i64 x y k w := by
  rw [DivS_iff]; subst hq; exact ⟨hy, by rw [wrap_id h.1 h.2]; exact hk⟩
/-- a method called through an interface: what comes of it -/
structure InvS (P : Program) (t : TypeId) (v : Value) (name : String) (vs : List Value) (w : World) (R : Value → World → Prop) : Prop where
  out : ∀ {o : Oper} {F : Nat → Value} {c : Call} {r : Operand} {k : Value → World → Prop} {pn : List PanicEntry → World → Prop}, o.op = .call c → c.callee = .invoke r name → ev F r = .iface t v → evL F c.args.toList = vs → (∀ x w', R x w' → k x w') → NextS P (execOp (ev F) o) k pn w
theorem InvS.p {P : Program} {t : TypeId} {v : Value} {name : String} {vs : List Value} {w : World} {R : Value → World → Prop} {f : FuncId} [MethP P t name f] (h : Sp P f (v :: vs).toArray w R) : InvS P t v name vs w R :=
  ⟨fun ho hc hr hv hk => rinv ho hc hr hv (rcall h hk)⟩
theorem InvS.v {P : Program} {t e : TypeId} {a : Addr} {u : Value} {name : String} {vs : List Value} {w : World} {R : Value → World → Prop} {f : FuncId} [MethV P t name f e] (hl : (loadVar e a).run P w = .ok u w) (h : Sp P f (u :: vs).toArray w R) : InvS P t (.pointer (some a)) name vs w R :=
  ⟨fun ho hc hr hv hk => rinvV ho hc hr hv ⟨_, hl, rcall h hk⟩⟩
/-- a row behind an interface: asked, compared, exchanged -/
structure HeapI (P : Program) (t : TypeId) (v : Value) {α : Type} [Inhabited α] (lt : α → α → Bool) (St : List α → World → Prop) (B0 : Nat) (es : List TypeId) : Prop where
  ord : Ord lt
  size : ∀ l w, St l w → l.length ≤ 100000
  len : ∀ l w, St l w → InvS P t v "Len" [] w fun x w' => x = .int .i64 (l.length : Nat) ∧ St l w' ∧ FrT B0 es w w'
  less : ∀ l w (i j : Nat), St l w → i < l.length → j < l.length → InvS P t v "Less" [.int .i64 i, .int .i64 j] w fun x w' => x = .bool (lt (atL l i) (atL l j)) ∧ St l w' ∧ FrT B0 es w w'
  swap : ∀ l w (i j : Nat), St l w → i < l.length → j < l.length → InvS P t v "Swap" [.int .i64 i, .int .i64 j] w fun _ w' => St (swL l i j) w' ∧ FrT B0 es w w'

section
variable {t : TypeId} {v : Value} {α : Type} [Inhabited α] {lt : α → α → Bool} {St : List α → World → Prop} {B0 : Nat} {es : List TypeId}
theorem swL_above {l : List α} {n i j p : Nat} (hi : i < n) (hj : j < n) (hn : n ≤ l.length) (hp : n ≤ p) : atL (swL l i j) p = atL l p := by
  rw [atL_sw (by omega) (by omega), if_neg (by omega), if_neg (by omega)]

theorem up_sp (H : HeapI Try.prog t v lt St B0 es) {l : List α} {n j : Nat} {w : World} (hS : St l w) (hj : j < n) (hn : n ≤ l.length) (hx : HeapX lt l n j) (hb : LowOk lt l n j) :
    Sp Try.prog F.container_heap_up #[.iface t v, .int .i64 j] w fun _ w' => (∃ l' : List α, l'.Perm l ∧ (∀ p, n ≤ p → atL l' p = atL l p) ∧ St l' w' ∧ HeapN lt l' n) ∧ FrT B0 es w w' := by
  have hsz := H.size l w hS
  refine en TBok rfl ?_
  refine loop1 TBok 5 [4] 1 (fun x u => ∃ (j : Nat) (l' : List α), x = .int .i64 j ∧ j < n ∧ l'.Perm l ∧ (∀ p, n ≤ p → atL l' p = atL l p) ∧ St l' u ∧ HeapX lt l' n j ∧ LowOk lt l' n j ∧ FrT B0 es w u) (fun x _ => (Go.RowKit.intOf x).toNat) rfl
    ⟨j, l, rfl, hj, List.Perm.refl _, fun _ _ => rfl, hS, hx, hb, FrT.refl _ _ _⟩ ?_
  rintro _ g u ⟨j, l', rfl, hj, hp, ha, hS, hx, hb, f⟩
  have hll := hp.length_eq
  refine rar (by omega) ?_
  by_cases h0 : j = 0
  · subst h0
    refine rdivE (q := 0) (by decide) (by decide) (by decide) ?_
    refine ite (fun _ => ?_) (fun h => absurd rfl h)
    exact ⟨⟨l', hp, ha, hS, hx.full (fun h => by omega) hb⟩, f⟩
  · have hd : ((j : Int) - 1).tdiv 2 = (((j - 1) / 2 : Nat) : Int) := by
      rw [Int.tdiv_eq_ediv_of_nonneg (by omega)]; omega
    refine rdivE (by decide) hd (by omega) ?_
    refine ite (fun h => absurd h (by first | omega | decide | (dsimp only <;> omega))) (fun _ => ?_)
    cases hq : lt (atL l' j) (atL l' ((j - 1) / 2)) with
    | false =>
      have L := H.less l' u j ((j - 1) / 2) hS (by omega) (by omega)
      rw [hq] at L
      refine L.out rfl rfl rfl rfl ?_
      rintro x u1 ⟨rfl, S1, f1⟩
      exact ⟨⟨l', hp, ha, S1, hx.full (fun _ => hq) hb⟩, f.trans f1⟩
    | true =>
      have hst := up_step H.ord hj (by omega) hx hb (by omega) hq
      have L := H.less l' u j ((j - 1) / 2) hS (by omega) (by omega)
      rw [hq] at L
      refine L.out rfl rfl rfl rfl ?_
      rintro x u1 ⟨rfl, S1, f1⟩
      refine (H.swap l' u1 ((j - 1) / 2) j S1 (by omega) (by omega)).out rfl rfl rfl rfl ?_
      rintro x u2 ⟨S2, f2⟩
      refine ⟨⟨(j - 1) / 2, _, rfl, by omega, (swL_perm (by omega) (by omega)).trans hp, fun p hp' => ?_, S2, hst.1, hst.2, (f.trans f1).trans f2⟩, ?_⟩
      · rw [swL_above (n := n) (by omega) hj (by omega) hp']; exact ha p hp'
      · show (j - 1) / 2 < j; omega

set_option maxHeartbeats 800000 in
theorem down_sp (H : HeapI Try.prog t v lt St B0 es) {l : List α} {n i0 : Nat} {w : World} (hS : St l w) (hi : i0 ≤ n) (hn : n ≤ l.length) (hx : HeapX lt l n i0) :
    Sp Try.prog F.container_heap_down #[.iface t v, .int .i64 i0, .int .i64 n] w fun x w' => (∃ (b : Bool) (l' : List α), x = .bool b ∧ l'.Perm l ∧ (∀ p, n ≤ p → atL l' p = atL l p) ∧ St l' w' ∧ (b = true → HeapN lt l' n) ∧ (b = false → l' = l ∧ LowOk lt l n i0)) ∧ FrT B0 es w w' := by
  have hsz := H.size l w hS
  refine en TBok rfl ?_
  refine loop1 TBok 11 [8, 9, 10] 7 (fun x u => ∃ (i : Nat) (l' : List α), x = .int .i64 i ∧ i ≤ n ∧ l'.Perm l ∧ (∀ p, n ≤ p → atL l' p = atL l p) ∧ St l' u ∧ HeapX lt l' n i ∧ (i = i0 ∧ l' = l ∨ i0 < i ∧ TopOk lt l' i) ∧ FrT B0 es w u) (fun x _ => n - (Go.RowKit.intOf x).toNat) rfl
    ⟨i0, l, rfl, hi, List.Perm.refl _, fun _ _ => rfl, hS, hx, .inl ⟨rfl, rfl⟩, FrT.refl _ _ _⟩ ?_
  rintro _ g u ⟨i, l', rfl, hi, hp, ha, hS, hx, hc, f⟩
  have hll := hp.length_eq
  have done : ∀ u', St l' u' → LowOk lt l' n i → FrT B0 es w u' → ∀ b, (b = true ↔ i0 < i) → (∃ (b' : Bool) (l'' : List α), Value.bool b = .bool b' ∧ l''.Perm l ∧ (∀ p, n ≤ p → atL l'' p = atL l p) ∧ St l'' u' ∧ (b' = true → HeapN lt l'' n) ∧ (b' = false → l'' = l ∧ LowOk lt l n i0)) ∧ FrT B0 es w u' := by
    intro u' S' hb f' b hbi
    refine ⟨⟨b, l', rfl, hp, ha, S', fun e => ?_, fun e => ?_⟩, f'⟩
    · rcases hc with ⟨h1, _⟩ | ⟨_, h2⟩
      · have := hbi.1 e; omega
      · exact hx.full h2 hb
    · rcases hc with ⟨h1, h2⟩ | ⟨h1, _⟩
      · subst h1; subst h2; exact ⟨rfl, hb⟩
      · have := hbi.2 h1; rw [e] at this; cases this
  refine rar (by omega) (rarE (y := ((2 * i + 1 : Nat) : Int)) (by omega) (by omega) ?_)
  refine ite (fun h1 => ?_) (fun h1 => ?_)
  · have hb : LowOk lt l' n i := fun c c0 cn e => by omega
    refine ite (fun h2 => done u hS hb f true ⟨fun _ => by omega, fun _ => rfl⟩) (fun h2 => done u hS hb f false ⟨fun e => (by cases e), fun e => by omega⟩)
  refine ite (fun h => absurd h (by first | omega | decide | (dsimp only <;> omega))) (fun _ => ?_)
  have hin : i < n := by omega
  refine rarE (y := ((2 * i + 2 : Nat) : Int)) (by omega) (by omega) ?_
  refine ite (fun h2 => ?_) (fun h2 => ?_)
  · cases hq2 : lt (atL l' (2 * i + 2)) (atL l' (2 * i + 1)) with
    | true =>
      have L := H.less l' u (2 * i + 2) (2 * i + 1) hS (by omega) (by omega)
      rw [hq2] at L
      refine L.out rfl rfl rfl rfl ?_
      rintro x u1 ⟨rfl, S1, f1⟩
      have hJ : (2 * i + 2 - 1) / 2 = i := by omega
      have hm : ∀ c, 0 < c → c < n → (c - 1) / 2 = i → lt (atL l' c) (atL l' (2 * i + 2)) = false := fun c c0 cn e => by
        have : c = 2 * i + 1 ∨ c = 2 * i + 2 := by omega
        rcases this with rfl | rfl
        · exact H.ord.asymm hq2
        · exact H.ord.irrefl _
      cases hq : lt (atL l' (2 * i + 2)) (atL l' i) with
      | false =>
        have L := H.less l' u1 (2 * i + 2) i S1 (by omega) (by omega)
        rw [hq] at L
        refine L.out rfl rfl rfl rfl ?_
        rintro x u5 ⟨rfl, S5, f5⟩
        have hb : LowOk lt l' n i := fun c c0 cn e => H.ord.ntrans _ _ _ (hm c c0 cn e) hq
        refine ite (fun h2 => done u5 S5 hb ((f.trans f1).trans f5) true ⟨fun _ => by omega, fun _ => rfl⟩) (fun h2 => done u5 S5 hb ((f.trans f1).trans f5) false ⟨fun e => (by cases e), fun e => by omega⟩)
      | true =>
        have hst := down_step H.ord (show 2 * i + 2 < n by omega) (by omega) hx (by omega) hJ hq hm
        have L := H.less l' u1 (2 * i + 2) i S1 (by omega) (by omega)
        rw [hq] at L
        refine L.out rfl rfl rfl rfl ?_
        rintro x u5 ⟨rfl, S5, f5⟩
        refine (H.swap l' u5 i (2 * i + 2) S5 (by omega) (by omega)).out rfl rfl rfl rfl ?_
        rintro x u6 ⟨S6, f6⟩
        refine ⟨⟨2 * i + 2, _, rfl, by omega, (swL_perm (by omega) (by omega)).trans hp, fun p hp' => ?_, S6, hst.1, .inr ⟨by rcases hc with h | h <;> omega, hst.2.1⟩, ((f.trans f1).trans f5).trans f6⟩, ?_⟩
        · rw [swL_above (n := n) hin (by omega) (by omega) hp']; exact ha p hp'
        · show n - (2 * i + 2) < n - i; omega
    | false =>
      have L := H.less l' u (2 * i + 2) (2 * i + 1) hS (by omega) (by omega)
      rw [hq2] at L
      refine L.out rfl rfl rfl rfl ?_
      rintro x u1 ⟨rfl, S1, f1⟩
      have hJ : (2 * i + 1 - 1) / 2 = i := by omega
      have hm : ∀ c, 0 < c → c < n → (c - 1) / 2 = i → lt (atL l' c) (atL l' (2 * i + 1)) = false := fun c c0 cn e => by
        have : c = 2 * i + 1 ∨ c = 2 * i + 2 := by omega
        rcases this with rfl | rfl
        · exact H.ord.irrefl _
        · exact hq2
      cases hq : lt (atL l' (2 * i + 1)) (atL l' i) with
      | false =>
        have L := H.less l' u1 (2 * i + 1) i S1 (by omega) (by omega)
        rw [hq] at L
        refine L.out rfl rfl rfl rfl ?_
        rintro x u5 ⟨rfl, S5, f5⟩
        have hb : LowOk lt l' n i := fun c c0 cn e => H.ord.ntrans _ _ _ (hm c c0 cn e) hq
        refine ite (fun h2 => done u5 S5 hb ((f.trans f1).trans f5) true ⟨fun _ => by omega, fun _ => rfl⟩) (fun h2 => done u5 S5 hb ((f.trans f1).trans f5) false ⟨fun e => (by cases e), fun e => by omega⟩)
      | true =>
        have hst := down_step H.ord (show 2 * i + 1 < n by omega) (by omega) hx (by omega) hJ hq hm
        have L := H.less l' u1 (2 * i + 1) i S1 (by omega) (by omega)
        rw [hq] at L
        refine L.out rfl rfl rfl rfl ?_
        rintro x u5 ⟨rfl, S5, f5⟩
        refine (H.swap l' u5 i (2 * i + 1) S5 (by omega) (by omega)).out rfl rfl rfl rfl ?_
        rintro x u6 ⟨S6, f6⟩
        refine ⟨⟨2 * i + 1, _, rfl, by omega, (swL_perm (by omega) (by omega)).trans hp, fun p hp' => ?_, S6, hst.1, .inr ⟨by rcases hc with h | h <;> omega, hst.2.1⟩, ((f.trans f1).trans f5).trans f6⟩, ?_⟩
        · rw [swL_above (n := n) hin (by omega) (by omega) hp']; exact ha p hp'
        · show n - (2 * i + 1) < n - i; omega
  · have hJ : (2 * i + 1 - 1) / 2 = i := by omega
    have hm : ∀ c, 0 < c → c < n → (c - 1) / 2 = i → lt (atL l' c) (atL l' (2 * i + 1)) = false := fun c c0 cn e => by
      have : c = 2 * i + 1 := by omega
      subst this
      exact H.ord.irrefl _
    cases hq : lt (atL l' (2 * i + 1)) (atL l' i) with
    | false =>
      have L := H.less l' u (2 * i + 1) i hS (by omega) (by omega)
      rw [hq] at L
      refine L.out rfl rfl rfl rfl ?_
      rintro x u5 ⟨rfl, S5, f5⟩
      have hb : LowOk lt l' n i := fun c c0 cn e => H.ord.ntrans _ _ _ (hm c c0 cn e) hq
      refine ite (fun h2 => done u5 S5 hb (f.trans f5) true ⟨fun _ => by omega, fun _ => rfl⟩) (fun h2 => done u5 S5 hb (f.trans f5) false ⟨fun e => (by cases e), fun e => by omega⟩)
    | true =>
      have hst := down_step H.ord (show 2 * i + 1 < n by omega) (by omega) hx (by omega) hJ hq hm
      have L := H.less l' u (2 * i + 1) i hS (by omega) (by omega)
      rw [hq] at L
      refine L.out rfl rfl rfl rfl ?_
      rintro x u5 ⟨rfl, S5, f5⟩
      refine (H.swap l' u5 i (2 * i + 1) S5 (by omega) (by omega)).out rfl rfl rfl rfl ?_
      rintro x u6 ⟨S6, f6⟩
      refine ⟨⟨2 * i + 1, _, rfl, by omega, (swL_perm (by omega) (by omega)).trans hp, fun p hp' => ?_, S6, hst.1, .inr ⟨by rcases hc with h | h <;> omega, hst.2.1⟩, (f.trans f5).trans f6⟩, ?_⟩
      · rw [swL_above (n := n) hin (by omega) (by omega) hp']; exact ha p hp'
      · show n - (2 * i + 1) < n - i; omega
end
end Go.W
