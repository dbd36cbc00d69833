/-
  Proved here: numbers as bytes, seven bits each, the lowest first: what is written is read, and nothing else is; heaps as lists: what goes up and down in them (plain facts); heaps of the library, over whatever interface: up and down (contracts); rows of hits compared (the reference's); rows of numbers are compared, copied, searched, and told once each, rising (contracts); numbers told once each, rising: which they are, and how many (plain facts).
  Conditions: those that each fact names.
-/
import Derived.Test.YtgplodgpbhddbaaW11
import Derived.Test.YtgplodgpbhddbaaW14
import Derived.Test.YtgplodgpbhddbaaHd
import Derived.Test.YtgplodgpbhddbaaW23
namespace Go.W

/-- a number's bytes -/
def numB (n : Nat) : List UInt8 := if h : n < 128 then [UInt8.ofNat n] else UInt8.ofNat (128 + n % 128) :: numB (n / 128)
termination_by n
decreasing_by omega
/-- what bytes tell -/
def valB : List UInt8 → Nat
  | [] => 0
  | c :: r => c.toNat % 128 + 128 * valB r
/-- bytes of one number: all but the last have their top bit; the last has not, and is not idle -/
def OneB : List UInt8 → Prop
  | [] => False
  | [c] => c.toNat < 128
  | c :: d :: r => 128 ≤ c.toNat ∧ OneB (d :: r) ∧ (r = [] → d.toNat ≠ 0)
theorem numB_lt {n : Nat} (h : n < 128) : numB n = [UInt8.ofNat n] := by unfold numB; rw [dif_pos h]
theorem numB_ge {n : Nat} (h : ¬ n < 128) : numB n = UInt8.ofNat (128 + n % 128) :: numB (n / 128) := by rw [numB, dif_neg h]
theorem numB_ne (n : Nat) : numB n ≠ [] := by
  by_cases h : n < 128
  · rw [numB_lt h]; simp
  · rw [numB_ge h]; simp
theorem numB_val (n : Nat) : valB (numB n) = n := by
  induction n using Nat.strongRecOn with
  | ind n ih =>
    by_cases h : n < 128
    · rw [numB_lt h]; simp only [valB, UInt8.toNat_ofNat']; omega
    · rw [numB_ge h]; simp only [valB, UInt8.toNat_ofNat']; rw [ih (n / 128) (by omega)]; omega
theorem numB_one (n : Nat) : OneB (numB n) := by
  induction n using Nat.strongRecOn with
  | ind n ih =>
    by_cases h : n < 128
    · rw [numB_lt h]; simp only [OneB, UInt8.toNat_ofNat']; omega
    · have hi := ih (n / 128) (by omega)
      rw [numB_ge h]
      by_cases h2 : n / 128 < 128
      · rw [numB_lt h2] at hi ⊢
        refine ⟨by rw [UInt8.toNat_ofNat']; omega, hi, fun _ => by rw [UInt8.toNat_ofNat']; omega⟩
      · rw [numB_ge h2] at hi ⊢
        refine ⟨by rw [UInt8.toNat_ofNat']; omega, hi, fun e => absurd e (numB_ne _)⟩
theorem valB_pos : ∀ {d : UInt8} {r : List UInt8}, OneB (d :: r) → (r = [] → d.toNat ≠ 0) → 0 < valB (d :: r)
  | d, [], h, h0 => by have := h0 rfl; simp only [OneB] at h; simp only [valB]; omega
  | d, e :: r, h, _ => by
    obtain ⟨_, h2, h3⟩ := h
    have := valB_pos h2 h3
    simp only [valB] at this ⊢
    omega
theorem numB_of : ∀ {l : List UInt8}, OneB l → numB (valB l) = l
  | [], h => h.elim
  | [c], h => by
    simp only [OneB] at h
    simp only [valB]
    rw [numB_lt (by omega)]
    congr 1
    apply UInt8.toNat.inj
    rw [UInt8.toNat_ofNat']; omega
  | c :: d :: r, h => by
    obtain ⟨h1, h2, h3⟩ := h
    have hp := valB_pos h2 h3
    have ih := numB_of h2
    have e : valB (c :: d :: r) = c.toNat % 128 + 128 * valB (d :: r) := rfl
    rw [e, numB_ge (by omega)]
    have hdiv : (c.toNat % 128 + 128 * valB (d :: r)) / 128 = valB (d :: r) := by omega
    have hmod : (c.toNat % 128 + 128 * valB (d :: r)) % 128 = c.toNat % 128 := by omega
    rw [hdiv, hmod, ih]
    congr 1
    apply UInt8.toNat.inj
    have := c.toNat_lt
    rw [UInt8.toNat_ofNat']; omega
/-- no number's bytes begin another's -/
theorem OneB.pre : ∀ {a b s t : List UInt8}, OneB a → OneB b → a ++ s = b ++ t → a = b ∧ s = t
  | [], _, _, _, h, _, _ => h.elim
  | _, [], _, _, _, h, _ => h.elim
  | [c], [d], s, t, _, _, e => by
    simp at e; exact ⟨by rw [e.1], e.2⟩
  | [c], d :: d2 :: r, s, t, h, h', e => by
    simp at e
    have h1 := h'.1
    simp only [OneB] at h
    rw [← e.1] at h1; omega
  | c :: c2 :: r, [d], s, t, h, h', e => by
    simp at e
    have h1 := h.1
    simp only [OneB] at h'
    rw [e.1] at h1; omega
  | c :: c2 :: r, d :: d2 :: q, s, t, h, h', e => by
    have e1 : c = d ∧ (c2 :: r) ++ s = (d2 :: q) ++ t := by simpa using e
    have ih := OneB.pre h.2.1 h'.2.1 e1.2
    rw [e1.1, ih.1]; exact ⟨rfl, ih.2⟩
theorem numB_pre {n m : Nat} {s t : List UInt8} (e : numB n ++ s = numB m ++ t) : n = m ∧ s = t := by
  have h := OneB.pre (numB_one n) (numB_one m) e
  refine ⟨?_, h.2⟩
  have := congrArg valB h.1
  rwa [numB_val, numB_val] at this
theorem numB_len {n : Nat} (h : n ≤ 2147483647) : (numB n).length ≤ 5 := by
  have step : ∀ k m : Nat, m < 128 ^ (k + 1) → (numB m).length ≤ k + 1 := fun k => by
    induction k with
    | zero => intro m hm; rw [numB_lt (by simpa using hm)]; simp
    | succ k ih =>
      intro m hm
      by_cases h1 : m < 128
      · rw [numB_lt h1]; simp
      · rw [numB_ge h1, List.length_cons]
        have := ih (m / 128) (by rw [Nat.div_lt_iff_lt_mul (by decide)]; rw [Nat.pow_succ] at hm; exact hm)
        omega
  exact step 4 n (by omega)
end Go.W
namespace Go.W

section
variable {α : Type}
/-- the order by which a heap is a heap -/
structure Ord (lt : α → α → Bool) : Prop where
  irrefl : ∀ x, lt x x = false
  trans : ∀ x y z, lt x y = true → lt y z = true → lt x z = true
  ntrans : ∀ x y z, lt x y = false → lt y z = false → lt x z = false
theorem Ord.asymm {lt : α → α → Bool} (h : Ord lt) {x y : α} (e : lt x y = true) : lt y x = false := by
  cases hq : lt y x with
  | false => rfl
  | true => have := h.trans x y x e hq; rw [h.irrefl] at this; cases this
end
section
variable {α : Type} [Inhabited α]
/-- the element at a place -/
abbrev atL (l : List α) (i : Nat) : α := l.getD i default
def swL (l : List α) (i j : Nat) : List α := (l.set i (atL l j)).set j (atL l i)
theorem swL_len (l : List α) (i j : Nat) : (swL l i j).length = l.length := by simp [swL]
theorem atL_get {l : List α} {i : Nat} (h : i < l.length) : atL l i = l[i] := by simp [atL, h]
theorem atL_set {l : List α} {i p : Nat} (x : α) (h : i < l.length) : atL (l.set i x) p = if p = i then x else atL l p := by
  unfold atL
  simp only [List.getD_eq_getElem?_getD, List.getElem?_set]
  by_cases e : p = i
  · subst e; simp [h]
  · rw [if_neg e, if_neg (Ne.symm e)]
theorem atL_sw {l : List α} {i j p : Nat} (hi : i < l.length) (hj : j < l.length) : atL (swL l i j) p = if p = j then atL l i else if p = i then atL l j else atL l p := by
  unfold swL
  rw [atL_set _ (by simpa using hj), atL_set _ hi]
theorem swL_perm {l : List α} {i j : Nat} (hi : i < l.length) (hj : j < l.length) : (swL l i j).Perm l := by
  unfold swL
  rw [atL_get hi, atL_get hj]
  exact List.set_set_perm hi hj
variable {lt : α → α → Bool}
/-- the first n are a heap -/
def HeapN (lt : α → α → Bool) (l : List α) (n : Nat) : Prop := ∀ c, 0 < c → c < n → lt (atL l c) (atL l ((c - 1) / 2)) = false
/-- .. but for what stands at i -/
def HeapX (lt : α → α → Bool) (l : List α) (n i : Nat) : Prop :=
  (∀ c, 0 < c → c < n → c ≠ i → (c - 1) / 2 ≠ i → lt (atL l c) (atL l ((c - 1) / 2)) = false) ∧
  (∀ c, 0 < c → c < n → (c - 1) / 2 = i → 0 < i → lt (atL l c) (atL l ((i - 1) / 2)) = false)
/-- the one above i is not behind it -/
def TopOk (lt : α → α → Bool) (l : List α) (i : Nat) : Prop := 0 < i → lt (atL l i) (atL l ((i - 1) / 2)) = false
/-- those below i are not ahead of it -/
def LowOk (lt : α → α → Bool) (l : List α) (n i : Nat) : Prop := ∀ c, 0 < c → c < n → (c - 1) / 2 = i → lt (atL l c) (atL l i) = false
theorem HeapX.full {l : List α} {n i : Nat} (h : HeapX lt l n i) (t : TopOk lt l i) (b : LowOk lt l n i) : HeapN lt l n := by
  intro c h0 hn
  by_cases e : c = i
  · subst e; exact t h0
  · by_cases e2 : (c - 1) / 2 = i
    · rw [e2]; exact b c h0 hn e2
    · exact h.1 c h0 hn e e2
theorem HeapN.x (O : Ord lt) {l : List α} {n : Nat} (h : HeapN lt l n) (i : Nat) (hi : i < n) : HeapX lt l n i :=
  ⟨fun c h0 hn _ _ => h c h0 hn, fun c h0 hn e h1 => O.ntrans _ _ _ (by have := h c h0 hn; rw [e] at this; exact this) (h i h1 hi)⟩
/-- another element at i -/
theorem HeapX.set {l l' : List α} {n i : Nat} (h : HeapX lt l n i) (e : ∀ p, p ≠ i → atL l' p = atL l p) : HeapX lt l' n i := by
  refine ⟨fun c h0 hn h1 h2 => ?_, fun c h0 hn h1 h2 => ?_⟩
  · rw [e c h1, e _ h2]; exact h.1 c h0 hn h1 h2
  · rw [e c (by omega), e _ (by omega)]; exact h.2 c h0 hn h1 h2

/-- one step up -/
theorem up_step (O : Ord lt) {l : List α} {n j : Nat} (hj : j < n) (hn : n ≤ l.length) (h : HeapX lt l n j) (b : LowOk lt l n j) (h0 : 0 < j) (hl : lt (atL l j) (atL l ((j - 1) / 2)) = true) :
    HeapX lt (swL l ((j - 1) / 2) j) n ((j - 1) / 2) ∧ LowOk lt (swL l ((j - 1) / 2) j) n ((j - 1) / 2) := by
  have hs := fun p => atL_sw (l := l) (i := (j - 1) / 2) (j := j) (p := p) (by omega) (by omega)
  have q_ : ∃ i, (j - 1) / 2 = i := ⟨_, rfl⟩
  obtain ⟨i, hi⟩ := q_
  rw [hi] at hs hl ⊢
  have hij : i ≠ j := by omega
  refine ⟨⟨fun c c0 cn h1 h2 => ?_, fun c c0 cn h1 h2 => ?_⟩, fun c c0 cn h1 => ?_⟩
  · rw [hs c, hs]
    have hcj : c ≠ j := by rintro rfl; exact h2 hi
    rw [if_neg hcj, if_neg h1, if_neg h2]
    by_cases e : (c - 1) / 2 = j
    · rw [if_pos e, ← hi]
      have := h.2 c c0 cn e h0
      exact this
    · rw [if_neg e]; exact h.1 c c0 cn hcj e
  · rw [hs c, hs]
    have hp : (i - 1) / 2 ≠ i := by omega
    have hp2 : (i - 1) / 2 ≠ j := by omega
    rw [if_neg hp2, if_neg hp]
    have hip := h.1 i h2 (by omega) hij (by omega)
    by_cases e : c = j
    · rw [if_pos e]; exact hip
    · rw [if_neg e, if_neg (show c ≠ i by omega)]
      have h3 := h.1 c c0 cn e (by omega)
      rw [h1] at h3
      exact O.ntrans _ _ _ h3 hip
  · rw [hs c, hs i]
    rw [if_neg hij, if_pos rfl]
    by_cases e : c = j
    · rw [if_pos e]; exact O.asymm hl
    · rw [if_neg e, if_neg (show c ≠ i by omega)]
      have h3 := h.1 c c0 cn e (by omega)
      rw [h1] at h3
      cases hq : lt (atL l c) (atL l j) with
      | false => rfl
      | true => have := O.trans _ _ _ hq hl; rw [h3] at this; cases this
/-- one step down: j is a child that comes ahead, the first of the two -/
theorem down_step (O : Ord lt) {l : List α} {n i j : Nat} (hj : j < n) (hn : n ≤ l.length) (h : HeapX lt l n i) (j0 : 0 < j) (hp : (j - 1) / 2 = i) (hl : lt (atL l j) (atL l i) = true)
    (hm : ∀ c, 0 < c → c < n → (c - 1) / 2 = i → lt (atL l c) (atL l j) = false) : HeapX lt (swL l i j) n j ∧ TopOk lt (swL l i j) j ∧ (TopOk lt (swL l i j) i) := by
  have hs := fun p => atL_sw (l := l) (i := i) (j := j) (p := p) (by omega) (by omega)
  have hij : i ≠ j := by omega
  refine ⟨⟨fun c c0 cn h1 h2 => ?_, fun c c0 cn h1 h2 => ?_⟩, fun _ => ?_, fun h0 => ?_⟩
  · rw [hs c, hs, if_neg h1, if_neg h2]
    by_cases e : c = i
    · subst e
      rw [if_pos rfl, if_neg (show (c - 1) / 2 ≠ c by omega)]
      exact h.2 j j0 hj hp c0
    · rw [if_neg e]
      by_cases e2 : (c - 1) / 2 = i
      · rw [if_pos e2]; exact hm c c0 cn e2
      · rw [if_neg e2]; exact h.1 c c0 cn e e2
  · rw [hs c, hs, hp, if_neg (show c ≠ j by omega), if_neg (show c ≠ i by omega), if_neg hij, if_pos rfl, ← h1]
    exact h.1 c c0 cn (by omega) (by omega)
  · rw [hs j, hs, hp, if_pos rfl, if_neg hij, if_pos rfl]
    exact O.asymm hl
  · rw [hs i, hs, if_neg hij, if_pos rfl, if_neg (show (i - 1) / 2 ≠ j by omega), if_neg (show (i - 1) / 2 ≠ i by omega)]
    exact h.2 j j0 hj hp h0
/-- the first of a heap comes behind none -/
theorem heap_first (O : Ord lt) {l : List α} {n : Nat} (h : HeapN lt l n) : ∀ c, c < n → lt (atL l c) (atL l 0) = false := by
  intro c
  induction c using Nat.strongRecOn with
  | _ c ih =>
    intro hc
    have q_ := Nat.eq_zero_or_pos c
    rcases q_ with rfl | h0
    · exact O.irrefl _
    · exact O.ntrans _ _ _ (h c h0 hc) (ih ((c - 1) / 2) (by omega) (by omega))
end
end Go.W
namespace Go.W
open Go Go.Proofs
open Enc (enc)
set_option maxRecDepth 10000

theorem rdivE {k : Value → World → Prop} {w : World} {x y q : Int} (hy : y ≠ 0) (hq : x.tdiv y = q) (h : -9223372036854775808 ≤ q ∧ q ≤ 9223372036854775807) (hk : k (.int .i64 q) w) : DivS .i64 x y k w := by
  rw [DivS_iff]; subst hq; exact ⟨hy, by rw [wrap_id h.1 h.2]; exact hk⟩
/-- a method called through an interface: what comes of it -/
structure InvS (P : Program) (t : TypeId) (v : Value) (name : String) (vs : List Value) (w : World) (R : Value → World → Prop) : Prop where
  out : ∀ {o : Oper} {F : Nat → Value} {c : Call} {r : Operand} {k : Value → World → Prop} {pn : List PanicEntry → World → Prop}, o.op = .call c → c.callee = .invoke r name → ev F r = .iface t v → evL F c.args.toList = vs → (∀ x w', R x w' → k x w') → NextS P (execOp (ev F) o) k pn w
theorem InvS.p {P : Program} {t : TypeId} {v : Value} {name : String} {vs : List Value} {w : World} {R : Value → World → Prop} {f : FuncId} [MethP P t name f] (h : Sp P f (v :: vs).toArray w R) : InvS P t v name vs w R :=
  ⟨fun ho hc hr hv hk => rinv ho hc hr hv (rcall h hk)⟩
theorem InvS.v {P : Program} {t e : TypeId} {a : Addr} {u : Value} {name : String} {vs : List Value} {w : World} {R : Value → World → Prop} {f : FuncId} [MethV P t name f e] (hl : (loadVar e a).run P w = .ok u w) (h : Sp P f (u :: vs).toArray w R) : InvS P t (.pointer (some a)) name vs w R :=
  ⟨fun ho hc hr hv hk => rinvV ho hc hr hv ⟨_, hl, rcall h hk⟩⟩
/-- a row behind an interface: asked, compared, exchanged -/
structure HeapI (P : Program) (t : TypeId) (v : Value) {α : Type} [Inhabited α] (lt : α → α → Bool) (St : List α → World → Prop) (B0 : Nat) (es : List TypeId) : Prop where
  ord : Ord lt
  size : ∀ l w, St l w → l.length ≤ 100000
  len : ∀ l w, St l w → InvS P t v "Len" [] w fun x w' => x = .int .i64 (l.length : Nat) ∧ St l w' ∧ FrT B0 es w w'
  less : ∀ l w (i j : Nat), St l w → i < l.length → j < l.length → InvS P t v "Less" [.int .i64 i, .int .i64 j] w fun x w' => x = .bool (lt (atL l i) (atL l j)) ∧ St l w' ∧ FrT B0 es w w'
  swap : ∀ l w (i j : Nat), St l w → i < l.length → j < l.length → InvS P t v "Swap" [.int .i64 i, .int .i64 j] w fun _ w' => St (swL l i j) w' ∧ FrT B0 es w w'

section
variable {t : TypeId} {v : Value} {α : Type} [Inhabited α] {lt : α → α → Bool} {St : List α → World → Prop} {B0 : Nat} {es : List TypeId}
theorem swL_above {l : List α} {n i j p : Nat} (hi : i < n) (hj : j < n) (hn : n ≤ l.length) (hp : n ≤ p) : atL (swL l i j) p = atL l p := by
  rw [atL_sw (by omega) (by omega), if_neg (by omega), if_neg (by omega)]

theorem up_sp (H : HeapI Try.prog t v lt St B0 es) {l : List α} {n j : Nat} {w : World} (hS : St l w) (hj : j < n) (hn : n ≤ l.length) (hx : HeapX lt l n j) (hb : LowOk lt l n j) :
    Sp Try.prog F.container_heap_up #[.iface t v, .int .i64 j] w fun _ w' => (∃ l' : List α, l'.Perm l ∧ (∀ p, n ≤ p → atL l' p = atL l p) ∧ St l' w' ∧ HeapN lt l' n) ∧ FrT B0 es w w' := by
  have hsz := H.size l w hS
  refine en TBok rfl ?_
  refine loop1 TBok 5 [4] 1 (fun x u => ∃ (j : Nat) (l' : List α), x = .int .i64 j ∧ j < n ∧ l'.Perm l ∧ (∀ p, n ≤ p → atL l' p = atL l p) ∧ St l' u ∧ HeapX lt l' n j ∧ LowOk lt l' n j ∧ FrT B0 es w u) (fun x _ => (Go.RowKit.intOf x).toNat) rfl
    ⟨j, l, rfl, hj, List.Perm.refl _, fun _ _ => rfl, hS, hx, hb, FrT.refl _ _ _⟩ ?_
  rintro _ g u ⟨j, l', rfl, hj, hp, ha, hS, hx, hb, f⟩
  have hll := hp.length_eq
  refine rar (by omega) ?_
  by_cases h0 : j = 0
  · subst h0
    refine rdivE (q := 0) (by decide) (by decide) (by decide) ?_
    refine ite (fun _ => ?_) (fun h => absurd rfl h)
    exact ⟨⟨l', hp, ha, hS, hx.full (fun h => by omega) hb⟩, f⟩
  · have hd : ((j : Int) - 1).tdiv 2 = (((j - 1) / 2 : Nat) : Int) := by
      rw [Int.tdiv_eq_ediv_of_nonneg (by omega)]; omega
    refine rdivE (by decide) hd (by omega) ?_
    refine ite (fun h => absurd h (by first | omega | decide | (dsimp only <;> omega))) (fun _ => ?_)
    cases hq : lt (atL l' j) (atL l' ((j - 1) / 2)) with
    | false =>
      have L := H.less l' u j ((j - 1) / 2) hS (by omega) (by omega)
      rw [hq] at L
      refine L.out rfl rfl rfl rfl ?_
      rintro x u1 ⟨rfl, S1, f1⟩
      exact ⟨⟨l', hp, ha, S1, hx.full (fun _ => hq) hb⟩, f.trans f1⟩
    | true =>
      have hst := up_step H.ord hj (by omega) hx hb (by omega) hq
      have L := H.less l' u j ((j - 1) / 2) hS (by omega) (by omega)
      rw [hq] at L
      refine L.out rfl rfl rfl rfl ?_
      rintro x u1 ⟨rfl, S1, f1⟩
      refine (H.swap l' u1 ((j - 1) / 2) j S1 (by omega) (by omega)).out rfl rfl rfl rfl ?_
      rintro x u2 ⟨S2, f2⟩
      refine ⟨⟨(j - 1) / 2, _, rfl, by omega, (swL_perm (by omega) (by omega)).trans hp, fun p hp' => ?_, S2, hst.1, hst.2, (f.trans f1).trans f2⟩, ?_⟩
      · rw [swL_above (n := n) (by omega) hj (by omega) hp']; exact ha p hp'
      · show (j - 1) / 2 < j; omega

set_option maxHeartbeats 800000 in
theorem down_sp (H : HeapI Try.prog t v lt St B0 es) {l : List α} {n i0 : Nat} {w : World} (hS : St l w) (hi : i0 ≤ n) (hn : n ≤ l.length) (hx : HeapX lt l n i0) :
    Sp Try.prog F.container_heap_down #[.iface t v, .int .i64 i0, .int .i64 n] w fun x w' => (∃ (b : Bool) (l' : List α), x = .bool b ∧ l'.Perm l ∧ (∀ p, n ≤ p → atL l' p = atL l p) ∧ St l' w' ∧ (b = true → HeapN lt l' n) ∧ (b = false → l' = l ∧ LowOk lt l n i0)) ∧ FrT B0 es w w' := by
  have hsz := H.size l w hS
  refine en TBok rfl ?_
  refine loop1 TBok 11 [8, 9, 10] 7 (fun x u => ∃ (i : Nat) (l' : List α), x = .int .i64 i ∧ i ≤ n ∧ l'.Perm l ∧ (∀ p, n ≤ p → atL l' p = atL l p) ∧ St l' u ∧ HeapX lt l' n i ∧ (i = i0 ∧ l' = l ∨ i0 < i ∧ TopOk lt l' i) ∧ FrT B0 es w u) (fun x _ => n - (Go.RowKit.intOf x).toNat) rfl
    ⟨i0, l, rfl, hi, List.Perm.refl _, fun _ _ => rfl, hS, hx, .inl ⟨rfl, rfl⟩, FrT.refl _ _ _⟩ ?_
  rintro _ g u ⟨i, l', rfl, hi, hp, ha, hS, hx, hc, f⟩
  have hll := hp.length_eq
  have done : ∀ u', St l' u' → LowOk lt l' n i → FrT B0 es w u' → ∀ b, (b = true ↔ i0 < i) → (∃ (b' : Bool) (l'' : List α), Value.bool b = .bool b' ∧ l''.Perm l ∧ (∀ p, n ≤ p → atL l'' p = atL l p) ∧ St l'' u' ∧ (b' = true → HeapN lt l'' n) ∧ (b' = false → l'' = l ∧ LowOk lt l n i0)) ∧ FrT B0 es w u' := by
    intro u' S' hb f' b hbi
    refine ⟨⟨b, l', rfl, hp, ha, S', fun e => ?_, fun e => ?_⟩, f'⟩
    · rcases hc with ⟨h1, _⟩ | ⟨_, h2⟩
      · have := hbi.1 e; omega
      · exact hx.full h2 hb
    · rcases hc with ⟨h1, h2⟩ | ⟨h1, _⟩
      · subst h1; subst h2; exact ⟨rfl, hb⟩
      · have := hbi.2 h1; rw [e] at this; cases this
  refine rar (by omega) (rarE (y := ((2 * i + 1 : Nat) : Int)) (by omega) (by omega) ?_)
  refine ite (fun h1 => ?_) (fun h1 => ?_)
  · have hb : LowOk lt l' n i := fun c c0 cn e => by omega
    refine ite (fun h2 => done u hS hb f true ⟨fun _ => by omega, fun _ => rfl⟩) (fun h2 => done u hS hb f false ⟨fun e => (by cases e), fun e => by omega⟩)
  refine ite (fun h => absurd h (by first | omega | decide | (dsimp only <;> omega))) (fun _ => ?_)
  have hin : i < n := by omega
  refine rarE (y := ((2 * i + 2 : Nat) : Int)) (by omega) (by omega) ?_
  refine ite (fun h2 => ?_) (fun h2 => ?_)
  · cases hq2 : lt (atL l' (2 * i + 2)) (atL l' (2 * i + 1)) with
    | true =>
      have L := H.less l' u (2 * i + 2) (2 * i + 1) hS (by omega) (by omega)
      rw [hq2] at L
      refine L.out rfl rfl rfl rfl ?_
      rintro x u1 ⟨rfl, S1, f1⟩
      have hJ : (2 * i + 2 - 1) / 2 = i := by omega
      have hm : ∀ c, 0 < c → c < n → (c - 1) / 2 = i → lt (atL l' c) (atL l' (2 * i + 2)) = false := fun c c0 cn e => by
        have : c = 2 * i + 1 ∨ c = 2 * i + 2 := by omega
        rcases this with rfl | rfl
        · exact H.ord.asymm hq2
        · exact H.ord.irrefl _
      cases hq : lt (atL l' (2 * i + 2)) (atL l' i) with
      | false =>
        have L := H.less l' u1 (2 * i + 2) i S1 (by omega) (by omega)
        rw [hq] at L
        refine L.out rfl rfl rfl rfl ?_
        rintro x u5 ⟨rfl, S5, f5⟩
        have hb : LowOk lt l' n i := fun c c0 cn e => H.ord.ntrans _ _ _ (hm c c0 cn e) hq
        refine ite (fun h2 => done u5 S5 hb ((f.trans f1).trans f5) true ⟨fun _ => by omega, fun _ => rfl⟩) (fun h2 => done u5 S5 hb ((f.trans f1).trans f5) false ⟨fun e => (by cases e), fun e => by omega⟩)
      | true =>
        have hst := down_step H.ord (show 2 * i + 2 < n by omega) (by omega) hx (by omega) hJ hq hm
        have L := H.less l' u1 (2 * i + 2) i S1 (by omega) (by omega)
        rw [hq] at L
        refine L.out rfl rfl rfl rfl ?_
        rintro x u5 ⟨rfl, S5, f5⟩
        refine (H.swap l' u5 i (2 * i + 2) S5 (by omega) (by omega)).out rfl rfl rfl rfl ?_
        rintro x u6 ⟨S6, f6⟩
        refine ⟨⟨2 * i + 2, _, rfl, by omega, (swL_perm (by omega) (by omega)).trans hp, fun p hp' => ?_, S6, hst.1, .inr ⟨by rcases hc with h | h <;> omega, hst.2.1⟩, ((f.trans f1).trans f5).trans f6⟩, ?_⟩
        · rw [swL_above (n := n) hin (by omega) (by omega) hp']; exact ha p hp'
        · show n - (2 * i + 2) < n - i; omega
    | false =>
      have L := H.less l' u (2 * i + 2) (2 * i + 1) hS (by omega) (by omega)
      rw [hq2] at L
      refine L.out rfl rfl rfl rfl ?_
      rintro x u1 ⟨rfl, S1, f1⟩
      have hJ : (2 * i + 1 - 1) / 2 = i := by omega
      have hm : ∀ c, 0 < c → c < n → (c - 1) / 2 = i → lt (atL l' c) (atL l' (2 * i + 1)) = false := fun c c0 cn e => by
        have : c = 2 * i + 1 ∨ c = 2 * i + 2 := by omega
        rcases this with rfl | rfl
        · exact H.ord.irrefl _
        · exact hq2
      cases hq : lt (atL l' (2 * i + 1)) (atL l' i) with
      | false =>
        have L := H.less l' u1 (2 * i + 1) i S1 (by omega) (by omega)
        rw [hq] at L
        refine L.out rfl rfl rfl rfl ?_
        rintro x u5 ⟨rfl, S5, f5⟩
        have hb : LowOk lt l' n i := fun c c0 cn e => H.ord.ntrans _ _ _ (hm c c0 cn e) hq
        refine ite (fun h2 => done u5 S5 hb ((f.trans f1).trans f5) true ⟨fun _ => by omega, fun _ => rfl⟩) (fun h2 => done u5 S5 hb ((f.trans f1).trans f5) false ⟨fun e => (by cases e), fun e => by omega⟩)
      | true =>
        have hst := down_step H.ord (show 2 * i + 1 < n by omega) (by omega) hx (by omega) hJ hq hm
        have L := H.less l' u1 (2 * i + 1) i S1 (by omega) (by omega)
        rw [hq] at L
        refine L.out rfl rfl rfl rfl ?_
        rintro x u5 ⟨rfl, S5, f5⟩
        refine (H.swap l' u5 i (2 * i + 1) S5 (by omega) (by omega)).out rfl rfl rfl rfl ?_
        rintro x u6 ⟨S6, f6⟩
        refine ⟨⟨2 * i + 1, _, rfl, by omega, (swL_perm (by omega) (by omega)).trans hp, fun p hp' => ?_, S6, hst.1, .inr ⟨by rcases hc with h | h <;> omega, hst.2.1⟩, ((f.trans f1).trans f5).trans f6⟩, ?_⟩
        · rw [swL_above (n := n) hin (by omega) (by omega) hp']; exact ha p hp'
        · show n - (2 * i + 1) < n - i; omega
  · have hJ : (2 * i + 1 - 1) / 2 = i := by omega
    have hm : ∀ c, 0 < c → c < n → (c - 1) / 2 = i → lt (atL l' c) (atL l' (2 * i + 1)) = false := fun c c0 cn e => by
      have : c = 2 * i + 1 := by omega
      subst this
      exact H.ord.irrefl _
    cases hq : lt (atL l' (2 * i + 1)) (atL l' i) with
    | false =>
      have L := H.less l' u (2 * i + 1) i hS (by omega) (by omega)
      rw [hq] at L
      refine L.out rfl rfl rfl rfl ?_
      rintro x u5 ⟨rfl, S5, f5⟩
      have hb : LowOk lt l' n i := fun c c0 cn e => H.ord.ntrans _ _ _ (hm c c0 cn e) hq
      refine ite (fun h2 => done u5 S5 hb (f.trans f5) true ⟨fun _ => by omega, fun _ => rfl⟩) (fun h2 => done u5 S5 hb (f.trans f5) false ⟨fun e => (by cases e), fun e => by omega⟩)
    | true =>
      have hst := down_step H.ord (show 2 * i + 1 < n by omega) (by omega) hx (by omega) hJ hq hm
      have L := H.less l' u (2 * i + 1) i hS (by omega) (by omega)
      rw [hq] at L
      refine L.out rfl rfl rfl rfl ?_
      rintro x u5 ⟨rfl, S5, f5⟩
      refine (H.swap l' u5 i (2 * i + 1) S5 (by omega) (by omega)).out rfl rfl rfl rfl ?_
      rintro x u6 ⟨S6, f6⟩
      refine ⟨⟨2 * i + 1, _, rfl, by omega, (swL_perm (by omega) (by omega)).trans hp, fun p hp' => ?_, S6, hst.1, .inr ⟨by rcases hc with h | h <;> omega, hst.2.1⟩, (f.trans f5).trans f6⟩, ?_⟩
      · rw [swL_above (n := n) hin (by omega) (by omega) hp']; exact ha p hp'
      · show n - (2 * i + 1) < n - i; omega
end
end Go.W
namespace Go.W
open Go Go.Proofs
open Enc (enc)
set_option maxRecDepth 10000

structure HitD where
  v : Int
  d : Int
deriving DecidableEq, Inhabited
instance : Enc HitD := ⟨2, fun x => [.int .i64 x.v, .int .i64 x.d], fun _ => rfl, by intro x u hu; simp at hu; rcases hu with rfl | rfl <;> rfl, by decide⟩
instance : EqT Try.prog E.api_Hit HitD := ⟨by kernel_rfl, fun d x y w => ⟨_, by
    rw [run_struct (l := [(E.int, 0), (E.int, 1)]) (by kernel_rfl) (d + 7)]
    exact eqL_int rfl rfl (eqL_int rfl rfl (eqL_nil _ _ _ _)), by cases x; cases y; simp⟩⟩

/-! plain -/
theorem r09_Same_sp {a b : Option Addr} {na ca nb cb : Nat} {la lb : List HitD} {w : World} (ha : SlF w (.slice a na ca) la) (hb : SlF w (.slice b nb cb) lb) (hn : la.length ≤ 1000000) :
    Sp Try.prog F.r09_Same #[.slice a na ca, .slice b nb cb] w fun v w' => Tells (la = lb) v ∧ Stp w w' := by
  have q_ := ha.len
  obtain rfl := q_
  have q_ := hb.len
  obtain rfl := q_
  refine en TBok rfl ?_
  refine ite (fun h => ⟨.f (fun e => h (by rw [e])), stp⟩) (fun h => ?_)
  have hl : la.length = lb.length := by omega
  refine cnt TBok 6 [4] 5 la.length (fun k w' => la.take k = lb.take k ∧ Stp w w') rfl rfl ⟨by simp, stp⟩ ?_
  rintro k g w' hk ⟨ht, e⟩
  refine ite (fun hlt => ?_) (fun hge => ?_)
  · have hka : k < la.length := by omega
    have hkb : k < lb.length := by omega
    refine drawR TBok mixed (fun _ => False) (upF 9 0) (by kernel_rfl) fun w1 e1 _ => ?_
    refine tix ha.up (x := la[k]) (by simp) fun b1 o1 A1 _ => tloadA A1 rfl not_false ?_
    refine tix hb.up (x := lb[k]) (by simp) fun b2 o2 A2 _ => tloadA A2 rfl not_false ?_
    refine tgne HitD la[k] lb[k] (fun hne => ⟨.f (by rintro rfl; exact hne rfl), stp⟩) (fun he => ?_)
    refine rar (by omega) ⟨rfl, hka, ?_, stp⟩
    rw [take_add hka, take_add hkb, ht, he]
  · have q_ : k = la.length := by omega
    obtain rfl := q_
    rw [List.take_of_length_le (Nat.le_refl _), List.take_of_length_le (by omega)] at ht
    exact ⟨.t ht, e⟩
end Go.W
namespace Go.W
open Go Go.Proofs
open Enc (enc)
set_option maxRecDepth 10000

theorem getD_eq {α : Type} {l : List α} {k : Nat} (h : k < l.length) (z : α) : l.getD k z = l[k] := by simp [h]
theorem below {p : Nat → Prop} {k : Nat} (h : ∀ j, j < k → p j) (hk : p k) : ∀ j, j < k + 1 → p j := fun j hj => by
  have q_ := Nat.lt_or_ge j k
  rcases q_ with h' | h'
  · exact h j h'
  · have q_ : j = k := by omega
    obtain rfl := q_
    exact hk

theorem below2 {n j : Nat} {p : (i : Nat) → i < n → Prop} (h : ∀ i, i < j → ∀ hl : i < n, p i hl) (hj : ∀ hl : j < n, p j hl) : ∀ i, i < j + 1 → ∀ hl : i < n, p i hl := fun i hi hl => by
  have q_ := Nat.lt_or_ge i j
  rcases q_ with h' | h'
  · exact h i h' hl
  · have q_ : i = j := by omega
    obtain rfl := q_
    exact hj hl

theorem r01_Ints_sp {a b : Option Addr} {na ca nb cb : Nat} {la lb : List Int} {w : World} (ha : SlF w (.slice a na ca) la) (hb : SlF w (.slice b nb cb) lb) (hn : la.length ≤ 1000000) :
    Sp Try.prog F.r01_Ints #[.slice a na ca, .slice b nb cb] w fun v w' => Tells (la = lb) v ∧ Stp w w' := by
  have q_ := ha.len
  obtain rfl := q_
  have q_ := hb.len
  obtain rfl := q_
  refine en TBok rfl ?_
  refine ite (fun h => ⟨.f (fun e => h (by rw [e])), stp⟩) (fun h => ?_)
  have hl : la.length = lb.length := by omega
  refine cnt TBok 6 [4] 5 la.length (fun k w' => la.take k = lb.take k ∧ Stp w w') rfl rfl ⟨by simp, stp⟩ ?_
  rintro k g w' hk ⟨ht, e⟩
  refine ite (fun hlt => ?_) (fun hge => ?_)
  · have hka : k < la.length := by omega
    have hkb : k < lb.length := by omega
    refine drawR TBok mixed (fun _ => False) (upF 9 0) (by kernel_rfl) fun w1 e1 _ => ?_
    refine tix ha.up (x := la[k]) (by simp) fun b1 o1 A1 _ => ?_
    refine tload1 (A1.cell0 rfl) id ?_
    refine tix hb.up (x := lb[k]) (by simp) fun b2 o2 A2 _ => ?_
    refine tload1 (A2.cell0 rfl) id ?_
    refine ite (fun hne => ⟨.f (by rintro rfl; exact hne rfl), stp⟩) (fun he => ?_)
    refine rar (by omega) ⟨rfl, hka, ?_, stp⟩
    rw [take_add hka, take_add hkb, ht, Classical.not_not.1 he]
  · have q_ : k = la.length := by omega
    obtain rfl := q_
    rw [List.take_of_length_le (Nat.le_refl _), List.take_of_length_le (by omega)] at ht
    exact ⟨.t ht, e⟩

theorem r01_Own_sp {a : Option Addr} {n c : Nat} {l : List Int} {w : World} (h : SlF w (.slice a n c) l) (hn : l.length ≤ 1000000) : Sp Try.prog F.r01_Own #[.slice a n c] w fun v w' => Own w.heap.size E.int w' v l ∧ Stp w w' := by
  have q_ := h.len
  obtain rfl := q_
  refine en TBok rfl ?_
  refine rapp (u := w) ⟨rfl, rfl⟩ (Own.nil _ E.int _) h (by simp; omega) fun v3 w3 O3 f3 s3 => ?_
  rw [List.nil_append] at O3
  exact ⟨O3, stp⟩

def insR (x : Int) (l : List Int) : List Int := if (l.dropWhile (· < x)).head? = some x then l else l.takeWhile (· < x) ++ x :: l.dropWhile (· < x)
def risingL (l : List Int) : List Int := l.foldl (fun o x => insR x o) []
/-- where those end that are less -/
def ltN (x : Int) (l : List Int) : Nat := (l.takeWhile (· < x)).length
theorem ltN_le (x : Int) (l : List Int) : ltN x l ≤ l.length := (List.takeWhile_prefix _).length_le
theorem ltN_of {x : Int} {l : List Int} {k : Nat} (hk : k ≤ l.length) (h1 : ∀ j, j < k → (hl : j < l.length) → l[j] < x) (h2 : (hl : k < l.length) → ¬ l[k] < x) : ltN x l = k := by
  induction l generalizing k with
  | nil => simp at hk; simp [ltN, hk]
  | cons y r ih =>
    unfold ltN at *
    cases k with
    | zero =>
      have h2 : ¬ y < x := h2 (by simp)
      rw [List.takeWhile_cons]; simp [h2]
    | succ k =>
      have hy : y < x := h1 0 (by omega) (by simp)
      rw [List.takeWhile_cons]
      simp only [hy, decide_true, if_true, List.length_cons]
      rw [ih (k := k) (by simpa using hk) (fun j hj hl => h1 (j + 1) (by omega) (by simpa using hl)) (fun hl => h2 (by simpa using hl))]
theorem takeWhile_eq (x : Int) (l : List Int) : l.takeWhile (· < x) = l.take (ltN x l) := by
  unfold ltN
  exact (List.prefix_iff_eq_take.1 (List.takeWhile_prefix _))
theorem dropWhile_eq (x : Int) (l : List Int) : l.dropWhile (· < x) = l.drop (ltN x l) := by
  unfold ltN
  have h := List.takeWhile_append_dropWhile (p := fun y => decide (y < x)) (l := l)
  have h2 := congrArg (List.drop (l.takeWhile fun y => decide (y < x)).length) h
  rw [List.drop_left] at h2
  exact h2
theorem insR_eq (x : Int) (l : List Int) : insR x l = if l[ltN x l]? = some x then l else l.take (ltN x l) ++ x :: l.drop (ltN x l) := by
  unfold insR; rw [takeWhile_eq, dropWhile_eq, List.head?_drop]
theorem insR_len (x : Int) (l : List Int) : (insR x l).length ≤ l.length + 1 := by
  rw [insR_eq]; split
  · omega
  · simp; omega
theorem rising_take {l : List Int} {k : Nat} (h : k < l.length) : risingL (l.take (k + 1)) = insR l[k] (risingL (l.take k)) := by
  unfold risingL; rw [take_add h, List.foldl_append]; rfl
theorem rising_len (l : List Int) : (risingL l).length ≤ l.length := by
  have : ∀ (l o : List Int), (l.foldl (fun o x => insR x o) o).length ≤ o.length + l.length := by
    intro l
    induction l with
    | nil => intro o; simp
    | cons x r ih => intro o; have := ih (insR x o); have := insR_len x o; simp only [List.foldl_cons, List.length_cons]; omega
  have := this l []; unfold risingL; simpa using this
theorem rising_lt (l : List Int) {k : Nat} (h : k ≤ l.length) : (risingL (l.take k)).length ≤ k := by
  have := rising_len (l.take k); rw [List.length_take] at this; omega

theorem r05_Rising_sp {a : Option Addr} {n c : Nat} {l : List Int} {w : World} (h : SlF w (.slice a n c) l) (hn : l.length ≤ 1000000) : Sp Try.prog F.r05_Rising #[.slice a n c] w fun v w' => Own w.heap.size E.int w' v (risingL l) ∧ Stp w w' := by
  have q_ := h.len
  obtain rfl := q_
  refine en TBok rfl ?_
  refine cnt1 TBok 7 [5, 6] 3 4 l.length (fun k v u => Own w.heap.size E.int u v (risingL (l.take k)) ∧ Stp w u) rfl rfl ⟨Own.nil _ _ _, stp⟩ ?_
  rintro k v g u hk ⟨O, e⟩
  have q_ := O.shape
  obtain ⟨oa, oc, rfl⟩ := q_
  have hrl := rising_lt l hk
  refine ite (fun hlt => ?_) (fun hge => ?_)
  · have hka : k < l.length := by omega
    have hri := rising_take hka
    refine cntJ TBok 2 7 [] 5 (risingL (l.take k)).length (fun j u' => (∀ i, i < j → (hl : i < (risingL (l.take k)).length) → (risingL (l.take k))[i] < l[k]) ∧ Stp u u') (fun j u' => j ≤ (risingL (l.take k)).length ∧ ltN l[k] (risingL (l.take k)) = j ∧ Stp u u') rfl rfl ⟨by omega, stp⟩ ?_ ?_
    · rintro j g u' hj ⟨hb, e'⟩
      refine drawR TBok mixed (fun _ => False) (upF 15 0) (by kernel_rfl) fun u1 e1 _ => ?_
      refine ite (fun h1 => ?_) (fun h1 => ⟨j, rfl, hj, ltN_of hj hb fun h => absurd h (by omega), stp⟩)
      have hja : j < (risingL (l.take k)).length := by omega
      refine tix (O.sl.up (w' := u1)) (x := (risingL (l.take k))[j]) (by simp) fun b1 o1 A1 _ => tload1 (A1.cell0 rfl) not_false ?_
      refine tix (h.up (w' := u1)) (x := l[k]) (by simp) fun b1 o1 A1 _ => tload1 (A1.cell0 rfl) not_false ?_
      refine ite (fun h2 => ?_) (fun h2 => ⟨j, rfl, hj, ltN_of hj hb fun _ => h2, stp⟩)
      exact rar (by omega) ⟨rfl, hja, below2 hb fun _ => h2, stp⟩
    rintro j g u' ⟨hj, hL, e'⟩
    have hin := insR_eq l[k] (risingL (l.take k))
    rw [hL] at hin
    refine drawR TBok mixed (fun _ => False) (upF 15 0) (by kernel_rfl) fun u2 e2 _ => ?_
    refine ite (fun h3 => ?pos2) (fun h3 => ?neg2)
    case' pos2 =>
      have hja : j < (risingL (l.take k)).length := by omega
      refine tix (O.sl.up (w' := u2)) (x := (risingL (l.take k))[j]) (by simp) fun b1 o1 A1 _ => tload1 (A1.cell0 rfl) not_false ?_
      refine tix (h.up (w' := u2)) (x := l[k]) (by simp) fun b1 o1 A1 _ => tload1 (A1.cell0 rfl) not_false ?_
      refine ite (fun h4 => ?same) (fun h4 => ?new)
      case same =>
        have O6 : Own w.heap.size E.int u2 (.slice oa (risingL (l.take k)).length oc) (risingL (l.take (k + 1))) := by
          rw [hri, hin, if_pos (by simp [hja, h4])]; exact O.up
        exact rar (by omega) ⟨rfl, hka, O6, stp⟩
      have hne : ¬ (risingL (l.take k))[j]? = some l[k] := by simpa [hja] using h4
    case' neg2 =>
      have hne : ¬ (risingL (l.take k))[j]? = some l[k] := by rw [List.getElem?_eq_none (by omega)]; simp
    all_goals
      rw [if_neg hne] at hin
      refine rsl none (some j) (O.sl.up (w' := u2)) (by simp) (by simpa using hj) fun a1 c1 S1 => ?_
      refine rapp (u := u2) ⟨rfl, rfl⟩ (Own.nil _ E.int _) S1 (by simp; omega) fun v3 w3 O3 f3 s3 => ?_
      refine rix (h.up (w' := w3)) (x := l[k]) (by simp) fun b1 o1 A1 => rload1 (A1.cell0 rfl) ?_
      refine rbs1 l[k] rfl rfl (by decide) fun b4 w4 e4 _ S4 => ?_
      refine rapp1 (u := u2) ⟨rfl, rfl⟩ O3.up S4 (by simp; omega) fun v5 w5 O5 f5 s5 => ?_
      refine rsl (some j) none (O.sl.up (w' := w5)) (by simpa using hj) (by simp) fun a1 c1 S6 => ?_
      refine rapp (u := u2) ⟨rfl, rfl⟩ O5 S6 (by simp; omega) fun v7 w7 O7 f7 s7 => ?_
      have O8 : Own u2.heap.size E.int w7 v7 (risingL (l.take (k + 1))) := by
        rw [hri, hin]
        rw [sl_take, sl_drop] at O7
        simpa using O7
      exact rar (by omega) ⟨rfl, hka, O8.older, stp⟩
  · have q_ : k = l.length := by omega
    obtain rfl := q_
    have O6 : Own w.heap.size E.int u (.slice oa (risingL (l.take l.length)).length oc) (risingL l) := by rw [List.take_length] at O ⊢; exact O
    exact ⟨O6, stp⟩
end Go.W
namespace Go.W

abbrev Rises (l : List Int) : Prop := l.Pairwise (· < ·)
theorem mem_tw {x y : Int} : ∀ {l : List Int}, y ∈ l.takeWhile (fun y => decide (y < x)) → y < x
  | [], h => by cases h
  | z :: r, h => by
    rw [List.takeWhile_cons] at h
    split at h
    · rename_i hz
      have q_ := List.mem_cons.1 h
      rcases q_ with rfl | h
      · simpa using hz
      · exact mem_tw h
    · cases h
theorem insR_cases (x : Int) (l : List Int) (h : Rises l) : (x ∈ l ∧ insR x l = l) ∨ (x ∉ l ∧ insR x l = l.takeWhile (· < x) ++ x :: l.dropWhile (· < x)) := by
  have hs := List.takeWhile_append_dropWhile (p := fun y => decide (y < x)) (l := l)
  have htw : ∀ y ∈ l.takeWhile (fun y => decide (y < x)), y < x := fun y hy => mem_tw hy
  cases hd : l.dropWhile (fun y => decide (y < x)) with
  | nil =>
    right
    refine ⟨fun hx => ?_, ?_⟩
    · rw [← hs, hd, List.append_nil] at hx
      exact absurd (htw x hx) (by omega)
    · unfold insR; rw [hd]; simp
  | cons y r =>
    have hy : ¬ y < x := by
      have := List.head?_dropWhile_not (fun y => decide (y < x)) l
      rw [hd] at this; simpa using this
    have hsr : Rises (y :: r) := by
      rw [← hd]; exact List.Pairwise.sublist (List.dropWhile_sublist _) h
    by_cases he : y = x
    · subst he
      left
      refine ⟨by rw [← hs, hd]; simp, ?_⟩
      unfold insR; rw [hd]; simp
    · right
      refine ⟨fun hx => ?_, ?_⟩
      · rw [← hs, hd] at hx
        have q_ := List.mem_append.1 hx
        rcases q_ with hx | hx
        · exact absurd (htw x hx) (by omega)
        · have q_ := List.mem_cons.1 hx
          rcases q_ with hx | hx
          · exact he hx.symm
          · have := (List.pairwise_cons.1 hsr).1 x hx
            omega
      · unfold insR; rw [hd]; simp [he]
theorem insR_mem (x y : Int) (l : List Int) (h : Rises l) : y ∈ insR x l ↔ y = x ∨ y ∈ l := by
  have q_ := insR_cases x l h
  rcases q_ with ⟨h1, h2⟩ | ⟨h1, h2⟩
  · rw [h2]; exact ⟨.inr, fun h => h.elim (fun h => h ▸ h1) id⟩
  · rw [h2]
    have hs := List.takeWhile_append_dropWhile (p := fun y => decide (y < x)) (l := l)
    conv => rhs; rw [← hs]
    simp only [List.mem_append, List.mem_cons]
    constructor
    · rintro (h | h | h) <;> simp [h]
    · rintro (h | h | h) <;> simp [h]
theorem insR_rises (x : Int) (l : List Int) (h : Rises l) : Rises (insR x l) := by
  have q_ := insR_cases x l h
  rcases q_ with ⟨h1, h2⟩ | ⟨h1, h2⟩
  · rw [h2]; exact h
  · rw [h2]
    have hs := List.takeWhile_append_dropWhile (p := fun y => decide (y < x)) (l := l)
    have htw : ∀ y ∈ l.takeWhile (fun y => decide (y < x)), y < x := fun y hy => mem_tw hy
    have h' := h
    rw [← hs] at h'
    have q_ := List.pairwise_append.1 h'
    obtain ⟨p1, p2, p3⟩ := q_
    have hdw : ∀ y ∈ l.dropWhile (fun y => decide (y < x)), x < y := by
      intro y hy
      cases hd : l.dropWhile (fun y => decide (y < x)) with
      | nil => rw [hd] at hy; cases hy
      | cons z r =>
        have hz : ¬ z < x := by
          have := List.head?_dropWhile_not (fun y => decide (y < x)) l
          rw [hd] at this; simpa using this
        have hzx : z ≠ x := fun e => h1 (by rw [← hs, hd, e]; simp)
        rw [hd] at hy p2
        have q_ := List.mem_cons.1 hy
        rcases q_ with rfl | hy
        · omega
        · have := (List.pairwise_cons.1 p2).1 y hy; omega
    refine List.pairwise_append.2 ⟨p1, List.pairwise_cons.2 ⟨hdw, p2⟩, fun a ha b hb => ?_⟩
    have q_ := List.mem_cons.1 hb
    rcases q_ with rfl | hb
    · exact htw a ha
    · exact p3 a ha b hb
theorem insR_length (x : Int) (l : List Int) (h : Rises l) : (insR x l).length = if x ∈ l then l.length else l.length + 1 := by
  have q_ := insR_cases x l h
  rcases q_ with ⟨h1, h2⟩ | ⟨h1, h2⟩
  · rw [h2, if_pos h1]
  · rw [h2, if_neg h1]
    have hs := congrArg List.length (List.takeWhile_append_dropWhile (p := fun y => decide (y < x)) (l := l))
    simp only [List.length_append, List.length_cons] at hs ⊢
    omega
theorem rising_snoc (l : List Int) (x : Int) : risingL (l ++ [x]) = insR x (risingL l) := by unfold risingL; rw [List.foldl_append]; rfl
theorem rising_spec (l : List Int) : Rises (risingL l) ∧ ∀ y, y ∈ risingL l ↔ y ∈ l := by
  have key : ∀ n, n ≤ l.length → Rises (risingL (l.take n)) ∧ ∀ y, y ∈ risingL (l.take n) ↔ y ∈ l.take n := by
    intro n
    induction n with
    | zero => intro _; rw [List.take_zero]; exact ⟨List.Pairwise.nil, fun y => Iff.rfl⟩
    | succ n ih =>
      intro hn
      have q_ := ih (by omega)
      obtain ⟨h1, h2⟩ := q_
      rw [take_add (show n < l.length by omega), rising_snoc]
      refine ⟨insR_rises _ _ h1, fun y => ?_⟩
      rw [insR_mem _ _ _ h1, h2, List.mem_append, List.mem_singleton]
      exact or_comm
  have := key l.length (Nat.le_refl _)
  rwa [List.take_length] at this
theorem rising_nodup (l : List Int) : (risingL l).length = l.length ↔ l.Nodup := by
  have key : ∀ n, n ≤ l.length → ((risingL (l.take n)).length = n ↔ (l.take n).Nodup) := by
    intro n
    induction n with
    | zero => intro _; rw [List.take_zero]; exact ⟨fun _ => List.nodup_nil, fun _ => rfl⟩
    | succ n ih =>
      intro hn
      have ih := ih (by omega)
      have hlt : n < l.length := by omega
      have q_ := rising_spec (l.take n)
      obtain ⟨h1, h2⟩ := q_
      have hle := rising_lt l (Nat.le_of_lt hlt)
      rw [take_add hlt, rising_snoc, insR_length _ _ h1, List.nodup_append]
      by_cases hm : l[n] ∈ l.take n
      · rw [if_pos ((h2 _).2 hm)]
        constructor
        · intro h; omega
        · intro h; exact absurd rfl (h.2.2 _ hm l[n] (by simp))
      · rw [if_neg fun h => hm ((h2 _).1 h)]
        constructor
        · intro h
          refine ⟨ih.1 (by omega), by simp, fun a ha b hb => ?_⟩
          simp only [List.mem_singleton] at hb
          subst hb
          exact fun e => hm (e ▸ ha)
        · intro h; rw [ih.2 h.1]
  have := key l.length (Nat.le_refl _)
  rwa [List.take_length] at this
end Go.W
