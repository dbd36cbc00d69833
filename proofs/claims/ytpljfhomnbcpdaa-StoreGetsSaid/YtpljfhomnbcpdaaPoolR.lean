/-
  Proved here: pools, as the reference has them: right or not, made, taken from, given back, compared (contracts).
  Conditions: the row of a pool can be read, and is no longer than is said at each.
-/
import Derived.Test.YtpljfhomnbcpdaaRise
namespace Go.W
open Go Go.Proofs
open Enc (enc)
set_option maxRecDepth 10000

/-! what is computed: a pool is its size and its free numbers -/
def okP (sz : Int) (fr : List Int) : Prop := 1 ≤ sz ∧ sz ≤ 400 ∧ (∀ x ∈ fr, 0 ≤ x ∧ x < sz) ∧ fr.Nodup
instance (sz : Int) (fr : List Int) : Decidable (okP sz fr) := by unfold okP; exact inferInstance
abbrev PoolD := Int × List Int
def zP : PoolD := (0, [])
def takeP (p : PoolD) : Int × PoolD × Int := if okP p.1 p.2 then (match p.2.getLast? with | none => (0, zP, 140) | some x => (x, (p.1, p.2.dropLast), 0)) else (0, zP, 130)
def giveP (p : PoolD) (n : Int) : PoolD × Int := if okP p.1 p.2 then (if n < 0 ∨ p.1 ≤ n then (zP, 1) else if n ∈ p.2 then (zP, 150) else ((p.1, p.2 ++ [n]), 0)) else (zP, 130)
def takesP (p : PoolD) (m : Int) : List Int × PoolD × Int :=
  if okP p.1 p.2 then (if m < 0 then ([], zP, 1) else if (p.2.length : Int) < m then ([], zP, 140) else ((p.2.drop (p.2.length - m.toNat)).reverse, (p.1, p.2.take (p.2.length - m.toNat)), 0)) else ([], zP, 130)
def downTo (n : Nat) : List Int := (List.range n).reverse.map fun k : Nat => (k : Int)
def newP (n : Int) : PoolD × Int := if n < 1 ∨ 400 < n then (zP, 1) else ((n, downTo n.toNat), 0)

/-- a pool as a value -/
abbrev plV (sz : Int) (a : Option Addr) (n c : Nat) : Value := .agg #[.int .i64 sz, .slice a n c]
theorem pl_one (sz : Int) (a : Option Addr) (n c : Nat) : ∀ u ∈ [Value.int .i64 sz, .slice a n c], u.oneCell' = true := by intro u hu; simp at hu; rcases hu with rfl | rfl <;> rfl
/-- a pool whose row of free numbers is made by the call -/
def PoolO (B : Nat) (w : World) (v : Value) (p : PoolD) : Prop := ∃ a c, v = plV p.1 a p.2.length c ∧ Own B E.int w (.slice a p.2.length c) p.2
theorem PoolO.up {B : Nat} {w w' : World} [L : Le w w'] {v : Value} {p : PoolD} (h : PoolO B w v p) : PoolO B w' v p := by obtain ⟨a, c, h1, h2⟩ := h; exact ⟨a, c, h1, h2.up⟩
theorem PoolO.older {u u' : World} {w : World} [h : Le u' u] {v : Value} {p : PoolD} (a : PoolO u.heap.size w v p) : PoolO u'.heap.size w v p := by obtain ⟨s, c, h1, h2⟩ := a; exact ⟨s, c, h1, h2.older⟩
theorem PoolO.mk {B : Nat} {w : World} {sz : Int} {a : Option Addr} {n c : Nat} {l : List Int} (h : Own B E.int w (.slice a n c) l) : PoolO B w (plV sz a n c) (sz, l) := by
  have q_ := h.sl.len
  obtain rfl := q_
  exact ⟨a, c, rfl, h⟩
theorem zP_o (B : Nat) (w : World) : PoolO B w (plV 0 none 0 0) zP := ⟨none, 0, rfl, Own.nil _ _ _⟩

theorem r13_Check_sp {sz : Int} {a : Option Addr} {n c : Nat} {l : List Int} {w : World} (h : SlF w (.slice a n c) l) (hn : l.length ≤ 1000000) :
    Sp Try.prog F.r13_Check #[plV sz a n c] w fun v w' => Tells (okP sz l) v ∧ Stp w w' := by
  have q_ := h.len
  obtain rfl := q_
  refine en TBok rfl ?_
  refine rbx fun b w1 n1 B1 => ?_
  refine rld rfl ?_
  refine ite (fun h1 => ⟨.f fun o => by have := o.1; omega, stp⟩) (fun h1 => ?_)
  refine rld rfl ?_
  refine ite (fun h2 => ⟨.f fun o => by have := o.2.1; omega, stp⟩) (fun h2 => ?_)
  refine cnt TBok 4 [2] 3 l.length (fun k u => (∀ j, j < k → (hl : j < l.length) → 0 ≤ l[j] ∧ l[j] < sz) ∧ Stp w1 u) rfl rfl ⟨by omega, stp⟩ ?_
  rintro k g u hk ⟨hb, e⟩
  refine rld rfl ?_
  refine ite (fun hlt => ?_) (fun hge => ?_)
  · have hka : k < l.length := by omega
    refine drawR TBok mixed (fun _ => False) (upF 16 0) (by kernel_rfl) fun u1 e1 _ => ?_
    refine tld rfl not_false ?_
    refine tix (h.up (w' := u1)) (x := l[k]) (by simp) fun b1 o1 A1 _ => tload1 (A1.cell0 rfl) not_false ?_
    refine ite (fun h3 => ⟨.f fun o => by have := o.2.2.1 _ (List.getElem_mem hka); omega, stp⟩) (fun h3 => ?_)
    refine tld rfl not_false ?_
    refine tix (h.up (w' := u1)) (x := l[k]) (by simp) fun b1 o1 A1 _ => tload1 (A1.cell0 rfl) not_false ?_
    refine tld rfl not_false ?_
    refine ite (fun h4 => ⟨.f fun o => by have := o.2.2.1 _ (List.getElem_mem hka); omega, stp⟩) (fun h4 => ?_)
    exact rar (by omega) ⟨rfl, hka, below2 hb fun _ => ⟨by omega, by omega⟩, stp⟩
  · have q_ : k = l.length := by omega
    obtain rfl := q_
    refine drawR TBok mixed (fun _ => False) [0,1,4,5,6,2,3,7,8] (by kernel_rfl) fun u1 e1 _ => ?_
    refine tld rfl not_false ?_
    refine tld rfl not_false ?_
    refine rcall (r05_Rising_sp (h.up (w' := u1)) hn) ?_
    rintro v u2 ⟨O2, e2⟩
    have q_ := O2.shape
    obtain ⟨a2, c2, rfl⟩ := q_
    refine ⟨e2.e, ?_⟩
    have hnd := rising_nodup l
    have hall : ∀ x ∈ l, 0 ≤ x ∧ x < sz := fun x hx => by
      have q_ := List.mem_iff_getElem.1 hx
      obtain ⟨j, hj, rfl⟩ := q_
      exact hb j hj hj
    refine ite (fun h5 => ⟨.t ⟨by omega, by omega, hall, hnd.1 (by omega)⟩, stp⟩) (fun h5 => ⟨.f fun o => h5 (by rw [hnd.2 o.2.2.2]), stp⟩)

/-- a result that is stored where a pool is returned -/
theorem r13_Own_sp {sz : Int} {a : Option Addr} {n c : Nat} {l : List Int} {w : World} (h : SlF w (.slice a n c) l) (hn : l.length ≤ 1000000) :
    Sp Try.prog F.r13_Own #[plV sz a n c] w fun v w' => PoolO w.heap.size w' v (sz, l) ∧ Stp w w' := by
  have q_ := h.len
  obtain rfl := q_
  refine en TBok rfl ?_
  refine rbx fun b w1 n1 B1 => ?_
  refine ral fun b2 w2 n2 B2 => ?_
  have hb1 := n1.b; have hb2 := n2.b; have hs1 := n1.s
  refine drawR TBok mixed (fun i => i = b2 ∨ w2.heap.size ≤ i) (upF 7 0) (by kernel_rfl) fun u1 e1 _ => ?_
  refine tld rfl (by have := B1.lt; have := n2.lt; omega) ?_
  refine tld rfl (by have := B1.lt; have := n2.lt; omega) ?_
  refine rcall (r01_Own_sp (h.up (w' := u1)) hn) ?_
  rintro v u2 ⟨O2, e2⟩
  have q_ := O2.shape
  obtain ⟨a2, c2, rfl⟩ := q_
  refine ⟨e2.e.fr, ?_⟩
  refine tbuild (cs := [.int .i64 sz, .slice a2 l.length c2]) rfl ?_
  refine rsto (vs := [.int .i64 sz, .slice a2 l.length c2]) rfl rfl rfl (pl_one _ _ _ _) fun u3 B3 f3 _ => ?_
  have s3 : Stp w1 u3 := ⟨Fr.st Le.e f3 fun i hi => by subst hi; exact n2.lo⟩
  refine ⟨f3.mono fun i _ hi => .inl hi, ?_⟩
  refine rresG rfl ?_
  exact ⟨(PoolO.mk (O2.frc f3 (B2.mv (w := u2)) (by decide))).older, stp⟩

theorem downTo_len (n : Nat) : (downTo n).length = n := by simp [downTo]
theorem downTo_get {n k : Nat} (h : k < n) : (downTo n)[k]? = some (((n - 1 - k : Nat)) : Int) := by
  unfold downTo
  rw [List.getElem?_map, List.getElem?_reverse (by simpa using h), List.length_range, List.getElem?_range (by omega)]; rfl
theorem downTo_succ {n k : Nat} (h : k < n) : (downTo n).take (k + 1) = (downTo n).take k ++ [((n - 1 - k : Nat) : Int)] := by
  have hl := downTo_len n
  rw [take_add (by omega)]
  have := downTo_get h
  have q_ := List.getElem?_eq_some_iff.1 this
  obtain ⟨h1, h2⟩ := q_
  rw [h2]

theorem r13_New_sp {size : Int} {w : World} : Sp Try.prog F.r13_New #[.int .i64 size] w fun v w' => (∃ pv, v = .tuple #[pv, .int .i64 (newP size).2] ∧ PoolO w.heap.size w' pv (newP size).1) ∧ Stp w w' := by
  refine en TBok rfl ?_
  refine ral fun b1 w1 n1 B1 => ?_
  unfold newP
  refine ite (fun h1 => ?_) (fun h1 => ?_)
  · rw [if_pos (.inl h1)]
    refine rbuild (cs := [.int .i64 0, .slice none 0 0]) rfl ?_
    refine rsto (vs := [.int .i64 0, .slice none 0 0]) rfl rfl rfl (pl_one _ _ _ _) fun w2 B2 f2 _ => ?_
    have s2 : Stp w w2 := ⟨Fr.st Le.e f2 fun i hi => by subst hi; exact n1.lo⟩
    refine rresG rfl ?_
    exact ⟨⟨_, rfl, zP_o _ _⟩, stp⟩
  refine ite (fun h2 => ?_) (fun h2 => ?_)
  · rw [if_pos (.inr h2)]
    refine rbuild (cs := [.int .i64 0, .slice none 0 0]) rfl ?_
    refine rsto (vs := [.int .i64 0, .slice none 0 0]) rfl rfl rfl (pl_one _ _ _ _) fun w2 B2 f2 _ => ?_
    have s2 : Stp w w2 := ⟨Fr.st Le.e f2 fun i hi => by subst hi; exact n1.lo⟩
    refine rresG rfl ?_
    exact ⟨⟨_, rfl, zP_o _ _⟩, stp⟩
  rw [if_neg (by omega)]
  have q_ := Int.eq_ofNat_of_zero_le (show (0 : Int) ≤ size by omega)
  obtain ⟨N, rfl⟩ := q_
  rw [Int.toNat_natCast]
  have hdl := downTo_len N
  refine rbuild (cs := [.int .i64 (N : Nat), .slice none 0 0]) rfl ?_
  refine ral fun b2 w2 n2 B2 => ?_
  refine rsto (vs := [.int .i64 (N : Nat), .slice none 0 0]) rfl rfl rfl (pl_one _ _ _ _) fun w3 B3 f3 _ => ?_
  have s3 : Stp w1 w3 := ⟨Fr.st Le.e f3 fun i hi => by subst hi; exact n2.lo⟩
  refine rarE (y := (N : Int) - 1 - (0 : Nat)) (by omega) (by omega) ?_
  refine loop1 TBok 6 [] 5 (fun v u => ∃ k : Nat, k ≤ N ∧ v = .int .i64 ((N : Int) - 1 - k) ∧ ∃ a c, Bk u b2 [.int .i64 (N : Nat), .slice a k c] E.api_Pool ∧ Own w1.heap.size E.int u (.slice a k c) ((downTo N).take k) ∧ Stp w1 u) (fun v _ => ((Go.RowKit.intOf v) + 1).toNat) rfl
    ⟨0, by omega, rfl, none, 0, B3, Own.nil _ _ _, stp⟩ ?_
  rintro v g u ⟨k, hk, rfl, a, c, Bp, O, e⟩
  refine ite (fun hlt => ?_) (fun hge => ?_)
  · have hka : k < N := by omega
    refine rld rfl ?_
    refine rbs1 ((N : Int) - 1 - k) rfl rfl (by decide) fun b4 w4 e4 _ S4 => ?_
    refine rapp1 (u := w1) ⟨rfl, rfl⟩ O.up S4 (by rw [List.length_take]; omega) fun v5 w5 O5 f5 s5 => ?_
    have Bp5 := (Bp.mv (w := w4)).fro O.up f5 (by decide)
    have hn5 : ((downTo N).take k ++ [((N : Int) - 1 - k)]) = (downTo N).take (k + 1) := by
      rw [downTo_succ hka, show (((N - 1 - k : Nat)) : Int) = (N : Int) - 1 - k by omega]
    rw [hn5] at O5
    have hl5 : ((downTo N).take (k + 1)).length = k + 1 := by rw [List.length_take]; omega
    have q5 := O5.shape
    rw [hl5] at q5
    obtain ⟨a5, c5, rfl⟩ := q5
    refine rsto (vs := [.slice a5 (k + 1) c5]) rfl rfl rfl (by simp; rfl) fun w6 B6 f6 _ => ?_
    have s6 : Stp w1 w6 := ⟨Fr.st Le.e f6 fun i hi => by subst hi; exact n2.lo⟩
    refine rarE (y := (N : Int) - 1 - ((k + 1 : Nat) : Int)) (by omega) (by omega) ⟨⟨k + 1, by omega, rfl, a5, c5, B6, O5.frc f6 Bp5 (by decide), s6⟩, ?_⟩
    show (((N : Int) - 1 - ((k + 1 : Nat) : Int)) + 1).toNat < (((N : Int) - 1 - k) + 1).toNat
    omega
  · have q_ : k = N := by omega
    obtain rfl := q_
    refine rldG rfl rfl ?_
    have C1 := B1.mv (w := u)
    refine rsto (B := C1) (vs := [.int .i64 (k : Nat), .slice a k c]) rfl rfl rfl (pl_one _ _ _ _) fun w6 B6 f6 _ => ?_
    have s6 : Stp w w6 := ⟨Fr.st Le.e f6 fun i hi => by subst hi; exact n1.lo⟩
    refine rresG rfl ?_
    have O6 := O.frc f6 C1 (by decide)
    rw [List.take_of_length_le (by omega)] at O6
    exact ⟨⟨_, rfl, (PoolO.mk O6).older⟩, stp⟩

theorem r13_Take_sp {sz : Int} {a : Option Addr} {n c : Nat} {l : List Int} {w : World} (h : SlF w (.slice a n c) l) (hn : l.length ≤ 1000000) :
    Sp Try.prog F.r13_Take #[plV sz a n c] w fun v w' => (∃ pv, v = .tuple #[.int .i64 (takeP (sz, l)).1, pv, .int .i64 (takeP (sz, l)).2.2] ∧ PoolO w.heap.size w' pv (takeP (sz, l)).2.1) ∧ Stp w w' := by
  have q_ := h.len
  obtain rfl := q_
  refine en TBok rfl ?_
  refine rbx fun b1 w1 n1 B1 => ral fun b3 w2 n2 B3 => ?_
  have hb1 := n1.b; have hb3 := n2.b; have hs1 := n1.s; have hs2 := n2.s
  refine rldG rfl rfl ?_
  refine rcall (r13_Check_sp (h.up (w' := w2)) hn) ?_
  rintro v w3 ⟨⟨rfl, ho⟩ | ⟨rfl, ho⟩, e3⟩
  · cases hl : l.getLast? with
    | none =>
      have q_ := List.getLast?_eq_none_iff.1 hl
      obtain rfl := q_
      have ht : takeP (sz, []) = (0, zP, 140) := by unfold takeP; rw [if_pos ho]; rfl
      rw [ht]
      refine rld rfl ?_
      refine rar (by simp) ?_
      refine ite (fun _ => ?_) (fun h => absurd (by first | omega | decide | (dsimp only <;> omega)) h)
      refine rbuild (cs := [.int .i64 0, .slice none 0 0]) rfl ?_
      refine rsto (vs := [.int .i64 0, .slice none 0 0]) rfl rfl rfl (pl_one _ _ _ _) fun w4 B4 f4 _ => ?_
      have s4 : Stp w1 w4 := ⟨Fr.st Le.e f4 fun i hi => by subst hi; exact n2.lo⟩
      refine rresG rfl ?_
      exact ⟨⟨_, rfl, zP_o _ _⟩, stp⟩
    | some x =>
      have ht : takeP (sz, l) = (x, (sz, l.dropLast), 0) := by unfold takeP; rw [if_pos ho]; simp only [hl]
      have hne : l ≠ [] := by rintro rfl; cases hl
      have hpos : 0 < l.length := List.length_pos_iff.2 hne
      have hx : l[l.length - 1]? = some x := by rw [← List.getLast?_eq_getElem?]; exact hl
      rw [ht]
      refine rld rfl ?_
      refine rarE (y := ((l.length - 1 : Nat) : Int)) (by omega) (by omega) ?_
      refine ite (fun h => absurd h (by first | omega | decide | (dsimp only <;> omega))) (fun _ => ?_)
      refine drawR TBok mixed (fun i => i = b3 ∨ w2.heap.size ≤ i) (upF 16 0) (by kernel_rfl) fun u1 e1 _ => ?_
      have hg := h.lt hne
      obtain ⟨bg, hg, hglt⟩ := hg
      refine tld rfl (by omega) ?_
      refine tix (h.up (w' := u1)) hx fun b4 o4 A4 hb4 => ?_
      have hb4' : b4 = bg := by rw [hg] at hb4; cases hb4; rfl
      refine tload1 (A4.cell0 rfl) (by omega) ?_
      refine tld rfl (by omega) (tld rfl (by omega) ?_)
      refine tsl none (some (l.length - 1)) (h.up (w' := u1)) (by simp) (by simp) fun a5 c5 S5 => ?_
      refine rcall (r01_Own_sp S5 (by simp; omega)) ?_
      rintro v u2 ⟨O2, e2⟩
      rw [sl_take, ← List.dropLast_eq_take] at O2
      have q_ := O2.shape
      obtain ⟨a2, c2, rfl⟩ := q_
      refine ⟨e2.e.fr, ?_⟩
      refine tbuild (cs := [.int .i64 sz, .slice a2 l.dropLast.length c2]) rfl ?_
      have C3 := B3.mv (w := u2)
      refine rsto (B := C3) (vs := [.int .i64 sz, .slice a2 l.dropLast.length c2]) rfl rfl rfl (pl_one _ _ _ _) fun w4 B4 f4 _ => ?_
      have s4 : Stp w1 w4 := ⟨Fr.st Le.e f4 fun i hi => by subst hi; exact n2.lo⟩
      refine ⟨f4.mono fun i _ hi => .inl hi, ?_⟩
      refine rresG rfl ?_
      exact ⟨⟨_, rfl, (PoolO.mk (O2.frc f4 C3 (by decide))).older⟩, stp⟩
  · have ht : takeP (sz, l) = (0, zP, 130) := by unfold takeP; rw [if_neg ho]
    rw [ht]
    refine rbuild (cs := [.int .i64 0, .slice none 0 0]) rfl ?_
    refine rsto (vs := [.int .i64 0, .slice none 0 0]) rfl rfl rfl (pl_one _ _ _ _) fun w4 B4 f4 _ => ?_
    have s4 : Stp w1 w4 := ⟨Fr.st Le.e f4 fun i hi => by subst hi; exact n2.lo⟩
    refine rresG rfl ?_
    exact ⟨⟨_, rfl, zP_o _ _⟩, stp⟩

theorem r13_Same_sp {sa sb : Int} {a b : Option Addr} {na ca nb cb : Nat} {la lb : List Int} {w : World} (ha : SlF w (.slice a na ca) la) (hb : SlF w (.slice b nb cb) lb) (hn : la.length ≤ 1000000) :
    Sp Try.prog F.r13_Same #[plV sa a na ca, plV sb b nb cb] w fun v w' => Tells (sa = sb ∧ la = lb) v ∧ Stp w w' := by
  refine en TBok rfl ?_
  refine rbx fun b1 w1 n1 B1 => rbx fun b2 w2 n2 B2 => ?_
  refine rld rfl ?_
  refine rld rfl ?_
  refine ite (fun h1 => ?_) (fun h1 => ⟨.f fun o => h1 o.1, stp⟩)
  refine rld rfl ?_
  refine rld rfl ?_
  refine rcall (r01_Ints_sp (ha.up (w' := w2)) (hb.up (w' := w2)) hn) ?_
  rintro v w3 ⟨⟨rfl, ho⟩ | ⟨rfl, ho⟩, e3⟩
  · exact ⟨.t ⟨h1, ho⟩, stp⟩
  · exact ⟨.f fun o => ho o.2, stp⟩
theorem r13_Big_sp {sz : Int} {a : Option Addr} {n c : Nat} {w : World} :
    Sp Try.prog F.r13_Big #[plV sz a n c] w fun v w' => Tells ((60 < n ∧ n ≤ 400) ∨ 500 < n) v ∧ Stp w w' := by
  refine en TBok rfl ?_
  refine rbx fun b1 w1 n1 B1 => ?_
  refine rld rfl ?_
  refine ite (fun h1 => ?_) (fun h1 => ?_)
  · refine rld rfl ?_
    refine ite (fun h2 => ⟨.t (by omega), stp⟩) (fun h2 => ?_)
    refine rld rfl ?_
    exact ite (fun h3 => ⟨.t (by omega), stp⟩) (fun h3 => ⟨.f (by omega), stp⟩)
  · refine rld rfl ?_
    exact ite (fun h3 => ⟨.t (by omega), stp⟩) (fun h3 => ⟨.f (by omega), stp⟩)

theorem r13_Give_sp {sz m : Int} {a : Option Addr} {n c : Nat} {l : List Int} {w : World} (h : SlF w (.slice a n c) l) (hn : l.length ≤ 100000) :
    Sp Try.prog F.r13_Give #[plV sz a n c, .int .i64 m] w fun v w' => (∃ pv, v = .tuple #[pv, .int .i64 (giveP (sz, l) m).2] ∧ PoolO w.heap.size w' pv (giveP (sz, l) m).1) ∧ Stp w w' := by
  have q_ := h.len
  obtain rfl := q_
  refine en TBok rfl ?_
  refine rbx fun b1 w1 n1 B1 => ral fun b3 w2 n2 B3 => ?_
  have zero : ∀ (e : Int) (u : World), Stp w2 u → giveP (sz, l) m = (zP, e) → ∀ w4, Bk w4 b3 [.int .i64 0, .slice none 0 0] E.api_Pool → Fr (fun i => i = b3) u w4 → (∃ pv, Value.tuple #[plV 0 none 0 0, .int .i64 e] = .tuple #[pv, .int .i64 (giveP (sz, l) m).2] ∧ PoolO w.heap.size w4 pv (giveP (sz, l) m).1) ∧ Stp w w4 := by
    intro e u s ht w4 _ f4
    rw [ht]
    exact ⟨⟨_, rfl, zP_o _ _⟩, ⟨Fr.st Le.e f4 fun i hi => by subst hi; exact n2.lo⟩⟩
  refine rldG rfl rfl ?_
  refine rcall (r13_Check_sp (h.up (w' := w2)) (by omega)) ?_
  rintro v w3 ⟨⟨rfl, ho⟩ | ⟨rfl, ho⟩, e3⟩
  · refine ite (fun h1 => ?_) (fun h1 => ?_)
    · refine rbuild (cs := [.int .i64 0, .slice none 0 0]) rfl ?_
      refine rsto (vs := [.int .i64 0, .slice none 0 0]) rfl rfl rfl (pl_one _ _ _ _) fun w4 B4 f4 _ => ?_
      refine rresG rfl ?_
      exact zero 1 _ stp (by unfold giveP; rw [if_pos ho, if_pos (.inl h1)]) w4 B4 f4
    refine rld rfl ?_
    refine ite (fun h2 => ?_) (fun h2 => ?_)
    · refine rbuild (cs := [.int .i64 0, .slice none 0 0]) rfl ?_
      refine rsto (vs := [.int .i64 0, .slice none 0 0]) rfl rfl rfl (pl_one _ _ _ _) fun w4 B4 f4 _ => ?_
      refine rresG rfl ?_
      exact zero 1 _ stp (by unfold giveP; rw [if_pos ho, if_pos (.inr h2)]) w4 B4 f4
    refine rld rfl ?_
    refine rcall (r05_In_sp (h.up (w' := w3)) (by omega)) ?_
    rintro v w4 ⟨⟨rfl, hi⟩ | ⟨rfl, hi⟩, e4⟩
    · refine rbuild (cs := [.int .i64 0, .slice none 0 0]) rfl ?_
      refine rsto (vs := [.int .i64 0, .slice none 0 0]) rfl rfl rfl (pl_one _ _ _ _) fun w5 B5 f5 _ => ?_
      refine rresG rfl ?_
      exact zero 150 _ stp (by unfold giveP; rw [if_pos ho, if_neg (fun h => h.elim h1 h2), if_pos hi]) w5 B5 f5
    · have hg : giveP (sz, l) m = ((sz, l ++ [m]), 0) := by unfold giveP; rw [if_pos ho, if_neg (fun h => h.elim h1 h2), if_neg hi]
      rw [hg]
      refine rld rfl ?_
      refine rcall (r01_Own_sp (h.up (w' := w4)) (by omega)) ?_
      rintro v w5 ⟨O5, e5⟩
      refine rbs1 m rfl rfl (by decide) fun b6 w6 e6 _ S6 => ?_
      refine rapp1 (u := w4) ⟨rfl, rfl⟩ O5.up S6 (by omega) fun v7 w7 O7 f7 s7 => ?_
      have q_ := O7.shape
      obtain ⟨a7, c7, rfl⟩ := q_
      refine rld rfl ?_
      refine rbuild (cs := [.int .i64 sz, .slice a7 (l ++ [m]).length c7]) rfl ?_
      have C3 := B3.mv (w := w7)
      refine rsto (B := C3) (vs := [.int .i64 sz, .slice a7 (l ++ [m]).length c7]) rfl rfl rfl (pl_one _ _ _ _) fun w8 B8 f8 _ => ?_
      have s8 : Stp w w8 := ⟨Fr.st Le.e f8 fun i hi => by subst hi; exact n2.lo⟩
      refine rresG rfl ?_
      exact ⟨⟨_, rfl, (PoolO.mk (O7.frc f8 C3 (by decide))).older⟩, stp⟩
  · refine rbuild (cs := [.int .i64 0, .slice none 0 0]) rfl ?_
    refine rsto (vs := [.int .i64 0, .slice none 0 0]) rfl rfl rfl (pl_one _ _ _ _) fun w4 B4 f4 _ => ?_
    refine rresG rfl ?_
    exact zero 130 _ stp (by unfold giveP; rw [if_neg ho]) w4 B4 f4
end Go.W
