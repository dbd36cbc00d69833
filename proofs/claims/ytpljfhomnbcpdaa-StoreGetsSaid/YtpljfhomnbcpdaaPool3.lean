/-
  Proved here: pools of the program: many are taken, one is taken (contracts).
  Conditions: the row of a pool can be read, and is no longer than is said at each.
-/
import Derived.Test.YtpljfhomnbcpdaaPool2
namespace Go.W
open Go Go.Proofs
open Enc (enc)
set_option maxRecDepth 10000

/-- what slices.Backward hands on -/
def backXs (l : List Int) : List (List Value) := (List.range l.length).reverse.map fun i : Nat => [.int .i64 i, .int .i64 (l.getD i 0)]
theorem backXs_len (l : List Int) : (backXs l).length = l.length := by simp [backXs]
theorem backXs_two {l : List Int} : ∀ x ∈ backXs l, x.length = 2 := by
  intro x hx; unfold backXs at hx; obtain ⟨k, _, rfl⟩ := List.mem_map.1 hx; rfl
theorem backXs_get {l : List Int} {k : Nat} (h : k < l.length) : (backXs l)[k]? = some [.int .i64 ((l.length - 1 - k : Nat) : Int), .int .i64 (l[l.length - 1 - k]'(by omega))] := by
  unfold backXs
  rw [List.getElem?_map, List.getElem?_reverse (by simpa using h), List.length_range, List.getElem?_range (by omega)]
  simp only [Option.map_some, getD_eq (show l.length - 1 - k < l.length by omega)]
structure BackDat (l : List Int) (a : Option Addr) (c bs : Nat) (u : World) : Prop where
  s : SlF u (.slice a l.length c) l
  b : Bk u bs [.slice a l.length c] E.s_int
theorem Back_seq {l : List Int} {a : Option Addr} {c bs : Nat} (hn : l.length ≤ 1000000) :
    SeqOf Try.prog F.slices_Backward_int_1 [] [.pointer (some ⟨bs, 0, none⟩)] (BackDat l a c bs) (backXs l) := by
  refine ⟨fun y J Jx w hJ hJx hD hY h0 => ?_⟩
  refine en TBok rfl ?_
  refine rload1 ((hD 0 w h0).b.at.cell0 rfl) ?_
  refine rar (by omega) ?_
  refine loop1 TBok 4 [] 3 (fun v u => ∃ k : Nat, k ≤ l.length ∧ ∃ j : Int, v = .int .i64 j ∧ j = (l.length : Int) - 1 - k ∧ J k u) (fun v _ => ((Go.RowKit.intOf v) + 1).toNat) rfl ⟨0, by omega, _, rfl, by omega, h0⟩ ?_
  rintro v g u ⟨k, hk, j, rfl, hj, hJk⟩
  refine ite (fun hge => ?_) (fun hlt => ?_)
  · have q_ := Int.eq_ofNat_of_zero_le hge
    obtain ⟨jn, rfl⟩ := q_
    have hka : k < l.length := by omega
    have hjn : jn = l.length - 1 - k := by omega
    have hd := hD _ _ hJk
    refine rload1 (hd.b.at.cell0 rfl) ?_
    refine rix hd.s (x := l[jn]'(by omega)) (by simp) fun b4 o4 A4 => rload1 (A4.cell0 rfl) ?_
    have hx : (backXs l)[k]? = some [.int .i64 (jn : Nat), .int .i64 (l[jn]'(by omega))] := by subst hjn; exact backXs_get hka
    refine ryield rfl rfl rfl rfl (hY k u _ hx hJk) ?_
    rintro b u' (⟨rfl, hu'⟩ | ⟨rfl, hu'⟩)
    · refine rar (by omega) ⟨⟨k + 1, by omega, _, rfl, by omega, hu'⟩, ?_⟩
      show (((jn : Int) - 1) + 1).toNat < ((jn : Int) + 1).toNat
      omega
    · exact .inr hu'
  · have q_ : k = l.length := by omega
    obtain rfl := q_
    rw [← backXs_len l] at hJk
    exact .inl hJk
theorem Backward_sp {a : Option Addr} {n c : Nat} {l : List Int} {w : World} (h : SlF w (.slice a n c) l) :
    Sp Try.prog F.slices_Backward_int #[.slice a n c] w fun v w' => (∃ bs, v = .func (.func F.slices_Backward_int_1) #[] #[.pointer (some ⟨bs, 0, none⟩)] ∧ w.heap.size ≤ bs ∧ BackDat l a c bs w') ∧ Stp w w' := by
  have q_ := h.len
  obtain rfl := q_
  refine en TBok rfl ?_
  refine rbx fun b1 w1 n1 B1 => ?_
  exact ⟨⟨b1, rfl, n1.lo, h.up, B1.mv⟩, stp⟩

theorem takeX {l : List Int} {m k : Nat} {y : List Value} (hm : m ≤ l.length) (h : (backXs (l.drop m))[k]? = some y) : ∃ hk : k < l.length - m, y = [.int .i64 (((l.length - m) - 1 - k : Nat) : Int), .int .i64 (l[l.length - 1 - k]'(by omega))] ∧ (l.drop (l.length - (k + 1))).reverse = (l.drop (l.length - k)).reverse ++ [l[l.length - 1 - k]'(by omega)] := by
  have hk := (List.getElem?_eq_some_iff.1 h).1
  rw [backXs_len, List.length_drop] at hk
  refine ⟨hk, ?_, rev_take (by omega)⟩
  rw [backXs_get (by rw [List.length_drop]; exact hk)] at h
  injection h with h
  subst h
  have e : m + (l.length - m - 1 - k) = l.length - 1 - k := by omega
  simp only [List.length_drop, List.getElem_drop, e]

set_option maxHeartbeats 400000 in
theorem pool_Takes_sp {sz m : Int} {a : Option Addr} {n c : Nat} {l : List Int} {w : World} (h : SlF w (.slice a n c) l) (hn : l.length ≤ 100000) (hm : -9223372036854775808 ≤ m ∧ m ≤ 9223372036854775807) :
    Sp Try.prog F.pool_Takes #[plV sz a n c, .int .i64 m] w fun v w' => (∃ lv pv, v = .tuple #[lv, pv, .int .i64 (takesP (sz, l) m).2.2] ∧ Own w.heap.size E.int w' lv (takesP (sz, l) m).1 ∧ PoolO w.heap.size w' pv (takesP (sz, l) m).2.1) ∧ Stp w w' := by
  have q_ := h.len
  obtain rfl := q_
  refine en TBok rfl ?_
  refine rbx fun b1 w1 n1 B1 => ral fun b3 w2 n2 B3 => ?_
  have hb1 := n1.b; have hb3 := n2.b; have hs1 := n1.s; have hs2 := n2.s
  have zero : ∀ (e : Int) (u : World), Stp w2 u → takesP (sz, l) m = ([], zP, e) → ∀ w4, Bk w4 b3 [.int .i64 0, .slice none 0 0] E.api_Pool → Fr (fun i => i = b3) u w4 → (∃ lv pv, Value.tuple #[.slice none 0 0, plV 0 none 0 0, .int .i64 e] = .tuple #[lv, pv, .int .i64 (takesP (sz, l) m).2.2] ∧ Own w.heap.size E.int w4 lv (takesP (sz, l) m).1 ∧ PoolO w.heap.size w4 pv (takesP (sz, l) m).2.1) ∧ Stp w w4 := by
    intro e u s ht w4 _ f4
    rw [ht]
    exact ⟨⟨_, _, rfl, Own.nil _ _ _, zP_o _ _⟩, ⟨Fr.st Le.e f4 fun i hi => by subst hi; exact n2.lo⟩⟩
  refine rld rfl ?_
  refine rarU fun left hleft => ?_
  refine rldG rfl rfl ?_
  refine rcall (pool_Check_sp (h.up (w' := w2)) (by omega)) ?_
  rintro v w3 ⟨⟨rfl, ho⟩ | ⟨rfl, ho⟩, e3⟩
  · refine ite (fun h1 => ?_) (fun h1 => ?_)
    · refine rbuild (cs := [.int .i64 0, .slice none 0 0]) rfl ?_
      refine rsto (vs := [.int .i64 0, .slice none 0 0]) rfl rfl rfl (pl_one _ _ _ _) fun w4 B4 f4 _ => ?_
      refine rresG rfl ?_
      exact zero 1 _ stp (by unfold takesP; rw [if_pos ho, if_pos h1]) w4 B4 f4
    have hleft := hleft (by omega)
    refine ite (fun h2 => ?_) (fun h2 => ?_)
    · refine rbuild (cs := [.int .i64 0, .slice none 0 0]) rfl ?_
      refine rsto (vs := [.int .i64 0, .slice none 0 0]) rfl rfl rfl (pl_one _ _ _ _) fun w4 B4 f4 _ => ?_
      refine rresG rfl ?_
      exact zero 140 _ stp (by unfold takesP; rw [if_pos ho, if_neg h1, if_pos (by dsimp only; omega)]) w4 B4 f4
    have q_ := Int.eq_ofNat_of_zero_le (show (0 : Int) ≤ m by omega)
    obtain ⟨M, rfl⟩ := q_
    have q_ := Int.eq_ofNat_of_zero_le (show (0 : Int) ≤ left by omega)
    obtain ⟨K, rfl⟩ := q_
    have hK : K = l.length - M := by omega
    have hKl : K ≤ l.length := by omega
    have ht : takesP (sz, l) (M : Nat) = ((l.drop (l.length - M)).reverse, (sz, l.take K), 0) := by
      unfold takesP; rw [if_pos ho, if_neg h1, if_neg (by dsimp only; omega), hK]; rfl
    rw [ht]
    refine ral fun b4 w4 n4 B4 => ?_
    have hb4 := n4.b; have hs4 := n4.s; have z3 := Le.size (a := w2) (b := w3)
    refine rld rfl ?_
    refine rslB (some K) none h hKl (by simp) fun a5 c5 S5 => ?_
    rw [sl_drop] at S5
    refine rcall (Backward_sp (S5.up (w' := w4))) ?_
    rintro v w5 ⟨⟨bs, rfl, hbs, D5⟩, e5⟩
    have z5 := Le.size (a := w4) (b := w5)
    have C4 := B4.mv (w := w5)
    have hdl : (l.drop K).length = l.length - K := by simp
    have S5' : SlF w (.slice a5 (l.drop K).length c5) (l.drop K) := by rw [hdl]; exact S5
    have T0 : ∀ i, i ≤ M → (l.drop (l.length - i)).reverse.length = i := fun i hi => by rw [List.length_reverse, List.length_drop]; omega
    refine rrange TBok rfl (gf := F.slices_Backward_int_1) (first := []) (cap := [.pointer (some ⟨bs, 0, none⟩)]) rfl rfl (Back_seq (l := l.drop K) (a := a5) (c := c5) (bs := bs) (by simp; omega)) backXs_two
      (fun i u => i ≤ M ∧ ∃ oa oc, Bk u b4 [.slice oa i oc] E.s_int ∧ Bk u bs [.slice a5 (l.drop K).length c5] E.s_int ∧ Own w3.heap.size E.int u (.slice oa i oc) (l.drop (l.length - i)).reverse ∧ Stp w3 u) (fun _ _ => False) ?_ ?_ ?_
      ⟨by omega, none, 0, C4, D5.b, by have := Own.nil (α := Int) w3.heap.size E.int w5; simpa using this, stp⟩ ?_ ?_ ?_
    · rintro i u u' ⟨hi, oa, oc, q1, q2, q3, q4⟩ q; exact ⟨hi, oa, oc, q1.qt q, q2.qt q, q3.qt q, q4.qt (q.mono (by omega))⟩
    · rintro _ u u' h; exact h.elim
    · rintro i u ⟨hi, oa, oc, q1, q2, q3, q4⟩; exact ⟨S5'.up, q2⟩
    · rintro i y u hx ⟨hi, oa, oc, q1, q2, q3, q4⟩
      have hy := takeX hKl hx
      obtain ⟨hiK, rfl, hrev⟩ := hy
      refine ⟨Fr.refl _ _, fun u1 q => ?_⟩
      have q1 := q1.qt q; have q2 := q2.qt q; have q3 := q3.qt q; have q4 := q4.qt (q.mono (by omega))
      refine rld (B := q1) rfl ?_
      refine rbs1 (l[l.length - 1 - i]'(by omega)) rfl rfl (by decide) fun b6 w6 e6 _ S6 => ?_
      refine rapp1 (u := w3) ⟨rfl, rfl⟩ (q3.up (w' := w6)) S6 (by rw [T0 i hi]; omega) fun v7 w7 O7 f7 s7 => ?_
      have r1 := (q1.mv (w := w6)).fro q3.up f7 (by decide)
      have r2 := (q2.mv (w := w6)).fro q3.up f7 (by decide)
      rw [← hrev] at O7
      have q7 := O7.shape
      rw [T0 (i + 1) (by omega)] at q7
      obtain ⟨a7, c7, rfl⟩ := q7
      refine rsto (B := r1) (vs := [.slice a7 (i + 1) c7]) rfl rfl rfl (by simp; rfl) fun w8 B8 f8 _ => ?_
      have s8 : Stp w3 w8 := ⟨Fr.st Le.e f8 fun i hi => by subst hi; exact n4.lo⟩
      exact ⟨⟨by omega, a7, c7, B8, r2.fr f8 (by omega), O7.frc f8 r1 (by decide), s8⟩, fun i => w3.heap.size ≤ i, ((Fr.fr e6.e).trans s7.e).trans (f8.mono fun i _ hi => by subst hi; omega)⟩
    · rintro D u ⟨hi, oa, oc, q1, q2, q3, q4⟩ hD hd
      rw [backXs_len, hdl] at hi q1 q3
      have hM : l.length - K = M := by omega
      rw [hM] at hi q1 q3
      refine drawR TBok mixed (fun i => i = b3 ∨ u.heap.size ≤ i) (upF 12 0) (by kernel_rfl) fun u1 e1 _ => ?_
      have zu := Le.size (a := w3) (b := u)
      have zb := q1.lt
      refine tld (B := q1) rfl (by omega) ?_
      refine tld rfl (by omega) (tld rfl (by omega) ?_)
      refine tslB none (some K) h (by simp) (by simpa using hKl) fun a8 c8 S8 => ?_
      rw [sl_take] at S8
      refine rcall (Clone_int_sp (S8.up (w' := u1)) (by rw [List.length_take]; omega)) ?_
      rintro v u2 ⟨O2, e2⟩
      refine ⟨e2.e.fr, ?_⟩
      have q_ := O2.shape
      obtain ⟨a2, c2, rfl⟩ := q_
      refine tbuild (cs := [.int .i64 sz, .slice a2 (l.take K).length c2]) rfl ?_
      have C3 := B3.mv (w := u2)
      refine rsto (B := C3) (vs := [.int .i64 sz, .slice a2 (l.take K).length c2]) rfl rfl rfl (pl_one _ _ _ _) fun w9 B9 f9 _ => ?_
      have s9 : Stp w w9 := ⟨Fr.st Le.e f9 fun i hi => by subst hi; exact n2.lo⟩
      refine ⟨f9.mono fun i _ hi => .inl hi, ?_⟩
      have hd' := f9.nc _ _ (e2.e.nc _ _ (e1.e.nc _ _ hd rfl) rfl) rfl
      have Oo := ((q3.up (w' := u2)).frc f9 C3 (by decide))
      have Op := O2.frc f9 C3 (by decide)
      refine leave1 hd' fun u' q => ?_
      have B9' := B9.qt (q 0 (by omega))
      refine rresG rfl ?_
      exact ⟨⟨_, _, rfl, (Oo.qt (q 0 (by omega))).older, (PoolO.mk (Op.qt (q 0 (by omega)))).older⟩, s9.qt (q _ (by have := Le.size (a := w) (b := w3); omega))⟩
    · rintro c D u h; exact h.elim
  · refine rbuild (cs := [.int .i64 0, .slice none 0 0]) rfl ?_
    refine rsto (vs := [.int .i64 0, .slice none 0 0]) rfl rfl rfl (pl_one _ _ _ _) fun w4 B4 f4 _ => ?_
    refine rresG rfl ?_
    exact zero 130 _ stp (by unfold takesP; rw [if_neg ho]) w4 B4 f4

theorem takeP_takes (sz : Int) (l : List Int) : (takeP (sz, l)).2.2 = (takesP (sz, l) 1).2.2 ∧
    ((takesP (sz, l) 1).2.2 = 0 → (takesP (sz, l) 1).1[0]? = some (takeP (sz, l)).1 ∧ (takesP (sz, l) 1).2.1 = (takeP (sz, l)).2.1) ∧
    ((takesP (sz, l) 1).2.2 ≠ 0 → takeP (sz, l) = (0, zP, (takesP (sz, l) 1).2.2)) := by
  unfold takeP takesP
  by_cases ho : okP sz l
  · rw [if_pos ho, if_pos ho, if_neg (by decide)]
    by_cases hl : l = []
    · subst hl
      rw [if_pos (by simp)]
      simp
    · have hpos : 0 < l.length := List.length_pos_iff.2 hl
      rw [if_neg (by dsimp only; omega)]
      have h1 := List.getLast?_eq_getElem? (l := l)
      rw [List.getElem?_eq_getElem (show l.length - 1 < l.length by omega)] at h1
      simp only [h1]
      have h2 : (l.drop (l.length - (1 : Int).toNat)).reverse[0]? = some l[l.length - 1] := by
        have e : l.drop (l.length - (1 : Int).toNat) = [l[l.length - 1]] := by
          rw [show (1 : Int).toNat = 1 from rfl, List.drop_eq_getElem_cons (by omega), List.drop_of_length_le (by omega)]
        rw [e]; rfl
      refine ⟨by first | rfl | trivial, fun _ => ⟨h2, ?_⟩, fun h => absurd rfl h⟩
      rw [List.dropLast_eq_take]; rfl
  · rw [if_neg ho, if_neg ho]; simp

theorem pool_Take_sp {sz : Int} {a : Option Addr} {n c : Nat} {l : List Int} {w : World} (h : SlF w (.slice a n c) l) (hn : l.length ≤ 100000) :
    Sp Try.prog F.pool_Take #[plV sz a n c] w fun v w' => (∃ pv, v = .tuple #[.int .i64 (takeP (sz, l)).1, pv, .int .i64 (takeP (sz, l)).2.2] ∧ PoolO w.heap.size w' pv (takeP (sz, l)).2.1) ∧ Stp w w' := by
  have q_ := h.len
  obtain rfl := q_
  refine en TBok rfl ?_
  refine rbx fun b1 w1 n1 B1 => ral fun b3 w2 n2 B3 => ?_
  have hb1 := n1.b; have hb3 := n2.b; have hs1 := n1.s; have hs2 := n2.s
  have q_ := takeP_takes sz l
  obtain ⟨t1, t2, t3⟩ := q_
  refine rldG rfl rfl ?_
  refine rcall (pool_Takes_sp (m := 1) (h.up (w' := w2)) hn (by decide)) ?_
  rintro v w3 ⟨⟨lv, pv, rfl, O3, ⟨a3, c3, rfl, P3⟩⟩, e3⟩
  have q_ := O3.shape
  obtain ⟨ao, co, rfl⟩ := q_
  refine ral fun b4 w4 n4 B4 => ?_
  refine rsto (vs := [.int .i64 (takesP (sz, l) 1).2.1.1, .slice a3 (takesP (sz, l) 1).2.1.2.length c3]) rfl rfl rfl (pl_one _ _ _ _) fun w5 B5 f5 _ => ?_
  have s5 : Stp w3 w5 := ⟨Fr.st Le.e f5 fun i hi => by subst hi; exact n4.lo⟩
  refine ite (fun h1 => ?_) (fun h1 => ?_)
  · rw [t3 h1]
    refine rbuild (cs := [.int .i64 0, .slice none 0 0]) rfl ?_
    have C3 := B3.mv (w := w5)
    refine rsto (B := C3) (vs := [.int .i64 0, .slice none 0 0]) rfl rfl rfl (pl_one _ _ _ _) fun w6 B6 f6 _ => ?_
    have s6 : Stp w w6 := ⟨Fr.st Le.e f6 fun i hi => by subst hi; exact n2.lo⟩
    refine rresG rfl ?_
    exact ⟨⟨_, rfl, zP_o _ _⟩, s6⟩
  · have h1 := Classical.not_not.1 h1
    have q_ := t2 h1
    obtain ⟨q1, q2⟩ := q_
    rw [← q2]
    have hb4 := n4.b; have z3 := Le.size (a := w2) (b := w3)
    refine drawR TBok mixed (fun i => i = b3) (upF 7 0) (by kernel_rfl) fun u1 e1 _ => ?_
    refine tix (O3.sl.up (w' := u1)) (x := (takeP (sz, l)).1) (i := 0) q1 fun b7 o7 A7 hb7 => ?_
    have hlt := O3.lt (fun e => by rw [e] at q1; cases q1)
    obtain ⟨g, hg1, hg2, _⟩ := hlt
    refine tload1 (A7.cell0 rfl) (by rw [hg1] at hb7; cases hb7; omega) ?_
    refine tldG (B := B5) rfl rfl (by omega) ?_
    have C3 := B3.mv (w := u1)
    refine rsto (B := C3) (vs := [.int .i64 (takesP (sz, l) 1).2.1.1, .slice a3 (takesP (sz, l) 1).2.1.2.length c3]) rfl rfl rfl (pl_one _ _ _ _) fun w6 B6 f6 _ => ?_
    have s6 : Stp w w6 := ⟨Fr.st Le.e f6 fun i hi => by subst hi; exact n2.lo⟩
    refine ⟨f6, ?_⟩
    refine rresG rfl ?_
    rw [t1, h1]
    exact ⟨⟨_, rfl, (PoolO.mk ((P3.up (w' := u1)).frc f6 C3 (by decide))).older⟩, s6⟩
end Go.W
