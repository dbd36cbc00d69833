/-
  Proved here: queues as the reference has them (contracts), and what they and the program's queues tell (plain facts).
  Conditions: the queue lies in memory as is said at each.
-/
import Derived.Test.YtgplodgpbhddbaaQue
import Derived.Test.YtgplodgpbhddbaaW23
import Derived.Test.YtgplodgpbhddbaaInts
namespace Go.W
open Go Go.Proofs
open Enc (enc)
set_option maxRecDepth 10000

instance : EqT Try.prog E.api_Hit HitD := ⟨by kernel_rfl, fun d x y w => ⟨_, by
    rw [run_struct (l := [(E.int, 0), (E.int, 1)]) (by kernel_rfl) (d + 7)]
    exact eqL_int rfl rfl (eqL_int rfl rfl (eqL_nil _ _ _ _)), by cases x; cases y; simp⟩⟩

/-! plain -/
theorem insH_at (x : HitD) : ∀ (l : List HitD) (i : Nat), i ≤ l.length → (∀ j, j < i → (hj : j < l.length) → hlt x l[j] = false) → ((hi : i < l.length) → hlt x l[i] = true) → insH x l = l.take i ++ x :: l.drop i
  | [], i, hi, _, _ => by have : i = 0 := by simpa using hi
                          subst this; rfl
  | y :: r, 0, _, _, h => by
    have := h (by simp)
    unfold insH; rw [if_pos (by simpa using this)]; rfl
  | y :: r, i + 1, hi, hb, h => by
    have h0 := hb 0 (by omega) (by simp)
    unfold insH; rw [if_neg (by simpa using h0)]
    rw [insH_at x r i (by simpa using hi) (fun j hj hjl => by have := hb (j + 1) (by omega) (by simpa using hjl); simpa using this) (fun hil => by have := h (by simpa using hil); simpa using this)]
    rfl
def srtH (l : List HitD) : List HitD := l.foldl (fun L x => insH x L) []
theorem srtH_succ {l : List HitD} {i : Nat} (h : i < l.length) : srtH (l.take (i + 1)) = insH l[i] (srtH (l.take i)) := by
  unfold srtH; rw [take_add h, List.foldl_append]; rfl
theorem srtH_facts (l : List HitD) : SrtH (srtH l) ∧ (srtH l).Perm l := by
  have : ∀ (l L : List HitD), SrtH L → SrtH (l.foldl (fun L x => insH x L) L) ∧ (l.foldl (fun L x => insH x L) L).Perm (L ++ l) := by
    intro l
    induction l with
    | nil => intro L h; exact ⟨h, by simp⟩
    | cons x r ih =>
      intro L h
      rw [List.foldl_cons]
      have := ih (insH x L) (insH_srt x h)
      exact ⟨this.1, this.2.trans (((insH_perm x L).append_right r).trans List.perm_middle.symm)⟩
  have h := this l [] .nil
  exact ⟨h.1, h.2⟩
theorem insH_take (x : HitD) : ∀ (l : List HitD) (n : Nat), (insH x l).take n = (insH x (l.take n)).take n
  | [], n => by simp
  | y :: r, 0 => by simp
  | y :: r, n + 1 => by
    rw [List.take_succ_cons]
    unfold insH
    split
    · rw [List.take_succ_cons, List.take_succ_cons]
      congr 1
      cases n with
      | zero => simp
      | succ m => rw [List.take_succ_cons, List.take_succ_cons, List.take_take, Nat.min_eq_left (by omega)]
    · rw [List.take_succ_cons, List.take_succ_cons, insH_take x r n]
theorem putQ_take {k n : Nat} (hk : k = n) {M : List HitD} (hM : M.length ≤ n) (x : HitD) : (putQ (k : Int) M x).1 = (insH x M).take n := by
  subst hk
  unfold putQ
  have hl := insH_len x M
  split
  · rw [List.take_of_length_le (by omega)]
  · rw [List.dropLast_eq_take, show (insH x M).length - 1 = k by omega]
theorem firstQ_take (k : Nat) (l : List HitD) : firstQ (k : Int) l = (srtH l).take k := by
  have : ∀ (l L M : List HitD), M = L.take k → l.foldl (fun L x => (putQ (k : Int) L x).1) M = (l.foldl (fun L x => insH x L) L).take k := by
    intro l
    induction l with
    | nil => intro L M h; exact h
    | cons x r ih =>
      intro L M h
      rw [List.foldl_cons, List.foldl_cons]
      refine ih (insH x L) _ ?_
      subst h
      rw [putQ_take rfl (by rw [List.length_take]; omega), ← insH_take]
  exact this l [] [] (by simp)

/-! walks -/
theorem r09_Ahead_sp {a b : HitD} {w : World} : Sp Try.prog F.r09_Ahead #[agg a, agg b] w fun v w' => v = .bool (hlt a b) ∧ Stp w w' := by
  refine en TBok rfl ?_
  refine rbx fun ba w1 n1 B1 => rbx fun bb w2 n2 B2 => ?_
  refine rld (B := B1) rfl (rld (B := B2) rfl ?_)
  refine ite (fun h1 => ?_) (fun h1 => ?_)
  · rw [(hlt_iff a b).2 (.inl h1)]; exact ⟨rfl, stp⟩
  refine rld (B := B1) rfl (rld (B := B2) rfl ?_)
  refine ite (fun h2 => ?_) (fun h2 => ?_)
  · refine rld (B := B1) rfl (rld (B := B2) rfl ?_)
    refine ite (fun h3 => ?_) (fun h3 => ?_)
    · rw [(hlt_iff a b).2 (.inr ⟨h2, h3⟩)]; exact ⟨rfl, stp⟩
    · rw [(hlt_ff a b).2 (by omega)]; exact ⟨rfl, stp⟩
  · rw [(hlt_ff a b).2 (by omega)]; exact ⟨rfl, stp⟩
theorem r09_Same_sp {a b : Option Addr} {na ca nb cb : Nat} {la lb : List HitD} {w : World} (ha : SlF w (.slice a na ca) la) (hb : SlF w (.slice b nb cb) lb) (hn : la.length ≤ 1000000) :
    Sp Try.prog F.r09_Same #[.slice a na ca, .slice b nb cb] w fun v w' => Tells (la = lb) v ∧ Stp w w' := by
  have q_ := ha.len
  obtain rfl := q_
  have q_ := hb.len
  obtain rfl := q_
  refine en TBok rfl ?_
  refine ite (fun h => ⟨.f (fun e => h (by rw [e])), stp⟩) (fun h => ?_)
  have hl : la.length = lb.length := by omega
  refine cnt TBok 6 [4] 5 la.length (fun k w' => la.take k = lb.take k ∧ Stp w w') rfl rfl ⟨by simp, stp⟩ ?_
  rintro k g w' hk ⟨ht, e⟩
  refine ite (fun hlt => ?_) (fun hge => ?_)
  · have hka : k < la.length := by omega
    have hkb : k < lb.length := by omega
    refine drawR TBok mixed (fun _ => False) (upF 9 0) (by kernel_rfl) fun w1 e1 _ => ?_
    refine tix ha.up (x := la[k]) (by simp) fun b1 o1 A1 _ => tloadA A1 rfl not_false ?_
    refine tix hb.up (x := lb[k]) (by simp) fun b2 o2 A2 _ => tloadA A2 rfl not_false ?_
    refine tgne HitD la[k] lb[k] (fun hne => ⟨.f (by rintro rfl; exact hne rfl), stp⟩) (fun he => ?_)
    refine rar (by omega) ⟨rfl, hka, ?_, stp⟩
    rw [take_add hka, take_add hkb, ht, he]
  · have q_ : k = la.length := by omega
    obtain rfl := q_
    rw [List.take_of_length_le (Nat.le_refl _), List.take_of_length_le (by omega)] at ht
    exact ⟨.t ht, e⟩
theorem r09_Own_sp {a : Option Addr} {n c : Nat} {l : List HitD} {w : World} (h : SlF w (.slice a n c) l) (hn : l.length ≤ 1000000) : Sp Try.prog F.r09_Own #[.slice a n c] w fun v w' => Own w.heap.size E.api_Hit w' v l ∧ Stp w w' := by
  have q_ := h.len
  obtain rfl := q_
  refine en TBok rfl ?_
  refine rapp (u := w) ⟨rfl, rfl⟩ (Own.nil _ E.api_Hit _) h (by simp; omega) fun v3 w3 O3 f3 s3 => ?_
  rw [List.nil_append] at O3
  exact ⟨O3, stp⟩
theorem r10_put_sp {a : Option Addr} {n c : Nat} {l : List HitD} {x : HitD} {w : World} (h : SlF w (.slice a n c) l) (hn : l.length ≤ 1000000) :
    Sp Try.prog F.r10_put #[.slice a n c, agg x] w fun v w' => Own w.heap.size E.api_Hit w' v (insH x l) ∧ Stp w w' := by
  have q_ := h.len
  obtain rfl := q_
  refine en TBok rfl ?_
  refine rbx fun bx w1 n1 B1 => ?_
  refine cnt TBok 6 [] 5 l.length (fun i u => (∀ j, j < i → (hj : j < l.length) → hlt x l[j] = false) ∧ Stp w1 u) rfl rfl ⟨by omega, stp⟩ ?_
  rintro i g u hi ⟨hb, e⟩
  have fin : ((hi : i < l.length) → hlt x l[i] = true) → insH x l = l.take i ++ x :: l.drop i := fun h' => insH_at x l i hi hb h'
  refine drawR TBok mixed (fun _ => False) (upF 13 0) (by kernel_rfl) fun u1 e1 _ => ?_
  refine ite (fun hlt' => ?pp) (fun hge => ?qq)
  case' pp =>
    have hka : i < l.length := by omega
    refine tldG (ds := enc x) (B := B1) rfl rfl not_false ?_
    refine tix (h.up (w' := u1)) (x := l[i]) (by simp) fun b5 o5 A5 _ => tloadA A5 rfl not_false ?_
    have A := r09_Ahead_sp (a := x) (b := l[i]) (w := u1)
    cases hq : hlt x l[i]
    case' false =>
      rw [hq] at A
      refine rcall A ?_
      rintro v u2 ⟨rfl, e2⟩
      refine ⟨e2.e, ?_⟩
      exact rar (by omega) ⟨rfl, hka, below2 hb fun _ => hq, stp⟩
    rw [hq] at A
    refine rcall A ?_
    rintro v u2 ⟨rfl, e2⟩
    refine ⟨e2.e, ?_⟩
    have fin := fin fun _ => hq
  case' qq =>
    have q_ : i = l.length := by omega
    obtain rfl := q_
    have fin := fin fun h => absurd h (by omega)
    have q_ : ∃ u2, u2 = u1 := ⟨_, rfl⟩
    obtain ⟨u2, hu2⟩ := q_
    have e2 : Stp u1 u2 := by subst hu2; exact stp
    rw [← hu2]
  all_goals
    refine rsl none (some _) (h.up (w' := u2)) (by simp) (by first | (simp; done) | simpa using hi) fun a3 c3 S1 => ?_
    refine rapp (u := u2) ⟨rfl, rfl⟩ (Own.nil _ E.api_Hit _) S1 (by simp; omega) fun v5 w5 O5 f5 s5 => ?_
    refine rldG (ds := enc x) (B := B1) rfl rfl ?_
    refine rbs1 x rfl rfl (by decide) fun b6 w6 e6 _ S6 => ?_
    refine rapp1 (u := u2) ⟨rfl, rfl⟩ O5.up S6 (by simp; omega) fun v7 w7 O7 f7 s7 => ?_
    refine rsl (some _) none (h.up (w' := w7)) (by first | (simp; done) | simpa using hi) (by simp) fun a4 c4 S8 => ?_
    refine rapp (u := u2) ⟨rfl, rfl⟩ O7 S8 (by simp; omega) fun v8 w8 O8 f8 s8 => ?_
    rw [fin]
    have K8 : Own u2.heap.size E.api_Hit w8 v8 _ := O8
    rw [sl_take, sl_drop] at K8
    exact ⟨(show Own u2.heap.size E.api_Hit w8 v8 _ by simpa using K8).older, stp⟩

theorem r10_First_sp {a : Option Addr} {n c : Nat} {l : List HitD} {k : Int} {w : World} (h : SlF w (.slice a n c) l) (hn : l.length ≤ 1000) :
    Sp Try.prog F.r10_First #[.slice a n c, .int .i64 k] w fun v w' => (∃ a' c', v = .slice a' (if k < 1 then [] else (srtH l).take k.toNat).length c' ∧ SlY E.api_Hit w' v (if k < 1 then [] else (srtH l).take k.toNat)) ∧ Stp w w' := by
  have q_ := h.len
  obtain rfl := q_
  refine en TBok rfl ?_
  refine cnt1 TBok 7 [] 5 6 l.length (fun i v u => Own w.heap.size E.api_Hit u v (srtH (l.take i)) ∧ Stp w u) rfl rfl ⟨Own.nil _ _ _, stp⟩ ?_
  rintro i v g u hi ⟨O, e⟩
  have hl := (srtH_facts (l.take i)).2.length_eq
  rw [List.length_take] at hl
  refine ite (fun hlt' => ?_) (fun hge => ?_)
  · have hka : i < l.length := by omega
    refine rix (h.up (w' := u)) (x := l[i]) (by simp) fun b4 o4 A4 => rloadA A4 rfl ?_
    have q_ := O.shape
    obtain ⟨a1, c1, rfl⟩ := q_
    refine rcall (r10_put_sp (x := l[i]) O.sl (by omega)) ?_
    rintro v u1 ⟨O1, e1⟩
    exact rar (by omega) ⟨rfl, hka, by rw [srtH_succ hka]; exact O1.older, stp⟩
  · have q_ : i = l.length := by omega
    obtain rfl := q_
    rw [List.take_length] at O
    have hl := (srtH_facts l).2.length_eq
    refine ite (fun h1 => ?_) (fun h1 => ?_)
    · rw [if_pos h1]; exact ⟨⟨none, 0, rfl, SlY.nil _ _⟩, stp⟩
    · rw [if_neg h1]
      have q_ := O.shape
      obtain ⟨a1, c1, rfl⟩ := q_
      refine rmin ?_
      have hm : min k.toNat (srtH l).length ≤ (srtH l).length := Nat.min_le_right _ _
      have hmin : min k ((srtH l).length : Int) = ((min k.toNat (srtH l).length : Nat) : Int) := by omega
      refine rslYp (min k.toNat (srtH l).length) O.y hm (congrArg (Value.int .i64) hmin) fun a2 c2 S2 _ => ?_
      have ht : (srtH l).take (min k.toNat (srtH l).length) = (srtH l).take k.toNat := by
        rw [Nat.min_def]; split
        · rfl
        · rw [List.take_length, List.take_of_length_le (by omega)]
      rw [ht] at S2
      have hl2 := S2.len
      refine ⟨⟨a2, c2, ?_, ?_⟩, stp⟩
      · exact congrArg (fun m => Value.slice a2 m c2) hl2
      · exact S2

/-- the reference's queue -/
def RQu (B : Nat) (w : World) (b N : Nat) (L : List HitD) : Prop := B ≤ b ∧ SrtH L ∧ L.length ≤ N ∧ ∃ a c, Bk w b [.slice a L.length c, .int .i64 N] E.waysideref10_Queue ∧ SlY E.api_Hit w (.slice a L.length c) L
abbrev rqE : List TypeId := [E.waysideref10_Queue]
theorem RQu.up {B : Nat} {w w' : World} [Le w w'] {b N : Nat} {L : List HitD} (h : RQu B w b N L) : RQu B w' b N L := by
  obtain ⟨h0, h1, h2, a, c, h3, h4⟩ := h; exact ⟨h0, h1, h2, a, c, h3.mv, h4.up⟩
theorem RQu.kept {B C : Nat} {w w' : World} {es : List TypeId} {b N : Nat} {L : List HitD} (h : RQu B w b N L) (f : FrT C es w w') (e1 : E.waysideref10_Queue ∉ es) (e2 : E.api_Hit ∉ es) : RQu B w' b N L := by
  obtain ⟨h0, h1, h2, a, c, h3, h4⟩ := h; exact ⟨h0, h1, h2, a, c, h3.kept f e1, h4.kept f e2⟩

set_option maxHeartbeats 400000 in
theorem r10_Queue_Put_sp {B b N : Nat} {L : List HitD} {x : HitD} {w : World} (hN : N ≤ 1000) (Q : RQu B w b N L) :
    Sp Try.prog F.r10_Queue_Put #[.pointer (some ⟨b, 0, none⟩), agg x] w fun v w' => v = .tuple #[agg (putQ N L x).2.1, .bool (putQ N L x).2.2] ∧ RQu B w' b N (putQ N L x).1 ∧ FrT B rqE w w' := by
  obtain ⟨hlo, hs, hL, a, c, C, S⟩ := Q
  have hbl := C.lt
  have hlI := insH_len x L
  have hsI := insH_srt x hs
  have hpl : (putQ (N : Int) L x).1 = (insH x L).take N := putQ_take rfl hL x
  refine en TBok rfl ?_
  refine rbx fun bh w1 n1 B1 => ?_
  refine ral fun b2 w2 n2 B2 => ?_
  have hb2 := n2.lo (u := w)
  have hb1 := n1.lo (u := w)
  refine drawRT TBok mixed (fun i => i = b) (.one 0 (.one 1 (.one 2 (.one 3 (.one 5 (.lone 4 (.one 6 (.one 7 (.one 8 (.one 9 .nil)))))))))) (by kernel_rfl) fun w3 e3 _ => ?_
  refine tldG (ds := enc x) (B := B1) rfl rfl (by omega) ?_
  refine rld (B := C) rfl ⟨Fr.refl _ _, ?_⟩
  refine rcall (r10_put_sp (x := x) (S.sl.up (w' := w3)) (by omega)) ?_
  rintro v w4 ⟨O4, e4⟩
  refine ⟨Fr.fr e4.e, ?_⟩
  have q_ := O4.shape
  obtain ⟨a4, c4, rfl⟩ := q_
  have hlt4 := O4.lt (by intro h0; rw [h0] at hlI; simp at hlI)
  obtain ⟨g4, hg4, hB4, hg4'⟩ := hlt4
  have hb2w : b2 < w3.heap.size := by have := B2.lt; have := Le.size (a := w2) (b := w3); omega
  have hbw : b < w3.heap.size := by have := Le.size (a := w) (b := w3); omega
  have C4 := C.mv (w := w4)
  refine rsto (B := C4) (vs := [.slice a4 (insH x L).length c4]) rfl rfl rfl (sl_one _ _ _) fun w5 C5 f5 _ => ⟨f5, ?_⟩
  have F5 : FrT B rqE w w5 := (FrT.ext Le.e).trans (C4.wrote f5 hlo (by decide))
  have Y5 := (O4.y (w := w4)).kept (C4.wrote f5 hlo (show E.waysideref10_Queue ∈ rqE by decide)) (by decide)
  have H5 : Bk w5 b2 [.int .i64 0, .int .i64 0] E.api_Hit := (B2.mv (w := w4)).kept (C4.wrote f5 hlo (show E.waysideref10_Queue ∈ rqE by decide)) (by decide)
  have C5' : Bk w5 b [.slice a4 (insH x L).length c4, .int .i64 N] E.waysideref10_Queue := C5
  clear C5
  refine drawR TBok mixed (fun _ => False) (upF 10 0) (by kernel_rfl) fun w6 e6 _ => ?_
  refine tld (B := C5') rfl not_false ?_
  refine tld (B := C5') rfl not_false ?_
  refine ite (fun hle => ?_) (fun hgt => ?_)
  · have hpq : putQ (N : Int) L x = (insH x L, zH, false) := by unfold putQ; rw [if_pos hle]
    rw [hpq]
    refine rbuild (cs := enc zH) rfl ?_
    have H6 := H5.mv (w := w6)
    refine rsto (B := H6) (vs := enc zH) rfl rfl rfl (Enc.one _) fun w7 B7 f7 _ => ?_
    have K7 : Fr (fun i => i = b2) w5 w7 := (Fr.fr (Le.e (a := w5) (b := w6)) : Fr (fun i => i = b2) w5 w6).trans f7
    have F7 : FrT B rqE w w7 := Fr.new F5 K7 fun i hi => by subst hi; exact hb2
    refine rresG rfl ?_
    have hY7 : SlY E.api_Hit w7 (.slice a4 (insH x L).length c4) (insH x L) := Y5.fr K7 fun b' _ _ hb' _ => by rw [hg4] at hb'; cases hb'; omega
    exact ⟨rfl, ⟨hlo, hsI, by show (insH x L).length ≤ N; omega, a4, c4, C5'.fr K7 (by omega), hY7⟩, F7⟩
  · have hlen : (insH x L).length = N + 1 := by omega
    have hNI : N < (insH x L).length := by omega
    have hlast : (insH x L).getLast? = some (insH x L)[N] := by
      rw [List.getLast?_eq_getElem?, hlen]; simp [hNI]
    have hpq : putQ (N : Int) L x = ((insH x L).take N, (insH x L)[N], true) := by
      unfold putQ; rw [if_neg hgt, List.dropLast_eq_take, hlen, hlast]; rfl
    rw [hpq]
    refine drawR TBok mixed (fun i => w6.heap.size ≤ i) [0,1,2,3,4,5,6,7,8,9,10,11] (by kernel_rfl) fun w7 e7 _ => ?_
    have hs6 : w4.heap.size ≤ w6.heap.size := by have := Le.size (a := w5) (b := w6); have := f5.size; omega
    have hb6 : b < w6.heap.size := by have := Le.size (a := w3) (b := w4); omega
    have hg6 : g4 < w6.heap.size := by omega
    refine tld (B := C5') rfl (by omega) ?_
    refine tld (B := C5') rfl (by omega) ?_
    refine tix (Y5.sl.up (w' := w7)) (x := (insH x L)[N]) (by simp [hNI]) fun b4' o4 A4 hb4 => tloadA A4 rfl (by rw [hg4] at hb4; cases hb4; omega) ?_
    refine ral fun b8 w8 n8 z8 => ⟨n8.e.fr, ?_⟩
    refine rsto (B := z8) (vs := enc (insH x L)[N]) rfl rfl rfl (Enc.one _) fun w9 B9 f9 _ => ?_
    have s9 : Stp w6 w9 := ⟨Fr.st Le.e f9 fun i hi => by subst hi; exact n8.lo⟩
    refine ⟨f9.mono fun i _ hi => by subst hi; exact n8.lo, ?_⟩
    clear z8 f9
    have C9 := C5'.mv (w := w9)
    have hb8 : b < b8 := by have := n8.lo (u := w6); omega
    refine drawRT TBok mixed (fun i => i = b) (.one 0 (.one 1 (.one 2 (.one 3 (.one 5 (.one 6 (.one 7 (.duo 4 (.lone 8 (.one 9 (.one 10 (.one 11 (.one 12 .nil))))) 8 (.lone 4 (.one 9 (.one 10 (.one 11 (.one 12 .nil))))))))))))) (by kernel_rfl) fun w10 e10 _ => ?_
    refine ⟨?_, ?_⟩
    all_goals
      have C10 := C9.mv (w := w10)
      refine rld (B := C10) rfl ⟨Fr.refl _ _, ?_⟩
      refine rld (B := C10) rfl ⟨Fr.refl _ _, ?_⟩
      refine tslYp N (Y5.up (w' := w10)) (by omega) rfl fun a11 c11 S11 hblk => ?_
      refine rsto (B := C10) (vs := [.slice a11 N c11]) rfl rfl rfl (sl_one _ _ _) fun w11 C11 f11 _ => ⟨f11, ?_⟩
      have B11 := (B9.mv (w := w10)).fr f11 (by omega)
      have H11 : Bk w11 b2 [.int .i64 0, .int .i64 0] E.api_Hit := (H5.mv (w := w10)).fr f11 (by omega)
      have S11' := S11.kept (C10.wrote f11 hlo (show E.waysideref10_Queue ∈ rqE by decide)) (by decide)
      have F11 : FrT B rqE w w11 := (F5.trans (FrT.ext Le.e)).trans (C10.wrote f11 hlo (by decide))
      refine rldG (ds := enc (insH x L)[N]) (B := B11) rfl rfl ?_
      refine rsto (B := H11) (vs := enc (insH x L)[N]) rfl rfl rfl (Enc.one _) fun w12 B12 f12 _ => ?_
      have F12 : FrT B rqE w w12 := Fr.new F11 f12 fun i hi => by subst hi; exact hb2
      refine rresG rfl ?_
      have hl11 : (List.take N (insH x L)).length = N := S11.len.symm
      have Y12 := S11'.fr f12 fun b' _ _ hb' _ => by rw [hblk, hg4] at hb'; cases hb'; omega
      refine ⟨rfl, ⟨hlo, ?_, by show ((insH x L).take N).length ≤ N; omega, a11, c11, by rw [hl11]; exact C11.fr f12 (by omega), by rw [hl11]; exact Y12⟩, F12⟩
      exact hsI.sublist (List.take_sublist _ _)

theorem r10_Queue_Take_sp {B b N : Nat} {L : List HitD} {w : World} (Q : RQu B w b N L) :
    Sp Try.prog F.r10_Queue_Take #[.pointer (some ⟨b, 0, none⟩)] w fun v w' => v = .tuple #[agg (takeQ L).2.1, .bool (takeQ L).2.2] ∧ RQu B w' b N (takeQ L).1 ∧ FrT B rqE w w' := by
  have QQ := Q
  obtain ⟨hlo, hs, hL, a, c, C, S⟩ := Q
  have hbl := C.lt
  refine en TBok rfl ?_
  refine ral fun b2 w2 n2 B2 => ?_
  have hb2 := n2.lo (u := w)
  refine rld (B := C) rfl ?_
  refine ite (fun h0 => ?_) (fun h0 => ?_)
  · have hL0 : L = [] := List.eq_nil_of_length_eq_zero (by omega)
    subst hL0
    refine rbuild (cs := enc zH) rfl ?_
    refine rsto (B := B2) (vs := enc zH) rfl rfl rfl (Enc.one _) fun w7 B7 f7 _ => ?_
    have s7 : Stp w w7 := ⟨Fr.st Le.e f7 fun i hi => by subst hi; exact hb2⟩
    refine rresG rfl ?_
    exact ⟨rfl, QQ.up, FrT.ext Le.e⟩
  · have hpos : 0 < L.length := by omega
    have q_ := List.exists_cons_of_length_pos hpos
    obtain ⟨x, T, rfl⟩ := q_
    refine rld (B := C) rfl ?_
    refine rix (i := 0) (S.sl.up (w' := w2)) (x := x) rfl fun b4 o4 A4 => rloadA A4 rfl ?_
    refine ral fun b5 w5 n5 z5 => ?_
    refine rsto (B := z5) (vs := enc x) rfl rfl rfl (Enc.one _) fun w6 B6 f6 _ => ?_
    have s6 : Stp w2 w6 := ⟨Fr.st Le.e f6 fun i hi => by subst hi; exact n5.lo⟩
    clear z5 f6
    have C6 := C.mv (w := w6)
    refine rld (B := C) rfl ?_
    refine rslYs 1 (S.up (w' := w6)) (by simp) rfl fun a7 c7 S7 hblk => ?_
    refine rsto (B := C6) (vs := [.slice a7 ((x :: T).length - 1) c7]) rfl rfl rfl (sl_one _ _ _) fun w7 C7 f7 _ => ?_
    have K7 : FrT B rqE w6 w7 := C6.wrote f7 hlo (by decide)
    have F7 : FrT B rqE w w7 := (FrT.ext Le.e).trans K7
    have B7 := B6.kept K7 (by decide)
    have H7 : Bk w7 b2 [.int .i64 0, .int .i64 0] E.api_Hit := (B2.mv (w := w6)).kept K7 (by decide)
    have S8 := S7.kept K7 (by decide)
    refine rldG (ds := enc x) (B := B7) rfl rfl ?_
    refine rsto (B := H7) (vs := enc x) rfl rfl rfl (Enc.one _) fun w8 B8 f8 _ => ?_
    have F8 : FrT B rqE w w8 := Fr.new F7 f8 fun i hi => by subst hi; exact hb2
    refine rresG rfl ?_
    have hsT : SrtH T := (List.pairwise_cons.1 hs).2
    have S9 : SlY E.api_Hit w8 (.slice a7 ((x :: T).length - 1) c7) ((x :: T).drop 1) := S8.fr f8 fun b' cs z hb' hc' => by
      rw [hblk] at hb'
      have q_ := S.2
      rcases q_ with h | ⟨g, cs', z', hg, hc⟩
      · cases h
      · rw [hg] at hb'; cases hb'; have := blk_lt hc; omega
    exact ⟨rfl, ⟨hlo, hsT, by show T.length ≤ N; simp at hL; omega, a7, c7, C7.fr f8 (by omega), S9⟩, F8⟩

/-! the document's rows -/
def bh1 : HitD := ⟨1, 5⟩
def bh2 : HitD := ⟨2, 3⟩
def bh3 : HitD := ⟨3, 4⟩
theorem bqs : putQ 2 [] bh1 = ([bh1], zH, false) ∧ putQ 2 [bh1] bh2 = ([bh2, bh1], zH, false) ∧ putQ 2 [bh2, bh1] bh3 = ([bh2, bh3], bh1, true) := by decide
theorem l10_bests_sp {w : World} : Sp Try.prog F.l10_bests #[] w fun v w' => v = .bool true ∧ Stp w w' := by
  obtain ⟨q1, q2, q3⟩ := bqs
  refine en TBok rfl ?_
  refine rcall (best_New_sp (most := 2) (w := w)) ?_
  rintro v w1 ⟨⟨h, _⟩ | ⟨_, b, rfl, Q⟩, e1⟩
  · exact absurd h (by decide)
  refine rpnil ?_
  refine ite (fun h => absurd rfl h) (fun _ => ?_)
  refine rbuild (cs := enc bh1) rfl ?_
  have P1 := Queue_Put_sp (x := bh1) Q (by simp); rw [q1] at P1
  refine rcall P1 ?_
  rintro v w2 ⟨rfl, Q2, f2⟩
  have s2 : Stp w w2 := ⟨FrT.st Le.e f2 (Nat.le_refl _)⟩
  refine ral fun b3 w3 n3 z3 => ?_
  refine rsto (B := z3) (vs := enc zH) rfl rfl rfl (Enc.one _) fun w4 B4 f4 _ => ?_
  have s4 : Stp w2 w4 := ⟨Fr.st Le.e f4 fun i hi => by subst hi; exact n3.lo⟩
  refine rbuild (cs := enc bh2) rfl ?_
  have P2 := Queue_Put_sp (x := bh2) (Q2.up (w' := w4)) (by simp); rw [q2] at P2
  refine rcall P2 ?_
  rintro v w5 ⟨rfl, Q5, f5⟩
  have s5 : Stp w w5 := ⟨FrT.st Le.e f5 (Nat.le_refl _)⟩
  refine ral fun b6 w6 n6 z6 => ?_
  refine rsto (B := z6) (vs := enc zH) rfl rfl rfl (Enc.one _) fun w7 B7 f7 _ => ?_
  have s7 : Stp w5 w7 := ⟨Fr.st Le.e f7 fun i hi => by subst hi; exact n6.lo⟩
  refine rbuild (cs := enc bh3) rfl ?_
  have P3 := Queue_Put_sp (x := bh3) (Q5.up (w' := w7)) (by simp); rw [q3] at P3
  refine rcall P3 ?_
  rintro v w8 ⟨rfl, Q8, f8⟩
  have s8 : Stp w w8 := ⟨FrT.st Le.e f8 (Nat.le_refl _)⟩
  refine ral fun b9 w9 n9 z9 => ?_
  refine rsto (B := z9) (vs := enc bh1) rfl rfl rfl (Enc.one _) fun w10 B10 f10 _ => ?_
  have s10 : Stp w8 w10 := ⟨Fr.st Le.e f10 fun i hi => by subst hi; exact n9.lo⟩
  have B10' : Bk w10 b9 (enc bh1) E.api_Hit := B10
  clear z3 f4 B4 z6 f7 B7 z9 f10 B10
  refine rcall (Queue_Take_sp (Q8.up (w' := w10))) ?_
  rintro v w11 ⟨rfl, Q11, f11⟩
  have s11 : Stp w w11 := ⟨FrT.st Le.e f11 (Nat.le_refl _)⟩
  have B11 := B10'.kept f11 (by decide)
  refine ral fun b12 w12 n12 z12 => ?_
  refine rsto (B := z12) (vs := enc bh2) rfl rfl rfl (Enc.one _) fun w13 B13 f13 _ => ?_
  have s13 : Stp w11 w13 := ⟨Fr.st Le.e f13 fun i hi => by subst hi; exact n12.lo⟩
  have B13' : Bk w13 b12 (enc bh2) E.api_Hit := B13
  refine rcall (Queue_Take_sp (Q11.up (w' := w13))) ?_
  rintro v w14 ⟨rfl, Q14, f14⟩
  have s14 : Stp w w14 := ⟨FrT.st Le.e f14 (Nat.le_refl _)⟩
  have B14 := (B11.mv (w := w13)).kept f14 (by decide)
  have C14 := B13'.kept f14 (by decide)
  clear z12 f13 B13 B13'
  refine ral fun b15 w15 n15 z15 => ?_
  refine rsto (B := z15) (vs := enc bh3) rfl rfl rfl (Enc.one _) fun w16 B16 f16 _ => ?_
  have s16 : Stp w14 w16 := ⟨Fr.st Le.e f16 fun i hi => by subst hi; exact n15.lo⟩
  have B16' : Bk w16 b15 (enc bh3) E.api_Hit := B16
  refine rcall (Queue_Take_sp (Q14.up (w' := w16))) ?_
  rintro v w17 ⟨rfl, Q17, f17⟩
  have s17 : Stp w w17 := ⟨FrT.st Le.e f17 (Nat.le_refl _)⟩
  have B17 := (B14.mv (w := w16)).kept f17 (by decide)
  have C17 := (C14.mv (w := w16)).kept f17 (by decide)
  have D17 := B16'.kept f17 (by decide)
  clear z15 f16 B16 B16'
  refine ral fun b18 w18 n18 z18 => ?_
  refine rsto (B := z18) (vs := enc zH) rfl rfl rfl (Enc.one _) fun w19 B19 f19 _ => ?_
  have s19 : Stp w17 w19 := ⟨Fr.st Le.e f19 fun i hi => by subst hi; exact n18.lo⟩
  clear z18 f19 B19
  refine rcall (best_New_sp (most := 0) (w := w19)) ?_
  rintro v w20 ⟨⟨_, rfl⟩ | ⟨h, _⟩, e20⟩
  case' inr => exact absurd h (by decide)
  refine rldG (ds := enc bh1) (B := B17) rfl rfl ?_
  refine rbuild (cs := enc bh1) rfl ?_
  refine rgeq HitD bh1 bh1 (fun _ => ?_) (fun h => absurd rfl h)
  refine rldG (ds := enc bh2) (B := C17) rfl rfl ?_
  refine rbuild (cs := enc bh2) rfl ?_
  refine rgeq HitD bh2 bh2 (fun _ => ?_) (fun h => absurd rfl h)
  refine rldG (ds := enc bh3) (B := D17) rfl rfl ?_
  refine rbuild (cs := enc bh3) rfl ?_
  refine rgeq HitD bh3 bh3 (fun _ => ?_) (fun h => absurd rfl h)
  refine ite (fun _ => ?_) (fun h => absurd rfl h)
  exact ⟨rfl, stp⟩
end Go.W
