/-
  Proved here: what the reference tells of replies; the laws of replies counted; further laws of replies counted; replies told of an Id are, put again, bytes of the row, in their order.
  Conditions: those that each fact names.
-/
import Derived.Test.YtgplodgpbhddbaaTE
import Derived.Test.YtgplodgpbhddbaaW17
namespace Go.W
open Go Go.Proofs
open Enc (enc)
set_option maxRecDepth 10000

instance : EqT Try.prog E.api_Count CntD := ⟨by kernel_rfl, fun d x y w => ⟨_, by
    rw [run_struct (l := [(E.api_Errno, 0), (E.int, 1)]) (by kernel_rfl) (d + 7)]
    exact eqL_int rfl rfl (eqL_int rfl rfl (eqL_nil _ _ _ _)), by cases x; cases y; simp⟩⟩
theorem r01_Texts_sp {a b : Option Addr} {na ca nb cb : Nat} {la lb : List ByteArray} {w : World} (ha : SlF w (.slice a na ca) la) (hb : SlF w (.slice b nb cb) lb) (hn : la.length ≤ 1000000) :
    Sp Try.prog F.r01_Texts #[.slice a na ca, .slice b nb cb] w fun v w' => Tells (la = lb) v ∧ Stp w w' := by
  have q_ := ha.len
  obtain rfl := q_
  have q_ := hb.len
  obtain rfl := q_
  refine en TBok rfl ?_
  refine ite (fun h => ⟨.f (fun e => h (by rw [e])), stp⟩) (fun h => ?_)
  have hl : la.length = lb.length := by omega
  refine cnt TBok 6 [4] 5 la.length (fun k w' => la.take k = lb.take k ∧ Stp w w') rfl rfl ⟨by simp, stp⟩ ?_
  rintro k g w' hk ⟨ht, e⟩
  refine ite (fun hlt => ?_) (fun hge => ?_)
  · have hka : k < la.length := by omega
    have hkb : k < lb.length := by omega
    refine drawR TBok mixed (fun _ => False) (upF 9 0) (by kernel_rfl) fun w1 e1 _ => ?_
    refine tix ha.up (x := la[k]) (by simp) fun b1 o1 A1 _ => tload1 (A1.cell0 rfl) not_false ?_
    refine tix hb.up (x := lb[k]) (by simp) fun b2 o2 A2 _ => tload1 (A2.cell0 rfl) not_false ?_
    refine tsne (fun hne => ⟨.f (by rintro rfl; exact hne rfl), stp⟩) (fun he => ?_)
    refine rar (by omega) ⟨rfl, hka, ?_, stp⟩
    rw [take_add hka, take_add hkb, ht, he]
  · have q_ : k = la.length := by omega
    obtain rfl := q_
    rw [List.take_of_length_le (Nat.le_refl _), List.take_of_length_le (by omega)] at ht
    exact ⟨.t ht, e⟩
theorem r26_Same_sp {a b : Option Addr} {na ca nb cb : Nat} {la lb : List CntD} {w : World} (ha : SlF w (.slice a na ca) la) (hb : SlF w (.slice b nb cb) lb) (hn : la.length ≤ 1000000) :
    Sp Try.prog F.r26_Same #[.slice a na ca, .slice b nb cb] w fun v w' => Tells (la = lb) v ∧ Stp w w' := by
  have q_ := ha.len
  obtain rfl := q_
  have q_ := hb.len
  obtain rfl := q_
  refine en TBok rfl ?_
  refine ite (fun h => ⟨.f (fun e => h (by rw [e])), stp⟩) (fun h => ?_)
  have hl : la.length = lb.length := by omega
  refine cnt TBok 6 [4] 5 la.length (fun k w' => la.take k = lb.take k ∧ Stp w w') rfl rfl ⟨by simp, stp⟩ ?_
  rintro k g w' hk ⟨ht, e⟩
  refine ite (fun hlt => ?_) (fun hge => ?_)
  · have hka : k < la.length := by omega
    have hkb : k < lb.length := by omega
    refine drawR TBok mixed (fun _ => False) (upF 9 0) (by kernel_rfl) fun w1 e1 _ => ?_
    refine tix ha.up (x := la[k]) (by simp) fun b1 o1 A1 _ => tloadA A1 rfl not_false ?_
    refine tix hb.up (x := lb[k]) (by simp) fun b2 o2 A2 _ => tloadA A2 rfl not_false ?_
    refine tgne CntD la[k] lb[k] (fun hne => ⟨.f (by rintro rfl; exact hne rfl), stp⟩) (fun he => ?_)
    refine rar (by omega) ⟨rfl, hka, ?_, stp⟩
    rw [take_add hka, take_add hkb, ht, he]
  · have q_ : k = la.length := by omega
    obtain rfl := q_
    rw [List.take_of_length_le (Nat.le_refl _), List.take_of_length_le (by omega)] at ht
    exact ⟨.t ht, e⟩
theorem r22_SameReply_sp {x y : RepD} {r q : RepL} {w : World} (hx : RepM w x r) (hy : RepM w y q) (hn : r.hits.length ≤ 1000000) :
    Sp Try.prog F.r22_SameReply #[agg x, agg y] w fun v w' => Tells (r = q) v ∧ Stp w w' := by
  obtain ⟨x1, x2, x3, x4, x5⟩ := hx
  obtain ⟨y1, y2, y3, y4, y5⟩ := hy
  obtain ⟨xi, xc, ⟨xf, xn, ⟨xa, xl, xp⟩⟩⟩ := x
  obtain ⟨yi, yc, ⟨yf, yn, ⟨ya, yl, yp⟩⟩⟩ := y
  cases r; cases q
  simp only at x1 x2 x3 x4 x5 y1 y2 y3 y4 y5 hn
  subst x1 x2 x3 x4 y1 y2 y3 y4
  refine en TBok rfl ?_
  refine rbx fun b1 w1 n1 B1 => rbx fun b2 w2 n2 B2 => ?_
  refine rld (B := B1) rfl (rld (B := B2) rfl ?_)
  refine ite (fun h1 => ?_) (fun h1 => ⟨.f (fun e => h1 (by injection e)), stp⟩)
  refine rld (B := B1) rfl (rld (B := B2) rfl ?_)
  refine ite (fun h2 => ?_) (fun h2 => ⟨.f (fun e => h2 (by injection e)), stp⟩)
  refine rldG (ds := enc (⟨xf, xn, xa, xl, xp⟩ : AnsD)) (B := B1) rfl rfl ?_
  refine rldG (ds := enc (⟨yf, yn, ya, yl, yp⟩ : AnsD)) (B := B2) rfl rfl ?_
  refine rcall (r18_Same_sp (x := ⟨xf, xn, xa, xl, xp⟩) (y := ⟨yf, yn, ya, yl, yp⟩) (x5.sl.up (w' := w2)) (y5.sl.up (w' := w2)) hn) ?_
  have h1' : xi = yi := h1
  have h2' : xc = yc := h2
  rintro v w3 ⟨⟨rfl, h3⟩ | ⟨rfl, h3⟩, e3⟩
  · obtain ⟨g1, g2, g3⟩ := h3
    have g1' : xf = yf := g1
    have g2' : xn = yn := g2
    exact ⟨.t (by rw [h1', h2', g1', g2', g3]), stp⟩
  · exact ⟨.f (fun e => h3 (by injection e with e1 e2 e3 e4 e5; exact ⟨e3, e4, e5⟩)), stp⟩
theorem agg_len {α : Type} [Enc α] (x : α) : (enc x).length = Enc.sz α := Enc.len x
theorem r26_SameReplies_sp {a b : Option Addr} {na ca nb cb : Nat} {la lb : List RepD} {ra rb : List RepL} {w : World} (ha : SlF w (.slice a na ca) la) (hb : SlF w (.slice b nb cb) lb) (ma : RepsM w la ra) (mb : RepsM w lb rb) (hn : la.length ≤ 1000000) (hr : ∀ r ∈ ra, OkL r) :
    Sp Try.prog F.r26_SameReplies #[.slice a na ca, .slice b nb cb] w fun v w' => Tells (ra = rb) v ∧ Stp w w' := by
  have q_ := ha.len
  obtain rfl := q_
  have q_ := hb.len
  obtain rfl := q_
  have l1 := ma.1; have l2 := mb.1
  refine en TBok rfl ?_
  refine ite (fun h => ⟨.f (fun e => h (by rw [e] at l1; omega)), stp⟩) (fun h => ?_)
  have hl : la.length = lb.length := by omega
  refine cnt TBok 6 [4] 5 la.length (fun k w' => ra.take k = rb.take k ∧ Stp w w') rfl rfl ⟨by simp, stp⟩ ?_
  rintro k g w' hk ⟨ht, e⟩
  refine ite (fun hlt => ?_) (fun hge => ?_)
  · have hka : k < la.length := by omega
    have hkb : k < lb.length := by omega
    have hra : k < ra.length := by omega
    have hrb : k < rb.length := by omega
    refine drawR TBok mixed (fun _ => False) (upF 10 0) (by kernel_rfl) fun w1 e1 _ => ?_
    refine tix ha.up (x := la[k]) (by simp) fun b1 o1 A1 _ => tloadA A1 rfl not_false ?_
    refine tix hb.up (x := lb[k]) (by simp) fun b2 o2 A2 _ => tloadA A2 rfl not_false ?_
    have m1 := (ma.2 k la[k] ra[k] (by simp) (by simp)).up (w' := w1)
    have m2 := (mb.2 k lb[k] rb[k] (by simp) (by simp)).up (w' := w1)
    refine rcall (r22_SameReply_sp m1 m2 (by have := (hr _ (List.getElem_mem hra)).2.2.2.1; omega)) ?_
    rintro v w2 ⟨⟨rfl, h3⟩ | ⟨rfl, h3⟩, e3⟩
    · refine ⟨e3.e.fr, ?_⟩
      refine rar (by omega) ⟨rfl, hka, ?_, stp⟩
      rw [take_add hra, take_add hrb, ht, h3]
    · refine ⟨e3.e.fr, ?_⟩
      exact ⟨.f (by rintro rfl; exact h3 rfl), stp⟩
  · have q_ : k = la.length := by omega
    obtain rfl := q_
    rw [List.take_of_length_le (by omega), List.take_of_length_le (by omega)] at ht
    exact ⟨.t ht, e⟩
theorem r01_OwnTexts_sp {a : Option Addr} {n c : Nat} {L : List ByteArray} {w : World} (h : SlF w (.slice a n c) L) (hn : L.length ≤ 1000000) : Sp Try.prog F.r01_OwnTexts #[.slice a n c] w fun v w' => Own w.heap.size E.string w' v L ∧ Stp w w' := by
  have q_ := h.len
  obtain rfl := q_
  refine en TBok rfl ?_
  refine rapp (u := w) ⟨rfl, rfl⟩ (Own.nil _ E.string _) h (by simp; omega) fun v3 w3 O3 f3 s3 => ?_
  rw [List.nil_append] at O3
  exact ⟨O3, stp⟩
theorem r26_Big_sp {a : Option Addr} {n c : Nat} {L : List ByteArray} {w : World} (h : SlF w (.slice a n c) L) : Sp Try.prog F.r26_Big #[.slice a n c] w fun v w' => (v = .bool true ∨ (v = .bool false ∧ L.length ≤ 60 ∧ ∀ s ∈ L, s.size ≤ 300)) ∧ Stp w w' := by
  have q_ := h.len
  obtain rfl := q_
  refine en TBok rfl ?_
  by_cases hL : L.length ≤ 60
  · refine cnt TBok 4 [2] 3 L.length (fun k u => (∀ s ∈ L.take k, s.size ≤ 300) ∧ Stp w u) rfl rfl ⟨by simp, stp⟩ ?_
    rintro k g u hk ⟨hall, e⟩
    refine ite (fun hlt => ?_) (fun hge => ?_)
    · have hka : k < L.length := by omega
      refine ite (fun h60 => ?_) (fun h60 => absurd (by omega) h60)
      refine rix (h.up (w' := u)) (x := L[k]) (by simp) fun b1 o1 A1 => rload1 (A1.cell0 rfl) ?_
      refine ite (fun hb => ⟨.inl rfl, stp⟩) (fun hb => ?_)
      refine rar (by omega) ⟨rfl, hka, fun s hs => ?_, stp⟩
      rw [take_add hka] at hs
      have q_ := List.mem_append.1 hs
      rcases q_ with hs | hs
      · exact hall s hs
      · rw [List.mem_singleton.1 hs]; omega
    · have q_ : k = L.length := by omega
      obtain rfl := q_
      rw [List.take_length] at hall
      refine ite (fun h60 => absurd h60 (by omega)) (fun h60 => ⟨.inr ⟨rfl, hL, hall⟩, stp⟩)
  · refine cnt TBok 4 [2] 3 0 (fun k u => Stp w u) rfl rfl stp ?_
    rintro k g u hk e
    have q_ : k = 0 := by omega
    obtain rfl := q_
    refine ite (fun hlt => ?_) (fun hge => ?_)
    · refine ite (fun h60 => absurd h60 (by omega)) (fun h60 => ?_)
      refine ite (fun h60 => ⟨.inl rfl, stp⟩) (fun h60 => absurd (by omega) h60)
    · refine ite (fun h60 => ⟨.inl rfl, stp⟩) (fun h60 => absurd (by omega) h60)
set_option maxHeartbeats 1000000 in
theorem r26_read_sp {a : Option Addr} {n c : Nat} {L : List ByteArray} {w : World} (h : SlF w (.slice a n c) L) (hL : Short L) :
    Sp Try.prog F.r26_read #[.slice a n c] w fun v w' => (∃ v' xs, v = .tuple #[v', .int .i64 ((L.length - (reps L).length : Nat) : Int)] ∧ Own w.heap.size E.api_Reply w' v' xs ∧ RepsM w' xs (reps L)) ∧ Stp w w' := by
  have hn := hL.1
  have q_ := h.len
  obtain rfl := q_
  refine en TBok rfl ?_
  refine cnt2 TBok 9 [7, 8] 4 5 6 L.length (fun k v od u => ∃ (o : Nat) (xs : List RepD), od = .int .i64 (o : Int) ∧ o + (reps (L.take k)).length = k ∧ Own w.heap.size E.api_Reply u v xs ∧ RepsM u xs (reps (L.take k)) ∧ Stp w u) rfl rfl ⟨0, [], rfl, by simp [reps], Own.nil _ _ _, by simpa [reps] using RepsM.nil w, stp⟩ ?_
  rintro k v _ g u hk ⟨o, xs, rfl, ho, O, M, e⟩
  refine ite (fun hlt => ?_) (fun hge => ?_)
  · have hka : k < L.length := by omega
    have htk := reps_take hka
    refine rix (h.up (w' := u)) (x := L[k]) (by simp) fun b1 o1 A1 => rload1 (A1.cell0 rfl) ?_
    refine rcall (r22_GetReply_b (s := L[k]) (by have := hL.2 _ (List.getElem_mem hka); omega)) ?_
    rintro _ u1 ⟨⟨q, odd, rfl, hx⟩, e1⟩
    refine ral fun bx v1 m1 z1 => ?_
    refine rsto (B := z1) (vs := enc q) rfl rfl rfl (Enc.one _) fun v2 X2 f2 _ => ?_
    have X2 : Bk v2 bx (enc q) E.api_Reply := X2
    have s2 : Stp u1 v2 := ⟨Fr.st Le.e f2 fun i hi => by subst hi; exact m1.lo⟩
    have hx := hx.up (w' := v2)
    rcases hx with ⟨rfl, r, hr, hM⟩ | ⟨rfl, hr⟩
    · rw [hr] at htk
      have htk : reps (L.take (k + 1)) = reps (L.take k) ++ [r] := htk
      refine ite (fun h => absurd rfl h) (fun _ => ?_)
      refine rldG (ds := enc q) (B := X2) rfl (Enc.len q) ?_
      refine rbs1 q rfl (by show (enc q).toArray.toList = enc q; simp) (by decide) fun b6 v6 e6 _ S6 => ?_
      have hxl : xs.length ≤ L.length := by rw [M.1]; omega
      refine rapp1 (u := w) ⟨rfl, rfl⟩ (O.up (w' := v6)) S6 (by omega) fun v7 w7 O7 f7 s7 => ?_
      refine rar (by omega) ⟨rfl, hka, o, xs ++ [q], rfl, by rw [htk, List.length_append, List.length_singleton]; omega, O7, ?_, stp⟩
      rw [htk]
      exact RepsM.snoc (M.imp fun x r hx => (hx.up (w' := v6)).fro (O.up (w' := v6)) f7 (by decide)) ((hM.up (w' := v6)).fro (O.up (w' := v6)) f7 (by decide))
    · rw [hr] at htk
      have htk : reps (L.take (k + 1)) = reps (L.take k) := by rw [htk]; simp
      refine ite (fun _ => ?_) (fun h => absurd (by decide) h)
      refine rarE (y := ((o + 1 : Nat) : Int)) (by omega) (by omega) ?_
      exact rar (by omega) ⟨rfl, hka, o + 1, xs, rfl, by rw [htk]; omega, O.up, by rw [htk]; exact M.up, stp⟩
  · have q_ : k = L.length := by omega
    obtain rfl := q_
    rw [List.take_length] at ho M
    have hv : Value.tuple #[v, .int .i64 (o : Int)] = .tuple #[v, .int .i64 ((L.length - (reps L).length : Nat) : Int)] := by rw [← ho]; congr 5; omega
    exact ⟨⟨v, xs, hv, O, M⟩, e⟩
theorem codes_succ (rs : List RepL) (k : Nat) : ((List.range (k + 1)).filterMap fun (c : Nat) => if cntC rs (c : Int) = 0 then none else some (⟨(c : Int), (cntC rs (c : Int) : Nat)⟩ : CntD)) =
    ((List.range k).filterMap fun (c : Nat) => if cntC rs (c : Int) = 0 then none else some (⟨(c : Int), (cntC rs (c : Int) : Nat)⟩ : CntD)) ++ if cntC rs (k : Int) = 0 then [] else [⟨(k : Int), (cntC rs (k : Int) : Nat)⟩] := by
  rw [List.range_succ, List.filterMap_append]
  congr 1
  by_cases h : cntC rs (k : Int) = 0 <;> simp [h]
theorem cntC_take {rs : List RepL} {k : Nat} (h : k < rs.length) (c : Int) : cntC (rs.take (k + 1)) c = cntC (rs.take k) c + if c = rs[k].code then 1 else 0 := by rw [take_add h, cntC_snoc]
set_option maxHeartbeats 1000000 in
theorem r26_Codes_sp {a : Option Addr} {n c : Nat} {L : List ByteArray} {w : World} (h : SlF w (.slice a n c) L) (hL : Short L) :
    Sp Try.prog F.r26_Codes #[.slice a n c] w fun v w' => (∃ v', v = .tuple #[v', .int .i64 ((L.length - (reps L).length : Nat) : Int)] ∧ Own w.heap.size E.api_Count w' v' (codesL (reps L))) ∧ Stp w w' := by
  have hn := hL.1
  refine en TBok rfl ?_
  refine rcall (r26_read_sp h hL) ?_
  rintro _ w1 ⟨⟨v1, xs, rfl, O1, M1⟩, e1⟩
  have q_ := O1.shape
  obtain ⟨xa, xc, rfl⟩ := q_
  have hxl := M1.1
  have hrl := reps_len L
  refine cnt1 TBok 15 [8, 9] 6 7 1001 (fun k v u => Own w1.heap.size E.api_Count u v ((List.range k).filterMap fun (c : Nat) => if cntC (reps L) (c : Int) = 0 then none else some (⟨(c : Int), (cntC (reps L) (c : Int) : Nat)⟩ : CntD)) ∧ Stp w1 u) rfl rfl ⟨Own.nil _ _ _, stp⟩ ?_
  rintro k v g u hk ⟨O, e⟩
  refine ite (fun hlt => ?_) (fun hge => ?_)
  · refine cnt1 TBok 19 [] 8 9 xs.length (fun i v u' => v = .int .i64 ((cntC ((reps L).take i) (k : Int) : Nat) : Int) ∧ u' = u) rfl rfl ⟨rfl, rfl⟩ ?_
    rintro i _ g u' hi ⟨rfl, rfl⟩
    refine ite (fun hlt2 => ?_) (fun hge2 => ?_)
    · have hia : i < xs.length := by omega
      have hir : i < (reps L).length := by omega
      have q_ := M1.2 i xs[i] (reps L)[i] (by simp) (by simp)
      obtain ⟨m1, m2, m3, m4, m5⟩ := q_
      have hcc := cntC_le ((reps L).take i) (k : Int)
      rw [List.length_take] at hcc
      refine rix (O1.sl.up (w' := u')) (x := xs[i]) (by simp) fun b1 o1 A1 => rload1 (A1.cell 1 rfl) ?_
      have hct := cntC_take hir (k : Int)
      refine ite (fun (he : xs[i].code = (k : Int)) => ?_) (fun (he : ¬ xs[i].code = (k : Int)) => ?_)
      · rw [if_pos (by rw [← m2, he])] at hct
        refine rarE (y := ((cntC ((reps L).take (i + 1)) (k : Int) : Nat) : Int)) (by omega) (by omega) ?_
        exact rar (by omega) ⟨rfl, hia, rfl, rfl⟩
      · rw [if_neg (by rw [← m2]; exact fun e => he e.symm)] at hct
        have hct3 : cntC ((reps L).take (i + 1)) (k : Int) = cntC ((reps L).take i) (k : Int) := by omega
        have hct2 : Value.int .i64 ((cntC ((reps L).take i) (k : Int) : Nat) : Int) = .int .i64 ((cntC ((reps L).take (i + 1)) (k : Int) : Nat) : Int) := by rw [hct3]
        exact rar (by omega) ⟨rfl, hia, hct2, rfl⟩
    · have q_ : i = xs.length := by omega
      obtain rfl := q_
      have hv : cntC ((reps L).take xs.length) (k : Int) = cntC (reps L) (k : Int) := by rw [hxl, List.take_length]
      have hsc := codes_succ (reps L) k
      have hcl := cntC_le (reps L) (k : Int)
      refine ite (fun (hgt : (0 : Int) < ((cntC ((reps L).take xs.length) (k : Int) : Nat) : Int)) => ?_) (fun (hgt : ¬ (0 : Int) < ((cntC ((reps L).take xs.length) (k : Int) : Nat) : Int)) => ?_)
      · rw [if_neg (by omega)] at hsc
        refine rbuild (cs := [.int .i64 (k : Int), .int .i64 ((cntC ((reps L).take xs.length) (k : Int) : Nat) : Int)]) rfl ?_
        have hcell : (Value.agg [.int .i64 (k : Int), .int .i64 ((cntC ((reps L).take xs.length) (k : Int) : Nat) : Int)].toArray).cells.toList = enc (⟨(k : Int), ((cntC (reps L) (k : Int) : Nat) : Int)⟩ : CntD) := by rw [hv]; rfl
        refine rbs1 (α := CntD) ⟨(k : Int), ((cntC (reps L) (k : Int) : Nat) : Int)⟩ rfl hcell (by decide) fun b6 v6 e6 _ S6 => ?_
        have hol : ((List.range k).filterMap fun (c : Nat) => if cntC (reps L) (c : Int) = 0 then none else some (⟨(c : Int), (cntC (reps L) (c : Int) : Nat)⟩ : CntD)).length ≤ k := by
          have := List.length_filterMap_le (fun (c : Nat) => if cntC (reps L) (c : Int) = 0 then none else some (⟨(c : Int), (cntC (reps L) (c : Int) : Nat)⟩ : CntD)) (List.range k)
          rw [List.length_range] at this; exact this
        refine rapp1 (u := w1) ⟨rfl, rfl⟩ (O.up (w' := v6)) S6 (by omega) fun v7 w7 O7 f7 s7 => ?_
        rw [← hsc] at O7
        exact rar (by omega) ⟨rfl, by omega, O7, stp⟩
      · rw [if_pos (by omega), List.append_nil] at hsc
        rw [← hsc] at O
        exact rar (by omega) ⟨rfl, by omega, O, e⟩
  · have q_ : k = 1001 := by omega
    obtain rfl := q_
    exact ⟨⟨v, rfl, O.older⟩, stp⟩
theorem ofI_take {rs : List RepL} {k : Nat} (h : k < rs.length) (id : Int) : ofI id (rs.take (k + 1)) = ofI id (rs.take k) ++ if rs[k].id = id then [rs[k]] else [] := by
  rw [take_add h]; unfold ofI; rw [List.filter_append]
  congr 1
  by_cases hh : rs[k].id = id <;> simp [hh]
set_option maxHeartbeats 1000000 in
theorem r26_Of_sp {a : Option Addr} {n c : Nat} {L : List ByteArray} {id : Int} {w : World} (h : SlF w (.slice a n c) L) (hL : Short L) :
    Sp Try.prog F.r26_Of #[.slice a n c, .int .i64 id] w fun v w' => (∃ v' xs, v = .tuple #[v', .bool (decide (0 < (ofI id (reps L)).length))] ∧ Own w.heap.size E.api_Reply w' v' xs ∧ RepsM w' xs (ofI id (reps L))) ∧ Stp w w' := by
  have hn := hL.1
  refine en TBok rfl ?_
  refine rcall (r26_read_sp h hL) ?_
  rintro _ w1 ⟨⟨v1, xs, rfl, O1, M1⟩, e1⟩
  have q_ := O1.shape
  obtain ⟨xa, xc, rfl⟩ := q_
  have hxl := M1.1
  have hrl := reps_len L
  refine cnt1 TBok 15 [] 8 9 xs.length (fun k v u => (∃ ys, Own w1.heap.size E.api_Reply u v ys ∧ RepsM u ys (ofI id ((reps L).take k))) ∧ Stp w1 u) rfl rfl ⟨⟨[], Own.nil _ _ _, RepsM.nil _⟩, stp⟩ ?_
  rintro k v g u hk ⟨⟨ys, O, M⟩, e⟩
  refine ite (fun hlt => ?_) (fun hge => ?_)
  · have hka : k < xs.length := by omega
    have hkr : k < (reps L).length := by omega
    have hM := M1.2 k xs[k] (reps L)[k] (by simp) (by simp)
    have hof := ofI_take hkr id
    refine rix (O1.sl.up (w' := u)) (x := xs[k]) (by simp) fun b1 o1 A1 => rload1 (A1.cell0 rfl) ?_
    refine ite (fun (he : xs[k].id = id) => ?_) (fun (he : ¬ xs[k].id = id) => ?_)
    · rw [if_pos (by rw [← hM.1]; exact he)] at hof
      refine rix (O1.sl.up (w' := u)) (x := xs[k]) (by simp) fun b2 o2 A2 => rloadA A2 rfl ?_
      refine rbs1 xs[k] rfl (by show (enc xs[k]).toArray.toList = enc xs[k]; simp) (by decide) fun b6 v6 e6 _ S6 => ?_
      have hyl : ys.length ≤ k := by have := ofI_len id ((reps L).take k); rw [List.length_take] at this; rw [M.1]; omega
      refine rapp1 (u := w1) ⟨rfl, rfl⟩ (O.up (w' := v6)) S6 (by omega) fun v7 w7 O7 f7 s7 => ?_
      refine rar (by omega) ⟨rfl, hka, ⟨ys ++ [xs[k]], O7, ?_⟩, stp⟩
      rw [hof]
      exact RepsM.snoc (M.imp fun x r hx => (hx.up (w' := v6)).fro (O.up (w' := v6)) f7 (by decide)) (((hM.up (w' := u)).up (w' := v6)).fro (O.up (w' := v6)) f7 (by decide))
    · rw [if_neg (by rw [← hM.1]; exact he), List.append_nil] at hof
      rw [← hof] at M
      exact rar (by omega) ⟨rfl, hka, ⟨ys, O, M⟩, e⟩
  · have q_ : k = xs.length := by omega
    obtain rfl := q_
    rw [hxl, List.take_length] at M
    have hl := M.1
    have q_ := O.shape
    obtain ⟨oa, oc, rfl⟩ := q_
    refine ite (fun hgt => ?_) (fun hgt => ?_)
    · have hv : Value.tuple #[.slice oa ys.length oc, .bool true] = .tuple #[.slice oa ys.length oc, .bool (decide (0 < (ofI id (reps L)).length))] := by rw [decide_eq_true (by omega)]
      exact ⟨⟨_, ys, hv, O.older, M⟩, stp⟩
    · have hv : Value.tuple #[.slice oa ys.length oc, .bool false] = .tuple #[.slice oa ys.length oc, .bool (decide (0 < (ofI id (reps L)).length))] := by rw [decide_eq_false (by omega)]
      exact ⟨⟨_, ys, hv, O.older, M⟩, stp⟩
theorem r26_all_sp {a : Option Addr} {n c : Nat} {L : List ByteArray} {w : World} (h : SlF w (.slice a n c) L) (hL : Short L) :
    Sp Try.prog F.r26_all #[.slice a n c] w fun v w' => Own w.heap.size E.int w' v ((reps L).map (·.id)) ∧ Stp w w' := by
  have hn := hL.1
  refine en TBok rfl ?_
  refine rcall (r26_read_sp h hL) ?_
  rintro _ w1 ⟨⟨v1, xs, rfl, O1, M1⟩, e1⟩
  have q_ := O1.shape
  obtain ⟨xa, xc, rfl⟩ := q_
  have hxl := M1.1
  have hrl := reps_len L
  refine cnt1 TBok 12 [] 5 6 xs.length (fun k v u => Own w1.heap.size E.int u v (((reps L).take k).map (·.id)) ∧ Stp w1 u) rfl rfl ⟨Own.nil _ _ _, stp⟩ ?_
  rintro k v g u hk ⟨O, e⟩
  refine ite (fun hlt => ?_) (fun hge => ?_)
  · have hka : k < xs.length := by omega
    have hkr : k < (reps L).length := by omega
    have hM := M1.2 k xs[k] (reps L)[k] (by simp) (by simp)
    refine rix (O1.sl.up (w' := u)) (x := xs[k]) (by simp) fun b1 o1 A1 => rload1 (A1.cell0 rfl) ?_
    refine rbs1 xs[k].id rfl rfl (by decide) fun b6 v6 e6 _ S6 => ?_
    refine rapp1 (u := w1) ⟨rfl, rfl⟩ (O.up (w' := v6)) S6 (by rw [List.length_map, List.length_take]; omega) fun v7 w7 O7 f7 s7 => ?_
    have ht : ((reps L).take k).map (·.id) ++ [xs[k].id] = ((reps L).take (k + 1)).map (·.id) := by rw [take_add hkr, List.map_append, hM.1]; rfl
    rw [ht] at O7
    exact rar (by omega) ⟨rfl, hka, O7, stp⟩
  · have q_ : k = xs.length := by omega
    obtain rfl := q_
    rw [hxl, List.take_length] at O
    exact ⟨O.older, stp⟩
theorem r26_Ids_sp {a : Option Addr} {n c : Nat} {L : List ByteArray} {w : World} (h : SlF w (.slice a n c) L) (hL : Short L) :
    Sp Try.prog F.r26_Ids #[.slice a n c] w fun v w' => Own w.heap.size E.int w' v (idsL (reps L)) ∧ Stp w w' := by
  have hn := hL.1
  have hrl := reps_len L
  refine en TBok rfl ?_
  refine rcall (r26_all_sp h hL) ?_
  rintro v1 w1 ⟨O1, e1⟩
  have q_ := O1.shape
  obtain ⟨xa, xc, rfl⟩ := q_
  refine rcall (r05_Rising_sp O1.sl (by rw [List.length_map]; omega)) ?_
  rintro v2 w2 ⟨O2, e2⟩
  exact ⟨O2.older, stp⟩
theorem r26_Once_sp {a : Option Addr} {n c : Nat} {L : List ByteArray} {w : World} (h : SlF w (.slice a n c) L) (hL : Short L) :
    Sp Try.prog F.r26_Once #[.slice a n c] w fun v w' => Tells (((reps L).map (·.id)).Nodup) v ∧ Stp w w' := by
  refine en TBok rfl ?_
  refine rcall (r26_Ids_sp h hL) ?_
  rintro v1 w1 ⟨O1, e1⟩
  have q_ := O1.shape
  obtain ⟨xa, xc, rfl⟩ := q_
  refine rcall (r26_all_sp (h.up (w' := w1)) hL) ?_
  rintro v2 w2 ⟨O2, e2⟩
  have q_ := O2.shape
  obtain ⟨ya, yc, rfl⟩ := q_
  have hnd := rising_nodup ((reps L).map (·.id))
  refine ite (fun he => ⟨.t (hnd.1 (by unfold idsL at he; omega)), stp⟩) (fun he => ⟨.f fun hh => he (by have := hnd.2 hh; unfold idsL; omega), stp⟩)
theorem once_iff (rs : List RepL) : (∀ i, cntI rs i ≤ 1) ↔ (rs.map (·.id)).Nodup := by
  induction rs with
  | nil => simp [cntI]
  | cons r q ih =>
    rw [List.map_cons, List.nodup_cons, ← ih]
    have hc : ∀ i, cntI (r :: q) i = (if r.id = i then 1 else 0) + cntI q i := fun i => by
      unfold cntI; rw [List.filter_cons]
      by_cases h : r.id = i <;> simp [h]; omega
    constructor
    · intro h
      refine ⟨fun hm => ?_, fun i => by have := h i; rw [hc i] at this; omega⟩
      have h1 := h r.id
      rw [hc, if_pos rfl] at h1
      have h0 : cntI q r.id = 0 := by omega
      have := (ids_mem q r.id).1 (by unfold idsL; rw [(rising_spec _).2]; exact hm)
      exact this h0
    · rintro ⟨h1, h2⟩ i
      rw [hc i]
      by_cases h : r.id = i
      · rw [if_pos h]
        have : cntI q i = 0 := by
          by_cases h0 : cntI q i = 0
          · exact h0
          · exact (h1 (by rw [h]; have := (ids_mem q i).2 h0; unfold idsL at this; rw [(rising_spec _).2] at this; exact this)).elim
        omega
      · rw [if_neg h]; have := h2 i; omega
end Go.W
namespace Go.W
open Go Go.Proofs
open Enc (enc)
set_option maxRecDepth 10000

abbrev L0 : List ByteArray := [⟨#[1, 0, 0, 0, 0]⟩, ⟨#[2, 251, 1]⟩, ⟨#[3, 0, 0, 0, 0]⟩, ⟨#[120]⟩]
theorem numB_251 : numB 251 = [251, 1] := by rw [numB_ge (by decide), numB_lt (by decide)]; rfl
theorem numB_0 : numB 0 = [0] := numB_lt (by decide)
theorem getR_1 : getR [1, 0, 0, 0, 0] = some ⟨1, 0, false, 0, []⟩ := getR_some.2 ⟨by simp [OkL, RepOk, RepL.d], by
  simp [encL, encR, RepL.d, numsB, hitsB, numB_0, numB_lt (n := 1) (by decide)]⟩
theorem getR_2 : getR [2, 251, 1] = some ⟨2, 251, false, 0, []⟩ := getR_some.2 ⟨by simp [OkL, RepOk, RepL.d], by
  simp [encL, encR, RepL.d, numsB, numB_251, numB_lt (n := 2) (by decide)]⟩
theorem getR_3 : getR [3, 0, 0, 0, 0] = some ⟨3, 0, false, 0, []⟩ := getR_some.2 ⟨by simp [OkL, RepOk, RepL.d], by
  simp [encL, encR, RepL.d, numsB, hitsB, numB_0, numB_lt (n := 3) (by decide)]⟩
theorem getR_x : getR [120] = none := getR_none.2 fun r hr he => by
  unfold encL at he
  rw [encR_ok hr] at he
  have := congrArg List.length he
  have h1 := List.length_pos_iff.2 (numB_ne r.d.id.toNat)
  have h2 := List.length_pos_iff.2 (numB_ne r.d.code.toNat)
  simp at this; omega
abbrev R0 : List RepL := [⟨1, 0, false, 0, []⟩, ⟨2, 251, false, 0, []⟩, ⟨3, 0, false, 0, []⟩]
theorem reps0 : reps L0 = R0 := by
  unfold reps
  show List.filterMap _ [_, _, _, _] = _
  simp only [List.filterMap_cons, List.filterMap_nil, getR_1, getR_2, getR_3, getR_x]
theorem reps00 : reps [⟨#[1, 0, 0, 0, 0]⟩, ⟨#[1, 0, 0, 0, 0]⟩] = [⟨1, 0, false, 0, []⟩, ⟨1, 0, false, 0, []⟩] := by
  unfold reps
  show List.filterMap _ [_, _] = _
  simp only [List.filterMap_cons, List.filterMap_nil, getR_1]
theorem codes0 : codesL (reps L0) = [⟨0, 2⟩, ⟨251, 1⟩] := by rw [reps0]; decide +kernel
theorem ids0 : idsL (reps L0) = [1, 2, 3] := by rw [reps0]; decide +kernel
theorem of0 : ofI 2 (reps L0) = [⟨2, 251, false, 0, []⟩] := by rw [reps0]; decide +kernel
theorem short0 : Short L0 := ⟨by decide, by decide +kernel⟩
theorem l26_counted_sp {w : World} : Sp Try.prog F.l26_counted #[] w fun v w' => v = .bool true ∧ Stp w w' := by
  refine en TBok rfl ?_
  refine rbs (α := ByteArray) L0 rfl (vs := [.string ⟨#[1, 0, 0, 0, 0]⟩, .string ⟨#[2, 251, 1]⟩, .string ⟨#[3, 0, 0, 0, 0]⟩, .string ⟨#[120]⟩]) rfl rfl (by decide) fun b1 w1 n1 S1 => ?_
  have s1 : Stp w w1 := ⟨n1.ext⟩
  have hC := stats_Codes_sp S1 short0
  rw [codes0, reps0] at hC
  refine rcall hC ?_
  rintro _ w2 ⟨⟨v2, rfl, O2⟩, e2⟩
  have q_ := O2.shape
  obtain ⟨ca, cc, rfl⟩ := q_
  have hO := stats_Of_sp (id := 2) (S1.up (w' := w2)) short0
  rw [of0] at hO
  refine rcall hO ?_
  rintro _ w3 ⟨⟨v3, xs, rfl, O3, M3⟩, e3⟩
  obtain ⟨x, rfl⟩ : ∃ x, xs = [x] := by
    have := M3.1
    match xs, this with
    | [x], _ => exact ⟨x, rfl⟩
  have hx := M3.2 0 x _ rfl rfl
  have q_ := O3.shape
  obtain ⟨oa, oc, rfl⟩ := q_
  refine drawRT TBok mixed (fun _ => False) (.one 0 (.one 1 (.one 2 (.one 3 (.one 4 (.one 5 (.one 6 (.one 7 (.one 8 (.one 9 (.one 10 (.one 11 (.one 12 (.one 13 (.one 14 (.one 15 (.one 16 (.one 17 (.one 18 (.one 19 (.one 20 (.one 21 (.one 22 (.one 23 (.one 24 (.one 25 (.two 26 (.one 27 (.one 28 (.one 29 (.one 30 (.one 31 (.one 32 (.one 33 (.one 34 (.one 35 (.one 36 (.one 37 (.one 38 (.one 39 (.one 40 (.one 41 (.one 42 (.one 43 (.one 44 (.one 45 .nil))))))))))))))))))) 27 (.one 26 (.one 28 (.one 29 (.one 30 (.one 31 (.one 32 (.one 33 (.one 34 (.one 35 (.one 36 (.one 37 (.one 38 (.one 39 (.one 40 (.one 41 (.one 42 (.one 43 (.one 44 (.one 45 .nil)))))))))))))))))))))))))))))))))))))))))))))) (by kernel_rfl) fun w4 e4 _ => ?_
  refine tbuild (cs := [.int .i64 0, .int .i64 2]) rfl ?_
  refine tbuild (cs := [.int .i64 251, .int .i64 1]) rfl ?_
  refine rbs (α := CntD) [⟨0, 2⟩, ⟨251, 1⟩] rfl (vs := [.agg #[.int .i64 0, .int .i64 2], .agg #[.int .i64 251, .int .i64 1]]) rfl rfl (by decide) fun b5 w5 n5 S5 => ⟨n5.ext, ?_⟩
  have s5 : Stp w4 w5 := ⟨n5.ext⟩
  refine rcall ((r26_Same_sp (O2.sl.up (w' := w5)) S5 (by decide)).tt rfl) ?_
  rintro _ w6 ⟨rfl, e6⟩
  refine ⟨e6.e, ?_⟩
  refine ite (fun _ => ?_) (fun h => absurd (by decide) h)
  refine ite (fun _ => ?_) (fun h => absurd (by simp) h)
  refine tix (i := 0) (O3.sl.up (w' := w6)) (x := x) (by simp) fun b7 o7 A7 _ => tload1 (A7.cell 1 rfl) not_false ?_
  refine ite (fun _ => ?_) (fun h => absurd hx.2.1 h)
  have hI : ∀ {w : World} {a : Option Addr} {n c : Nat}, SlF w (.slice a n c) L0 → Sp Try.prog F.stats_Ids #[.slice a n c] w fun v w' => Own w.heap.size E.int w' v ([1, 2, 3] : List Int) ∧ Stp w w' := fun h => by
    have := stats_Ids_sp h short0
    rw [ids0] at this; exact this
  have hone : ∀ i, cntI (reps L0) i ≤ 1 := (once_iff _).2 (by rw [reps0]; decide)
  have htwo : ¬ ∀ i, cntI (reps [⟨#[1, 0, 0, 0, 0]⟩, ⟨#[1, 0, 0, 0, 0]⟩]) i ≤ 1 := fun h => by have := (once_iff _).1 h; rw [reps00] at this; revert this; decide
  refine ⟨?_, ?_⟩
  · refine rcall (hI (S1.up (w' := w6))) ?_
    rintro v w8 ⟨O8, e8⟩
    have q_ := O8.shape
    obtain ⟨ia, ic, rfl⟩ := q_
    refine ⟨e8.e, ?_⟩
    refine rbs (α := Int) [1, 2, 3] rfl (vs := [.int .i64 1, .int .i64 2, .int .i64 3]) rfl rfl (by decide) fun b9 w9 n9 S9 => ⟨n9.ext, ?_⟩
    have s9 : Stp w8 w9 := ⟨n9.ext⟩
    refine rcall ((r01_Ints_sp (O8.sl.up (w' := w9)) (S9.up (w' := w9)) (by decide)).tt rfl) ?_
    rintro _ w10 ⟨rfl, e10⟩
    refine ⟨e10.e, ?_⟩
    refine rcall ((stats_Once_sp (S1.up (w' := w10)) short0).tt hone) ?_
    rintro _ w11 ⟨rfl, e11⟩
    refine ⟨e11.e, ?_⟩
    refine tix (i := 0) (S1.up (w' := w11)) (x := ⟨#[1, 0, 0, 0, 0]⟩) (by simp) fun b12 o12 A12 _ => tload1 (A12.cell0 rfl) not_false ?_
    refine tix (i := 0) (S1.up (w' := w11)) (x := ⟨#[1, 0, 0, 0, 0]⟩) (by simp) fun b13 o13 A13 _ => tload1 (A13.cell0 rfl) not_false ?_
    refine rbs (α := ByteArray) [⟨#[1, 0, 0, 0, 0]⟩, ⟨#[1, 0, 0, 0, 0]⟩] rfl (vs := [.string ⟨#[1, 0, 0, 0, 0]⟩, .string ⟨#[1, 0, 0, 0, 0]⟩]) rfl rfl (by decide) fun b14 w14 n14 S14 => ⟨n14.ext, ?_⟩
    have s14 : Stp w11 w14 := ⟨n14.ext⟩
    refine rcall ((stats_Once_sp S14 ⟨by decide, by decide +kernel⟩).ff htwo) ?_
    rintro _ w15 ⟨rfl, e15⟩
    refine ⟨e15.e, ?_⟩
    exact ⟨rfl, stp⟩
  · refine rbs (α := Int) [1, 2, 3] rfl (vs := [.int .i64 1, .int .i64 2, .int .i64 3]) rfl rfl (by decide) fun b9 w8 n9 S9 => ⟨n9.ext, ?_⟩
    have s9 : Stp w6 w8 := ⟨n9.ext⟩
    refine rcall (hI (S1.up (w' := w8))) ?_
    rintro v w9 ⟨O8, e8⟩
    have q_ := O8.shape
    obtain ⟨ia, ic, rfl⟩ := q_
    refine ⟨e8.e, ?_⟩
    refine rcall ((r01_Ints_sp (O8.sl.up (w' := w9)) (S9.up (w' := w9)) (by decide)).tt rfl) ?_
    rintro _ w10 ⟨rfl, e10⟩
    refine ⟨e10.e, ?_⟩
    refine rcall ((stats_Once_sp (S1.up (w' := w10)) short0).tt hone) ?_
    rintro _ w11 ⟨rfl, e11⟩
    refine ⟨e11.e, ?_⟩
    refine tix (i := 0) (S1.up (w' := w11)) (x := ⟨#[1, 0, 0, 0, 0]⟩) (by simp) fun b12 o12 A12 _ => tload1 (A12.cell0 rfl) not_false ?_
    refine tix (i := 0) (S1.up (w' := w11)) (x := ⟨#[1, 0, 0, 0, 0]⟩) (by simp) fun b13 o13 A13 _ => tload1 (A13.cell0 rfl) not_false ?_
    refine rbs (α := ByteArray) [⟨#[1, 0, 0, 0, 0]⟩, ⟨#[1, 0, 0, 0, 0]⟩] rfl (vs := [.string ⟨#[1, 0, 0, 0, 0]⟩, .string ⟨#[1, 0, 0, 0, 0]⟩]) rfl rfl (by decide) fun b14 w14 n14 S14 => ⟨n14.ext, ?_⟩
    have s14 : Stp w11 w14 := ⟨n14.ext⟩
    refine rcall ((stats_Once_sp S14 ⟨by decide, by decide +kernel⟩).ff htwo) ?_
    rintro _ w15 ⟨rfl, e15⟩
    refine ⟨e15.e, ?_⟩
    exact ⟨rfl, stp⟩
theorem short_of {L : List ByteArray} (h1 : L.length ≤ 60) (h2 : ∀ s ∈ L, s.size ≤ 300) : Short L := ⟨by omega, fun s hs => by have := h2 s hs; omega⟩
theorem short_app {L M : List ByteArray} (h1 : L.length ≤ 60) (h2 : ∀ s ∈ L, s.size ≤ 300) (h3 : M.length ≤ 60) (h4 : ∀ s ∈ M, s.size ≤ 300) : Short (L ++ M) := ⟨by rw [List.length_append]; omega, fun s hs => by
  have q_ := List.mem_append.1 hs
  rcases q_ with h | h
  · have := h2 s h; omega
  · have := h4 s h; omega⟩
theorem ofI_ok {L : List ByteArray} {id : Int} : ∀ r ∈ ofI id (reps L), OkL r := fun r hr => reps_ok r (List.mem_filter.1 hr).1
set_option maxHeartbeats 1000000 in
theorem l26_StatsTell_sp {a : Option Addr} {n c : Nat} {L : List ByteArray} {id : Int} {w : World} (h : SlF w (.slice a n c) L) : Sp Try.prog F.l26_StatsTell #[.slice a n c, .int .i64 id] w fun v w' => v = .bool true ∧ Stp w w' := by
  refine en TBok rfl ?_
  refine rcall (r26_Big_sp h) ?_
  rintro _ w1 ⟨rfl | ⟨rfl, hl, hz⟩, e1⟩
  · exact ⟨rfl, stp⟩
  have hs := short_of hl hz
  refine rcall (r01_OwnTexts_sp (h.up (w' := w1)) (by omega)) ?_
  rintro v2 w2 ⟨O2, e2⟩
  have q_ := O2.shape
  obtain ⟨oa, oc, rfl⟩ := q_
  refine rcall (stats_Codes_sp (h.up (w' := w2)) hs) ?_
  rintro _ w3 ⟨⟨v3, rfl, O3⟩, e3⟩
  have q_ := O3.shape
  obtain ⟨xa, xc, rfl⟩ := q_
  refine rcall (r26_Codes_sp (O2.sl.up (w' := w3)) hs) ?_
  rintro _ w4 ⟨⟨v4, rfl, O4⟩, e4⟩
  have q_ := O4.shape
  obtain ⟨ya, yc, rfl⟩ := q_
  refine rcall (stats_Of_sp (id := id) (h.up (w' := w4)) hs) ?_
  rintro _ w5 ⟨⟨v5, xs, rfl, O5, M5⟩, e5⟩
  have q_ := O5.shape
  obtain ⟨za, zc, rfl⟩ := q_
  refine rcall (r26_Of_sp (id := id) (O2.sl.up (w' := w5)) hs) ?_
  rintro _ w6 ⟨⟨v6, ys, rfl, O6, M6⟩, e6⟩
  have q_ := O6.shape
  obtain ⟨ua, uc, rfl⟩ := q_
  refine rcall l26_counted_sp ?_
  rintro _ w7 ⟨rfl, e7⟩
  have hcl : (codesL (reps L)).length ≤ 1001 := by unfold codesL; have := List.length_filterMap_le (fun (c : Nat) => if cntC (reps L) (c : Int) = 0 then none else some (⟨(c : Int), (cntC (reps L) (c : Int) : Nat)⟩ : CntD)) (List.range 1001); rw [List.length_range] at this; exact this
  have hrl := reps_len L
  have hol := ofI_len id (reps L)
  have hil : (idsL (reps L)).length ≤ (reps L).length := by unfold idsL; have := rising_len ((reps L).map (·.id)); rw [List.length_map] at this; exact this
  refine rcall ((r26_Same_sp (O3.sl.up (w' := w7)) (O4.sl.up (w' := w7)) (by omega)).tt rfl) ?_
  rintro _ w8 ⟨rfl, e8⟩
  refine ite (fun _ => ?_) (fun h => absurd rfl h)
  refine rcall ((r26_SameReplies_sp (O5.sl.up (w' := w8)) (O6.sl.up (w' := w8)) (M5.up (w' := w8)) (M6.up (w' := w8)) (by rw [M5.1]; omega) ofI_ok).tt rfl) ?_
  rintro _ w9 ⟨rfl, e9⟩
  refine rbeq (fun _ => ?_) (fun h => absurd rfl h)
  refine rcall (stats_Ids_sp (h.up (w' := w9)) hs) ?_
  rintro v10 w10 ⟨O10, e10⟩
  have q_ := O10.shape
  obtain ⟨pa, pc, rfl⟩ := q_
  refine rcall (r26_Ids_sp (O2.sl.up (w' := w10)) hs) ?_
  rintro v11 w11 ⟨O11, e11⟩
  have q_ := O11.shape
  obtain ⟨qa, qc, rfl⟩ := q_
  refine rcall ((r01_Ints_sp (O10.sl.up (w' := w11)) O11.sl (by omega)).tt rfl) ?_
  rintro _ w12 ⟨rfl, e12⟩
  by_cases hp : ∀ i, cntI (reps L) i ≤ 1
  case' pos =>
    refine rcall ((stats_Once_sp (h.up (w' := w12)) hs).tt hp) ?_
    rintro _ w13 ⟨rfl, e13⟩
    refine rcall ((r26_Once_sp (O2.sl.up (w' := w13)) hs).tt ((once_iff _).1 hp)) ?_
    rintro _ w14 ⟨rfl, e14⟩
  case' neg =>
    refine rcall ((stats_Once_sp (h.up (w' := w12)) hs).ff hp) ?_
    rintro _ w13 ⟨rfl, e13⟩
    refine rcall ((r26_Once_sp (O2.sl.up (w' := w13)) hs).ff (fun h => hp ((once_iff _).2 h))) ?_
    rintro _ w14 ⟨rfl, e14⟩
  all_goals
    refine rbeq (fun _ => ?_) (fun h => absurd rfl h)
    refine rcall ((r01_Texts_sp (h.up (w' := w14)) (O2.sl.up (w' := w14)) (by omega)).tt rfl) ?_
    rintro _ w15 ⟨rfl, e15⟩
    exact ⟨rfl, stp⟩
/-! sums -/
def sumI (l : List CntD) : Int := (l.map (·.n)).sum
theorem sumI_take {l : List CntD} {k : Nat} (h : k < l.length) : sumI (l.take (k + 1)) = sumI (l.take k) + l[k].n := by unfold sumI; rw [take_add h, List.map_append, List.sum_append]; simp
theorem sum_one (f : RepL → Int) (r : RepL) : ∀ ks : List Int, ks.Nodup → (ks.map fun k => if f r = k then 1 else 0).sum = if f r ∈ ks then 1 else 0
  | [], _ => by simp
  | k :: ks, h => by
    rw [List.nodup_cons] at h
    rw [List.map_cons, List.sum_cons, sum_one f r ks h.2]
    by_cases e : f r = k
    · rw [if_pos e, if_neg (by rw [e]; exact h.1), if_pos (by rw [e]; exact List.mem_cons_self)]
    · rw [if_neg e]
      by_cases e2 : f r ∈ ks
      · rw [if_pos e2, if_pos (List.mem_cons_of_mem _ e2)]
      · rw [if_neg e2, if_neg (by simp [e, e2])]
theorem sum_add (g g' : Int → Nat) : ∀ ks : List Int, (ks.map fun k => g k + g' k).sum = (ks.map g).sum + (ks.map g').sum
  | [] => by simp
  | k :: ks => by simp only [List.map_cons, List.sum_cons]; rw [sum_add g g' ks]; omega
theorem sum_cnt (f : RepL → Int) (ks : List Int) (h : ks.Nodup) : ∀ rs : List RepL, (ks.map fun k => (rs.filter fun r => decide (f r = k)).length).sum = (rs.filter fun r => decide (f r ∈ ks)).length
  | [] => by
    simp only [List.filter_nil, List.length_nil]
    induction ks with
    | nil => rfl
    | cons k ks ih => rw [List.map_cons, List.sum_cons, ih (List.nodup_cons.1 h).2]
  | r :: rs => by
    have e : (ks.map fun k => ((r :: rs).filter fun r => decide (f r = k)).length) = ks.map fun k => (if f r = k then 1 else 0) + (rs.filter fun r => decide (f r = k)).length := by
      refine List.map_congr_left fun k _ => ?_
      rw [List.filter_cons]
      by_cases e : f r = k <;> simp [e]; omega
    rw [e, sum_add, sum_cnt f ks h rs, sum_one f r ks h, List.filter_cons]
    by_cases e : f r ∈ ks <;> simp [e]; omega
theorem filter_all {rs : List RepL} {p : RepL → Bool} (h : ∀ r ∈ rs, p r = true) : (rs.filter p).length = rs.length := by rw [List.filter_eq_self.2 h]
theorem codes_nodup (rs : List RepL) : ((codesL rs).map (·.code)).Nodup := by
  unfold List.Nodup
  rw [List.pairwise_map]
  exact (codes_rise rs).imp fun h e => by omega
theorem sum_codes {rs : List RepL} (h : ∀ r ∈ rs, OkL r) : sumI (codesL rs) = (rs.length : Int) := by
  have h1 := sum_cnt (·.code) ((codesL rs).map (·.code)) (codes_nodup rs) rs
  rw [filter_all fun r hr => by
    rw [decide_eq_true_eq]
    refine List.mem_map.2 ⟨⟨r.code, (cntC rs r.code : Nat)⟩, (codes_mem h _).2 ⟨fun h0 => ?_, rfl⟩, rfl⟩
    have := List.eq_nil_of_length_eq_zero h0
    have hm : r ∈ rs.filter fun q => decide (q.code = r.code) := List.mem_filter.2 ⟨hr, by simp⟩
    rw [this] at hm; cases hm] at h1
  rw [← h1]
  have e : ∀ l : List CntD, (∀ x ∈ l, x.n = (cntC rs x.code : Nat)) → sumI l = (((l.map (·.code)).map fun k => (rs.filter fun r => decide (r.code = k)).length).sum : Nat) := by
    intro l
    induction l with
    | nil => intro _; rfl
    | cons x l ih =>
      intro hx
      have := ih fun y hy => hx y (List.mem_cons_of_mem _ hy)
      unfold sumI at this ⊢
      rw [List.map_cons, List.sum_cons, this, hx x List.mem_cons_self]
      simp only [List.map_cons, List.sum_cons]
      unfold cntC
      push_cast; rfl
  exact e _ fun x hx => ((codes_mem h x).1 hx).2
def ofC (e : Int) (l : List CntD) : List CntD := l.filter fun x => decide (x.code = e)
theorem ofC_take {l : List CntD} {k : Nat} (h : k < l.length) (e : Int) : sumI (ofC e (l.take (k + 1))) = sumI (ofC e (l.take k)) + if l[k].code = e then l[k].n else 0 := by
  unfold ofC sumI
  rw [take_add h, List.filter_append, List.map_append, List.sum_append]
  by_cases hh : l[k].code = e <;> simp [hh]
theorem ofC_codes {rs : List RepL} (h : ∀ r ∈ rs, OkL r) (e : Int) : sumI (ofC e (codesL rs)) = (cntC rs e : Nat) := by
  by_cases h0 : cntC rs e = 0
  · have : ofC e (codesL rs) = [] := by
      unfold ofC; rw [List.filter_eq_nil_iff]
      intro x hx he
      rw [decide_eq_true_eq] at he
      have := ((codes_mem h x).1 hx).1
      rw [he] at this; exact this h0
    rw [this, h0]; rfl
  · have : ofC e (codesL rs) = [⟨e, (cntC rs e : Nat)⟩] := by
      refine rise_ext (·.code) ((codes_rise rs).filter _) (by simp) fun x => ?_
      unfold ofC
      rw [List.mem_filter, codes_mem h, decide_eq_true_eq, List.mem_singleton]
      constructor
      · rintro ⟨⟨_, h2⟩, h3⟩
        cases x; simp only at h2 h3; rw [h2, h3]
      · rintro rfl; exact ⟨⟨h0, rfl⟩, rfl⟩
    rw [this]; simp [sumI]
theorem l26_count_sp {a : Option Addr} {n c : Nat} {l : List CntD} {e : Int} {w : World} (h : SlF w (.slice a n c) l) (hn : l.length ≤ 1000000) (hb : ∀ k, k ≤ l.length → 0 ≤ sumI (ofC e (l.take k)) ∧ sumI (ofC e (l.take k)) ≤ 100000) :
    Sp Try.prog F.l26_count #[.slice a n c, .int .i64 e] w fun v w' => v = .int .i64 (sumI (ofC e l)) ∧ Stp w w' := by
  have q_ := h.len
  obtain rfl := q_
  refine en TBok rfl ?_
  refine cnt1 TBok 7 [] 5 6 l.length (fun k v u => v = .int .i64 (sumI (ofC e (l.take k))) ∧ Stp w u) rfl rfl ⟨rfl, stp⟩ ?_
  rintro k _ g u hk ⟨rfl, s⟩
  refine ite (fun hlt => ?_) (fun hge => ?_)
  · have hka : k < l.length := by omega
    have ht := ofC_take hka e
    have hb1 := hb (k + 1) hka
    refine rix (h.up (w' := u)) (x := l[k]) (by simp) fun b1 o1 A1 => rload1 (A1.cell0 rfl) ?_
    refine ite (fun (he : l[k].code = e) => ?_) (fun (he : ¬ l[k].code = e) => ?_)
    · rw [if_pos he] at ht
      refine rix (h.up (w' := u)) (x := l[k]) (by simp) fun b2 o2 A2 => rload1 (A2.cell 1 rfl) ?_
      refine rarE (y := sumI (ofC e (l.take (k + 1)))) ht.symm (by omega) ?_
      exact rar (by omega) ⟨rfl, hka, rfl, s⟩
    · rw [if_neg he, Int.add_zero] at ht
      have hv : Value.int .i64 (sumI (ofC e (l.take k))) = .int .i64 (sumI (ofC e (l.take (k + 1)))) := by rw [ht]
      exact rar (by omega) ⟨rfl, hka, hv, s⟩
  · have q_ : k = l.length := by omega
    obtain rfl := q_
    have hv : Value.int .i64 (sumI (ofC e (l.take l.length))) = .int .i64 (sumI (ofC e l)) := by rw [List.take_length]
    exact ⟨hv, s⟩
end Go.W
namespace Go.W
open Go Go.Proofs
open Enc (enc)
set_option maxRecDepth 10000

theorem codes_len (rs : List RepL) : (codesL rs).length ≤ 1001 := by
  unfold codesL
  have := List.length_filterMap_le (fun (c : Nat) => if cntC rs (c : Int) = 0 then none else some (⟨(c : Int), (cntC rs (c : Int) : Nat)⟩ : CntD)) (List.range 1001)
  rw [List.length_range] at this; exact this
theorem sumI_nonneg {l : List CntD} (h : ∀ x ∈ l, 0 ≤ x.n) : 0 ≤ sumI l := by
  induction l with
  | nil => simp [sumI]
  | cons x l ih =>
    have := ih fun y hy => h y (List.mem_cons_of_mem _ hy)
    have := h x List.mem_cons_self
    unfold sumI at *
    rw [List.map_cons, List.sum_cons]; omega
theorem sumI_append (l m : List CntD) : sumI (l ++ m) = sumI l + sumI m := by unfold sumI; rw [List.map_append, List.sum_append]
theorem sumI_sub {l m : List CntD} (h : l.Sublist m) (hm : ∀ x ∈ m, 0 ≤ x.n) : sumI l ≤ sumI m := by
  induction h with
  | slnil => exact Int.le_refl _
  | @cons l m x _ ih =>
    have := ih fun y hy => hm y (List.mem_cons_of_mem _ hy)
    have := hm x List.mem_cons_self
    unfold sumI at *
    rw [List.map_cons, List.sum_cons]; omega
  | @cons_cons l m x _ ih =>
    have := ih fun y hy => hm y (List.mem_cons_of_mem _ hy)
    unfold sumI at *
    rw [List.map_cons, List.sum_cons, List.map_cons, List.sum_cons]; omega
theorem codes_pos {rs : List RepL} (h : ∀ r ∈ rs, OkL r) : ∀ x ∈ codesL rs, 1 ≤ x.n := fun x hx => by
  have q_ := (codes_mem h x).1 hx
  obtain ⟨h1, h2⟩ := q_
  rw [h2]; omega
theorem count_codes {a : Option Addr} {n c : Nat} {rs : List RepL} {e : Int} {w : World} (h : SlF w (.slice a n c) (codesL rs)) (hr : ∀ r ∈ rs, OkL r) (hl : rs.length ≤ 1000) :
    Sp Try.prog F.l26_count #[.slice a n c, .int .i64 e] w fun v w' => v = .int .i64 ((cntC rs e : Nat) : Int) ∧ Stp w w' := by
  have hp : ∀ x ∈ codesL rs, 0 ≤ x.n := fun x hx => by have := codes_pos hr x hx; omega
  have hs := sum_codes hr
  refine (l26_count_sp h (by have := codes_len rs; omega) fun k _ => ⟨sumI_nonneg fun x hx => ?_, ?_⟩).mono fun v w' ⟨h1, h2⟩ => ⟨by rw [h1, ofC_codes hr], h2⟩
  · exact hp x (List.mem_of_mem_take (List.mem_filter.1 hx).1)
  · have : (ofC e ((codesL rs).take k)).Sublist (codesL rs) := List.filter_sublist.trans (List.take_sublist ..)
    have := sumI_sub this hp
    omega
set_option maxHeartbeats 2000000 in
theorem l26_StatsSums_sp {a a' : Option Addr} {n c n' c' : Nat} {L M : List ByteArray} {e : Int} {w : World} (h : SlF w (.slice a n c) L) (h' : SlF w (.slice a' n' c') M) : Sp Try.prog F.l26_StatsSums #[.slice a n c, .slice a' n' c', .int .i64 e] w fun v w' => v = .bool true ∧ Stp w w' := by
  refine en TBok rfl ?_
  refine rcall (r26_Big_sp h) ?_
  rintro _ w1 ⟨rfl | ⟨rfl, hl, hz⟩, e1⟩
  · exact ⟨rfl, stp⟩
  refine rcall (r26_Big_sp (h'.up (w' := w1))) ?_
  rintro _ w2 ⟨rfl | ⟨rfl, hl', hz'⟩, e2⟩
  · exact ⟨rfl, stp⟩
  have hs := short_of hl hz
  have hs' := short_of hl' hz'
  have hsa := short_app hl hz hl' hz'
  refine rcall (r01_OwnTexts_sp (h.up (w' := w2)) (by omega)) ?_
  rintro v3 w3 ⟨O3, e3⟩
  have q_ := O3.shape
  obtain ⟨oa, oc, rfl⟩ := q_
  refine rapp (u := w) ⟨rfl, rfl⟩ O3.older (h'.up (w' := w3)) (by omega) fun v4 w4 O4 f4 s4 => ?_
  have q_ := O4.shape
  obtain ⟨ba, bc, rfl⟩ := q_
  refine rcall (stats_Codes_sp (h.up (w' := w4)) hs) ?_
  rintro _ w5 ⟨⟨v5, rfl, O5⟩, e5⟩
  have q_ := O5.shape
  obtain ⟨xa, xc, rfl⟩ := q_
  refine rcall (stats_Codes_sp (h'.up (w' := w5)) hs') ?_
  rintro _ w6 ⟨⟨v6, rfl, O6⟩, e6⟩
  have q_ := O6.shape
  obtain ⟨ya, yc, rfl⟩ := q_
  refine rcall (stats_Codes_sp (O4.sl.up (w' := w6)) hsa) ?_
  rintro _ w7 ⟨⟨v7, rfl, O7⟩, e7⟩
  have q_ := O7.shape
  obtain ⟨za, zc, rfl⟩ := q_
  have hok : ∀ r ∈ reps (L ++ M), OkL r := reps_ok
  have hcl := codes_len (reps (L ++ M))
  have hsum := sum_codes hok
  have hrl := reps_len (L ++ M)
  have hrL := reps_len L
  have hrM := reps_len M
  have hra : (reps (L ++ M)).length = (reps L).length + (reps M).length := by rw [reps_append, List.length_append]
  have hpos := codes_pos hok
  have hp0 : ∀ x ∈ codesL (reps (L ++ M)), 0 ≤ x.n := fun x hx => by have := hpos x hx; omega
  have hla : (L ++ M).length = L.length + M.length := List.length_append
  have q_ : ∃ z, z = (L ++ M).length - (reps (L ++ M)).length := ⟨_, rfl⟩
  obtain ⟨z, hz0⟩ := q_
  refine cnt1 TBok 44 [6] 14 15 (codesL (reps (L ++ M))).length (fun k v u => v = .int .i64 ((z : Int) + sumI ((codesL (reps (L ++ M))).take k)) ∧ Stp w7 u) rfl rfl ⟨by rw [hz0]; simp [sumI]; rfl, stp⟩ ?_
  rintro k _ g u hk ⟨rfl, s⟩
  refine ite (fun hlt => ?_) (fun hge => ?_)
  · have hka : k < (codesL (reps (L ++ M))).length := by omega
    have hpk := hpos _ (List.getElem_mem hka)
    have hst := sumI_take hka
    have hsl := sumI_sub (List.take_sublist (k + 1) (codesL (reps (L ++ M)))) hp0
    have hsn := sumI_nonneg (l := (codesL (reps (L ++ M))).take k) fun x hx => hp0 x (List.mem_of_mem_take hx)
    refine drawR TBok mixed (fun _ => False) (upF 24 0) (by kernel_rfl) fun u1 eu1 _ => ?_
    refine tix (O7.sl.up (w' := u1)) (x := (codesL (reps (L ++ M)))[k]) (by simp) fun b1 o1 A1 _ => tload1 (A1.cell 1 rfl) not_false ?_
    refine ite (fun hb => absurd hb (by omega)) (fun _ => ?_)
    refine ite (fun hk0 => ?_) (fun hk0 => ?_)
    case' refine_1 =>
      have hk1 : k - 1 < (codesL (reps (L ++ M))).length := by omega
      refine rarE (y := ((k - 1 : Nat) : Int)) (by omega) (by omega) ?_
      refine tix (O7.sl.up (w' := u1)) (x := (codesL (reps (L ++ M)))[k - 1]) (by simp) fun b2 o2 A2 _ => tload1 (A2.cell0 rfl) not_false ?_
      refine tix (O7.sl.up (w' := u1)) (x := (codesL (reps (L ++ M)))[k]) (by simp) fun b3 o3 A3 _ => tload1 (A3.cell0 rfl) not_false ?_
      refine ite (fun hb => absurd hb (by
        have := List.pairwise_iff_getElem.1 (codes_rise (reps (L ++ M))) (k - 1) k hk1 hka (by omega)
        omega)) (fun _ => ?_)
    all_goals
      refine rix (O7.sl.up (w' := u1)) (x := (codesL (reps (L ++ M)))[k]) (by simp) fun b4 o4 A4 => rload1 (A4.cell 1 rfl) ?_
      refine rarE (y := (z : Int) + sumI ((codesL (reps (L ++ M))).take (k + 1))) (by rw [hst]; omega) (by omega) ?_
      exact rar (by omega) ⟨rfl, hka, rfl, stp⟩
  · have q_ : k = (codesL (reps (L ++ M))).length := by omega
    obtain rfl := q_
    refine rcall l26_counted_sp ?_
    rintro _ u1 ⟨rfl, eu1⟩
    refine ite (fun _ => ?_) (fun h => absurd (by rw [List.take_length, hsum]; omega) h)
    refine rar (by omega) ?_
    refine ite (fun _ => ?_) (fun h => absurd (by omega) h)
    refine rcall (count_codes (e := e) (O7.sl.up (w' := u1)) hok (by omega)) ?_
    rintro _ u2 ⟨rfl, eu2⟩
    refine rcall (count_codes (e := e) (O5.sl.up (w' := u2)) reps_ok (by omega)) ?_
    rintro _ u3 ⟨rfl, eu3⟩
    refine rcall (count_codes (e := e) (O6.sl.up (w' := u3)) reps_ok (by omega)) ?_
    rintro _ u4 ⟨rfl, eu4⟩
    have c1 := cntC_le (reps L) e
    have c2 := cntC_le (reps M) e
    have c3 : cntC (reps (L ++ M)) e = cntC (reps L) e + cntC (reps M) e := by rw [reps_append, cntC_append]
    refine rar (by omega) ?_
    refine ite (fun _ => ?_) (fun h => absurd (by omega) h)
    exact ⟨rfl, stp⟩
/-- the Ids' replies are all -/
theorem sum_ids (rs : List RepL) : ((idsL rs).map fun i => cntI rs i).sum = rs.length := by
  have hnd : (idsL rs).Nodup := by
    unfold idsL List.Nodup
    exact (rising_spec _).1.imp fun h e => by omega
  have := sum_cnt (·.id) (idsL rs) hnd rs
  rw [filter_all fun r hr => by
    rw [decide_eq_true_eq]
    unfold idsL; rw [(rising_spec _).2]; exact List.mem_map_of_mem hr] at this
  exact this
theorem sum_take {l : List Nat} {k : Nat} (h : k < l.length) : (l.take (k + 1)).sum = (l.take k).sum + l[k] := by rw [take_add h, List.sum_append]; simp
theorem sum_le {l : List Nat} (k : Nat) : (l.take k).sum ≤ l.sum := by
  have : l.sum = (l.take k).sum + (l.drop k).sum := by rw [← List.sum_append, List.take_append_drop]
  omega
set_option maxHeartbeats 2000000 in
theorem l26_StatsOnce_sp {a : Option Addr} {n c : Nat} {L : List ByteArray} {w : World} (h : SlF w (.slice a n c) L) : Sp Try.prog F.l26_StatsOnce #[.slice a n c] w fun v w' => v = .bool true ∧ Stp w w' := by
  have hnl := h.len
  refine en TBok rfl ?_
  refine rcall (r26_Big_sp h) ?_
  rintro _ w1 ⟨rfl | ⟨rfl, hl, hz⟩, e1⟩
  · exact ⟨rfl, stp⟩
  have hs := short_of hl hz
  refine rcall (stats_Ids_sp (h.up (w' := w1)) hs) ?_
  rintro v2 w2 ⟨O2, e2⟩
  have q_ := O2.shape
  obtain ⟨oa, oc, rfl⟩ := q_
  refine rcall (stats_Codes_sp (h.up (w' := w2)) hs) ?_
  rintro _ w3 ⟨⟨v3, rfl, O3⟩, e3⟩
  have hrl := reps_len L
  have hrise : Rises (idsL (reps L)) := (rising_spec _).1
  have hsum := sum_ids (reps L)
  have q_ : ∃ cs, cs = (idsL (reps L)).map fun i => cntI (reps L) i := ⟨_, rfl⟩
  obtain ⟨cs, hcs⟩ := q_
  have hcl : cs.length = (idsL (reps L)).length := by rw [hcs, List.length_map]
  rw [← hcs] at hsum
  have hil : (idsL (reps L)).length ≤ (reps L).length := by unfold idsL; have := rising_len ((reps L).map (·.id)); rw [List.length_map] at this; exact this
  have q_ : ∃ od, od = L.length - (reps L).length := ⟨_, rfl⟩
  obtain ⟨od, hod⟩ := q_
  rw [← hod]
  refine cnt2 TBok 20 [2, 9, 10] 6 7 8 (idsL (reps L)).length (fun k v q u => v = .int .i64 (((cs.take k).sum : Nat) : Int) ∧ (∃ b : Bool, q = .bool b ∧ (b = true ↔ ∀ i ∈ (idsL (reps L)).take k, cntI (reps L) i = 1)) ∧ Stp w3 u) rfl rfl ⟨rfl, ⟨true, rfl, by simp⟩, stp⟩ ?_
  rintro k _ _ g u hk ⟨rfl, ⟨b, rfl, hb⟩, s⟩
  refine ite (fun hlt => ?_) (fun hge => ?_)
  · have hka : k < (idsL (reps L)).length := by omega
    have hst := sum_take (l := cs) (k := k) (by omega)
    have hsl := sum_le (l := cs) (k + 1)
    have q_ : ∃ i, i = (idsL (reps L))[k] := ⟨_, rfl⟩
    obtain ⟨i, hi⟩ := q_
    have hc1 : cntI (reps L) i ≠ 0 := (ids_mem _ _).1 (by rw [hi]; exact List.getElem_mem hka)
    have hck : cs[k]'(by omega) = cntI (reps L) i := by simp [hcs, hi]
    rw [hck] at hst
    refine rix (O2.sl.up (w' := u)) (x := (idsL (reps L))[k]) (by simp) fun b1 o1 A1 => rload1 (A1.cell0 rfl) ?_
    refine rcall (stats_Of_sp (id := (idsL (reps L))[k]) (h.up (w' := u)) hs) ?_
    rintro _ u1 ⟨⟨v5, xs, rfl, O5, M5⟩, e5⟩
    have q_ := O5.shape
    obtain ⟨xa, xc, rfl⟩ := q_
    have hxl : xs.length = cntI (reps L) i := by rw [M5.1, ← hi]; rfl
    have hof : (ofI (idsL (reps L))[k] (reps L)).length = xs.length := M5.1.symm
    have hd : decide (0 < (ofI (idsL (reps L))[k] (reps L)).length) = true := decide_eq_true (by omega)
    rw [hd]
    have hone : ∀ b' : Bool, (b' = true ↔ (b = true ∧ xs.length = 1)) → (b' = true ↔ ∀ i ∈ (idsL (reps L)).take (k + 1), cntI (reps L) i = 1) := by
      intro b' hb'
      rw [hb', hb, take_add hka, hxl]
      constructor
      · rintro ⟨h1, h2⟩ j hj
        have q_ := List.mem_append.1 hj
        rcases q_ with hj | hj
        · exact h1 j hj
        · rw [List.mem_singleton.1 hj, ← hi]; exact h2
      · intro h1
        exact ⟨fun j hj => h1 j (List.mem_append.2 (.inl hj)), by rw [hi]; exact h1 _ (List.mem_append.2 (.inr (by simp)))⟩
    refine drawR TBok mixed (fun _ => False) (upF 23 0) (by kernel_rfl) fun u2 e2' _ => ?_
    refine ite (fun hb => absurd hb (by omega)) (fun _ => ?_)
    refine ite (fun hk0 => ?_) (fun hk0 => ?_)
    case' refine_1 =>
      have hk1 : k - 1 < (idsL (reps L)).length := by omega
      refine rarE (y := ((k - 1 : Nat) : Int)) (by omega) (by omega) ?_
      refine tix (O2.sl.up (w' := u2)) (x := (idsL (reps L))[k - 1]) (by simp) fun b2 o2 A2 _ => tload1 (A2.cell0 rfl) not_false ?_
      refine tix (O2.sl.up (w' := u2)) (x := (idsL (reps L))[k]) (by simp) fun b3 o3 A3 _ => tload1 (A3.cell0 rfl) not_false ?_
      refine ite (fun hb => absurd hb (by
        have := List.pairwise_iff_getElem.1 hrise (k - 1) k hk1 hka (by omega)
        omega)) (fun _ => ?_)
    all_goals
      refine rarE (y := (((cs.take (k + 1)).sum : Nat) : Int)) (by rw [hst, hxl]; push_cast; rfl) (by omega) ?_
      cases b
      · exact rar (by omega) ⟨rfl, hka, rfl, ⟨false, rfl, hone false (by simp)⟩, stp⟩
      · refine ite (fun hx1 => ?_) (fun hx1 => ?_)
        · exact rar (by omega) ⟨rfl, hka, rfl, ⟨true, rfl, hone true (by simp; omega)⟩, stp⟩
        · exact rar (by omega) ⟨rfl, hka, rfl, ⟨false, rfl, hone false (by simp; omega)⟩, stp⟩
  · have q_ : k = (idsL (reps L)).length := by omega
    obtain rfl := q_
    have hct : (cs.take (idsL (reps L)).length).sum = (reps L).length := by rw [← hcl, List.take_length]; exact hsum
    rw [List.take_length] at hb
    refine rcall l26_counted_sp ?_
    rintro _ u1 ⟨rfl, eu1⟩
    refine rarE (y := (L.length : Int)) (by rw [hct]; omega) (by omega) ?_
    refine ite (fun _ => ?_) (fun h => absurd (by omega) h)
    have hall : (∀ i ∈ idsL (reps L), cntI (reps L) i = 1) ↔ ∀ i, cntI (reps L) i ≤ 1 := by
      constructor
      · intro h1 i
        by_cases h0 : cntI (reps L) i = 0
        · omega
        · have := h1 i ((ids_mem _ _).2 h0); omega
      · intro h1 i hi
        have := (ids_mem _ _).1 hi; have := h1 i; omega
    rw [hall] at hb
    refine rcall (stats_Once_sp (h.up (w' := u1)) hs) ?_
    rintro _ u2 ⟨⟨rfl, ho⟩ | ⟨rfl, ho⟩, eu2⟩
    · have hbt := hb.2 ho
      subst hbt
      refine rbeq (fun _ => ?_) (fun h => absurd rfl h)
      exact ⟨rfl, stp⟩
    · have hbf : b = false := by cases b with | false => rfl | true => exact (ho (hb.1 rfl)).elim
      subst hbf
      refine rbeq (fun _ => ?_) (fun h => absurd rfl h)
      exact ⟨rfl, stp⟩
end Go.W
namespace Go.W
open Go Go.Proofs
open Enc (enc)
set_option maxRecDepth 10000

theorem reps_sub (L : List ByteArray) : ((reps L).map encL).Sublist (L.map fun s => s.data.toList) := by
  induction L with
  | nil => simp [reps]
  | cons s L ih =>
    have e : reps (s :: L) = (getR s.data.toList).toList ++ reps L := by
      unfold reps
      cases hg : getR s.data.toList <;> simp [List.filterMap_cons, hg]
    rw [e]
    cases hg : getR s.data.toList with
    | none => exact ih.cons _
    | some r =>
      have : encL r = s.data.toList := (getR_some.1 hg).2
      simp only [Option.toList, List.singleton_append, List.map_cons, this]
      exact ih.cons_cons _
theorem of_sub (L : List ByteArray) (id : Int) : ((ofI id (reps L)).map encL).Sublist (L.map fun s => s.data.toList) :=
  (List.filter_sublist.map encL).trans (reps_sub L)
theorem sub_ne {α : Type} {a b : α} {l m : List α} (h : (a :: l).Sublist (b :: m)) (hne : a ≠ b) : (a :: l).Sublist m := by
  cases h with
  | cons _ h => exact h
  | cons_cons _ h => exact (hne rfl).elim
theorem encR_of {x : RepD} {r : RepL} {w : World} (h : RepM w x r) : encR x r.hits = encL r := encR.congr h.1 h.2.1 h.2.2.1 h.2.2.2.1
set_option maxHeartbeats 2000000 in
theorem l26_StatsBack_sp {a : Option Addr} {n c : Nat} {L : List ByteArray} {id : Int} {w : World} (h : SlF w (.slice a n c) L) : Sp Try.prog F.l26_StatsBack #[.slice a n c, .int .i64 id] w fun v w' => v = .bool true ∧ Stp w w' := by
  have hnl := h.len
  refine en TBok rfl ?_
  refine rcall (r26_Big_sp h) ?_
  rintro _ w1 ⟨rfl | ⟨rfl, hl, hz⟩, e1⟩
  · exact ⟨rfl, stp⟩
  have hs := short_of hl hz
  refine rcall (stats_Of_sp (id := id) (h.up (w' := w1)) hs) ?_
  rintro _ w2 ⟨⟨v2, xs, rfl, O2, M2⟩, e2⟩
  have q_ := O2.shape
  obtain ⟨oa, oc, rfl⟩ := q_
  have hxl := M2.1
  have hol := ofI_len id (reps L)
  have hrl := reps_len L
  refine cnt1 TBok 19 [4, 9, 10] 7 8 xs.length (fun k v u => ∃ at' : Nat, v = .int .i64 (at' : Int) ∧ at' ≤ L.length ∧ (((ofI id (reps L)).drop k).map encL).Sublist ((L.drop at').map fun (s : ByteArray) => s.data.toList) ∧ Stp w2 u) rfl rfl ⟨0, rfl, by omega, of_sub L id, stp⟩ ?_
  rintro k _ g u hk ⟨at', rfl, hat, hsub, s⟩
  refine ite (fun hlt => ?_) (fun hge => ?_)
  · have hka : k < xs.length := by omega
    have hkr : k < (ofI id (reps L)).length := by omega
    have hM := M2.2 k xs[k] (ofI id (reps L))[k] (by simp) (by simp)
    have q_ : ∃ r, r = (ofI id (reps L))[k] := ⟨_, rfl⟩
    obtain ⟨r, hr⟩ := q_
    rw [← hr] at hM
    have hok : OkL r := ofI_ok r (by rw [hr]; exact List.getElem_mem hkr)
    have hdr : (ofI id (reps L)).drop k = r :: (ofI id (reps L)).drop (k + 1) := by rw [hr]; exact List.drop_eq_getElem_cons hkr
    have hri : r.id = id := by
      have := (List.mem_filter.1 (show r ∈ ofI id (reps L) by rw [hr]; exact List.getElem_mem hkr)).2
      simpa using this
    rw [hdr, List.map_cons] at hsub
    refine rix (O2.sl.up (w' := u)) (x := xs[k]) (by simp) fun b1 o1 A1 => rloadA A1 (Enc.len _) ?_
    have hMu := hM.up (w' := u)
    refine rcall (frame_PutReply_sp (x := xs[k]) (l := r.hits) hMu.2.2.2.2.sl (by have := hok.2.2.2.1; omega)) ?_
    rintro _ u1 ⟨⟨_, rfl⟩ | ⟨hno, _⟩, eu1⟩
    case' inr => exact (hno (hM.ok hok)).elim
    rw [encR_of hM]
    refine loop1 TBok 33 [] 7 (fun v u2 => ∃ j : Nat, v = .int .i64 (j : Int) ∧ j ≤ L.length ∧ (encL r :: ((ofI id (reps L)).drop (k + 1)).map encL).Sublist ((L.drop j).map fun (s : ByteArray) => s.data.toList) ∧ u2 = u1) (fun v _ => L.length - (Go.RowKit.intOf v).toNat) rfl ⟨at', rfl, hat, hsub, rfl⟩ ?_
    rintro _ g u2 ⟨j, rfl, hj, hsj, rfl⟩
    have hjl : j < L.length := by
      have q_ := Nat.lt_or_ge j L.length
      rcases q_ with h | h
      · exact h
      · exfalso
        rw [List.drop_eq_nil_of_le h] at hsj
        have := hsj.length_le
        simp at this
    have hdj : L.drop j = L[j] :: L.drop (j + 1) := List.drop_eq_getElem_cons hjl
    rw [hdj, List.map_cons] at hsj
    refine ite (fun _ => ?_) (fun h => absurd (by omega) h)
    refine rix (h.up (w' := u2)) (x := L[j]) (by simp) fun b2 o2 A2 => rload1 (A2.cell0 rfl) ?_
    refine rsne (fun hne => ?_) (fun heq => ?_)
    · have hne' : encL r ≠ L[j].data.toList := fun e => hne (by rw [e])
      refine rarE (y := ((j + 1 : Nat) : Int)) (by omega) (by omega) ⟨⟨j + 1, rfl, by omega, ?_, rfl⟩, ?_⟩
      · exact sub_ne hsj hne'
      · show L.length - ((j + 1 : Nat) : Int).toNat < L.length - ((j : Nat) : Int).toNat
        omega
    · have he : L[j].data.toList = encL r := by rw [heq]
      refine ite (fun h => absurd rfl h) (fun _ => ?_)
      refine ite (fun h => absurd h (by omega)) (fun _ => ?_)
      refine rix (O2.sl.up (w' := u2)) (x := xs[k]) (by simp) fun b3 o3 A3 => rload1 (A3.cell0 rfl) ?_
      refine ite (fun h => absurd (by show xs[k].id = id; rw [hM.1, hri]) h) (fun _ => ?_)
      refine rarE (y := ((j + 1 : Nat) : Int)) (by omega) (by omega) ?_
      rw [he] at hsj
      exact rar (by omega) ⟨rfl, hka, j + 1, rfl, by omega, List.cons_sublist_cons.1 hsj, stp⟩
  · have q_ : k = xs.length := by omega
    obtain rfl := q_
    refine rcall l26_counted_sp ?_
    rintro _ u1 ⟨rfl, eu1⟩
    refine ite (fun hg => ?_) (fun hg => ?_)
    · have hd : decide (0 < (ofI id (reps L)).length) = true := decide_eq_true (by omega)
      refine rbeq (fun _ => ?_) (fun h => absurd hd h)
      exact ⟨rfl, stp⟩
    · have hd : decide (0 < (ofI id (reps L)).length) = false := decide_eq_false (by omega)
      refine rbeq (fun _ => ?_) (fun h => absurd hd h)
      exact ⟨rfl, stp⟩
end Go.W
