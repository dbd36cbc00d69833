/-
  Proved here: stores as the reference has them (contracts), and the document's rows of stores.
  Conditions: the store lies in memory as is said at each.
-/
import Derived.Test.YtpljfhomnbcpdaaStoQ
namespace Go.W
open Go Go.Proofs
open Enc (enc)
set_option maxRecDepth 10000

theorem eqKey (d : Nat) (x y : KeyD) (w : World) : (Op.equalIn (d + 7) E.api_Key (.agg (enc x).toArray) (.agg (enc y).toArray)).run Try.prog w = .ok ((x.slot == y.slot) && ((x.dir == y.dir) && ((x.v == y.v) && true))) w := by
  rw [run_struct (l := [(E.int, 0), (E.int, 1), (E.int, 2)]) (by kernel_rfl) (d + 6)]
  exact eqL_int rfl rfl (eqL_int rfl rfl (eqL_int rfl rfl (eqL_nil _ _ _ _)))
instance : EqT Try.prog E.api_State StD := ⟨by kernel_rfl, fun d x y w => ⟨_, by
    rw [run_struct (l := [(E.api_Key, 0), (E.int, 3)]) (by kernel_rfl) (d + 7)]
    exact eqL_agg (n := 3) (show (enc x).toArray.extract 0 (0 + 3) = (enc x.key).toArray from rfl) (show (enc y).toArray.extract 0 (0 + 3) = (enc y.key).toArray from rfl) (eqKey d x.key y.key w) (eqL_int rfl rfl (eqL_nil _ _ _ _)), by
    obtain ⟨⟨a, b, c⟩, e⟩ := x; obtain ⟨⟨a', b', c'⟩, e'⟩ := y; simp [and_assoc]⟩⟩

theorem r15_May_sp {x : StD} {w : World} : Sp Try.prog F.r15_May #[agg x] w fun v w' => Tells (mayX x) v ∧ Stp w w' := by
  refine en TBok rfl ?_
  refine rbx fun b w1 n1 B1 => ?_
  refine rldG (ds := enc x.key) (B := B1) rfl rfl ?_
  refine rcall (r14_May_sp (k := x.key)) ?_
  rintro v w2 ⟨⟨rfl, h⟩ | ⟨rfl, h⟩, e2⟩
  · refine rld (B := B1) rfl ?_
    refine ite (fun h1 => ?_) (fun h1 => ⟨.f fun m => h1 m.2.1, stp⟩)
    refine rld (B := B1) rfl ?_
    refine ite (fun h2 => ⟨.t ⟨h, h1, h2⟩, stp⟩) (fun h2 => ⟨.f fun m => h2 m.2.2, stp⟩)
  · exact ⟨.f fun m => h m.1, stp⟩
theorem r15_Same_sp {a b : Option Addr} {na ca nb cb : Nat} {la lb : List StD} {w : World} (ha : SlF w (.slice a na ca) la) (hb : SlF w (.slice b nb cb) lb) (hn : la.length ≤ 1000000) :
    Sp Try.prog F.r15_Same #[.slice a na ca, .slice b nb cb] w fun v w' => Tells (la = lb) v ∧ Stp w w' := by
  have q_ := ha.len
  obtain rfl := q_
  have q_ := hb.len
  obtain rfl := q_
  refine en TBok rfl ?_
  refine ite (fun h => ⟨.f (fun e => h (by rw [e])), stp⟩) (fun h => ?_)
  have hl : la.length = lb.length := by omega
  refine cnt TBok 6 [4] 5 la.length (fun k w' => la.take k = lb.take k ∧ Stp w w') rfl rfl ⟨by simp, stp⟩ ?_
  rintro k g w' hk ⟨ht, e⟩
  refine ite (fun hlt => ?_) (fun hge => ?_)
  · have hka : k < la.length := by omega
    have hkb : k < lb.length := by omega
    refine drawR TBok mixed (fun _ => False) (upF 9 0) (by kernel_rfl) fun w1 e1 _ => ?_
    refine tix ha.up (x := la[k]) (by simp) fun b1 o1 A1 _ => tloadA A1 rfl not_false ?_
    refine tix hb.up (x := lb[k]) (by simp) fun b2 o2 A2 _ => tloadA A2 rfl not_false ?_
    refine tgne StD la[k] lb[k] (fun hne => ⟨.f (by rintro rfl; exact hne rfl), stp⟩) (fun he => ?_)
    refine rar (by omega) ⟨rfl, hka, ?_, stp⟩
    rw [take_add hka, take_add hkb, ht, he]
  · have q_ : k = la.length := by omega
    obtain rfl := q_
    rw [List.take_of_length_le (Nat.le_refl _), List.take_of_length_le (by omega)] at ht
    exact ⟨.t ht, e⟩

/-- the reference's store -/
def RSt (B : Nat) (w : World) (b N : Nat) (L : List StD) : Prop := B ≤ b ∧ SRis L ∧ L.length ≤ N ∧ ∃ a c, Bk w b [.slice a L.length c, .int .i64 N] E.waysideref15_Store ∧ Own B E.api_State w (.slice a L.length c) L
abbrev rsE : List TypeId := [E.waysideref15_Store]
theorem RSt.up {B : Nat} {w w' : World} [Le w w'] {b N : Nat} {L : List StD} (h : RSt B w b N L) : RSt B w' b N L := by
  obtain ⟨h0, h1, h2, a, c, h3, h4⟩ := h; exact ⟨h0, h1, h2, a, c, h3.mv, h4.up⟩
theorem RSt.kept {B C gs : Nat} {w w' : World} {b N : Nat} {L : List StD} (h : RSt B w b N L) (f : FrS gs C w w') (hg : gs < B) : RSt B w' b N L := by
  obtain ⟨h0, h1, h2, a, c, h3, h4⟩ := h; exact ⟨h0, h1, h2, a, c, h3.keptX f (by omega) (by decide), h4.keptX f (fun g hBg _ => by omega) (by decide)⟩

set_option maxHeartbeats 400000 in
theorem r15_Put_sp {B b N : Nat} {L : List StD} {x : StD} {w : World} (hN : N ≤ 400) (Q : RSt B w b N L) :
    Sp Try.prog F.r15_Store_Put #[.pointer (some ⟨b, 0, none⟩), agg x] w fun v w' => v = .int .i64 (putS' N L x).2 ∧ RSt B w' b N (putS' N L x).1 ∧ FrT B rsE w w' := by
  have QQ := Q
  obtain ⟨hlo, hr, hL, a, c, C, O⟩ := Q
  have hbl := C.lt
  refine en TBok rfl ?_
  refine rbx fun bx w1 n1 B1 => ?_
  refine rldG (ds := enc x) (B := B1) rfl rfl ?_
  refine rcall (r15_May_sp (x := x)) ?_
  rintro v w2 ⟨⟨rfl, hmay⟩ | ⟨rfl, hmay⟩, e2⟩
  case' inr =>
    have hp : putS' N L x = (L, 1) := by unfold putS'; rw [if_neg hmay]
    rw [hp]
    exact ⟨rfl, QQ.up, FrT.ext Le.e⟩
  refine cnt TBok 6 [] 5 L.length (fun i u => (∀ j, j < i → (hj : j < L.length) → lessK L[j].key x.key) ∧ Stp w2 u) rfl rfl ⟨by omega, stp⟩ ?_
  rintro i g u hi ⟨hb, e⟩
  have Cu := C.mv (w := u)
  have Ou := O.sl.up (w' := u)
  refine drawR TBok mixed (fun _ => False) (upF 20 0) (by kernel_rfl) fun u1 e1 _ => ?_
  refine tld (B := Cu) rfl not_false ?_
  refine ite (fun hlt => ?pp) (fun hge => ?qq)
  case' pp =>
    have hka : i < L.length := by omega
    refine tld (B := Cu) rfl not_false ?_
    refine tix (Ou.up (w' := u1)) (x := L[i]) (by simp) fun b5 o5 A5 _ => tloadA (cs := enc L[i].key) (A5.sub 0 3) rfl not_false ?_
    refine tldG (ds := enc x.key) (B := B1) rfl rfl not_false ?_
    refine rcall (r14_Less_sp (a := L[i].key) (b := x.key)) ?_
    rintro v u2 ⟨⟨rfl, hless⟩ | ⟨rfl, hless⟩, e2'⟩
    case' inl =>
      refine ⟨e2'.e, ?_⟩
      exact rar (by omega) ⟨rfl, hka, below2 hb fun _ => hless, stp⟩
    refine ⟨e2'.e, ?_⟩
    have hsl : ∀ y ∈ L, y.key = x.key → L[i].key = x.key := fun y hy e => by
      have q_ := List.mem_iff_getElem.1 hy
      obtain ⟨j, hj, rfl⟩ := q_
      have q_ := Nat.lt_trichotomy j i
      rcases q_ with h1 | rfl | h1
      · exact absurd e (lessK_ne (hb j h1 hj))
      · exact e
      · have := List.pairwise_iff_getElem.1 hr i j hka hj h1
        rw [e] at this; exact absurd this hless
    refine drawR TBok mixed (fun _ => False) (upF 20 0) (by kernel_rfl) fun u3 e3 _ => ?_
    refine tld (B := Cu) rfl not_false ?_
    refine ite (fun _ => ?_) (fun h => absurd (by first | omega | decide | (dsimp only <;> omega)) h)
    refine tld (B := Cu) rfl not_false ?_
    refine tix (Ou.up (w' := u3)) (x := L[i]) (by simp) fun b6 o6 A6 _ => tloadA (cs := enc L[i].key) (A6.sub 0 3) rfl not_false ?_
    refine tldG (ds := enc x.key) (B := B1) rfl rfl not_false ?_
    refine tgeq KeyD L[i].key x.key (fun he => ?dd) (fun hne => ?ee)
    case' dd =>
      have hp : putS' N L x = (L, 150) := by
        unfold putS'; rw [if_pos hmay, (hasS_some hr).2 ⟨List.getElem_mem hka, he⟩]
      rw [hp]
      exact ⟨rfl, QQ.up, FrT.ext Le.e⟩
    have hno : hasS L x.key = none := hasS_none.2 fun y hy e => hne (hsl y hy e)
    have hat : insS x L = L.take i ++ x :: L.drop i := insS_at x L i hi hb fun _ => hless
    have e4 : Stp u u3 := stp
  case' qq =>
    have q_ : i = L.length := by omega
    obtain rfl := q_
    have hno : hasS L x.key = none := hasS_none.2 fun y hy e => by
      have q_ := List.mem_iff_getElem.1 hy
      obtain ⟨j, hj, rfl⟩ := q_
      exact absurd e (lessK_ne (hb j hj hj))
    have hat : insS x L = L.take L.length ++ x :: L.drop L.length := insS_at x L _ hi hb fun h => absurd h (by omega)
    refine drawR TBok mixed (fun _ => False) (upF 20 0) (by kernel_rfl) fun u3 e3 _ => ?_
    refine tld (B := Cu) rfl not_false ?_
    refine ite (fun h => absurd h (by first | omega | decide | (dsimp only <;> omega))) (fun _ => ?_)
    have e4 : Stp u u3 := stp
  all_goals
    refine drawR TBok mixed (fun _ => False) (upF 10 0) (by kernel_rfl) fun u4 e5 _ => ?_
    refine tld (B := Cu) rfl not_false (tld (B := Cu) rfl not_false ?_)
    refine ite (fun hfull => ?_) (fun hfull => ?_)
    · have hp : putS' N L x = (L, 140) := by unfold putS'; rw [if_pos hmay, hno]; simp only; rw [if_pos (by omega)]
      rw [hp]
      exact ⟨rfl, QQ.up, FrT.ext Le.e⟩
    · have hp : putS' N L x = (insS x L, 0) := by unfold putS'; rw [if_pos hmay, hno]; simp only; rw [if_neg (by omega)]
      rw [hp]
      have C4 := C.mv (w := u4)
      refine rld (B := C4) rfl ?_
      refine rsl none (some _) (O.sl.up (w' := u4)) (by simp) (by first | (simp; done) | simpa using hi) fun a3 c3 S1 => ?_
      refine rapp (u := u4) ⟨rfl, rfl⟩ (Own.nil _ E.api_State _) S1 (by simp; omega) fun v5 w5 O5 f5 s5 => ?_
      refine rldG (ds := enc x) (B := B1) rfl rfl ?_
      refine rbs1 x rfl rfl (by decide) fun b6 w6 e6 _ S6 => ?_
      refine rapp1 (u := u4) ⟨rfl, rfl⟩ O5.up S6 (by simp; omega) fun v7 w7 O7 f7 s7 => ?_
      refine rld (B := C4) rfl ?_
      refine rsl (some _) none (O.sl.up (w' := w7)) (by first | (simp; done) | simpa using hi) (by simp) fun a4 c4 S8 => ?_
      refine rapp (u := u4) ⟨rfl, rfl⟩ O7 S8 (by simp; omega) fun v8 w8 O8 f8 s8 => ?_
      rw [sl_take, sl_drop] at O8
      have K8 : Own u4.heap.size E.api_State w8 v8 (insS x L) := by rw [hat]; simpa using O8
      clear O8 O7 O5
      have hil : (insS x L).length = L.length + 1 := by rw [(insS_perm x L).length_eq]; rfl
      have hB4 : B ≤ u4.heap.size := by have := C4.lt; omega
      have q_ := K8.shape
      obtain ⟨ka, kc, rfl⟩ := q_
      have C8 := C.mv (w := w8)
      refine rsto (B := C8) (vs := [.slice ka (insS x L).length kc]) rfl rfl rfl (sl_one _ _ _) fun w9 C9 f9 _ => ?_
      have F9 : FrT B rsE w8 w9 := C8.wrote f9 hlo (by decide)
      refine ⟨rfl, ⟨hlo, insS_ris x hr (hasS_none.1 hno), by show (insS x L).length ≤ N; omega, ka, kc, C9, ((K8.mono hB4).kept F9 (by decide))⟩, (FrT.ext Le.e).trans F9⟩
theorem r15_Get_sp {B b N : Nat} {L : List StD} {k : KeyD} {w : World} (Q : RSt B w b N L) (hN : N ≤ 1000) :
    Sp Try.prog F.r15_Store_Get #[.pointer (some ⟨b, 0, none⟩), agg k] w fun v w' => v = .tuple #[.int .i64 (getS' L k).1, .bool (getS' L k).2] ∧ Stp w w' := by
  obtain ⟨hlo, hr, hL, a, c, C, O⟩ := Q
  refine en TBok rfl ?_
  refine rbx fun bx w1 n1 B1 => ?_
  refine cnt TBok 7 [4, 5] 6 L.length (fun i u => (∀ j, j < i → (hj : j < L.length) → L[j].key ≠ k) ∧ Stp w1 u) rfl rfl ⟨by omega, stp⟩ ?_
  rintro i g u hi ⟨hb, e⟩
  have Cu := C.mv (w := u)
  have Ou := O.sl.up (w' := u)
  refine rld (B := Cu) rfl ?_
  refine ite (fun hlt => ?_) (fun hge => ?_)
  · have hka : i < L.length := by omega
    refine drawR TBok mixed (fun _ => False) (upF 10 0) (by kernel_rfl) fun u1 e1 _ => ?_
    refine tld (B := Cu) rfl not_false ?_
    refine tix (Ou.up (w' := u1)) (x := L[i]) (by simp) fun b5 o5 A5 _ => tloadA (cs := enc L[i].key) (A5.sub 0 3) rfl not_false ?_
    refine tldG (ds := enc k) (B := B1) rfl rfl not_false ?_
    refine tgeq KeyD L[i].key k (fun he => ?_) (fun hne => ?_)
    · have hg : getS' L k = (L[i].d, true) := by unfold getS'; rw [(hasS_some hr).2 ⟨List.getElem_mem hka, he⟩]
      rw [hg]
      refine rld (B := Cu) rfl ?_
      refine rix (Ou.up (w' := u1)) (x := L[i]) (by simp) fun b6 o6 A6 => rload1 (A6.cell 3 rfl) ?_
      exact ⟨rfl, stp⟩
    · exact rar (by omega) ⟨rfl, hka, below2 hb fun _ => hne, stp⟩
  · have q_ : i = L.length := by omega
    obtain rfl := q_
    have hg : getS' L k = (0, false) := by
      unfold getS'
      rw [hasS_none.2 fun y hy e => by obtain ⟨j, hj, rfl⟩ := List.mem_iff_getElem.1 hy; exact hb j hj hj e]
    rw [hg]
    exact ⟨rfl, stp⟩
theorem filter_take {α : Type} (q : α → Bool) {l : List α} {k : Nat} (h : k < l.length) : (l.take (k + 1)).filter q = if q l[k] then (l.take k).filter q ++ [l[k]] else (l.take k).filter q := by
  rw [take_add h, List.filter_append]
  cases hq : q l[k] <;> simp [hq]
theorem r15_Of_sp {B b N : Nat} {L : List StD} {s : Int} {w : World} (Q : RSt B w b N L) (hN : N ≤ 1000) :
    Sp Try.prog F.r15_Store_Of #[.pointer (some ⟨b, 0, none⟩), .int .i64 s] w fun v w' => Own w.heap.size E.api_State w' v (ofS L s) ∧ Stp w w' := by
  obtain ⟨hlo, hr, hL, a, c, C, O⟩ := Q
  refine en TBok rfl ?_
  refine cnt1 TBok 7 [] 5 6 L.length (fun i v u => Own w.heap.size E.api_State u v (ofS (L.take i) s) ∧ Stp w u) rfl rfl ⟨Own.nil _ _ _, stp⟩ ?_
  rintro i v g u hi ⟨Ov, e⟩
  have Cu := C.mv (w := u)
  have Ou := O.sl.up (w' := u)
  have hfl : (ofS (L.take i) s).length ≤ 1000 := by
    have : (ofS (L.take i) s).length ≤ (L.take i).length := List.length_filter_le _ _
    rw [List.length_take] at this; omega
  refine rld (B := Cu) rfl ?_
  refine ite (fun hlt => ?_) (fun hge => ?_)
  · have hka : i < L.length := by omega
    have hft := filter_take (fun x : StD => decide (x.key.slot = s)) hka
    refine rld (B := Cu) rfl ?_
    refine rix Ou (x := L[i]) (by simp) fun b5 o5 A5 => rload1 (A5.cell0 rfl) ?_
    refine ite (fun he => ?_) (fun hne => ?_)
    · rw [if_pos (by simpa using he)] at hft
      refine rld (B := Cu) rfl ?_
      refine rix Ou (x := L[i]) (by simp) fun b6 o6 A6 => rloadA A6 rfl ?_
      refine rbs1 L[i] rfl rfl (by decide) fun b7 u7 e7 _ S7 => ?_
      refine rapp1 (u := w) ⟨rfl, rfl⟩ (Ov.up (w' := u7)) S7 (by omega) fun v8 u8 O8 f8 s8 => ?_
      exact rar (by omega) ⟨rfl, hka, by unfold ofS; rw [hft]; exact O8, stp⟩
    · rw [if_neg (by simpa using hne)] at hft
      exact rar (by omega) ⟨rfl, hka, by unfold ofS; rw [hft]; exact Ov, stp⟩
  · have q_ : i = L.length := by omega
    obtain rfl := q_
    rw [List.take_length] at Ov
    exact ⟨Ov, stp⟩
theorem r15_Drop_sp {B b N : Nat} {L : List StD} {s : Int} {w : World} (Q : RSt B w b N L) (hN : N ≤ 1000) :
    Sp Try.prog F.r15_Store_Drop #[.pointer (some ⟨b, 0, none⟩), .int .i64 s] w fun v w' => v = .int .i64 ((ofS L s).length : Nat) ∧ RSt B w' b N (dropS L s) ∧ FrT B rsE w w' := by
  obtain ⟨hlo, hr, hL, a, c, C, O⟩ := Q
  have hbl := C.lt
  have hdc := drop_count L s
  refine en TBok rfl ?_
  refine cnt1 TBok 7 [] 5 6 L.length (fun i v u => Own w.heap.size E.api_State u v (dropS (L.take i) s) ∧ Stp w u) rfl rfl ⟨Own.nil _ _ _, stp⟩ ?_
  rintro i v g u hi ⟨Ov, e⟩
  have Cu := C.mv (w := u)
  have Ou := O.sl.up (w' := u)
  have hfl : (dropS (L.take i) s).length ≤ 1000 := by
    have : (dropS (L.take i) s).length ≤ (L.take i).length := List.length_filter_le _ _
    rw [List.length_take] at this; omega
  refine rld (B := Cu) rfl ?_
  refine ite (fun hlt => ?_) (fun hge => ?_)
  · have hka : i < L.length := by omega
    have hft := filter_take (fun x : StD => decide (x.key.slot ≠ s)) hka
    refine rld (B := Cu) rfl ?_
    refine rix Ou (x := L[i]) (by simp) fun b5 o5 A5 => rload1 (A5.cell0 rfl) ?_
    refine ite (fun he => ?_) (fun hne => ?_)
    · rw [if_pos (by simpa using he)] at hft
      refine rld (B := Cu) rfl ?_
      refine rix Ou (x := L[i]) (by simp) fun b6 o6 A6 => rloadA A6 rfl ?_
      refine rbs1 L[i] rfl rfl (by decide) fun b7 u7 e7 _ S7 => ?_
      refine rapp1 (u := w) ⟨rfl, rfl⟩ (Ov.up (w' := u7)) S7 (by omega) fun v8 u8 O8 f8 s8 => ?_
      exact rar (by omega) ⟨rfl, hka, by unfold dropS; rw [hft]; exact O8, stp⟩
    · rw [if_neg (by simpa using hne)] at hft
      exact rar (by omega) ⟨rfl, hka, by unfold dropS; rw [hft]; exact Ov, stp⟩
  · have q_ : i = L.length := by omega
    obtain rfl := q_
    rw [List.take_length] at Ov
    have q_ := Ov.shape
    obtain ⟨ka, kc, rfl⟩ := q_
    refine rld (B := Cu) rfl ?_
    refine rarE (y := (((ofS L s).length : Nat) : Int)) (by omega) (by omega) ?_
    refine rsto (B := Cu) (vs := [.slice ka (dropS L s).length kc]) rfl rfl rfl (sl_one _ _ _) fun w9 C9 f9 _ => ?_
    have F9 : FrT B rsE u w9 := Cu.wrote f9 hlo (by decide)
    exact ⟨rfl, ⟨hlo, hr.sublist (List.filter_sublist ..), by omega, ka, kc, C9, ((Ov.mono (by omega)).kept F9 (by decide))⟩, (FrT.ext Le.e).trans F9⟩
end Go.W
