/-
  Proved here: the laws BestOrder, BestFirst, BestKeeps return true (walks through the laws).
  Conditions: the rows can be read.
-/
import Derived.Test.YtgplodgpbhddbaaBestW
namespace Go.W
open Go Go.Proofs
open Enc (enc)
set_option maxRecDepth 10000

theorem takeQ_drop {L : List HitD} {i : Nat} (h : i < L.length) : takeQ (L.drop i) = (L.drop (i + 1), L[i], true) := by
  rw [List.drop_eq_getElem_cons h]; rfl

set_option maxHeartbeats 1000000 in
theorem l10_BestOrder_sp {a0 : Option Addr} {n0 c0 : Nat} {l : List HitD} {w : World} (h : SlF w (.slice a0 n0 c0) l) :
    Sp Try.prog F.l10_BestOrder #[.slice a0 n0 c0] w fun v w' => v = .bool true ∧ Stp w w' := by
  have q_ := h.len
  obtain rfl := q_
  refine en TBok rfl ?_
  refine rcall (best_New_sp (most := 1000) (w := w)) ?_
  rintro v w3 ⟨⟨hm, rfl⟩ | ⟨hm, b, rfl, Q⟩, e3⟩
  · omega
  refine rpnil ?_
  refine ite (fun h => absurd rfl h) (fun _ => ?_)
  refine ite (fun h1 => ?_) (fun h1 => ?_)
  · refine rcall (l10_bests_sp) ?_
    rintro v w4 ⟨rfl, e4⟩
    exact ⟨rfl, stp⟩
  refine cnt TBok 6 [] 5 l.length (fun i u => Qu w.heap.size u b 1000 (firstQ ((1000 : Nat) : Int) (l.take i)) ∧ Stp w u) rfl rfl ⟨Q, stp⟩ ?_
  rintro i g u hi ⟨Qs, e⟩
  refine ite (fun hlt => ?_) (fun hge => ?_)
  · have hka : i < l.length := by omega
    have hfl := firstQ_len ((1000 : Nat) : Int) (l.take i)
    rw [List.length_take] at hfl
    refine rix (h.up (w' := u)) (x := l[i]) (by simp) fun b4 o4 A4 => rloadA A4 rfl ?_
    refine rcall (Queue_Put_sp (x := l[i]) Qs (by omega)) ?_
    rintro v u2 ⟨rfl, Q2, f2⟩
    have s2 : Stp w u2 := ⟨FrT.st Le.e f2 (Nat.le_refl _)⟩
    refine rar (by omega) ⟨rfl, hka, ?_, stp⟩
    rw [firstQ_succ hka]; exact Q2
  have q_ : i = l.length := by omega
  obtain rfl := q_
  rw [List.take_length, firstQ_take] at Qs
  have hS := srtH_facts l
  obtain ⟨hS1, hS2⟩ := hS
  have hSl := hS2.length_eq
  rw [List.take_of_length_le (by omega)] at Qs
  refine rcall (Queue_All_sp Qs) ?_
  rintro v u1 ⟨O1, e1⟩
  have q_ := O1.shape
  obtain ⟨a1, c1, rfl⟩ := q_
  refine ite (fun h => absurd (by rw [hSl]) h) (fun _ => ?_)
  refine cnt TBok 8 [2] 7 (srtH l).length (fun i x => Qu w.heap.size x b 1000 ((srtH l).drop i) ∧ Own u.heap.size E.api_Hit x (.slice a1 (srtH l).length c1) (srtH l) ∧ Stp w x) rfl rfl ⟨Qs.up, O1, stp⟩ ?_
  rintro i2 g2 x hi2 ⟨Q2, O2, e2⟩
  have e2' : Stp w x := e2
  refine ite (fun hlt2 => ?_) (fun hge2 => ?_)
  · have hka : i2 < (srtH l).length := by omega
    have TK := Queue_Take_sp Q2
    rw [takeQ_drop hka] at TK
    refine rcall TK ?_
    rintro v x1 ⟨rfl, Q3, f3⟩
    have s3 : Stp w x1 := ⟨FrT.st Le.e f3 (Nat.le_refl _)⟩
    have O3 := O2.kept f3 (by decide)
    refine ral fun b6 x2 n6 z6 => ?_
    refine rsto (B := z6) (vs := enc (srtH l)[i2]) rfl rfl rfl (Enc.one _) fun x3 B3 f4 _ => ?_
    have s4 : Stp x1 x3 := ⟨Fr.st Le.e f4 fun i hi => by subst hi; exact n6.lo⟩
    have B3' : Bk x3 b6 (enc (srtH l)[i2]) E.api_Hit := B3
    clear z6 f4 B3
    refine drawR TBok mixed (fun _ => False) (upF 26 0) (by kernel_rfl) fun x4 e4 _ => ?_
    refine tldG (ds := enc (srtH l)[i2]) (B := B3') rfl rfl not_false ?_
    refine tix (O3.sl.up (w' := x4)) (x := (srtH l)[i2]) (by simp) fun b7 o7 A7 _ => tloadA A7 rfl not_false ?_
    refine tgne HitD _ _ (fun h => absurd rfl h) (fun _ => ?_)
    refine ite (fun hpos => ?_) (fun h0 => ?_)
    · have hj1 : i2 - 1 < (srtH l).length := by omega
      refine tix (O3.sl.up (w' := x4)) (x := (srtH l)[i2]) (by simp) fun b8 o8 A8 _ => tloadA A8 rfl not_false ?_
      refine rarE (y := ((i2 - 1 : Nat) : Int)) (by omega) (by omega) ?_
      refine tix (O3.sl.up (w' := x4)) (x := (srtH l)[i2 - 1]) (by simp) fun b9 o9 A9 _ => tloadA A9 rfl not_false ?_
      have hr := List.pairwise_iff_getElem.1 hS1 (i2 - 1) i2 hj1 hka (by omega)
      have AH := r09_Ahead_sp (a := (srtH l)[i2]) (b := (srtH l)[i2 - 1]) (w := x4)
      rw [hr] at AH
      refine rcall AH ?_
      rintro v x5 ⟨rfl, e5⟩
      refine ⟨e5.e, ?_⟩
      exact rar (by omega) ⟨rfl, hka, Q3.up, O3.up, stp⟩
    · exact rar (by omega) ⟨rfl, hka, Q3.up, O3.up, stp⟩
  · have q_ : i2 = (srtH l).length := by omega
    obtain rfl := q_
    rw [List.drop_length] at Q2
    refine rcall (Queue_Take_sp Q2) ?_
    rintro v x1 ⟨rfl, Q3, f3⟩
    have s3 : Stp w x1 := ⟨FrT.st Le.e f3 (Nat.le_refl _)⟩
    refine ral fun b6 x2 n6 z6 => ?_
    refine rsto (B := z6) (vs := enc zH) rfl rfl rfl (Enc.one _) fun x3 B3 f4 _ => ?_
    have s4 : Stp x1 x3 := ⟨Fr.st Le.e f4 fun i hi => by subst hi; exact n6.lo⟩
    clear z6 f4 B3
    refine rcall (l10_bests_sp) ?_
    rintro v x5 ⟨rfl, e5⟩
    refine rcall (Queue_Len_sp (Q3.up (w' := x5))) ?_
    rintro v x6 ⟨rfl, e6⟩
    refine ite (fun _ => ?_) (fun h => absurd rfl h)
    exact ⟨rfl, stp⟩

theorem l10_BestFirst_sp {k : Int} {a0 : Option Addr} {n0 c0 : Nat} {l : List HitD} {w : World} (h : SlF w (.slice a0 n0 c0) l) :
    Sp Try.prog F.l10_BestFirst #[.slice a0 n0 c0, .int .i64 k] w fun v w' => v = .bool true ∧ Stp w w' := by
  have q_ := h.len
  obtain rfl := q_
  refine en TBok rfl ?_
  refine ite (fun h1 => ⟨rfl, stp⟩) (fun h1 => ?_)
  refine rcall (r09_Own_sp h (by omega)) ?_
  rintro v w1 ⟨O1, e1⟩
  have q_ := O1.shape
  obtain ⟨a1, c1, rfl⟩ := q_
  refine rcall (best_First_sp (k := k) (h.up (w' := w1)) (by omega)) ?_
  rintro v w2 ⟨O2, e2⟩
  refine rcall (r10_First_sp (k := k) (O1.sl.up (w' := w2)) (by omega)) ?_
  rintro v w3 ⟨⟨a3, c3, rfl, S3⟩, e3⟩
  have hS := (srtH_facts l).2.length_eq
  have hFe : (if k < 1 then [] else firstQ k l) = if k < 1 then [] else (srtH l).take k.toNat := by
    split
    · rfl
    · rename_i hk
      have q_ := Int.eq_ofNat_of_zero_le (show (0 : Int) ≤ k by omega)
      obtain ⟨n, rfl⟩ := q_
      exact firstQ_take n l
  rw [hFe] at O2
  have q_ : ∃ L, L = if k < 1 then [] else (srtH l).take k.toNat := ⟨_, rfl⟩
  obtain ⟨L, hL⟩ := q_
  rw [← hL] at O2 S3
  have hLl : L.length ≤ l.length := by
    subst hL; split
    · simp
    · rw [List.length_take]; omega
  rw [← hL]
  have q_ := O2.shape
  obtain ⟨a2, c2, rfl⟩ := q_
  refine rcall (r09_Same_sp (O2.sl.up (w' := w3)) S3.sl (by omega)) ?_
  rintro v w4 ⟨⟨rfl, _⟩ | ⟨rfl, hne⟩, e4⟩
  case' inr => exact absurd rfl hne
  refine cnt TBok 10 [] 9 L.length (fun _ x => (∃ l' : List HitD, l'.length = L.length ∧ Own w1.heap.size E.api_Hit x (.slice a2 L.length c2) l') ∧ Stp w1 x) rfl rfl ⟨⟨L, rfl, O2.up⟩, stp⟩ ?_
  rintro i g u hi ⟨⟨l', hl', O'⟩, e⟩
  refine ite (fun hlt => ?_) (fun hge => ?_)
  · have hka : i < l'.length := by omega
    refine rixO rfl O' (x := l'[i]) (by simp) fun gg hg _ A5 => ?_
    refine rstOf (u := w1) (f := 0) (x := l'[i]) { l'[i] with v := -7 } rfl O' hg (by simp) rfl (by decide) rfl rfl fun x' O3 _ _ _ => ?_
    exact rar (by omega) ⟨rfl, by omega, ⟨_, by rw [List.length_set]; exact hl', O3⟩, stp⟩
  · refine rcall (l10_bests_sp) ?_
    rintro v x5 ⟨rfl, e5⟩
    refine rcall (r09_Same_sp (h.up (w' := x5)) (O1.sl.up (w' := x5)) (by omega)) ?_
    rintro v w4 ⟨⟨rfl, _⟩ | ⟨rfl, hne⟩, e4⟩
    · exact ⟨rfl, stp⟩
    · exact absurd rfl hne

/-! what is left out comes ahead of none that stays -/
structure KeepI (N : Nat) (L out : List HitD) (n : Nat) : Prop where
  srt : SrtH L
  le : L.length ≤ N
  left : ∀ o ∈ out, ∀ y ∈ L, hlt o y = false
  full : out ≠ [] → L.length = N
  all : L.length + out.length = n
theorem KeepI.put {N n : Nat} {L out : List HitD} (K : KeepI N L out n) (x : HitD) : KeepI N (putQ N L x).1 (if (putQ N L x).2.2 then out ++ [(putQ N L x).2.1] else out) (n + 1) := by
  have hlI := insH_len x L
  have hsI := insH_srt x K.srt
  have hpI := insH_perm x L
  have hall := K.all
  have hle := K.le
  unfold putQ
  split
  · rename_i h
    have ho : out = [] := by
      cases out with
      | nil => rfl
      | cons o r => have := K.full (by simp); omega
    subst ho
    exact ⟨hsI, by show (insH x L).length ≤ N; omega, by intro o ho; simp at ho, fun h => absurd rfl h, by simp at hall ⊢; omega⟩
  · rename_i h
    have hN : L.length = N := by omega
    have hne : insH x L ≠ [] := by intro e; rw [e] at hlI; simp at hlI
    have hs := List.dropLast_concat_getLast hne
    have q_ : ∃ z, (insH x L).getLast hne = z := ⟨_, rfl⟩
    obtain ⟨z, hz⟩ := q_
    rw [hz] at hs
    have hg : (insH x L).getLast? = some z := by rw [List.getLast?_eq_some_getLast hne, hz]
    have hd := hsI
    rw [← hs, SrtH, List.pairwise_append] at hd
    have hzy : ∀ y ∈ (insH x L).dropLast, hlt z y = false := fun y hy => hd.2.2 y hy z (List.mem_cons_self ..)
    have hlen : (insH x L).dropLast.length = N := by rw [List.length_dropLast]; omega
    simp only [if_true, hg, Option.getD_some]
    refine ⟨hd.1, by omega, fun o ho y hy => ?_, fun _ => hlen, by rw [hlen]; simp; omega⟩
    have q_ := List.mem_append.1 ho
    rcases q_ with ho | ho
    · have hyI : y ∈ insH x L := (List.dropLast_sublist _).subset hy
      have q_ := List.mem_cons.1 (hpI.mem_iff.1 hyI)
      rcases q_ with rfl | hyL
      · have hzI : z ∈ insH y L := by rw [← hz]; exact List.getLast_mem hne
        have q_ := List.mem_cons.1 (hpI.mem_iff.1 hzI)
        rcases q_ with rfl | hzL
        · have hp : (insH z L).dropLast.Perm L := by
            refine (List.perm_cons z).1 (List.Perm.trans ?_ hpI)
            conv => rhs; rw [← hs]
            exact (List.perm_append_singleton _ _).symm
          exact K.left o ho z (hp.mem_iff.1 hy)
        · exact hlt_tr (hzy y hy) (K.left o ho z hzL)
      · exact K.left o ho y hyL
    · rw [List.mem_singleton] at ho; subst ho; exact hzy y hy

set_option maxHeartbeats 1000000 in
theorem l10_BestKeeps_sp {k : Int} {a0 : Option Addr} {n0 c0 : Nat} {l : List HitD} {w : World} (h : SlF w (.slice a0 n0 c0) l) :
    Sp Try.prog F.l10_BestKeeps #[.slice a0 n0 c0, .int .i64 k] w fun v w' => v = .bool true ∧ Stp w w' := by
  have q_ := h.len
  obtain rfl := q_
  refine en TBok rfl ?_
  refine rcall (best_New_sp (most := k) (w := w)) ?_
  rintro v w3 ⟨⟨hm, rfl⟩ | ⟨hm, b, rfl, Q⟩, e3⟩
  · refine rpnil ?_
    refine rcall (l10_bests_sp) ?_
    rintro v w4 ⟨rfl, e4⟩
    refine rpnnil ?_
    refine ite (fun _ => ?_) (fun h => absurd rfl h)
    exact ⟨rfl, stp⟩
  refine rpnil ?_
  refine ite (fun h => absurd rfl h) (fun _ => ?_)
  refine ite (fun h1 => ?_) (fun h1 => ?_)
  · refine rcall (l10_bests_sp) ?_
    rintro v w4 ⟨rfl, e4⟩
    refine rpnnil ?_
    exact ⟨rfl, stp⟩
  have q_ := Int.eq_ofNat_of_zero_le (show (0 : Int) ≤ k by omega)
  obtain ⟨N, rfl⟩ := q_
  refine cnt1 TBok 9 [] 7 8 l.length (fun i v u => ∃ out, Own w.heap.size E.api_Hit u v out ∧ Qu w.heap.size u b N (firstQ N (l.take i)) ∧ KeepI N (firstQ N (l.take i)) out i ∧ Stp w u) rfl rfl
    ⟨[], Own.nil _ _ _, Q, ⟨.nil, by simp [firstQ], by simp, fun h => absurd rfl h, by simp [firstQ]⟩, stp⟩ ?_
  rintro i v g u hi ⟨out, O, Qs, K, e⟩
  have hall := K.all
  refine ite (fun hlt => ?_) (fun hge => ?_)
  · have hka : i < l.length := by omega
    refine rix (h.up (w' := u)) (x := l[i]) (by simp) fun b4 o4 A4 => rloadA A4 rfl ?_
    refine rcall (Queue_Put_sp (x := l[i]) Qs (by omega)) ?_
    rintro v u2 ⟨rfl, Q2, f2⟩
    have s2 : Stp w u2 := ⟨FrT.st Le.e f2 (Nat.le_refl _)⟩
    have O2 := O.kept f2 (by decide)
    have KX := K.put l[i]
    have hfs := firstQ_succ (k := (N : Int)) hka
    have q_ : ∃ r, putQ N (firstQ N (l.take i)) l[i] = r := ⟨_, rfl⟩
    obtain ⟨r, hr⟩ := q_
    rw [hr] at KX Q2 hfs
    rw [← hfs] at Q2
    rw [hr]
    refine ral fun b6 u6 n6 z6 => ?_
    refine rsto (B := z6) (vs := enc r.2.1) rfl rfl rfl (Enc.one _) fun u7 B7 f7 _ => ?_
    have s7 : Stp u2 u7 := ⟨Fr.st Le.e f7 fun i hi => by subst hi; exact n6.lo⟩
    have B7' : Bk u7 b6 (enc r.2.1) E.api_Hit := B7
    clear z6 f7 B7 f2 hr
    obtain ⟨r1, r2, r3⟩ := r
    cases r3
    · refine rar (by omega) ⟨rfl, hka, out, O2.up, Q2.up, ?_, stp⟩
      rw [hfs]; exact KX
    · refine rldG (ds := enc r2) (B := B7') rfl rfl ?_
      refine rbs1 r2 rfl rfl (by decide) fun b8 u8 e8 _ S8 => ?_
      refine rapp1 (u := w) ⟨rfl, rfl⟩ (O2.up (w' := u8)) S8 (by omega) fun v9 u9 O9 f9 s9 => ?_
      have Q9 := (Q2.up (w' := u8)).kept ((O2.up (w' := u8)).wrote f9 (Nat.le_refl _) (show E.api_Hit ∈ [E.api_Hit] by decide)) (by decide) (by decide)
      refine rar (by omega) ⟨rfl, hka, _, O9, Q9, ?_, stp⟩
      rw [hfs]; exact KX
  · have q_ : i = l.length := by omega
    obtain rfl := q_
    rw [List.take_length] at Qs K
    have hfl := K.le
    have hlf := K.left
    have hall := K.all
    have q_ : ∃ L, L = firstQ N l := ⟨_, rfl⟩
    obtain ⟨L, hL⟩ := q_
    rw [← hL] at Qs hall hfl hlf
    clear K
    refine rcall (Queue_All_sp Qs) ?_
    rintro v u1 ⟨O1, e1⟩
    have q_ := O1.shape
    obtain ⟨a1, c1, rfl⟩ := q_
    refine rcall (best_First_sp (k := (N : Int)) (h.up (w' := u1)) (by omega)) ?_
    rintro v u2 ⟨O2, e2⟩
    rw [if_neg (by omega), ← hL] at O2
    have q_ := O2.shape
    obtain ⟨a2, c2, rfl⟩ := q_
    have q_ := O.shape
    obtain ⟨a4, c4, rfl⟩ := q_
    have OO := O.up (w' := u2)
    have OA := O1.up (w' := u2)
    refine cnt TBok 14 [4] 13 out.length (fun _ x => Stp u2 x) rfl rfl stp ?_
    rintro i3 g3 x hi3 e3'
    refine ite (fun hlt3 => ?_) (fun hge3 => ?_)
    · have hka : i3 < out.length := by omega
      refine cnt TBok 15 [4] 14 L.length (fun _ x => Stp u2 x) rfl rfl stp ?_
      rintro i4 g4 x4 hi4 e4'
      refine ite (fun hlt4 => ?_) (fun hge4 => ?_)
      · have hkb : i4 < L.length := by omega
        refine drawR TBok mixed (fun _ => False) (upF 9 0) (by kernel_rfl) fun x5 e5 _ => ?_
        refine tix (OO.sl.up (w' := x5)) (x := out[i3]) (by simp) fun b7 o7 A7 _ => tloadA A7 rfl not_false ?_
        refine tix (OA.sl.up (w' := x5)) (x := L[i4]) (by simp) fun b8 o8 A8 _ => tloadA A8 rfl not_false ?_
        have AH := r09_Ahead_sp (a := out[i3]) (b := L[i4]) (w := x5)
        rw [hlf _ (List.getElem_mem hka) _ (List.getElem_mem hkb)] at AH
        refine rcall AH ?_
        rintro v x6 ⟨rfl, e6⟩
        refine ⟨e6.e, ?_⟩
        exact rar (by omega) ⟨rfl, hkb, stp⟩
      · exact rar (by omega) ⟨rfl, hka, stp⟩
    · refine rcall (l10_bests_sp) ?_
      rintro v x5 ⟨rfl, e5⟩
      refine rcall (r09_Same_sp (OA.sl.up (w' := x5)) (O2.sl.up (w' := x5)) (by omega)) ?_
      rintro v x6 ⟨⟨rfl, _⟩ | ⟨rfl, hne⟩, e6⟩
      case' inr => exact absurd rfl hne
      refine rarE (y := ((l.length : Nat) : Int)) (by omega) (by omega) ?_
      refine ite (fun _ => ?_) (fun h => absurd rfl h)
      refine rcall (Queue_Len_sp (Qs.up (w' := x6))) ?_
      rintro v x7 ⟨rfl, e7⟩
      refine ite (fun _ => ?_) (fun h => absurd rfl h)
      exact ⟨rfl, stp⟩
end Go.W
