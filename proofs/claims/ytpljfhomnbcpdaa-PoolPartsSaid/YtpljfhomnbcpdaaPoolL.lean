/-
  Proved here: the laws of pools return true: PoolDoes, PoolParts (the walks through the laws).
  Conditions: the rows can be read.
-/
import Derived.Test.YtpljfhomnbcpdaaPool3
namespace Go.W
open Go Go.Proofs
open Enc (enc)
set_option maxRecDepth 10000

theorem hq0 : newP 3 = ((3, [2, 1, 0]), 0) := by rfl
theorem hq1 : takeP (3, [2, 1, 0]) = (0, (3, [2, 1]), 0) := by decide
theorem hq2 : giveP (3, [2, 1, 0]) 1 = (zP, 150) := by decide
theorem hq3 : takesP (3, [2, 1, 0]) 4 = ([], zP, 140) := by decide
theorem hq4 : giveP (3, [2, 1]) 0 = ((3, [2, 1, 0]), 0) := by decide
theorem l13_pools_sp {w : World} : Sp Try.prog F.l13_pools #[] w fun v w' => v = .bool true ∧ Stp w w' := by
  refine en TBok rfl ?_
  have T := pool_New_sp (size := 3) (w := w); rw [hq0] at T
  refine rcall (T) ?_
  rintro v w1 ⟨⟨pv, rfl, ⟨a1, c1, rfl, O1⟩⟩, e1⟩
  refine ral fun b2 w2a n2 z2 => ?_
  refine rsto (B := z2) (vs := [.int .i64 3, .slice a1 3 c1]) rfl rfl rfl (pl_one _ _ _ _) fun w2 B2 f2 _ => ?_
  have s2 : Stp w1 w2 := ⟨Fr.st Le.e f2 fun i hi => by subst hi; exact n2.lo⟩
  clear z2
  have T := pool_Take_sp (sz := 3) (O1.sl.up (w' := w2)) (by decide); rw [hq1] at T
  refine rldG rfl rfl ?_
  refine rcall (T) ?_
  rintro v w3 ⟨⟨pv, rfl, ⟨a3, c3, rfl, O3⟩⟩, e3⟩
  refine ral fun b4 w4a n4 z4 => ?_
  refine rsto (B := z4) (vs := [.int .i64 3, .slice a3 2 c3]) rfl rfl rfl (pl_one _ _ _ _) fun w4 B4 f4 _ => ?_
  have s4 : Stp w3 w4 := ⟨Fr.st Le.e f4 fun i hi => by subst hi; exact n4.lo⟩
  clear z4
  have T := pool_Give_sp (sz := 3) (m := 1) (O1.sl.up (w' := w4)) (by decide); rw [hq2] at T
  refine rldG rfl rfl ?_
  refine rcall (T) ?_
  rintro v w5 ⟨⟨pv, rfl, ⟨a5, c5, rfl, O5⟩⟩, e5⟩
  refine ral fun b6 w6a n6 z6 => ?_
  refine rsto (B := z6) (vs := [.int .i64 0, .slice a5 0 c5]) rfl rfl rfl (pl_one _ _ _ _) fun w6 B6 f6 _ => ?_
  have s6 : Stp w5 w6 := ⟨Fr.st Le.e f6 fun i hi => by subst hi; exact n6.lo⟩
  clear z6
  have T := pool_Takes_sp (sz := 3) (m := 4) (O1.sl.up (w' := w6)) (by decide) (by decide); rw [hq3] at T
  refine rldG (B := B2) rfl rfl ?_
  refine rcall (T) ?_
  rintro v w7 ⟨⟨lv, pv, rfl, P7, ⟨a7, c7, rfl, O7⟩⟩, e7⟩
  refine ral fun b8 w8a n8 z8 => ?_
  refine rsto (B := z8) (vs := [.int .i64 0, .slice a7 0 c7]) rfl rfl rfl (pl_one _ _ _ _) fun w8 B8 f8 _ => ?_
  have s8 : Stp w7 w8 := ⟨Fr.st Le.e f8 fun i hi => by subst hi; exact n8.lo⟩
  clear z8
  have T := pool_Give_sp (sz := 3) (m := 0) (O3.sl.up (w' := w8)) (by decide); rw [hq4] at T
  refine rldG (B := B4) rfl rfl ?_
  refine rcall (T) ?_
  rintro v w9 ⟨⟨pv, rfl, ⟨a9, c9, rfl, O9⟩⟩, e9⟩
  refine ral fun b10 w10a n10 z10 => ?_
  refine rsto (B := z10) (vs := [.int .i64 3, .slice a9 3 c9]) rfl rfl rfl (pl_one _ _ _ _) fun w10 B10 f10 _ => ?_
  have s10 : Stp w9 w10 := ⟨Fr.st Le.e f10 fun i hi => by subst hi; exact n10.lo⟩
  clear z10
  refine ite (fun _ => ?_) (fun h => absurd rfl h)
  refine rld (B := B2) rfl ?_
  refine rbs (vs := [.int .i64 2, .int .i64 1, .int .i64 0]) ([2, 1, 0] : List Int) rfl rfl rfl (by decide) fun b w11 n11 S11 => ?_
  refine rcall ((r01_Ints_sp (O1.sl.up (w' := w11)) S11 (by decide)).tt rfl) ?_
  rintro v w12 ⟨rfl, e12⟩
  iterate 5 (refine ite (fun _ => ?_) (fun h => absurd rfl h))
  refine rldG (B := B10) rfl rfl (rldG (B := B2) rfl rfl ?_)
  refine rcall ((r13_Same_sp (sa := 3) (sb := 3) (O9.sl.up (w' := w12)) (O1.sl.up (w' := w12)) (by decide)).tt ⟨rfl, rfl⟩) ?_
  rintro v w13 ⟨rfl, e13⟩
  refine rldG (B := B2) rfl rfl ?_
  refine rcall ((pool_Check_sp (sz := 3) (O1.sl.up (w' := w13)) (by decide)).tt (by decide)) ?_
  rintro v w14 ⟨rfl, e14⟩
  exact ⟨rfl, stp⟩

theorem Own.fr2 {α : Type} [Enc α] {D : Nat → Prop} {B : Nat} {e : TypeId} {w0 w w' : World} {v : Value} {l l' : List α} (h0 : Own B e w0 v l') (h : Own B e w v l) (hf : Fr D w w') (hd : ∀ b, B ≤ b → b < w0.heap.size → Value.blk v = some b → ¬ D b) : Own B e w' v l := by
  by_cases hv : ∃ a, v = .slice a 0 0
  · obtain ⟨a, rfl⟩ := hv
    have q_ := h.sl.shape
    obtain ⟨a', c', hs⟩ := q_
    injection hs with _ h2 _
    exact .inl ⟨List.eq_nil_of_length_eq_zero h2.symm, a, rfl⟩
  · refine h.fr hf fun b hb hv' hD => ?_
    have : b < w0.heap.size := by
      rcases h0 with ⟨_, a, ha⟩ | h0
      · exact absurd ⟨a, ha⟩ hv
      · have q_ := h0.2
        rcases q_ with ⟨rfl, _⟩ | ⟨g, cap, cur, rfl, _, hg, _⟩
        · cases hv'
        · simp only [Value.blk] at hv'; cases hv'; exact blk_lt hg
    exact hd b hb this hv' hD
theorem big13 {n : Nat} (h : ¬ ((60 < n ∧ n ≤ 400) ∨ 500 < n)) : n ≤ 500 := by omega
theorem takesP_len {sz m : Int} {l : List Int} : (takesP (sz, l) m).1.length ≤ l.length ∧ (takesP (sz, l) m).2.1.2.length ≤ l.length := by
  unfold takesP; split
  · split
    · simp [zP]
    · split
      · simp [zP]
      · simp
  · simp [zP]
theorem takeP_len {sz : Int} {l : List Int} : (takeP (sz, l)).2.1.2.length ≤ l.length := by
  unfold takeP; split
  · split
    · simp [zP]
    · simp
  · simp [zP]
theorem giveP_len {sz m : Int} {l : List Int} : (giveP (sz, l) m).1.2.length ≤ l.length + 1 := by
  unfold giveP; split
  · split
    · simp [zP]
    · split
      · simp [zP]
      · simp
  · simp [zP]
theorem newP_len {m : Int} : (newP m).1.2.length ≤ 400 := by
  unfold newP; split
  · simp [zP]
  · simp [downTo_len]; omega

set_option maxHeartbeats 800000 in
theorem l13_PoolDoes_sp {sz m many size : Int} {a : Option Addr} {n c : Nat} {l : List Int} {w : World} (h : SlF w (.slice a n c) l) (hm : -9223372036854775808 ≤ many ∧ many ≤ 9223372036854775807) :
    Sp Try.prog F.l13_PoolDoes #[plV sz a n c, .int .i64 m, .int .i64 many, .int .i64 size] w fun v w' => v = .bool true ∧ Stp w w' := by
  have q_ := h.len
  obtain rfl := q_
  refine en TBok rfl ?_
  refine rbx fun b0 w0 n0 B0 => ?_
  refine rldG rfl rfl ?_
  refine rcall (r13_Big_sp) ?_
  rintro v w1 ⟨⟨rfl, hb⟩ | ⟨rfl, hb⟩, e1⟩
  · exact ⟨rfl, stp⟩
  have hn := big13 hb
  refine rldG rfl rfl ?_
  refine rcall (r13_Own_sp (sz := sz) (h.up (w' := w1)) (by omega)) ?_
  rintro v w2 ⟨⟨a2, c2, rfl, O2⟩, e2⟩
  refine ral fun b3 w3a n3 z3 => ?_
  refine rsto (B := z3) (vs := [.int .i64 sz, .slice a2 l.length c2]) rfl rfl rfl (pl_one _ _ _ _) fun w3 B3 f3 _ => ?_
  have s3 : Stp w2 w3 := ⟨Fr.st Le.e f3 fun i hi => by subst hi; exact n3.lo⟩
  clear z3
  refine rldG (B := B0) rfl rfl ?_
  refine rcall (pool_Take_sp (sz := sz) (h.up (w' := w3)) (by omega)) ?_
  rintro v w4 ⟨⟨pv, rfl, ⟨a4, c4, rfl, O4⟩⟩, e4⟩
  refine ral fun b5 w5a n5 z5 => ?_
  refine rsto (B := z5) (vs := [.int .i64 (takeP (sz, l)).2.1.1, .slice a4 (takeP (sz, l)).2.1.2.length c4]) rfl rfl rfl (pl_one _ _ _ _) fun w5 B5 f5 _ => ?_
  have s5 : Stp w4 w5 := ⟨Fr.st Le.e f5 fun i hi => by subst hi; exact n5.lo⟩
  clear z5
  refine rldG (B := B3) rfl rfl ?_
  refine rcall (r13_Take_sp (sz := sz) (O2.sl.up (w' := w5)) (by dsimp only; omega)) ?_
  rintro v w6 ⟨⟨pv, rfl, ⟨a6, c6, rfl, O6⟩⟩, e6⟩
  refine ral fun b7 w7a n7 z7 => ?_
  refine rsto (B := z7) (vs := [.int .i64 (takeP (sz, l)).2.1.1, .slice a6 (takeP (sz, l)).2.1.2.length c6]) rfl rfl rfl (pl_one _ _ _ _) fun w7 B7 f7 _ => ?_
  have s7 : Stp w6 w7 := ⟨Fr.st Le.e f7 fun i hi => by subst hi; exact n7.lo⟩
  clear z7
  refine rldG (B := B0) rfl rfl ?_
  refine rcall (pool_Give_sp (sz := sz) (m := m) (h.up (w' := w7)) (by omega)) ?_
  rintro v w8 ⟨⟨pv, rfl, ⟨a8, c8, rfl, O8⟩⟩, e8⟩
  refine ral fun b9 w9a n9 z9 => ?_
  refine rsto (B := z9) (vs := [.int .i64 (giveP (sz, l) m).1.1, .slice a8 (giveP (sz, l) m).1.2.length c8]) rfl rfl rfl (pl_one _ _ _ _) fun w9 B9 f9 _ => ?_
  have s9 : Stp w8 w9 := ⟨Fr.st Le.e f9 fun i hi => by subst hi; exact n9.lo⟩
  clear z9
  refine rldG (B := B3) rfl rfl ?_
  refine rcall (r13_Give_sp (sz := sz) (m := m) (O2.sl.up (w' := w9)) (by dsimp only; omega)) ?_
  rintro v w10 ⟨⟨pv, rfl, ⟨a10, c10, rfl, O10⟩⟩, e10⟩
  refine ral fun b11 w11a n11 z11 => ?_
  refine rsto (B := z11) (vs := [.int .i64 (giveP (sz, l) m).1.1, .slice a10 (giveP (sz, l) m).1.2.length c10]) rfl rfl rfl (pl_one _ _ _ _) fun w11 B11 f11 _ => ?_
  have s11 : Stp w10 w11 := ⟨Fr.st Le.e f11 fun i hi => by subst hi; exact n11.lo⟩
  clear z11
  refine rldG (B := B0) rfl rfl ?_
  refine rcall (pool_Takes_sp (sz := sz) (m := many) (h.up (w' := w11)) (by omega) hm) ?_
  rintro v w12 ⟨⟨lv, pv, rfl, P12, ⟨a12, c12, rfl, O12⟩⟩, e12⟩
  have q_ := P12.shape
  obtain ⟨pa12, pc12, rfl⟩ := q_
  refine ral fun b13 w13a n13 z13 => ?_
  refine rsto (B := z13) (vs := [.int .i64 (takesP (sz, l) many).2.1.1, .slice a12 (takesP (sz, l) many).2.1.2.length c12]) rfl rfl rfl (pl_one _ _ _ _) fun w13 B13 f13 _ => ?_
  have s13 : Stp w12 w13 := ⟨Fr.st Le.e f13 fun i hi => by subst hi; exact n13.lo⟩
  clear z13
  refine rldG (B := B3) rfl rfl ?_
  refine rcall (r13_Takes_sp (sz := sz) (m := many) (O2.sl.up (w' := w13)) (by dsimp only; omega)) ?_
  rintro v w14 ⟨⟨lv, pv, rfl, P14, ⟨a14, c14, rfl, O14⟩⟩, e14⟩
  have q_ := P14.shape
  obtain ⟨pa14, pc14, rfl⟩ := q_
  refine ral fun b15 w15a n15 z15 => ?_
  refine rsto (B := z15) (vs := [.int .i64 (takesP (sz, l) many).2.1.1, .slice a14 (takesP (sz, l) many).2.1.2.length c14]) rfl rfl rfl (pl_one _ _ _ _) fun w15 B15 f15 _ => ?_
  have s15 : Stp w14 w15 := ⟨Fr.st Le.e f15 fun i hi => by subst hi; exact n15.lo⟩
  clear z15
  refine rcall (pool_New_sp (size := size)) ?_
  rintro v w16 ⟨⟨pv, rfl, ⟨a16, c16, rfl, O16⟩⟩, e16⟩
  refine ral fun b17 w17a n17 z17 => ?_
  refine rsto (B := z17) (vs := [.int .i64 (newP size).1.1, .slice a16 (newP size).1.2.length c16]) rfl rfl rfl (pl_one _ _ _ _) fun w17 B17 f17 _ => ?_
  have s17 : Stp w16 w17 := ⟨Fr.st Le.e f17 fun i hi => by subst hi; exact n17.lo⟩
  clear z17
  refine rcall (r13_New_sp (size := size)) ?_
  rintro v w18 ⟨⟨pv, rfl, ⟨a18, c18, rfl, O18⟩⟩, e18⟩
  refine ral fun b19 w19a n19 z19 => ?_
  refine rsto (B := z19) (vs := [.int .i64 (newP size).1.1, .slice a18 (newP size).1.2.length c18]) rfl rfl rfl (pl_one _ _ _ _) fun w19 B19 f19 _ => ?_
  have s19 : Stp w18 w19 := ⟨Fr.st Le.e f19 fun i hi => by subst hi; exact n19.lo⟩
  clear z19
  have l1 := takeP_len (sz := sz) (l := l); have l2 := giveP_len (sz := sz) (m := m) (l := l); have l3 := takesP_len (sz := sz) (m := many) (l := l); have l4 := newP_len (m := size)
  refine ite (fun _ => ?_) (fun h => absurd rfl h)
  refine rldG (B := B5) rfl rfl (rldG (B := B7) rfl rfl ?_)
  refine rcall ((r13_Same_sp (O4.sl.up (w' := w19)) (O6.sl.up (w' := w19)) (by omega)).tt ⟨rfl, rfl⟩) ?_
  rintro v w20 ⟨rfl, e20⟩
  refine ite (fun _ => ?_) (fun h => absurd rfl h)
  refine rldG (B := B9) rfl rfl (rldG (B := B11) rfl rfl ?_)
  refine rcall ((r13_Same_sp (O8.sl.up (w' := w20)) (O10.sl.up (w' := w20)) (by omega)).tt ⟨rfl, rfl⟩) ?_
  rintro v w21 ⟨rfl, e21⟩
  refine ite (fun _ => ?_) (fun h => absurd rfl h)
  refine rcall ((r01_Ints_sp (P12.sl.up (w' := w21)) (P14.sl.up (w' := w21)) (by omega)).tt rfl) ?_
  rintro v w22 ⟨rfl, e22⟩
  refine rldG (B := B13) rfl rfl (rldG (B := B15) rfl rfl ?_)
  refine rcall ((r13_Same_sp (O12.sl.up (w' := w22)) (O14.sl.up (w' := w22)) (by omega)).tt ⟨rfl, rfl⟩) ?_
  rintro v w23 ⟨rfl, e23⟩
  refine ite (fun _ => ?_) (fun h => absurd rfl h)
  refine rldG (B := B17) rfl rfl (rldG (B := B19) rfl rfl ?_)
  refine rcall ((r13_Same_sp (O16.sl.up (w' := w23)) (O18.sl.up (w' := w23)) (by omega)).tt ⟨rfl, rfl⟩) ?_
  rintro v w24 ⟨rfl, e24⟩
  refine ite (fun _ => ?_) (fun h => absurd rfl h)
  have D9 := B9.mv (w := w24); have D5 := B5.mv (w := w24)
  have Ox := O8.up (w' := w24); have Ob := O4.up (w' := w24)
  refine cnt TBok 33 [] 31 (giveP (sz, l) m).1.2.length (fun k u => ∃ L : List Int, L.length = (giveP (sz, l) m).1.2.length ∧ Own w7.heap.size E.int u (.slice a8 (giveP (sz, l) m).1.2.length c8) L ∧ Fr (ownD w7.heap.size (.slice a8 (giveP (sz, l) m).1.2.length c8)) w24 u) rfl rfl ⟨_, rfl, Ox, Fr.refl _ _⟩ ?_
  rintro k g u1 hk ⟨L, hL, hO, f1⟩
  have D9' := D9.fro Ox f1 (by decide)
  refine rld (B := D9') rfl ?_
  refine ite (fun hlt => ?_) (fun hge => ?_)
  · have hka : k < L.length := by omega
    refine rld (B := D9') rfl ?_
    refine rixO rfl hO (x := L[k]) (by simp) fun g' hg _ A => ?_
    refine rstO rfl (-7 : Int) hO hg hka rfl fun u' O' f' _ _ => ?_
    exact rar (by omega) ⟨rfl, by omega, _, by simp; omega, O', f1.trans f'⟩
  clear hO
  have OG : Own w3.heap.size E.int u1 (.slice a4 (takeP (sz, l)).2.1.2.length c4) (takeP (sz, l)).2.1.2 := Own.fr2 O4 Ob f1 fun b _ hlt _ hd => by
    have := hd.1; have := Le.size (a := w4) (b := w7); omega
  have D5' := D5.fro Ox f1 (by decide)
  refine cnt TBok 33 [] 32 (takeP (sz, l)).2.1.2.length (fun k u => ∃ L : List Int, L.length = (takeP (sz, l)).2.1.2.length ∧ Own w3.heap.size E.int u (.slice a4 (takeP (sz, l)).2.1.2.length c4) L ∧ Fr (ownD w3.heap.size (.slice a4 (takeP (sz, l)).2.1.2.length c4)) u1 u) rfl rfl ⟨_, rfl, OG, Fr.refl _ _⟩ ?_
  rintro k' g u2 hk' ⟨L, hL, hO, f2⟩
  have D5'' := D5'.fro OG f2 (by decide)
  refine rld (B := D5'') rfl ?_
  refine ite (fun hlt => ?_) (fun hge => ?_)
  · have hka : k' < L.length := by omega
    refine rld (B := D5'') rfl ?_
    refine rixO rfl hO (x := L[k']) (by simp) fun g' hg _ A => ?_
    refine rstO rfl (-7 : Int) hO hg hka rfl fun u' O' f' _ _ => ?_
    exact rar (by omega) ⟨rfl, by omega, _, by simp; omega, O', f2.trans f'⟩
  have S2 : Stp w3 u2 := ⟨Fr.st (Fr.st (Le.e (a := w3) (b := w24)) f1 fun i hi => Nat.le_trans (Le.size (a := w3) (b := w7)) hi.1) f2 fun i hi => hi.1⟩
  clear D9' D5' D5'' D9 D5
  refine drawR TBok mixed (fun _ => False) [0,1,2,3,4,5,7,6,8,9,10,11,12,13,14,15,16] (by kernel_rfl) fun u3 e3' _ => ?_
  refine rcall (l13_pools_sp) ?_
  rintro v u4 ⟨rfl, e4'⟩
  refine ⟨e4'.e, ?_⟩
  refine tldG (B := B0) rfl rfl not_false ?_
  refine tldG (B := B3) rfl rfl not_false ?_
  by_cases ho : okP sz l
  · refine rcall ((pool_Check_sp (sz := sz) (h.up (w' := u4)) (by omega)).tt ho) ?_
    rintro v u5 ⟨rfl, e5'⟩
    refine ⟨e5'.e, ?_⟩
    refine rcall ((r13_Check_sp (sz := sz) (O2.sl.up (w' := u5)) (by dsimp only; omega)).tt ho) ?_
    rintro v u6 ⟨rfl, e6'⟩
    refine ⟨e6'.e, ?_⟩
    refine tbeq (fun _ => ?_) (fun h => absurd rfl h)
    refine tldG (B := B0) rfl rfl not_false ?_
    refine tldG (B := B3) rfl rfl not_false ?_
    refine rcall ((r13_Same_sp (sa := sz) (sb := sz) (h.up (w' := u6)) (O2.sl.up (w' := u6)) (by omega)).tt ⟨rfl, rfl⟩) ?_
    rintro v u7 ⟨rfl, e7'⟩
    refine ⟨e7'.e, ?_⟩
    exact ⟨rfl, stp⟩
  · refine rcall ((pool_Check_sp (sz := sz) (h.up (w' := u4)) (by omega)).ff ho) ?_
    rintro v u5 ⟨rfl, e5'⟩
    refine ⟨e5'.e, ?_⟩
    refine rcall ((r13_Check_sp (sz := sz) (O2.sl.up (w' := u5)) (by dsimp only; omega)).ff ho) ?_
    rintro v u6 ⟨rfl, e6'⟩
    refine ⟨e6'.e, ?_⟩
    refine tbeq (fun _ => ?_) (fun h => absurd rfl h)
    refine tldG (B := B0) rfl rfl not_false ?_
    refine tldG (B := B3) rfl rfl not_false ?_
    refine rcall ((r13_Same_sp (sa := sz) (sb := sz) (h.up (w' := u6)) (O2.sl.up (w' := u6)) (by omega)).tt ⟨rfl, rfl⟩) ?_
    rintro v u7 ⟨rfl, e7'⟩
    refine ⟨e7'.e, ?_⟩
    exact ⟨rfl, stp⟩
end Go.W
