/-
  Proved here: SlotsDo returns true (the walk through the law).
  Conditions: the rows can be read.
-/
import Derived.Test.YtgjaclnnacemfaaA7
namespace Go.W
open Go Go.Proofs
open Enc (enc)
set_option maxRecDepth 10000

theorem putH_in {l : List RHeld} {x : RReq} : ∀ r ∈ (putH l x).2.1, r ∈ l ∨ r = ⟨true, x⟩ := by
  unfold putH
  split
  · intro r hr; exact List.mem_or_eq_of_mem_set hr
  · intro r hr; cases hr
theorem putH_len {l : List RHeld} {x : RReq} : (putH l x).2.1.length ≤ l.length := by
  unfold putH; split <;> simp
theorem dropH_in {l : List RHeld} {i : Int} : ∀ r ∈ (dropH l i).1, r ∈ l ∨ r = zeroH := by
  unfold dropH
  split
  · intro r hr; cases hr
  · split
    · intro r hr; exact List.mem_or_eq_of_mem_set hr
    · intro r hr; cases hr
theorem dropH_len {l : List RHeld} {i : Int} : (dropH l i).1.length ≤ l.length := by
  unfold dropH; split
  · simp
  · split <;> simp
theorem newH_in {n : Int} : ∀ r ∈ (newH n).1, r = zeroH := by
  unfold newH; split
  · intro r hr; cases hr
  · intro r hr; exact (List.mem_replicate.1 hr).2
theorem newH_len {n : Int} : (newH n).1.length ≤ 64 := by
  unfold newH; split
  · simp
  · simp; omega
theorem HsOk.or {wd : Wd} {w : World} {l m : List RHeld} {y : RHeld} (h : HsOk wd w l) (hy : QOk wd w y.r.q) (hm : ∀ r ∈ m, r ∈ l ∨ r = y) : HsOk wd w m := fun r hr => by
  have q_ := hm r hr
  rcases q_ with h' | rfl
  · exact h r h'
  · exact hy

set_option maxHeartbeats 800000 in
theorem l24_SlotsDo_sp {wd : Wd} {a : Option Addr} {n c : Nat} {l : List RHeld} {x : RReq} {slot id size : Int} {w : World} (hz : wd ⟨none, 0, 0⟩ = []) (h : SlF w (.slice a n c) l) (hq : HsOk wd w l) (hx : QOk wd w x.q) :
    Sp Try.prog F.l24_SlotsDo #[.slice a n c, agg x, .int .i64 slot, .int .i64 id, .int .i64 size] w fun v w' => v = .bool true ∧ Stp w w' := by
  have q_ := h.len
  obtain rfl := q_
  refine en TBok rfl ?_
  refine rbx fun b w0 n0 B0 => ?_
  refine rcall (r24_Big_sp h.up hq.up) ?_
  rintro v w1 ⟨⟨rfl, hb⟩ | ⟨rfl, hb⟩, e1⟩
  · exact ⟨rfl, stp⟩
  have hnb := not_bigH hb; obtain ⟨hn, hr⟩ := hnb
  refine rldG rfl rfl ?_
  refine rcall (r18_Big_sp (wd := wd) (q := x.q) hx.up) ?_
  rintro v w2 ⟨⟨rfl, hb2⟩ | ⟨rfl, hb2⟩, e2⟩
  · exact ⟨rfl, stp⟩
  have hxn : (wd x.q.words).length ≤ 20 := Nat.le_of_not_lt fun h' => hb2 (.inl h')
  refine rcall (r24_Own_sp (h.up (w' := w2)) (by omega)) ?_
  rintro v w3 ⟨O3, e3⟩
  have q_ := O3.shape
  obtain ⟨a3, c3, rfl⟩ := q_
  refine rldG rfl rfl ?_
  refine rcall (slots_Put_sp (x := x) (h.up (w' := w3)) (by omega)) ?_
  rintro v w4 ⟨⟨v4, rfl, O4⟩, e4⟩
  have q_ := O4.shape
  obtain ⟨a4, c4, rfl⟩ := q_
  refine rldG rfl rfl ?_
  refine rcall (r24_Put_sp (x := x) (O3.sl.up (w' := w4)) (by omega)) ?_
  rintro v w5 ⟨⟨v5, rfl, O5⟩, e5⟩
  have q_ := O5.shape
  obtain ⟨a5, c5, rfl⟩ := q_
  refine rcall (slots_Drop_sp (i := slot) (h.up (w' := w5)) (by omega)) ?_
  rintro v w6 ⟨⟨v6, rfl, O6⟩, e6⟩
  have q_ := O6.shape
  obtain ⟨a6, c6, rfl⟩ := q_
  refine rcall (r24_Drop_sp (i := slot) (O3.sl.up (w' := w6)) (by omega)) ?_
  rintro v w7 ⟨⟨v7, rfl, O7⟩, e7⟩
  have q_ := O7.shape
  obtain ⟨a7, c7, rfl⟩ := q_
  refine rcall (slots_Find_sp (id := id) (h.up (w' := w7)) (by omega)) ?_
  rintro v w8 ⟨rfl, e8⟩
  refine rcall (r24_Find_sp (id := id) (O3.sl.up (w' := w8)) (by omega)) ?_
  rintro v w9 ⟨rfl, e9⟩
  refine rcall (slots_New_sp (n := size)) ?_
  rintro v w10 ⟨⟨v10, rfl, O10⟩, e10⟩
  have q_ := O10.shape
  obtain ⟨a10, c10, rfl⟩ := q_
  refine rcall (r24_New_sp (n := size)) ?_
  rintro v w11 ⟨⟨v11, rfl, O11⟩, e11⟩
  have q_ := O11.shape
  obtain ⟨a11, c11, rfl⟩ := q_
  have hpl := putH_len (l := l) (x := x)
  have hdl := dropH_len (l := l) (i := slot)
  have hnl := newH_len (n := size)
  have wdz : (wd zeroQ.words).length ≤ 20 := by show (wd ⟨none, 0, 0⟩).length ≤ 20; rw [hz]; simp
  have hP : ∀ u, Stp w u → HsOk wd u (putH l x).2.1 := fun u s => (hq.up (w' := u)).or (y := ⟨true, x⟩) hx.up putH_in
  have hD : ∀ u, Stp w u → HsOk wd u (dropH l slot).1 := fun u s => (hq.up (w' := u)).or (y := zeroH) (zeroQ_ok hz u) dropH_in
  have hN : ∀ u, HsOk wd u (newH size).1 := fun u r hr => by rw [newH_in r hr]; exact zeroQ_ok hz u
  refine ite (fun _ => ?_) (fun h => absurd rfl h)
  refine rcall ((r24_Same_sp (wd := wd) (O4.sl.up (w' := w11)) (O5.sl.up (w' := w11)) (hP _ stp) (hP _ stp) (fun r hr' => by rcases putH_in r hr' with h' | rfl; exact Nat.le_trans (hr r h') (by decide); exact Nat.le_trans hxn (by decide)) (by omega)).tt (sameHs.refl wd _)) ?_
  rintro v w12 ⟨rfl, e12⟩
  refine ite (fun _ => ?_) (fun h => absurd rfl h)
  refine rcall ((r24_Same_sp (wd := wd) (O6.sl.up (w' := w12)) (O7.sl.up (w' := w12)) (hD _ stp) (hD _ stp) (fun r hr' => by rcases dropH_in r hr' with h' | rfl; exact Nat.le_trans (hr r h') (by decide); exact Nat.le_trans wdz (by decide)) (by omega)).tt (sameHs.refl wd _)) ?_
  rintro v w13 ⟨rfl, e13⟩
  refine ite (fun _ => ?_) (fun h => absurd rfl h)
  refine ite (fun _ => ?_) (fun h => absurd rfl h)
  refine rbeq (fun _ => ?_) (fun h => absurd rfl h)
  refine rcall ((r24_Same_sp (wd := wd) (O10.sl.up (w' := w13)) (O11.sl.up (w' := w13)) (hN _) (hN _) (fun r hr' => by rw [newH_in r hr']; exact Nat.le_trans wdz (by decide)) (by omega)).tt (sameHs.refl wd _)) ?_
  rintro v w14 ⟨rfl, e14⟩
  refine ite (fun _ => ?_) (fun h => absurd rfl h)
  refine rcall (slots_Used_sp (h.up (w' := w14)) (by omega)) ?_
  rintro v w15 ⟨O15, e15⟩
  have q_ := O15.shape
  obtain ⟨a15, c15, rfl⟩ := q_
  refine rcall (r24_Used_sp (O3.sl.up (w' := w15)) (by omega)) ?_
  rintro v w16 ⟨O16, e16⟩
  have q_ := O16.shape
  obtain ⟨a16, c16, rfl⟩ := q_
  have hul : (usedH l).length ≤ l.length := by rw [usedH_len]; exact List.countP_le_length
  refine rcall ((r01_Ints_sp (O15.sl.up (w' := w16)) O16.sl (by omega)).tt rfl) ?_
  rintro v w17 ⟨rfl, e17⟩
  refine cnt TBok 33 [] 31 (putH l x).2.1.length (fun k u => ∃ L : List RHeld, L.length = (putH l x).2.1.length ∧ Own w3.heap.size E.api_Held u (.slice a4 (putH l x).2.1.length c4) L ∧ Fr (ownD w3.heap.size (.slice a4 (putH l x).2.1.length c4)) w17 u) rfl rfl ⟨_, rfl, O4.up, Fr.refl _ _⟩ ?_
  rintro k g u1 hk ⟨L, hL, hO, f1⟩
  refine ite (fun hlt => ?_) (fun hge => ?_)
  · have hka : k < L.length := by omega
    refine rixO rfl hO (x := L[k]) (by simp) fun g' hg _ A => ?_
    refine rstOf (x := L[k]) { L[k] with used := false } rfl hO hg (by simp) rfl (by decide) rfl rfl fun u' O' f' _ _ => ?_
    exact rar (by omega) ⟨rfl, by omega, _, by simp; omega, O', f1.trans f'⟩
  have OG : Own w5.heap.size E.api_Held u1 (.slice a6 (dropH l slot).1.length c6) (dropH l slot).1 := (O6.up (w' := w17)).fr f1 fun b hb _ hd => by
    have := O4.wr hd; have := Le.size (a := w4) (b := w5); omega
  clear hO
  refine cnt TBok 33 [] 32 (dropH l slot).1.length (fun k u => ∃ L : List RHeld, L.length = (dropH l slot).1.length ∧ Own w5.heap.size E.api_Held u (.slice a6 (dropH l slot).1.length c6) L ∧ Fr (ownD w5.heap.size (.slice a6 (dropH l slot).1.length c6)) u1 u) rfl rfl ⟨_, rfl, OG, Fr.refl _ _⟩ ?_
  rintro k' g u2 hk' ⟨L, hL, hO, f2⟩
  refine ite (fun hlt => ?_) (fun hge => ?_)
  · have hka : k' < L.length := by omega
    refine rixO rfl hO (x := L[k']) (by simp) fun g' hg _ A => ?_
    refine rstOf (x := L[k']) { L[k'] with used := true } rfl hO hg (by simp) rfl (by decide) rfl rfl fun u' O' f' _ _ => ?_
    exact rar (by omega) ⟨rfl, by omega, _, by simp; omega, O', f2.trans f'⟩
  have S2 : Stp w3 u2 := ⟨Fr.st (Fr.st (Le.e (a := w3) (b := w17)) f1 fun i hi => hi.1) f2 fun i hi => Nat.le_trans (Le.size (a := w3) (b := w5)) hi.1⟩
  refine rcall (l24_holds_sp) ?_
  rintro v w18 ⟨rfl, e18⟩
  refine rcall ((r24_Same_sp (wd := wd) (h.up (w' := w18)) (O3.sl.up (w' := w18)) (hq.up (w' := w18)) (hq.up (w' := w18)) (fun r hr' => Nat.le_trans (hr r hr') (by decide)) (by omega)).tt (sameHs.refl wd _)) ?_
  rintro v w19 ⟨rfl, e19⟩
  exact ⟨rfl, stp⟩
end Go.W
