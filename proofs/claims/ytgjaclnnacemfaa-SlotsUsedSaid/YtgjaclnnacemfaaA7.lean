/-
  Proved here: the laws of slots return true: SlotsKeep, SlotsFull (the walks through the laws).
  Conditions: the rows can be read.
-/
import Derived.Test.YtgjaclnnacemfaaA6
namespace Go.W
open Go Go.Proofs
open Enc (enc)
set_option maxRecDepth 10000

theorem usedAt_len {l : List RHeld} : ∀ {k : Nat}, k ≤ l.length → (usedAt l k).length = (l.take k).countP (·.used)
  | 0, _ => by simp [usedAt, selN]
  | k + 1, h => by
    have hk : k < l.length := by omega
    rw [usedAt_succ hk, take_add hk, List.countP_append, ← usedAt_len (Nat.le_of_lt hk)]
    cases hu : l[k].used <;> simp [hu]
theorem usedH_len (l : List RHeld) : (usedH l).length = l.countP (·.used) := by
  unfold usedH; rw [List.length_map, usedAt_len (Nat.le_refl _), List.take_length]
theorem free_none {l : List RHeld} (h : freeAt l = none) : (usedH l).length = l.length := by
  rw [usedH_len, List.countP_eq_length]
  intro x hx
  have := (List.findIdx?_eq_none_iff.1 h) x hx
  simpa using this
theorem free_some {l : List RHeld} {k : Nat} (h : freeAt l = some k) : ∃ hk : k < l.length, l[k].used = false ∧ ∀ j, (hj : j < k) → (l[j]'(by omega)).used = true := by
  have q_ := List.findIdx?_eq_some_iff_getElem.1 h
  obtain ⟨hk, h1, h2⟩ := q_
  exact ⟨hk, by simpa using h1, fun j hj => by simpa using h2 j hj⟩
theorem used_set {l : List RHeld} {k : Nat} {x : RReq} (hk : k < l.length) (hu : l[k].used = false) : (usedH (l.set k ⟨true, x⟩)).length = (usedH l).length + 1 := by
  rw [usedH_len, usedH_len, List.countP_set hk]; simp [hu]
theorem found_set {l : List RHeld} {k : Nat} {x : RReq} (hk : k < l.length) : ∃ j, foundAt (l.set k ⟨true, x⟩) x.id = some j := by
  cases h : foundAt (l.set k ⟨true, x⟩) x.id with
  | some j => exact ⟨j, rfl⟩
  | none =>
    have := (List.findIdx?_eq_none_iff.1 h) ⟨true, x⟩ (by
      have : (l.set k ⟨true, x⟩)[k]'(by simpa using hk) = ⟨true, x⟩ := by simp
      exact List.mem_iff_getElem.2 ⟨k, by simpa using hk, this⟩)
    simp at this
theorem part1 {l : List RHeld} {k i : Nat} {y : RHeld} (h : i ≠ k) : ((l.set k y).drop i).take 1 = (l.drop i).take 1 := by
  refine List.ext_getElem? fun j => ?_
  rw [List.getElem?_take, List.getElem?_take, List.getElem?_drop, List.getElem?_drop]
  split
  · have q_ : j = 0 := by omega
    obtain rfl := q_
    rw [List.getElem?_set_ne (by omega)]
  · rfl
theorem HsOk.sub {wd : Wd} {w : World} {l m : List RHeld} (h : HsOk wd w l) (hm : ∀ x ∈ m, x ∈ l) : HsOk wd w m := fun r hr => h r (hm r hr)
theorem HsOk.set {wd : Wd} {w : World} {l : List RHeld} (h : HsOk wd w l) {k : Nat} {y : RHeld} (hy : QOk wd w y.r.q) : HsOk wd w (l.set k y) := fun r hr => by
  have q_ := List.mem_or_eq_of_mem_set hr
  rcases q_ with hr | rfl
  · exact h r hr
  · exact hy
theorem zeroQ_ok {wd : Wd} (hz : wd ⟨none, 0, 0⟩ = []) (w : World) : QOk wd w zeroQ := by
  unfold QOk; show SlF w (.slice none 0 0) (wd ⟨none, 0, 0⟩); rw [hz]; exact SlF.nil w

set_option maxHeartbeats 400000 in
theorem l24_SlotsKeep_sp {wd : Wd} {a : Option Addr} {n c : Nat} {l : List RHeld} {x : RReq} {w : World} (hz : wd ⟨none, 0, 0⟩ = []) (h : SlF w (.slice a n c) l) (hq : HsOk wd w l) (hx : QOk wd w x.q) :
    Sp Try.prog F.l24_SlotsKeep #[.slice a n c, agg x] w fun v w' => v = .bool true ∧ Stp w w' := by
  have q_ := h.len
  obtain rfl := q_
  refine en TBok rfl ?_
  refine rbx fun b w0 n0 B0 => ?_
  refine rcall (r24_Big_sp h.up hq.up) ?_
  rintro v w1 ⟨⟨rfl, hb⟩ | ⟨rfl, hb⟩, e1⟩
  · exact ⟨rfl, stp⟩
  have hnb := not_bigH hb; obtain ⟨hn, hr⟩ := hnb
  refine rldG rfl rfl ?_
  refine rcall (r18_Big_sp (wd := wd) (q := x.q) hx.up) ?_
  rintro v w2 ⟨⟨rfl, hb2⟩ | ⟨rfl, hb2⟩, e2⟩
  · exact ⟨rfl, stp⟩
  have hxn : (wd x.q.words).length ≤ 20 := Nat.le_of_not_lt fun h' => hb2 (.inl h')
  refine rldG rfl rfl ?_
  have T := slots_Put_sp (x := x) (h.up (w' := w2)) (by omega)
  cases hf : freeAt l with
  | none =>
    have hp : putH l x = (0, [], 140) := by unfold putH; rw [hf]
    rw [hp] at T
    refine rcall (T) ?_
    rintro v w3 ⟨⟨v3, rfl, O3⟩, e3⟩
    have q_ := O3.shape
    obtain ⟨a3, c3, rfl⟩ := q_
    refine ite (fun _ => ?_) (fun h => absurd (by first | omega | decide | (dsimp only; omega)) h)
    refine rcall (l24_holds_sp) ?_
    rintro v w4 ⟨rfl, e4⟩
    refine rcall (slots_Used_sp h.up (by omega)) ?_
    rintro v w5 ⟨O5, e5⟩
    have q_ := O5.shape
    obtain ⟨a5, c5, rfl⟩ := q_
    have hl := free_none hf
    refine ite (fun _ => ?_) (fun h => absurd (by rw [hl]) h)
    refine ite (fun _ => ?_) (fun h => absurd rfl h)
    exact ⟨rfl, stp⟩
  | some k =>
    have hp : putH l x = ((k : Int), l.set k ⟨true, x⟩, 0) := by unfold putH; rw [hf]
    rw [hp] at T
    have hk' := free_some hf; obtain ⟨hk, hu, -⟩ := hk'
    have hml : (l.set k ⟨true, x⟩).length = l.length := by simp
    refine rcall (T) ?_
    rintro v w3 ⟨⟨v3, rfl, O3⟩, e3⟩
    have q_ := O3.shape
    obtain ⟨a3, c3, rfl⟩ := q_
    refine ite (fun h => absurd rfl h) (fun _ => ?_)
    refine ite (fun h => absurd h (by first | omega | decide | (dsimp only; omega))) (fun _ => ?_)
    refine ite (fun h => absurd h (by first | omega | decide | (dsimp only; omega))) (fun _ => ?_)
    refine ite (fun h => absurd (by simp) h) (fun _ => ?_)
    refine rix h.up (x := l[k]) (by simp) fun b3 o3 A3 => rload1 (v := .bool false) (A3.cell0 (by simp [enc, hu])) ?_
    refine rix O3.sl.up (x := ⟨true, x⟩) (by simp [hk]) fun b3 o3 A3 => rload1 (A3.cell0 rfl) ?_
    have T2 := slots_Drop_sp (i := (k : Int)) (O3.sl.up (w' := w3)) (by omega)
    have hd : dropH (l.set k ⟨true, x⟩) (k : Int) = (l.set k zeroH, 0) := by
      unfold dropH
      rw [if_neg (by omega), Int.toNat_natCast, getD_eq (by omega)]
      simp
    rw [hd] at T2
    refine rcall (T2) ?_
    rintro v w4 ⟨⟨v4, rfl, O4⟩, e4⟩
    have q_ := O4.shape
    obtain ⟨a4, c4, rfl⟩ := q_
    have hml2 : (l.set k zeroH).length = l.length := by simp
    refine ite (fun h => absurd rfl h) (fun _ => ?_)
    refine ite (fun h => absurd (by simp) h) (fun _ => ?_)
    have hmq : ∀ u, Stp w u → HsOk wd u (l.set k ⟨true, x⟩) := fun u s => (hq.up (w' := u)).set hx.up
    have hmq2 : ∀ u, Stp w u → HsOk wd u (l.set k zeroH) := fun u s => (hq.up (w' := u)).set (zeroQ_ok hz u)
    refine cnt TBok 13 [4] 10 l.length (fun i u => Stp w4 u) rfl rfl stp ?_
    rintro i g u hi e
    refine ite (fun hlt => ?_) (fun hge => ?_)
    · have hka : i < l.length := by omega
      refine drawR TBok mixed (fun _ => False) (upF 31 0) (by kernel_rfl) fun u1 e1' _ => ?_
      refine ite (fun hne => ?_) (fun heq => ?_)
      · have hne' : i ≠ k := by omega
        refine rar (by omega) ?_
        refine tsl (some i) (some (i + 1)) (O3.sl.up (w' := u1)) (by simp) (by simp; omega) fun a1 c1 S1 => ?_
        refine rar (by omega) ?_
        refine tsl (some i) (some (i + 1)) (h.up (w' := u1)) (by simp) (by simp; omega) fun a2 c2 S2 => ?_
        have E1 : (((l.set k ⟨true, x⟩).drop ((some i).getD 0)).take ((some (i + 1)).getD (l.set k ⟨true, x⟩).length - (some i).getD 0)) = (l.drop i).take 1 := by
          simp only [Option.getD_some, Nat.add_sub_cancel_left]; exact part1 hne'
        have E2 : ((l.drop ((some i).getD 0)).take ((some (i + 1)).getD l.length - (some i).getD 0)) = (l.drop i).take 1 := by
          simp only [Option.getD_some, Nat.add_sub_cancel_left]
        rw [E1] at S1; rw [E2] at S2
        have hsub : ∀ y ∈ (l.drop i).take 1, y ∈ l := fun y hy => List.mem_of_mem_drop (List.mem_of_mem_take hy)
        refine rcall ((r24_Same_sp (wd := wd) S1 S2 (hq.up.sub hsub) (hq.up.sub hsub) (fun y hy => Nat.le_trans (hr y (hsub y hy)) (by decide)) (by simp; omega)).tt (sameHs.refl wd _)) ?_
        rintro v u2 ⟨rfl, e2'⟩
        refine ⟨e2'.e, ?_⟩
        refine rar (by omega) ?_
        refine tsl (some i) (some (i + 1)) (O4.sl.up (w' := u2)) (by simp) (by simp; omega) fun a3 c3 S3 => ?_
        refine rar (by omega) ?_
        refine tsl (some i) (some (i + 1)) (h.up (w' := u2)) (by simp) (by simp; omega) fun a4 c4 S4 => ?_
        have E3 : (((l.set k zeroH).drop ((some i).getD 0)).take ((some (i + 1)).getD (l.set k zeroH).length - (some i).getD 0)) = (l.drop i).take 1 := by
          simp only [Option.getD_some, Nat.add_sub_cancel_left]; exact part1 hne'
        rw [E3] at S3; rw [E2] at S4
        refine rcall ((r24_Same_sp (wd := wd) S3 S4 (hq.up.sub hsub) (hq.up.sub hsub) (fun y hy => Nat.le_trans (hr y (hsub y hy)) (by decide)) (by simp; omega)).tt (sameHs.refl wd _)) ?_
        rintro v u3 ⟨rfl, e3'⟩
        refine ⟨e3'.e, ?_⟩
        exact rar (by omega) ⟨rfl, hka, stp⟩
      · exact rar (by omega) ⟨rfl, hka, stp⟩
    · refine rld rfl ?_
      have T3 := slots_Find_sp (id := x.id) (O3.sl.up (w' := u)) (by omega)
      have hj := found_set (x := x) hk; obtain ⟨j, hj⟩ := hj
      rw [hj] at T3
      refine rcall (T3) ?_
      rintro v u1 ⟨rfl, e1'⟩
      refine rcall (l24_holds_sp) ?_
      rintro v u2 ⟨rfl, e2'⟩
      refine rix O4.sl.up (x := zeroH) (by simp [hk]) fun b3 o3 A3 => rload1 (A3.cell0 rfl) ?_
      refine rcall (slots_Used_sp (O3.sl.up (w' := u2)) (by omega)) ?_
      rintro v u3 ⟨O5, e3'⟩
      have q_ := O5.shape
      obtain ⟨a5, c5, rfl⟩ := q_
      refine rcall (slots_Used_sp (h.up (w' := u3)) (by omega)) ?_
      rintro v u4 ⟨O6, e4'⟩
      have q_ := O6.shape
      obtain ⟨a6, c6, rfl⟩ := q_
      have hus := used_set (x := x) hk hu
      have hle : (usedH l).length ≤ l.length := by rw [usedH_len]; exact List.countP_le_length
      refine rar (by omega) ?_
      refine ite (fun _ => ?_) (fun h => absurd (by rw [hus]; rfl) h)
      exact ⟨rfl, stp⟩

def sf (x : RReq) (n i : Nat) : List RHeld := List.replicate i ⟨true, x⟩ ++ List.replicate (n - i) zeroH
theorem sf_len {x : RReq} {n i : Nat} (h : i ≤ n) : (sf x n i).length = n := by simp [sf]; omega
theorem sf_free {x : RReq} {n i : Nat} (h : i < n) : freeAt (sf x n i) = some i := by
  refine find_some (by rw [sf_len (by omega)]; exact h) ?_ fun j hj => ?_
  · simp [sf, zeroH]
  · simp [sf, hj]
theorem sf_set {x : RReq} {n i : Nat} (h : i < n) : (sf x n i).set i ⟨true, x⟩ = sf x n (i + 1) := by
  unfold sf
  rw [List.set_append_right _ _ (by simp), List.length_replicate, Nat.sub_self]
  have q_ : ∃ m, n - i = m + 1 := ⟨n - i - 1, by omega⟩
  obtain ⟨m, hm⟩ := q_
  rw [hm, show n - (i + 1) = m by omega, List.replicate_succ, List.set_cons_zero, List.replicate_succ']
  simp
theorem sf_put {x : RReq} {n i : Nat} (h : i < n) : putH (sf x n i) x = ((i : Int), sf x n (i + 1), 0) := by
  unfold putH; rw [sf_free h]; simp only [sf_set h]
theorem sf_full {x : RReq} {n : Nat} : putH (sf x n n) x = (0, [], 140) := by
  have : freeAt (sf x n n) = none := by
    refine find_none fun j hj => ?_
    simp [sf]
  unfold putH; rw [this]
theorem sf_drop {x : RReq} {n k : Nat} (h : k < n) : dropH (sf x n n) (k : Int) = ((sf x n n).set k zeroH, 0) := by
  have hl := sf_len (x := x) (Nat.le_refl n)
  unfold dropH
  rw [if_neg (by omega), Int.toNat_natCast, getD_eq (by omega), if_pos (by simp [sf])]
theorem sf_again {x : RReq} {n k : Nat} (h : k < n) : dropH ((sf x n n).set k zeroH) (k : Int) = ([], 141) := by
  have hl := sf_len (x := x) (Nat.le_refl n)
  unfold dropH
  rw [if_neg (by simp; omega), Int.toNat_natCast, getD_eq (by simp; omega), if_neg (by simp [zeroH])]
theorem sf_back {x : RReq} {n k : Nat} (h : k < n) : (putH ((sf x n n).set k zeroH) x).1 = k ∧ (putH ((sf x n n).set k zeroH) x).2.2 = 0 := by
  have hl := sf_len (x := x) (Nat.le_refl n)
  have : freeAt ((sf x n n).set k zeroH) = some k := by
    refine find_some (by simp; omega) (by simp [zeroH]) fun j hj => ?_
    rw [List.getElem_set_ne (by omega)]; simp [sf]
  unfold putH; rw [this]; exact ⟨rfl, rfl⟩

set_option maxHeartbeats 400000 in
theorem l24_SlotsFull_sp {wd : Wd} {n at' : Int} {x : RReq} {w : World} (hx : QOk wd w x.q) :
    Sp Try.prog F.l24_SlotsFull #[.int .i64 n, agg x, .int .i64 at'] w fun v w' => v = .bool true ∧ Stp w w' := by
  refine en TBok rfl ?_
  refine rbx fun b w0 n0 B0 => ?_
  have T := slots_New_sp (n := n) (w := w0)
  by_cases hn : n < 1 ∨ 64 < n
  · have he : newH n = ([], 1) := by unfold newH; rw [if_pos hn]
    rw [he] at T
    refine rcall (T) ?_
    rintro v w1 ⟨⟨v1, rfl, O1⟩, e1⟩
    refine ite (fun _ => ?_) (fun h => absurd (by first | omega | decide | (dsimp only; omega)) h)
    refine rcall (l24_holds_sp) ?_
    rintro v w2 ⟨rfl, e2⟩
    refine ite (fun h => absurd h (by first | omega | decide | (dsimp only; omega))) (fun _ => ?_)
    refine ite (fun h1 => ?_) (fun h1 => ?_)
    · refine ite (fun h => absurd h (by first | omega | decide | (dsimp only; omega))) (fun _ => ?_)
      refine rbeq (fun _ => ?_) (fun h => absurd rfl h)
      exact ⟨rfl, stp⟩
    · refine rbeq (fun _ => ?_) (fun h => absurd rfl h)
      exact ⟨rfl, stp⟩
  · have he : newH n = (List.replicate n.toNat zeroH, 0) := by unfold newH; rw [if_neg hn]
    rw [he] at T
    have q_ := Int.eq_ofNat_of_zero_le (show (0 : Int) ≤ n by omega)
    obtain ⟨N, rfl⟩ := q_
    rw [Int.toNat_natCast] at T
    refine rcall (T) ?_
    rintro v w1 ⟨⟨v1, rfl, O1⟩, e1⟩
    refine ite (fun h => absurd rfl h) (fun _ => ?_)
    refine rldG rfl rfl ?_
    refine rcall (r18_Big_sp (wd := wd) (q := x.q) hx.up) ?_
    rintro v w2 ⟨⟨rfl, hb2⟩ | ⟨rfl, hb2⟩, e2⟩
    · refine rcall (l24_holds_sp) ?_
      rintro v w3 ⟨rfl, e3⟩
      refine ite (fun _ => ?_) (fun h => absurd (by first | omega | decide | (dsimp only; omega)) h)
      refine ite (fun _ => ?_) (fun h => absurd (by first | omega | decide | (dsimp only; omega)) h)
      refine ite (fun _ => ?_) (fun h => absurd (by first | omega | decide | (dsimp only; omega)) h)
      refine rbeq (fun _ => ?_) (fun h => absurd rfl h)
      exact ⟨rfl, stp⟩
    have h0 : Own w0.heap.size E.api_Held w2 v1 (sf x N 0) := by have := O1.up (w' := w2); simpa [sf] using this
    refine cnt1 TBok 25 [6, 10, 11, 12] 7 9 N (fun i v u => Own w0.heap.size E.api_Held u v (sf x N i) ∧ Stp w2 u) rfl rfl ⟨h0, stp⟩ ?_
    rintro i v g u hi ⟨O, e⟩
    have q_ := O.shape
    obtain ⟨a1, c1, rfl⟩ := q_
    have hl := sf_len (x := x) hi
    refine ite (fun hlt => ?_) (fun hge => ?_)
    · have hia : i < N := by omega
      have T := slots_Put_sp (x := x) O.sl (by omega)
      rw [sf_put hia] at T
      refine rldG rfl rfl ?_
      refine rcall (T) ?_
      rintro v u1 ⟨⟨v3, rfl, O3⟩, e3⟩
      refine ite (fun h => absurd rfl h) (fun _ => ?_)
      refine ite (fun h => absurd rfl h) (fun _ => ?_)
      exact rar (by omega) ⟨rfl, hia, O3.older, stp⟩
    have q_ : i = N := by omega
    obtain rfl := q_
    have T := slots_Put_sp (x := x) O.sl (by omega)
    rw [sf_full] at T
    refine rldG rfl rfl ?_
    refine rcall (T) ?_
    rintro v u1 ⟨⟨v3, rfl, O3⟩, e3⟩
    refine ite (fun h => absurd rfl h) (fun _ => ?_)
    have T := slots_Drop_sp (i := at') (O.sl.up (w' := u1)) (by omega)
    by_cases hat : at' < 0 ∨ (i : Int) ≤ at'
    · have hd : dropH (sf x i i) at' = ([], 1) := by unfold dropH; rw [if_pos (by omega)]
      rw [hd] at T
      refine rcall (T) ?_
      rintro v u2 ⟨⟨v4, rfl, O4⟩, e4⟩
      refine ite (fun h0 => ?_) (fun h0 => ?_)
      · refine rcall (l24_holds_sp) ?_
        rintro v w3 ⟨rfl, e3⟩
        refine ite (fun _ => ?_) (fun h => absurd rfl h)
        exact ⟨rfl, stp⟩
      · refine ite (fun _ => ?_) (fun h => absurd (by first | omega | decide | (dsimp only; omega)) h)
        refine rcall (l24_holds_sp) ?_
        rintro v w3 ⟨rfl, e3⟩
        refine ite (fun _ => ?_) (fun h => absurd rfl h)
        exact ⟨rfl, stp⟩
    · have q_ := Int.eq_ofNat_of_zero_le (show (0 : Int) ≤ at' by omega)
      obtain ⟨k, rfl⟩ := q_
      have hk : k < i := by omega
      rw [sf_drop hk] at T
      refine rcall (T) ?_
      rintro v u2 ⟨⟨v4, rfl, O4⟩, e4⟩
      dsimp only at O4
      have q_ := O4.shape
      obtain ⟨a4, c4, rfl⟩ := q_
      refine ite (fun h => absurd h (by first | omega | decide | (dsimp only; omega))) (fun _ => ?_)
      refine ite (fun h => absurd h (by first | omega | decide | (dsimp only; omega))) (fun _ => ?_)
      have hl4 : ((sf x i i).set k zeroH).length = i := by simp [hl]
      have T := slots_Put_sp (x := x) O4.sl (by omega)
      have hb := sf_back (x := x) hk
      rw [hb.1, hb.2] at T
      refine rldG rfl rfl ?_
      refine rcall (T) ?_
      rintro v u3 ⟨⟨v5, rfl, O5⟩, e5⟩
      have T := slots_Drop_sp (i := (k : Int)) (O4.sl.up (w' := u3)) (by omega)
      rw [sf_again hk] at T
      refine rcall (T) ?_
      rintro v u4 ⟨⟨v6, rfl, O6⟩, e6⟩
      refine rcall (l24_holds_sp) ?_
      rintro v u5 ⟨rfl, e7⟩
      iterate 4 (refine ite (fun _ => ?_) (fun h => absurd rfl h))
      exact ⟨rfl, stp⟩
end Go.W
