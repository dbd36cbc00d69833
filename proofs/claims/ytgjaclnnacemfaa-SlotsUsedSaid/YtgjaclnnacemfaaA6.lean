/-
  Proved here: the laws of slots return true: SlotsUsed, SlotsKeep, SlotsFull (the walks through the laws).
  Conditions: the rows can be read.
-/
import Derived.Test.YtgjaclnnacemfaaA5
namespace Go.W
open Go Go.Proofs
open Enc (enc)
set_option maxRecDepth 10000

theorem rarE {x y : Int} {k : Value → World → Prop} {w : World} (e : x = y) (h : -9223372036854775808 ≤ y ∧ y ≤ 9223372036854775807) (hk : k (.int .i64 y) w) : ArS .i64 x k w := by
  subst e; exact rar h hk
theorem found_at {l : List RHeld} {id : Int} {i k : Nat} (hk : (usedAt l l.length)[i]? = some k) (he : (l.getD k zeroH).r.id = id) (hb : ∀ j k' : Nat, j < i → (usedAt l l.length)[j]? = some k' → ¬ (l.getD k' zeroH).r.id = id) : foundAt l id = some k := by
  have q_ := sel_idx hk
  obtain ⟨hkl, hu, hi⟩ := q_
  simp only [getD_eq hkl] at hu he
  refine find_some hkl (by simp [hu, he]) fun j hj => ?_
  cases huj : (l[j]'(by omega)).used with
  | false => rfl
  | true =>
    have hq : (fun i => (l.getD i zeroH).used) j = true := by show (l.getD j zeroH).used = true; rw [getD_eq (show j < l.length by omega)]; exact huj
    have h1 := hb (selN (fun i => (l.getD i zeroH).used) j).length j (by rw [hi]; exact sel_pos hj hq) (selN_at (n := l.length) (by omega) hq)
    rw [getD_eq (show j < l.length by omega)] at h1
    simp [h1]
theorem found_no {l : List RHeld} {id : Int} (hi : ∀ j k : Nat, (usedAt l l.length)[j]? = some k → ¬ (l.getD k zeroH).r.id = id) : foundAt l id = none := by
  refine find_none fun j hj => ?_
  cases huj : l[j].used with
  | false => rfl
  | true =>
    have hq : (fun i => (l.getD i zeroH).used) j = true := by show (l.getD j zeroH).used = true; rw [getD_eq hj]; exact huj
    have h1 := hi _ j (selN_at (q := fun i => (l.getD i zeroH).used) (n := l.length) hj hq)
    rw [getD_eq hj] at h1
    simp [h1]
theorem sel_lt {q : Nat → Bool} {n i j a b : Nat} (ha : (selN q n)[i]? = some a) (hb : (selN q n)[j]? = some b) (h : i < j) : a < b := by
  have hp : (selN q n).Pairwise (· < ·) := List.Pairwise.filter _ List.pairwise_lt_range
  have q_ := List.getElem?_eq_some_iff.1 ha
  obtain ⟨h1, rfl⟩ := q_
  have q_ := List.getElem?_eq_some_iff.1 hb
  obtain ⟨h2, rfl⟩ := q_
  exact List.pairwise_iff_getElem.1 hp _ _ h1 h2 h
theorem not_bigH {wd : Wd} {l : List RHeld} (h : ¬ bigHs wd l) : l.length ≤ 100 ∧ ∀ x ∈ l, (wd x.r.q.words).length ≤ 20 :=
  ⟨Nat.le_of_not_lt fun h' => h (.inl h'), fun x hx => Nat.le_of_not_lt fun h' => h (.inr ⟨x, hx, .inl h'⟩)⟩
theorem usedH_get {l : List RHeld} {k j : Nat} (h : (usedAt l l.length)[k]? = some j) : (usedH l)[k]? = some ((j : Nat) : Int) := by
  unfold usedH; rw [List.getElem?_map, h]; rfl

set_option maxHeartbeats 400000 in
theorem l24_SlotsUsed_sp {wd : Wd} {a : Option Addr} {n c : Nat} {l : List RHeld} {id : Int} {w : World} (h : SlF w (.slice a n c) l) (hq : HsOk wd w l) :
    Sp Try.prog F.l24_SlotsUsed #[.slice a n c, .int .i64 id] w fun v w' => v = .bool true ∧ Stp w w' := by
  have q_ := h.len
  obtain rfl := q_
  refine en TBok rfl ?_
  refine rcall (r24_Big_sp h hq) ?_
  rintro v w1 ⟨⟨rfl, hb⟩ | ⟨rfl, hb⟩, e1⟩
  · exact ⟨rfl, stp⟩
  have hnb := not_bigH hb; obtain ⟨hn, -⟩ := hnb
  refine rcall (slots_Used_sp h.up (by omega)) ?_
  rintro v w2 ⟨O2, e2⟩
  have hUl : (usedH l).length = (usedAt l l.length).length := by unfold usedH; simp
  have hUle : (usedAt l l.length).length ≤ l.length := selN_le _ _
  have q_ := O2.shape
  obtain ⟨a2, c2, rfl⟩ := q_
  refine cnt1 TBok 12 [] 6 7 l.length (fun k v u => v = .int .i64 ((usedAt l k).length : Nat) ∧ Stp w2 u) rfl rfl ⟨rfl, stp⟩ ?_
  rintro k v g u hk ⟨rfl, e⟩
  refine ite (fun hlt => ?_) (fun hge => ?_)
  · have hka : k < l.length := by omega
    have hs := usedAt_succ hka
    refine rix h.up (x := l[k]) (by simp) fun b2 o2 A2 => ?_
    refine rload1 (A2.cell0 rfl) ?_
    cases hu : l[k].used <;> rw [hu] at hs
    · exact rar (by omega) ⟨rfl, hka, by rw [hs]; rfl, stp⟩
    · have hle := selN_le (fun i => (l.getD i zeroH).used) k
      have h' : (((usedAt l (k + 1)).length : Nat) : Int) = (usedAt l k).length + 1 := by rw [hs]; simp
      exact rar (by unfold usedAt; omega) (rar (by omega) ⟨rfl, hka, (congrArg (Value.int .i64) h').symm, stp⟩)
  have q_ : k = l.length := by omega
  obtain rfl := q_
  refine cnt1 TBok 12 [4] 8 9 (usedAt l l.length).length (fun k v u => (∃ f : Int, v = .int .i64 f ∧ ((f = -1 ∧ ∀ j k', j < k → (usedAt l l.length)[j]? = some k' → ¬ (l.getD k' zeroH).r.id = id) ∨ ∃ k' : Nat, foundAt l id = some k' ∧ f = k')) ∧ Stp w2 u) rfl rfl ⟨⟨_, rfl, .inl ⟨rfl, by omega⟩⟩, stp⟩ ?_
  rintro k _ g u1 hk ⟨⟨f, rfl, hv⟩, e'⟩
  refine ite (fun hlt => ?_) (fun hge => ?_)
  · have hka : k < (usedAt l l.length).length := by omega
    have q_ : ∃ j, (usedAt l l.length)[k]? = some j := ⟨_, List.getElem?_eq_getElem hka⟩
    obtain ⟨j, hj⟩ := q_
    have q_ := sel_idx hj
    obtain ⟨hjl, hju, -⟩ := q_
    simp only [getD_eq hjl] at hju
    refine drawR TBok mixed (fun _ => False) (upF 41 0) (by kernel_rfl) fun w3 e3 _ => ?_
    refine tix (O2.sl.up) (usedH_get hj) fun b3 o3 A3 _ => tload1 (A3.cell0 rfl) not_false ?_
    refine ite (fun h => absurd h (by omega)) (fun _ => ?_)
    refine tix (O2.sl.up) (usedH_get hj) fun b3 o3 A3 _ => tload1 (A3.cell0 rfl) not_false ?_
    refine ite (fun h => absurd h (by omega)) (fun _ => ?_)
    refine tix (O2.sl.up) (usedH_get hj) fun b3 o3 A3 _ => tload1 (A3.cell0 rfl) not_false ?_
    refine tix h.up (x := l[j]) (by simp) fun b3 o3 A3 _ => tload1 (v := .bool true) (A3.cell0 (by simp [enc, hju])) not_false ?_
    refine ite (fun h0 => ?pos) (fun h0 => ?neg)
    case' pos =>
      refine rarE (y := ((k - 1 : Nat) : Int)) (by omega) (by omega) ?_
      have q_ : ∃ j0, (usedAt l l.length)[k - 1]? = some j0 := ⟨_, List.getElem?_eq_getElem (by omega)⟩
      obtain ⟨j0, hj0⟩ := q_
      have hlt2 := sel_lt hj0 hj (by omega)
      refine tix (O2.sl.up) (usedH_get hj0) fun b3 o3 A3 _ => tload1 (A3.cell0 rfl) not_false ?_
      refine tix (O2.sl.up) (usedH_get hj) fun b3 o3 A3 _ => tload1 (A3.cell0 rfl) not_false ?_
      refine ite (fun h => absurd h (by omega)) (fun _ => ?_)
    all_goals
      refine ite (fun hf0 => ?_) (fun hf0 => ?_)
      · have hv' : f = -1 ∧ ∀ j k', j < k → (usedAt l l.length)[j]? = some k' → ¬ (l.getD k' zeroH).r.id = id := hv.elim (fun h => h) fun ⟨_, _, h⟩ => absurd h (by omega)
        refine rix O2.sl.up (usedH_get hj) fun b3 o3 A3 => rload1 (A3.cell0 rfl) ?_
        refine rix h.up (x := l[j]) (by simp) fun b3 o3 A3 => rload1 (A3.cell 1 rfl) ?_
        refine ite (fun he => ?_) (fun hne => ?_)
        · refine rix O2.sl.up (usedH_get hj) fun b3 o3 A3 => rload1 (A3.cell0 rfl) ?_
          exact rar (by omega) ⟨rfl, hka, ⟨_, rfl, .inr ⟨j, found_at hj (by rw [getD_eq hjl]; exact he) hv'.2, rfl⟩⟩, stp⟩
        · refine rar (by omega) ⟨rfl, hka, ⟨_, rfl, .inl ⟨hv'.1, fun j' k' hj' hk' => ?_⟩⟩, stp⟩
          have q_ := Nat.lt_or_ge j' k
          rcases q_ with h' | h'
          · exact hv'.2 j' k' h' hk'
          · have q_ : j' = k := by omega
            obtain rfl := q_
            rw [hj] at hk'; cases hk'
            rw [getD_eq hjl]; exact hne
      · exact rar (by omega) ⟨rfl, hka, ⟨_, rfl, .inr (hv.elim (fun h => absurd h.1 (by omega)) (fun h => h))⟩, stp⟩
  have q_ : k = (usedAt l l.length).length := by omega
  obtain rfl := q_
  have T := slots_Find_sp (id := id) (h.up (w' := u1)) (by omega)
  have hUn : (((usedAt l l.length).length : Nat) : Int) = ((usedH l).length : Nat) := by rw [hUl]
  rcases hv with ⟨rfl, hv⟩ | ⟨k', hf, rfl⟩
  · rw [found_no fun j k hj => hv j k (List.getElem?_eq_some_iff.1 hj).1 hj] at T
    refine rcall (T) ?_
    rintro v w5 ⟨rfl, e5⟩
    refine rcall (l24_holds_sp) ?_
    rintro v w6 ⟨rfl, e6⟩
    refine ite (fun _ => ?_) (fun h => absurd hUn h)
    refine ite (fun h => absurd h (by omega)) (fun _ => ?_)
    refine rbeq (fun _ => ?_) (fun h => absurd rfl h)
    refine ite (fun _ => ?_) (fun h => absurd rfl h)
    exact ⟨rfl, stp⟩
  · rw [hf] at T
    refine rcall (T) ?_
    rintro v w5 ⟨rfl, e5⟩
    refine rcall (l24_holds_sp) ?_
    rintro v w6 ⟨rfl, e6⟩
    refine ite (fun _ => ?_) (fun h => absurd hUn h)
    refine ite (fun _ => ?_) (fun h => absurd (by omega) h)
    refine rbeq (fun _ => ?_) (fun h => absurd rfl h)
    refine ite (fun _ => ?_) (fun h => absurd rfl h)
    exact ⟨rfl, stp⟩
end Go.W
