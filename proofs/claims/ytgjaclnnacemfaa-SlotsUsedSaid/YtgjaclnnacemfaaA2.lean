/-
  Proved here: slots of the reference: made, used, dropped and found; rows of slots and of numbers are compared (contracts).
  Conditions: the rows can be read, and are no longer than is said at each.
-/
import Derived.Test.YtgjaclnnacemfaaA1
namespace Go.W
open Go Go.Proofs
open Enc (enc)
set_option maxRecDepth 10000

def zeroQ : RQ := ⟨0, 0, 0, ⟨none, 0, 0⟩, 0, 0⟩
def zeroR : RReq := ⟨0, 0, zeroQ⟩
def zeroH : RHeld := ⟨false, zeroR⟩
/-! what is computed -/
def freeAt (l : List RHeld) : Option Nat := l.findIdx? (fun h => !h.used)
def putH (l : List RHeld) (x : RReq) : Int × List RHeld × Int := match freeAt l with
  | some k => (k, l.set k ⟨true, x⟩, 0)
  | none => (0, [], 140)
def dropH (l : List RHeld) (i : Int) : List RHeld × Int :=
  if i < 0 ∨ (l.length : Int) ≤ i then ([], 1) else if (l.getD i.toNat zeroH).used then (l.set i.toNat zeroH, 0) else ([], 141)
def foundAt (l : List RHeld) (id : Int) : Option Nat := l.findIdx? (fun h => h.used && decide (h.r.id = id))
def findV (o : Option Nat) : Int × Bool := match o with
  | some k => (k, true)
  | none => (0, false)
def newH (n : Int) : List RHeld × Int := if n < 1 ∨ 64 < n then ([], 1) else (List.replicate n.toNat zeroH, 0)
def usedAt (l : List RHeld) (n : Nat) : List Nat := selN (fun i => (l.getD i zeroH).used) n
def usedH (l : List RHeld) : List Int := (usedAt l l.length).map fun k : Nat => (k : Int)

theorem find_some {α : Type} {p : α → Bool} {l : List α} {k : Nat} (hk : k < l.length) (h1 : p l[k] = true) (h2 : ∀ j, (hj : j < k) → p (l[j]'(by omega)) = false) : l.findIdx? p = some k := by
  rw [List.findIdx?_eq_some_iff_getElem]; exact ⟨hk, h1, fun j hj => by simpa using h2 j hj⟩
theorem find_none {α : Type} {p : α → Bool} {l : List α} (h : ∀ j, (hj : j < l.length) → p l[j] = false) : l.findIdx? p = none := by
  rw [List.findIdx?_eq_none_iff]
  intro x hx
  obtain ⟨j, hj, rfl⟩ := List.mem_iff_getElem.1 hx
  exact h j hj
theorem below {p : Nat → Prop} {k : Nat} (h : ∀ j, j < k → p j) (hk : p k) : ∀ j, j < k + 1 → p j := fun j hj => by
  rcases Nat.lt_or_ge j k with h' | h'
  · exact h j h'
  · obtain rfl : j = k := by omega
    exact hk
theorem getD_eq {α : Type} {l : List α} {k : Nat} (h : k < l.length) (z : α) : l.getD k z = l[k] := by simp [h]

/-- slots whose words can be read -/
def HsOk (wd : Wd) (w : World) (l : List RHeld) : Prop := ∀ h ∈ l, QOk wd w h.r.q
theorem HsOk.up {wd : Wd} {w w' : World} {l : List RHeld} (h : HsOk wd w l) [L : Le w w'] : HsOk wd w' l := fun r hr => (h r hr).up
def bigHs (wd : Wd) (l : List RHeld) : Prop := 100 < l.length ∨ ∃ h ∈ l, bigQ wd h.r.q

theorem r24_Big_sp {wd : Wd} {a : Option Addr} {n c : Nat} {l : List RHeld} {w : World} (h : SlF w (.slice a n c) l) (hq : HsOk wd w l) : Sp Try.prog F.r24_Big #[.slice a n c] w fun v w' => Tells (bigHs wd l) v ∧ Stp w w' := by
  obtain rfl := h.len
  refine en TBok rfl ?_
  refine cnt TBok 4 [2] 3 l.length (fun k w' => (k = 0 ∨ l.length ≤ 100) ∧ (∀ j, (hj : j < k) → (hl : j < l.length) → ¬ bigQ wd l[j].r.q) ∧ Stp w w') rfl rfl ⟨.inl rfl, by omega, stp⟩ ?_
  rintro k g w' hk ⟨h20, hb, e⟩
  have fin : (l.length ≤ 100 → k = l.length) → IteC ((100 : Int) < l.length) (Tells (bigHs wd l) (.bool true) ∧ Stp w w') (Tells (bigHs wd l) (.bool false) ∧ Stp w w') := by
    intro hf
    refine ite (fun h => ⟨.t (.inl (by omega)), e⟩) (fun h => ⟨.f ?_, e⟩)
    rintro (h' | ⟨s, hs, h'⟩)
    · omega
    · obtain ⟨j, hj, rfl⟩ := List.mem_iff_getElem.1 hs
      exact hb j (by rw [hf (by omega)]; exact hj) hj h'
  refine ite (fun hlt => ?_) (fun hge => ?_)
  · refine ite (fun h2 => ?_) (fun h2 => ?_)
    · have hka : k < l.length := by omega
      refine rix h.up (x := l[k]) (by simp) fun b2 o2 A2 => ?_
      refine rloadA (A2.sub 3 6) rfl ?_
      refine rcall (r18_Big_sp (wd := wd) (q := l[k].r.q) (hq.up _ (by simp))) ?_
      rintro v w2 ⟨⟨rfl, hp⟩ | ⟨rfl, hp⟩, e2⟩
      · exact ⟨.t (.inr ⟨_, List.getElem_mem hka, hp⟩), stp⟩
      · refine rar (by omega) ⟨rfl, hka, .inr (by omega), fun j hj hl' => ?_, stp⟩
        rcases Nat.lt_or_ge j k with h' | h'
        · exact hb j h' hl'
        · obtain rfl : j = k := by omega
          exact hp
    · exact fin (by omega)
  · exact fin (by omega)

theorem r24_Own_sp {a : Option Addr} {n c : Nat} {l : List RHeld} {w : World} (h : SlF w (.slice a n c) l) (hn : l.length ≤ 100000) : Sp Try.prog F.r24_Own #[.slice a n c] w fun v w' => Own w.heap.size E.api_Held w' v l ∧ Stp w w' := by
  obtain rfl := h.len
  refine en TBok rfl ?_
  refine rapp (u := w) ⟨rfl, rfl⟩ (Own.nil _ E.api_Held _) h (by simp; omega) fun v3 w3 O3 f3 s3 => ?_
  rw [List.nil_append] at O3
  exact ⟨O3, stp⟩


theorem r24_Put_sp {a : Option Addr} {n c : Nat} {l : List RHeld} {x : RReq} {w : World} (h : SlF w (.slice a n c) l) (hn : l.length ≤ 100000) :
    Sp Try.prog F.r24_Put #[.slice a n c, agg x] w fun v w' => (∃ v', v = .tuple #[.int .i64 (putH l x).1, v', .int .i64 (putH l x).2.2] ∧ Own w.heap.size E.api_Held w' v' (putH l x).2.1) ∧ Stp w w' := by
  obtain rfl := h.len
  refine en TBok rfl ?_
  refine rbx fun b w1 n1 B1 => ?_
  refine cnt TBok 9 [8, 4, 5, 6] 7 l.length (fun k w' => (∀ j, j < k → (hl : j < l.length) → l[j].used = true) ∧ Stp w1 w') rfl rfl ⟨by omega, stp⟩ ?_
  rintro k g w' hk ⟨hb, e⟩
  refine ite (fun hlt => ?_) (fun hge => ?_)
  · have hka : k < l.length := by omega
    refine rix h.up (x := l[k]) (by simp) fun b2 o2 A2 => ?_
    refine rload1 (A2.cell0 rfl) ?_
    cases hu : l[k].used
    · refine rcall (r24_Own_sp h.up hn) ?_
      rintro v w2 ⟨O2, e2⟩
      obtain ⟨oa, oc, rfl⟩ := O2.shape
      refine rldG rfl rfl ?_
      refine rbuild (cs := enc (⟨true, x⟩ : RHeld)) rfl ?_
      refine rixO rfl O2 (x := l[k]) (by simp) fun g' hg _ A => ?_
      refine rstO rfl (⟨true, x⟩ : RHeld) O2 hg hka rfl fun w3 O3 f3 s3 _ => ?_
      have hf : freeAt l = some k := find_some hka (by simp [hu]) fun j hj => by simp [hb j hj (by omega)]
      have hp : putH l x = ((k : Int), l.set k ⟨true, x⟩, 0) := by unfold putH; rw [hf]
      rw [hp]
      exact ⟨⟨_, rfl, O3.older⟩, stp⟩
    · refine rar (by omega) ⟨rfl, hka, below hb fun _ => hu, stp⟩
  · have hf : freeAt l = none := find_none fun j hj => by simp [hb j (by omega) hj]
    unfold putH; rw [hf]
    exact ⟨⟨_, rfl, Own.nil _ _ _⟩, stp⟩

theorem r24_Drop_sp {a : Option Addr} {n c : Nat} {l : List RHeld} {i : Int} {w : World} (h : SlF w (.slice a n c) l) (hn : l.length ≤ 100000) :
    Sp Try.prog F.r24_Drop #[.slice a n c, .int .i64 i] w fun v w' => (∃ v', v = .tuple #[v', .int .i64 (dropH l i).2] ∧ Own w.heap.size E.api_Held w' v' (dropH l i).1) ∧ Stp w w' := by
  obtain rfl := h.len
  refine en TBok rfl ?_
  unfold dropH
  refine ite (fun h1 => ?_) (fun h1 => ?_)
  · rw [if_pos (.inl h1)]; exact ⟨⟨_, rfl, Own.nil _ _ _⟩, stp⟩
  refine ite (fun h2 => ?_) (fun h2 => ?_)
  · rw [if_pos (.inr h2)]; exact ⟨⟨_, rfl, Own.nil _ _ _⟩, stp⟩
  rw [if_neg (by omega)]
  obtain ⟨k, rfl⟩ := Int.eq_ofNat_of_zero_le (Int.not_lt.1 h1)
  have hk : k < l.length := by omega
  rw [Int.toNat_natCast, getD_eq hk]
  refine rix h (x := l[k]) (by simp) fun b2 o2 A2 => ?_
  refine rload1 (A2.cell0 rfl) ?_
  cases hu : l[k].used
  · rw [if_neg (by simp)]; exact ⟨⟨_, rfl, Own.nil _ _ _⟩, stp⟩
  · rw [if_pos rfl]
    refine rcall (r24_Own_sp h hn) ?_
    rintro v w2 ⟨O2, e2⟩
    obtain ⟨oa, oc, rfl⟩ := O2.shape
    refine rbuild (cs := enc zeroH) rfl ?_
    refine rixO rfl O2 (x := l[k]) (by simp) fun g' hg _ A => ?_
    refine rstO rfl zeroH O2 hg hk rfl fun w3 O3 f3 s3 _ => ?_
    exact ⟨⟨_, rfl, O3.older⟩, stp⟩

theorem r24_Find_sp {a : Option Addr} {n c : Nat} {l : List RHeld} {id : Int} {w : World} (h : SlF w (.slice a n c) l) (hn : l.length ≤ 100000) :
    Sp Try.prog F.r24_Find #[.slice a n c, .int .i64 id] w fun v w' => v = .tuple #[.int .i64 (findV (foundAt l id)).1, .bool (findV (foundAt l id)).2] ∧ Stp w w' := by
  obtain rfl := h.len
  refine en TBok rfl ?_
  refine cnt TBok 7 [4, 5] 6 l.length (fun k w' => (∀ j, j < k → (hl : j < l.length) → (l[j].used && decide (l[j].r.id = id)) = false) ∧ Stp w w') rfl rfl ⟨by omega, stp⟩ ?_
  rintro k g w' hk ⟨hb, e⟩
  refine ite (fun hlt => ?_) (fun hge => ?_)
  · have hka : k < l.length := by omega
    refine rix h.up (x := l[k]) (by simp) fun b2 o2 A2 => ?_
    refine rload1 (A2.cell0 rfl) ?_
    cases hu : l[k].used
    · exact rar (by omega) ⟨rfl, hka, below hb fun _ => by simp [hu], stp⟩
    · refine rix h.up (x := l[k]) (by simp) fun b3 o3 A3 => ?_
      refine rload1 (A3.cell 1 rfl) ?_
      refine ite (fun he => ?_) (fun hne => ?_)
      · have hf : foundAt l id = some k := find_some hka (by simp [hu, he]) fun j hj => hb j hj (by omega)
        rw [hf]; exact ⟨rfl, stp⟩
      · exact rar (by omega) ⟨rfl, hka, below hb fun _ => by simp [hne], stp⟩
  · have hf : foundAt l id = none := find_none fun j hj => hb j (by omega) hj
    rw [hf]; exact ⟨rfl, stp⟩

theorem slots_New_sp {n : Int} {w : World} : Sp Try.prog F.slots_New #[.int .i64 n] w fun v w' => (∃ v', v = .tuple #[v', .int .i64 (newH n).2] ∧ Own w.heap.size E.api_Held w' v' (newH n).1) ∧ Stp w w' := by
  refine en TBok rfl ?_
  unfold newH
  refine ite (fun h1 => ?_) (fun h1 => ?_)
  · rw [if_pos (.inl h1)]; exact ⟨⟨_, rfl, Own.nil _ _ _⟩, stp⟩
  refine ite (fun h2 => ?_) (fun h2 => ?_)
  · rw [if_pos (.inr h2)]; exact ⟨⟨_, rfl, Own.nil _ _ _⟩, stp⟩
  rw [if_neg (by omega)]
  obtain ⟨k, rfl⟩ := Int.eq_ofNat_of_zero_le (show (0 : Int) ≤ n by omega)
  rw [Int.toNat_natCast]
  refine rmk zeroH rfl rfl (by omega) fun g w1 O1 s1 _ => ?_
  exact ⟨⟨_, rfl, O1⟩, stp⟩
theorem r24_New_sp {n : Int} {w : World} : Sp Try.prog F.r24_New #[.int .i64 n] w fun v w' => (∃ v', v = .tuple #[v', .int .i64 (newH n).2] ∧ Own w.heap.size E.api_Held w' v' (newH n).1) ∧ Stp w w' := by
  refine en TBok rfl ?_
  unfold newH
  refine ite (fun h1 => ?_) (fun h1 => ?_)
  · rw [if_pos (.inl h1)]; exact ⟨⟨_, rfl, Own.nil _ _ _⟩, stp⟩
  refine ite (fun h2 => ?_) (fun h2 => ?_)
  · rw [if_pos (.inr h2)]; exact ⟨⟨_, rfl, Own.nil _ _ _⟩, stp⟩
  rw [if_neg (by omega)]
  obtain ⟨k, rfl⟩ := Int.eq_ofNat_of_zero_le (show (0 : Int) ≤ n by omega)
  rw [Int.toNat_natCast]
  refine rmk zeroH rfl rfl (by omega) fun g w1 O1 s1 _ => ?_
  exact ⟨⟨_, rfl, O1⟩, stp⟩

/-- slots alike, place by place -/
def sameHs (wd : Wd) (a b : List RHeld) : Prop := Alike2 (sameH wd) a b
theorem sameHs.refl (wd : Wd) (a : List RHeld) : sameHs wd a a := Alike2.refl (sameH.refl wd) a
theorem r24_Same_sp {wd : Wd} {a b : Option Addr} {na ca nb cb : Nat} {la lb : List RHeld} {w : World} (ha : SlF w (.slice a na ca) la) (hb : SlF w (.slice b nb cb) lb) (oa : HsOk wd w la) (ob : HsOk wd w lb) (hw : ∀ h ∈ la, (wd h.r.q.words).length ≤ 1000000) (hn : la.length ≤ 1000000) :
    Sp Try.prog F.r24_Same #[.slice a na ca, .slice b nb cb] w fun v w' => Tells (sameHs wd la lb) v ∧ Stp w w' := by
  obtain rfl := ha.len
  obtain rfl := hb.len
  refine en TBok rfl ?_
  refine ite (fun h => ⟨.f (fun e => h (by rw [e.1])), stp⟩) (fun h => ?_)
  have hl : la.length = lb.length := by omega
  refine cnt TBok 6 [4] 5 la.length (fun k w' => sameHs wd (la.take k) (lb.take k) ∧ Stp w w') rfl rfl ⟨Alike2.nil, stp⟩ ?_
  rintro k g w' hk ⟨ht, e⟩
  refine ite (fun hlt => ?_) (fun hge => ?_)
  · have hka : k < la.length := by omega
    have hkb : k < lb.length := by omega
    refine drawR TBok mixed (fun _ => False) (upF 25 0) (by kernel_rfl) fun w1 e1 _ => ?_
    refine tix ha.up (x := la[k]) (by simp) fun b1 o1 A1 _ => ?_
    refine tload1 (A1.cell0 rfl) id ?_
    refine tix hb.up (x := lb[k]) (by simp) fun b2 o2 A2 _ => ?_
    refine tload1 (A2.cell0 rfl) id ?_
    refine tbne (fun hne => ⟨.f fun hs => hne (hs.2 k _ _ (by simp) (by simp)).1, stp⟩) (fun he => ?_)
    refine tix ha.up (x := la[k]) (by simp) fun b3 o3 A3 _ => ?_
    refine tloadA (A3.sub 1 8) rfl id ?_
    refine tix hb.up (x := lb[k]) (by simp) fun b4 o4 A4 _ => ?_
    refine tloadA (A4.sub 1 8) rfl id ?_
    refine rcall (r22_SameRequest_sp (wd := wd) (a := la[k].r) (b := lb[k].r) (oa.up _ (by simp)) (ob.up _ (by simp)) (hw _ (by simp))) ?_
    rintro v w2 ⟨⟨rfl, hc⟩ | ⟨rfl, hc⟩, e2⟩
    · exact ⟨e2.e, rar (by omega) ⟨rfl, hka, ht.take hka hkb ⟨he, hc⟩, stp⟩⟩
    · exact ⟨e2.e, .f fun hs => hc (hs.2 k _ _ (by simp) (by simp)).2, stp⟩
  · obtain rfl : k = la.length := by omega
    rw [List.take_of_length_le (Nat.le_refl _), List.take_of_length_le (by omega)] at ht
    exact ⟨.t ht, stp⟩

theorem r01_Ints_sp {a b : Option Addr} {na ca nb cb : Nat} {la lb : List Int} {w : World} (ha : SlF w (.slice a na ca) la) (hb : SlF w (.slice b nb cb) lb) (hn : la.length ≤ 1000000) :
    Sp Try.prog F.r01_Ints #[.slice a na ca, .slice b nb cb] w fun v w' => Tells (la = lb) v ∧ Stp w w' := by
  obtain rfl := ha.len
  obtain rfl := hb.len
  refine en TBok rfl ?_
  refine ite (fun h => ⟨.f (fun e => h (by rw [e])), stp⟩) (fun h => ?_)
  have hl : la.length = lb.length := by omega
  refine cnt TBok 6 [4] 5 la.length (fun k w' => la.take k = lb.take k ∧ Stp w w') rfl rfl ⟨by simp, stp⟩ ?_
  rintro k g w' hk ⟨ht, e⟩
  refine ite (fun hlt => ?_) (fun hge => ?_)
  · have hka : k < la.length := by omega
    have hkb : k < lb.length := by omega
    refine drawR TBok mixed (fun _ => False) (upF 9 0) (by kernel_rfl) fun w1 e1 _ => ?_
    refine tix ha.up (x := la[k]) (by simp) fun b1 o1 A1 _ => ?_
    refine tload1 (A1.cell0 rfl) id ?_
    refine tix hb.up (x := lb[k]) (by simp) fun b2 o2 A2 _ => ?_
    refine tload1 (A2.cell0 rfl) id ?_
    refine ite (fun hne => ⟨.f (by rintro rfl; exact hne rfl), stp⟩) (fun he => ?_)
    refine rar (by omega) ⟨rfl, hka, ?_, stp⟩
    rw [take_add hka, take_add hkb, ht, Classical.not_not.1 he]
  · obtain rfl : k = la.length := by omega
    rw [List.take_of_length_le (Nat.le_refl _), List.take_of_length_le (by omega)] at ht
    exact ⟨.t ht, e⟩

theorem usedAt_succ {l : List RHeld} {k : Nat} (h : k < l.length) : usedAt l (k + 1) = if l[k].used then usedAt l k ++ [k] else usedAt l k := by
  unfold usedAt; rw [selN_succ, getD_eq h]
theorem r24_Used_sp {a : Option Addr} {n c : Nat} {l : List RHeld} {w : World} (h : SlF w (.slice a n c) l) (hn : l.length ≤ 100000) :
    Sp Try.prog F.r24_Used #[.slice a n c] w fun v w' => Own w.heap.size E.int w' v (usedH l) ∧ Stp w w' := by
  obtain rfl := h.len
  refine en TBok rfl ?_
  refine cnt1 TBok 5 [2] 3 4 l.length (fun k out w' => Own w.heap.size E.int w' out ((usedAt l k).map fun k : Nat => (k : Int)) ∧ Stp w w') rfl rfl ⟨Own.nil _ _ _, stp⟩ ?_
  rintro k out g w' hk ⟨hO, e⟩
  refine ite (fun hlt => ?_) (fun hge => ?_)
  · have hka : k < l.length := by omega
    have hs := usedAt_succ hka
    refine rix h.up (x := l[k]) (by simp) fun b2 o2 A2 => ?_
    refine rload1 (A2.cell0 rfl) ?_
    cases hu : l[k].used <;> rw [hu] at hs
    · have O6 : Own w.heap.size E.int w' out ((usedAt l (k + 1)).map fun k : Nat => (k : Int)) := by rw [hs]; exact hO
      exact rar (by omega) ⟨rfl, hka, O6.up, stp⟩
    · refine rbs1 (k : Int) rfl rfl (by decide) fun b4 w4 e4 _ S4 => ?_
      have hle := selN_le (fun i => (l.getD i zeroH).used) k
      refine rapp1 (u := w) ⟨rfl, rfl⟩ hO.up S4 (by rw [List.length_map]; unfold usedAt; omega) fun v5 w5 O5 f5 s5 => ?_
      have O6 : Own w.heap.size E.int w5 v5 ((usedAt l (k + 1)).map fun k : Nat => (k : Int)) := by rw [hs, if_pos rfl, List.map_append]; exact O5
      exact rar (by omega) ⟨rfl, hka, O6, stp⟩
  · obtain rfl : k = l.length := by omega
    exact ⟨hO, stp⟩
end Go.W
