/-
  Proved here: where a request waits (contracts of Place, of the reference and of the program).
  Conditions: the rows can be read, and are no longer than is said at each.
-/
import Derived.Test.YtgjaclnnacemfaaC1
namespace Go.W
open Go Go.Proofs
open Enc (enc)
set_option maxRecDepth 10000

/-! requests that wait: what is computed -/
def plc (l : List RReq) (id : Int) : Option Nat := l.findIdx? (fun r => decide (r.id = id))
theorem plc_none {l : List RReq} {id : Int} (h : ∀ r ∈ l, r.id ≠ id) : plc l id = none := by
  unfold plc; rw [List.findIdx?_eq_none_iff]; simpa using h
theorem plc_some {l : List RReq} {id : Int} {k : Nat} (hk : k < l.length) (h1 : l[k].id = id) (h2 : ∀ j, (hj : j < k) → (l[j]'(by omega)).id ≠ id) : plc l id = some k := by
  unfold plc; rw [List.findIdx?_eq_some_iff_getElem]; exact ⟨hk, by simpa using h1, fun j hj => by simpa using h2 j hj⟩
theorem plc_lt {l : List RReq} {id : Int} {k : Nat} (h : plc l id = some k) : ∃ hk : k < l.length, l[k].id = id := by
  unfold plc at h; rw [List.findIdx?_eq_some_iff_getElem] at h; obtain ⟨hk, h1, _⟩ := h; exact ⟨hk, by simpa using h1⟩
/-- what Place answers -/
def plcV (o : Option Nat) : Value := match o with
  | some k => .tuple #[.int .i64 k, .bool true]
  | none => .tuple #[.int .i64 0, .bool false]
def putR (l : List RReq) (most : Int) (x : RReq) : List RReq × Int :=
  if (plc l x.id).isSome then ([], 150) else if most ≤ l.length then ([], 252) else (l ++ [x], 0)
def takeR (l : List RReq) (id : Int) : List RReq × Bool := match plc l id with
  | some k => (l.take k ++ l.drop (k + 1), true)
  | none => (l, false)
def zeroQ : RQ := ⟨0, 0, 0, ⟨none, 0, 0⟩, 0, 0⟩
def zeroR : RReq := ⟨0, 0, zeroQ⟩

theorem r23_Place_sp {a : Option Addr} {n c : Nat} {l : List RReq} {id : Int} {w : World} (h : SlF w (.slice a n c) l) (hn : l.length ≤ 1000000) :
    Sp Try.prog F.r23_Place #[.slice a n c, .int .i64 id] w fun v w' => v = plcV (plc l id) ∧ Ext w w' := by
  obtain rfl := h.len
  refine en TBok rfl ?_
  refine loop1 TBok 7 [4, 5] 6 (fun i w' => ∃ k : Nat, k ≤ l.length ∧ i = .int .i64 k ∧ (∀ j, (hj : j < k) → (hl : j < l.length) → l[j].id ≠ id) ∧ Ext w w') (fun i _ => l.length - (Go.RowKit.intOf i).toNat) rfl ⟨0, by omega, rfl, by omega, Fr.refl _ _⟩ ?_
  rintro i g w' ⟨k, hk, rfl, hb, e⟩
  refine ite (fun hlt => ?_) (fun hge => ?_)
  · have hka : k < l.length := by omega
    refine rix (h.ext e) (x := l[k]) (by simp) fun b o A => ?_
    refine rload1 (A.cell 0 rfl) (ite (fun he => ?_) (fun hne => ?_))
    · rw [plc_some hka he fun j hj => hb j hj (by omega)]; exact ⟨rfl, e⟩
    · refine rar (by omega) ⟨⟨k + 1, by omega, rfl, fun j hj hl => ?_, e⟩, ?_⟩
      · rcases Nat.lt_or_ge j k with h' | h'
        · exact hb j h' hl
        · obtain rfl : j = k := by omega
          exact hne
      · show _ - (k + 1) < _ - k; omega
  · rw [plc_none]
    · exact ⟨rfl, e⟩
    · intro r hr
      obtain ⟨j, hj, rfl⟩ := List.mem_iff_getElem.1 hr
      exact hb j (by omega) hj

theorem wanted_is_sp {r : RReq} {id : Int} {w : World} : Sp Try.prog F.wait_wanted_is #[.int .i64 id, agg r] w fun v w' => Tells (r.id = id) v ∧ Ext w w' := by
  refine en TBok rfl ?_
  refine rbox fun b w1 n => ?_
  exact rload1 ((At.blk n.blk).cell 0 rfl) (ite (fun h => ⟨.t h, n.ext⟩) (fun h => ⟨.f h, n.ext⟩))

/-- slices.IndexFunc, of requests -/
theorem IndexFunc_Request_sp {a : Option Addr} {n c : Nat} {l : List RReq} {g : FuncId} {first cap : List Value} {p : RReq → Prop} {w : World} (h : SlF w (.slice a n c) l) (hn : l.length ≤ 1000000)
    (hf : ∀ r w1, r ∈ l → Ext w w1 → Sp Try.prog g (first ++ [agg r] ++ cap).toArray w1 fun v w2 => Tells (p r) v ∧ Ext w1 w2) :
    Sp Try.prog F.slices_IndexFunc_Request #[.slice a n c, .func (.func g) first.toArray cap.toArray] w fun v w' =>
      ((∃ k : Nat, v = .int .i64 k ∧ ∃ hk : k < l.length, p l[k] ∧ ∀ j, (hj : j < k) → ¬ p (l[j]'(by omega))) ∨ (v = .int .i64 (-1) ∧ ∀ r ∈ l, ¬ p r)) ∧ Ext w w' := by
  obtain rfl := h.len
  refine en TBok rfl ?_
  refine loop1 TBok 6 [4, 5, 7] 8 (fun i w' => ∃ k : Nat, k ≤ l.length ∧ i = .int .i64 k ∧ (∀ j, (hj : j < k) → (hl : j < l.length) → ¬ p l[j]) ∧ Ext w w') (fun i _ => l.length - (Go.RowKit.intOf i).toNat) rfl ⟨0, by omega, rfl, by omega, Fr.refl _ _⟩ ?_
  rintro i g w' ⟨k, hk, rfl, hb, e⟩
  refine ite (fun hlt => ?_) (fun hge => ?_)
  · have hka : k < l.length := by omega
    refine rix (h.ext e) (x := l[k]) (by simp) fun b o A => ?_
    refine rloadA A rfl ?_
    refine rcall (hf l[k] w' (by simp) e) ?_
    rintro v w2 ⟨⟨rfl, hp⟩ | ⟨rfl, hp⟩, e2⟩
    · exact ⟨.inl ⟨k, rfl, hka, hp, fun j hj => hb j hj (by omega)⟩, e.t e2⟩
    · refine rar (by omega) ⟨⟨k + 1, by omega, rfl, fun j hj hl => ?_, e.t e2⟩, ?_⟩
      · rcases Nat.lt_or_ge j k with h' | h'
        · exact hb j h' hl
        · obtain rfl : j = k := by omega
          exact hp
      · show _ - (k + 1) < _ - k; omega
  · refine ⟨.inr ⟨rfl, fun r hr => ?_⟩, e⟩
    obtain ⟨j, hj, rfl⟩ := List.mem_iff_getElem.1 hr
    exact hb j (by omega) hj

theorem wait_Place_sp {a : Option Addr} {n c : Nat} {l : List RReq} {id : Int} {w : World} (h : SlF w (.slice a n c) l) (hn : l.length ≤ 1000000) :
    Sp Try.prog F.wait_Place #[.slice a n c, .int .i64 id] w fun v w' => v = plcV (plc l id) ∧ Ext w w' := by
  obtain rfl := h.len
  refine en TBok rfl ?_
  refine rcall (IndexFunc_Request_sp (g := F.wait_wanted_is) (first := [.int .i64 id]) (cap := []) (p := fun r => r.id = id) h hn fun r w1 _ _ => wanted_is_sp) ?_
  rintro v w' ⟨⟨k, rfl, hk, h1, h2⟩ | ⟨rfl, h1⟩, e⟩
  · refine rmax (ite (fun _ => ?_) (fun h => absurd (Int.natCast_nonneg k) h))
    rw [plc_some hk h1 h2, Int.max_eq_left (by omega)]; exact ⟨rfl, e⟩
  · refine rmax (ite (fun h => absurd h (by decide)) (fun _ => ?_))
    rw [plc_none h1]; exact ⟨rfl, e⟩

theorem wait_joined_sp {a b : Option Addr} {na ca nb cb : Nat} {la lb : List RReq} {w : World} (ha : SlF w (.slice a na ca) la) (hb : SlF w (.slice b nb cb) lb) (hn : la.length ≤ 1000000 ∧ lb.length ≤ 1000000) :
    Sp Try.prog F.wait_joined #[.slice a na ca, .slice b nb cb] w fun v w' => Own w.heap.size E.api_Request w' v (la ++ lb) ∧ Ext w w' := by
  obtain rfl := ha.len
  obtain rfl := hb.len
  refine en TBok rfl ?_
  refine rar (by omega) ?_
  refine rmk (n := la.length + lb.length) (B := w.heap.size) zeroR rfl rfl (Nat.le_refl _) (by omega) fun g w1 O1 e1 hg => ?_
  refine rcp (lo := 0) rfl O1 (ha.ext e1) (.inr ⟨g, rfl, by simp⟩) (by simp) (by omega) fun w2 O2 f2 _ => ?_
  have e2 := Fr.st e1 f2 fun i hi => hi.1
  refine rslO (n := la.length + lb.length) (some la.length) none O2 (by simp) (by simp) fun a' c' hd => ?_
  refine rcp (lo := la.length) rfl O2 (hb.ext e2) hd (by simp) (by simp) fun w3 O3 f3 _ => ?_
  refine ⟨?_, Fr.st e2 f3 fun i hi => hi.1⟩
  have : List.take la.length (List.take 0 (List.replicate (la.length + lb.length) zeroR) ++ la ++ List.drop (0 + la.length) (List.replicate (la.length + lb.length) zeroR)) ++ lb ++
      List.drop (la.length + lb.length) (List.take 0 (List.replicate (la.length + lb.length) zeroR) ++ la ++ List.drop (0 + la.length) (List.replicate (la.length + lb.length) zeroR)) = la ++ lb := by
    simp
  rw [this] at O3
  exact O3
end Go.W
