/-
  Proved here: arrays, stores into blocks that are known, small rules.
  Conditions: those that each fact names.
-/
import Derived.Test.YtgplodgpbhddbaaW14
namespace Go.W
open Go
open Enc (enc)

section
variable {P : Program} {k : Value → World → Prop} {pn : List PanicEntry → World → Prop} {w : World}
theorem rarE {x y : Int} (e : x = y) (h : -9223372036854775808 ≤ y ∧ y ≤ 9223372036854775807) (hk : k (.int .i64 y) w) : ArS .i64 x k w := by
  subst e; exact rar h hk
/-- arrays -/
class ArrT (P : Program) (t : TypeId) (n : outParam Nat) (e : outParam TypeId) : Prop where
  h : P.underlying t = some (.array n e)
theorem run_idxA {t e : TypeId} {N : Nat} {z : Value} {sz by' : Nat} (ht : ArrT P t N e) (he : Elem P e z sz by') {b o : Nat} {i : Int} (h0 : 0 ≤ i) (h1 : i < N) (w : World) :
    (Instr.indexAt t (.pointer (some ⟨b, o, none⟩)) (.int .i64 i)).run P w = .ok (.pointer (some ⟨b, o + i.toNat * sz, none⟩)) w := by
  obtain ⟨j, hj, _, hs, _⟩ := info_parts he.h
  simp [Instr.indexAt, asIntOf, underlying, ht.h, sizeOf, typeInfo, hj, hs, h0, h1, addr_add, Instr.sureAddr]
theorem rixA {t e : TypeId} {N : Nat} {z : Value} {sz by' : Nat} [ht : ArrT P t N e] [he : Elem P e z sz by'] {b o : Nat} {i : Nat} (h1 : i < N) (hk : k (.pointer (some ⟨b, o + i * sz, none⟩)) w) :
    SemV P (Instr.indexAt t (.pointer (some ⟨b, o, none⟩)) (.int .i64 i)) k pn w := SemV.of (run_idxA ht he (by omega) (by omega) w) hk
theorem tixA {t e : TypeId} {N : Nat} {z : Value} {sz by' : Nat} [ht : ArrT P t N e] [he : Elem P e z sz by'] {D : Nat → Prop} {k : Value → Prop} {b o : Nat} {i : Nat} (h1 : i < N) (hk : k (.pointer (some ⟨b, o + i * sz, none⟩))) :
    TakeS P (Instr.indexAt t (.pointer (some ⟨b, o, none⟩)) (.int .i64 i)) D k w := by
  rw [TakeS_iff]; exact ⟨_, fun w' _ => run_idxA ht he (by omega) (by omega) w', hk⟩
/-- a store into a block that is known: where it fits is to be shown -/
theorem rstK {t : TypeId} {n : Nat} [ht : Size P t n] {x : World} {b off : Nat} {cs : List Value} {e : TypeId} [B : Bk x b cs e] [L : Le x w] {v : Value} {vs : List Value} (hv : v.cells.toList = vs) (hn : vs.length = n) (hfit : off + n ≤ cs.length) (h1 : ∀ u ∈ vs, u.oneCell' = true)
    (hk : ∀ w', Bk w' b (splice cs off vs) e → Fr (fun i => i = b) w w' → w'.heap.size = w.heap.size → k undef w') : SemU P (Instr.storeAt t (.pointer (some ⟨b, off, none⟩)) v) k pn w :=
  rst (Bk.up B) hv hn (by simpa using hfit) h1 fun w' a f s => hk w' ⟨by simpa using a⟩ f s
theorem rldK {t : TypeId} [ht : One P t] {x : World} {b o : Nat} {cs : List Value} {e : TypeId} [B : Bk x b cs e] [L : Le x w] {v : Value} (hv : cs[o]? = some v) (hk : k v w) : SemV P (Instr.loadAt t (.pointer (some ⟨b, o, none⟩))) k pn w :=
  rld (B := B) (L := L) (by rw [nth_eq]; exact hv) hk
theorem tldK {t : TypeId} [ht : One P t] {x : World} {b o : Nat} {cs : List Value} {e : TypeId} [B : Bk x b cs e] [L : Le x w] {D : Nat → Prop} {k : Value → Prop} {v : Value} (hv : cs[o]? = some v) (hd : ¬ D b) (hk : k v) : TakeS P (Instr.loadAt t (.pointer (some ⟨b, o, none⟩))) D k w :=
  tld (B := B) (L := L) (by rw [nth_eq]; exact hv) hd hk
theorem splice1 (cs : List Value) (i : Nat) (v : Value) (h : i < cs.length) : splice cs i [v] = cs.set i v := by
  unfold splice; rw [List.set_eq_take_append_cons_drop, if_pos h]; simp
theorem Nx.lt {w w' : World} {b : Nat} (n : Nx w w' b) : b < w'.heap.size := by have := n.b; have := n.s; omega
end

/-! loops whose ways out meet -/
section
variable {P : Program} {T : Tab} {n : Nat}
/-- what holds where the loop is left by exit i0 -/
def KS.at (Q : KS) (i0 : Nat) (J : (Nat → Value) → World → Prop) : KS := { Q with ext := fun i F w => match Nat.beq i i0 with | true => J F w | false => Q.ext i F w }
theorem loopLJ (hT : T.ok P = true) (i0 : Nat) (m : Nat) (keep slots : List Nat) (I J : List Value → World → Prop) (μ : List Value → World → Nat) {body : Code} {Q : KS} {F : Nat → Value} {w : World}
    (hok : okB m keep slots body = true) (h0 : I (mapF F slots) w)
    (hr : ∀ vs g w, vs.length = slots.length → I vs w → S P T n body
      { Q.at i0 (fun F' w' => J (mapF F' slots) w') with nrm := fun F' w' => I (mapF F' slots) w' ∧ μ (mapF F' slots) w' < μ vs w } (hdF m keep (zipS slots vs) g F) w)
    (hx : ∀ vs g w, vs.length = slots.length → J vs w → Q.ext i0 (hdF m keep (zipS slots vs) g F) w) : DeepS P T n (.loop body) Q F w := by
  have h := loopL hT m keep slots I μ (Q := Q.at i0 (fun F' w' => J (mapF F' slots) w')) hok h0 hr
  rw [DeepS_iff] at h ⊢
  intro md hmd a ha
  refine Code.wpIn_mono ?_ (h md hmd a ha)
  intro e a' w' hq
  cases e <;> simp only [KS.lift, KS.at] at hq ⊢ <;> try exact hq
  rename_i i
  obtain ⟨F', h1, h2, h3⟩ := hq
  refine ⟨F', h1, h2, ?_⟩
  split at h3
  · rename_i hb
    obtain rfl := Nat.eq_of_beq_eq_true hb
    have hlen : ∀ l, (mapF F' l).length = l.length := by intro l; induction l <;> simp_all [mapF]
    have := hx (mapF F' slots) F' w' (hlen slots) h3
    rwa [hd_again hok (c := body) h2] at this
  · exact h3
theorem cntJ (hT : T.ok P = true) (i0 : Nat) (m : Nat) (keep : List Nat) (s : Nat) (N : Nat) (I J : Nat → World → Prop) {body : Code} {Q : KS} {F : Nat → Value} {w : World}
    (hok : okB m keep [s] body = true) (hs : F s = .int .i64 0) (h0 : I 0 w)
    (hr : ∀ (k : Nat) g w, k ≤ N → I k w → S P T n body { Q.at i0 (fun F' w' => ∃ k : Nat, F' s = .int .i64 k ∧ J k w') with nrm := fun F' w' => F' s = .int .i64 ((k : Int) + 1) ∧ k < N ∧ I (k + 1) w' } (hdF m keep [(s, .int .i64 k)] g F) w)
    (hx : ∀ (k : Nat) g w, J k w → Q.ext i0 (hdF m keep [(s, .int .i64 k)] g F) w) : DeepS P T n (.loop body) Q F w := by
  refine loopLJ hT i0 m keep [s] (fun vs w => ∃ k : Nat, k ≤ N ∧ vs = [.int .i64 k] ∧ I k w) (fun vs w => ∃ k : Nat, vs = [.int .i64 k] ∧ J k w) (fun vs _ => match vs with | [v] => N - (Go.RowKit.intOf v).toNat | _ => 0) hok ⟨0, by omega, by simp [mapF, hs], h0⟩ ?_ ?_
  · rintro vs g w _ ⟨k, hk, rfl, hi⟩
    refine S_mono _ _ _ _ _ (hr k g w hk hi) ?_ ?_ (fun _ _ _ h => h) (fun _ _ _ _ h => h)
    · intro G w' _ h
      obtain ⟨h1, h2, h3⟩ := h
      refine ⟨⟨k + 1, h2, by simp [mapF, h1], h3⟩, ?_⟩
      show N - (Go.RowKit.intOf (G s)).toNat < N - _
      rw [h1]
      show N - ((k : Int) + 1).toNat < N - ((k : Int)).toNat
      omega
    · intro i G w' _ h
      simp only [KS.at] at h ⊢
      split at h
      · obtain ⟨k', h1, h2⟩ := h
        exact ⟨k', by simp [mapF, h1], h2⟩
      · exact h
  · rintro vs g w _ ⟨k, rfl, hj⟩
    exact hx k g w hj
end
section
variable {α : Type}
theorem sl_take {l : List α} {j : Nat} : ((l.drop (Option.getD none 0)).take ((some j).getD l.length - Option.getD none 0)) = l.take j := by simp
theorem sl_drop {l : List α} {j : Nat} : ((l.drop ((some j).getD 0)).take (Option.getD none l.length - (some j).getD 0)) = l.drop j := by
  simp only [Option.getD_some, Option.getD_none]; exact List.take_of_length_le (by simp)
end
section
variable {α : Type} [Enc α] {P : Program} {k : Value → World → Prop} {pn : List PanicEntry → World → Prop} {w u : World}
/-- a part of a slice that was read in an elder world -/
theorem rslB {t e : TypeId} {z : Value} {by' : Nat} [ht : SlT P t e] [he : Elem P e z (Enc.sz α) by'] {a : Option Addr} {n c : Nat} {l : List α} (lo hi : Option Nat) (h : SlF u (.slice a n c) l) (h1 : lo.getD 0 ≤ hi.getD n) (h2 : hi.getD n ≤ n)
    (hk : ∀ a' c', SlF u (.slice a' (hi.getD n - lo.getD 0) c') ((l.drop (lo.getD 0)).take (hi.getD n - lo.getD 0)) → k (.slice a' (hi.getD n - lo.getD 0) c') w) : SemV P (Instr.sliceAt t (.slice a n c) (loV lo) (loV hi) none) k pn w := by
  have hnc : n ≤ c := by obtain ⟨a', c', hv, hc, _⟩ := h; cases hv; exact hc
  exact SemV.of (run_slice ht he lo hi h1 (by omega) w) (hk _ _ (h.part _ _ h1 h2))
theorem tslB {t e : TypeId} {z : Value} {by' : Nat} [ht : SlT P t e] [he : Elem P e z (Enc.sz α) by'] {D : Nat → Prop} {k : Value → Prop} {a : Option Addr} {n c : Nat} {l : List α} (lo hi : Option Nat) (h : SlF u (.slice a n c) l) (h1 : lo.getD 0 ≤ hi.getD n) (h2 : hi.getD n ≤ n)
    (hk : ∀ a' c', SlF u (.slice a' (hi.getD n - lo.getD 0) c') ((l.drop (lo.getD 0)).take (hi.getD n - lo.getD 0)) → k (.slice a' (hi.getD n - lo.getD 0) c')) : TakeS P (Instr.sliceAt t (.slice a n c) (loV lo) (loV hi) none) D k w := by
  have hnc : n ≤ c := by obtain ⟨a', c', hv, hc, _⟩ := h; cases hv; exact hc
  rw [TakeS_iff]
  exact ⟨_, fun w' _ => run_slice ht he lo hi h1 (by omega) w', hk _ _ (h.part _ _ h1 h2)⟩
end
/-- a slice value that is whole -/
theorem SV.eta {s : SV} {a : Option Addr} {n c : Nat} (h : s.v = .slice a n c) : s = ⟨a, n, c⟩ := by cases s; simp only [SV.v] at h; cases h; rfl
theorem one_sv (s : SV) : s.v.oneCell' = true := rfl
def svOf : Value → SV
  | .slice a n c => ⟨a, n, c⟩
  | _ => ⟨none, 0, 0⟩
theorem svOf_v {w : World} {α : Type} [Enc α] {v : Value} {l : List α} (h : SlF w v l) : (svOf v).v = v := by obtain ⟨a, c, rfl⟩ := h.shape; rfl

/-- numbers as they lie in cells of a struct: a pool -/
structure RPool where
  size : Int
  free : SV
instance : Enc RPool := ⟨2, fun x => [.int .i64 x.size, .slice x.free.a x.free.n x.free.c], fun _ => rfl, by intro x u hu; simp at hu; rcases hu with rfl | rfl <;> rfl, by decide⟩
end Go.W
