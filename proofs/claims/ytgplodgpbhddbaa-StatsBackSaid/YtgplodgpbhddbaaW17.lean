/-
  Proved here: structs compared; remainders; pointers held against nil.
  Conditions: those that each fact names.
-/
import Derived.Test.YtgplodgpbhddbaaW16
import Derived.Laws.StructEq
namespace Go.W
open Go
open Enc (enc)

section
variable {P : Program} {k : Value → World → Prop} {pn : List PanicEntry → World → Prop} {w : World}
/-- remainders of numbers that are not below 0 -/
theorem rrem {kd : IntKind} {x y : Int} (h0 : 0 ≤ x) (h1 : 0 < y) (hk : k (.int kd (x % y)) w) : RemS kd x y k w := by
  rw [RemS_iff]; exact ⟨by omega, by rw [Int.tmod_eq_emod_of_nonneg h0]; exact hk⟩
theorem rdiv {x y : Int} (h0 : 0 ≤ x) (h1 : 0 < y) (h2 : x ≤ 9223372036854775807) (hk : k (.int .i64 (x / y)) w) : DivS .i64 x y k w := by
  rw [DivS_iff]
  refine ⟨by omega, ?_⟩
  rw [Int.tdiv_eq_ediv_of_nonneg h0]
  have a := Int.ediv_nonneg h0 (Int.le_of_lt h1)
  have b : x / y ≤ x := Int.ediv_le_self y h0
  rw [wrap_id (by omega) (by omega)]; exact hk

/-! structs -/
class IntT (P : Program) (t : TypeId) : Prop where
  h : ∃ kd, P.underlying t = some (.int kd)
def fldB (P : Program) (t : TypeId) (l : List (TypeId × Nat)) : Bool :=
  match P.underlying t with
  | some (.struct fs) => decide (fs.toList.map (fun f => (f.type, f.offset)) = l) && fs.toList.all (fun f => f.name != "_") && !P.stoodInHeld t
  | _ => false
def eqL (d : Nat) (xs ys : Array Value) : List (TypeId × Nat) → Sem Bool
  | [] => pure true
  | (t, o) :: r => do
    let a ← part t xs o
    let b ← part t ys o
    let e ← Op.equalIn d t a b
    if (!e) = true then pure false else eqL d xs ys r
theorem fields_eqL (d : Nat) (xs ys : Array Value) : ∀ (fs : List Field), fs.all (fun f => f.name != "_") = true → Op.eqFields d xs ys fs = eqL d xs ys (fs.map fun f => (f.type, f.offset))
  | [], _ => rfl
  | f :: fs, h => by
    simp only [List.all_cons, Bool.and_eq_true, bne_iff_ne, ne_eq] at h
    simp only [Op.eqFields, List.map_cons, eqL]
    rw [if_pos h.1, fields_eqL d xs ys fs (by simpa using h.2)]
theorem run_struct {t : TypeId} {l : List (TypeId × Nat)} (h : fldB P t l = true) (d : Nat) (xs ys : Array Value) (w : World) : (Op.equalIn (d + 1) t (.agg xs) (.agg ys)).run P w = (eqL d xs ys l).run P w := by
  unfold fldB at h
  split at h
  · rename_i fs hfs
    simp only [Bool.and_eq_true, decide_eq_true_eq, Bool.not_eq_true'] at h
    obtain ⟨⟨h1, h2⟩, h3⟩ := h
    have hf : P.fieldsOf t = fs := by unfold Program.fieldsOf; rw [hfs]
    rw [run_equalIn_struct w d t xs ys (by rw [hf]; exact hfs) h3, hf, fields_eqL d xs ys fs.toList h2, h1]
  · cases h
theorem eqL_nil (d : Nat) (xs ys : Array Value) (w : World) : (eqL d xs ys []).run P w = .ok true w := rfl
theorem part_one {t : TypeId} (ht : One P t) {cs : Array Value} {o : Nat} {v : Value} (h : cs[o]? = some v) (w : World) : (part t cs o).run P w = .ok v w := by
  unfold part
  simp only [Sem.run_bind, run_isAgg_one ht.h, Result.andThen_ok, Bool.false_eq_true, if_false, h, Sem.run_pure]
theorem part_agg {t n : Nat} (ht : Agg P t n) (cs : Array Value) (o : Nat) (w : World) : (part t cs o).run P w = .ok (.agg (cs.extract o (o + n))) w := by
  unfold part
  obtain ⟨h1, h2⟩ := agg_spec (w := w) ht.h
  simp only [Sem.run_bind, h1, Result.andThen_ok, if_true, h2, Sem.run_pure]
theorem eqL_int {t : TypeId} [ht : One P t] [hi : IntT P t] {d o : Nat} {xs ys : Array Value} {kd : IntKind} {a b : Int} {r : List (TypeId × Nat)} {c : Bool} {w : World} (ha : xs[o]? = some (.int kd a)) (hb : ys[o]? = some (.int kd b)) (hr : (eqL (d + 1) xs ys r).run P w = .ok c w) :
    (eqL (d + 1) xs ys ((t, o) :: r)).run P w = .ok ((a == b) && c) w := by
  obtain ⟨k', hk'⟩ := hi.h
  unfold eqL
  simp only [Sem.run_bind, part_one ht ha, part_one ht hb, Result.andThen_ok, run_equalIn_int w d t kd k' a b hk']
  cases h : (a == b) with
  | true => simpa using hr
  | false => simp
theorem eqL_agg {t n : Nat} [ht : Agg P t n] {d o : Nat} {xs ys : Array Value} {as bs : Array Value} {r : List (TypeId × Nat)} {c c' : Bool} {w : World} (ha : xs.extract o (o + n) = as) (hb : ys.extract o (o + n) = bs) (he : (Op.equalIn d t (.agg as) (.agg bs)).run P w = .ok c' w) (hr : (eqL d xs ys r).run P w = .ok c w) :
    (eqL d xs ys ((t, o) :: r)).run P w = .ok (c' && c) w := by
  unfold eqL
  simp only [Sem.run_bind, part_agg ht, Result.andThen_ok, ha, hb, he]
  cases c' with
  | true => simpa using hr
  | false => simp
/-- structs of this type are compared cell by cell -/
class EqT (P : Program) (t : TypeId) (α : Type) [Enc α] : Prop where
  guard : P.eqGuardType P.depth t = false
  eq : ∀ (d : Nat) (x y : α) (w : World), ∃ b : Bool, (Op.equalIn (d + 8) t (agg x) (agg y)).run P w = .ok b w ∧ (b = true ↔ x = y)
variable {α : Type} [Enc α]
theorem run_geq {t : TypeId} (ht : EqT P t α) {X Y : Operand} (x y : α) : ∃ b : Bool, (b = true ↔ x = y) ∧ ∀ w, (do eqGuard .eql t X Y (agg x) (agg y); binOp .eql t (agg x) (agg y) : Sem Value).run P w = .ok (.bool b) w := by
  classical
  refine ⟨decide (x = y), by simp, fun w => ?_⟩
  obtain ⟨b, h1, h2⟩ := ht.eq 9992 x y w
  have : b = decide (x = y) := by
    by_cases e : x = y
    · rw [h2.2 e]; simp [e]
    · cases b with
      | true => exact absurd (h2.1 rfl) e
      | false => simp [e]
  subst this
  rw [Sem.run_bind, run_eqGuard_agg w .eql t X Y _ _ ht.guard, Result.andThen_ok]
  show (binOp .eql t (.agg _) (.agg _)).run P w = _
  rw [run_eql_struct w t]
  have h1 : (Op.equalIn 10000 t (.agg (enc x).toArray) (.agg (enc y).toArray)).run P w = .ok _ w := h1
  rw [h1]; rfl
theorem run_gne {t : TypeId} (ht : EqT P t α) {X Y : Operand} (x y : α) : ∃ b : Bool, (b = true ↔ x ≠ y) ∧ ∀ w, (do eqGuard .neq t X Y (agg x) (agg y); binOp .neq t (agg x) (agg y) : Sem Value).run P w = .ok (.bool b) w := by
  classical
  refine ⟨!decide (x = y), by simp, fun w => ?_⟩
  obtain ⟨b, h1, h2⟩ := ht.eq 9992 x y w
  have : b = decide (x = y) := by
    by_cases e : x = y
    · rw [h2.2 e]; simp [e]
    · cases b with
      | true => exact absurd (h2.1 rfl) e
      | false => simp [e]
  subst this
  rw [Sem.run_bind, run_eqGuard_agg w .neq t X Y _ _ ht.guard, Result.andThen_ok]
  show (binOp .neq t (.agg _) (.agg _)).run P w = _
  rw [run_neq_struct w t]
  have h1 : (Op.equalIn 10000 t (.agg (enc x).toArray) (.agg (enc y).toArray)).run P w = .ok _ w := h1
  rw [h1]; rfl
theorem rgeq {t : TypeId} (α : Type) [Enc α] [ht : EqT P t α] {X Y : Operand} (x y : α) (h1 : x = y → k (.bool true) w) (h2 : x ≠ y → k (.bool false) w) : SemV P (do eqGuard .eql t X Y (agg x) (agg y); binOp .eql t (agg x) (agg y)) k pn w := by
  obtain ⟨b, hb, hr⟩ := run_geq ht (X := X) (Y := Y) x y
  refine SemV.of (hr w) ?_
  cases b with
  | true => exact h1 (hb.1 rfl)
  | false => exact h2 fun e => by have := hb.2 e; cases this
theorem rgne {t : TypeId} (α : Type) [Enc α] [ht : EqT P t α] {X Y : Operand} (x y : α) (h1 : x ≠ y → k (.bool true) w) (h2 : x = y → k (.bool false) w) : SemV P (do eqGuard .neq t X Y (agg x) (agg y); binOp .neq t (agg x) (agg y)) k pn w := by
  obtain ⟨b, hb, hr⟩ := run_gne ht (X := X) (Y := Y) x y
  refine SemV.of (hr w) ?_
  cases b with
  | true => exact h1 (hb.1 rfl)
  | false => exact h2 (Classical.not_not.1 fun e => by have := hb.2 e; cases this)
theorem tgeq {t : TypeId} (α : Type) [Enc α] [ht : EqT P t α] {X Y : Operand} {D : Nat → Prop} {k : Value → Prop} (x y : α) (h1 : x = y → k (.bool true)) (h2 : x ≠ y → k (.bool false)) : TakeS P (do eqGuard .eql t X Y (agg x) (agg y); binOp .eql t (agg x) (agg y)) D k w := by
  obtain ⟨b, hb, hr⟩ := run_geq ht (X := X) (Y := Y) x y
  rw [TakeS_iff]
  refine ⟨_, fun w' _ => hr w', ?_⟩
  cases b with
  | true => exact h1 (hb.1 rfl)
  | false => exact h2 fun e => by have := hb.2 e; cases this
theorem tgne {t : TypeId} (α : Type) [Enc α] [ht : EqT P t α] {X Y : Operand} {D : Nat → Prop} {k : Value → Prop} (x y : α) (h1 : x ≠ y → k (.bool true)) (h2 : x = y → k (.bool false)) : TakeS P (do eqGuard .neq t X Y (agg x) (agg y); binOp .neq t (agg x) (agg y)) D k w := by
  obtain ⟨b, hb, hr⟩ := run_gne ht (X := X) (Y := Y) x y
  rw [TakeS_iff]
  refine ⟨_, fun w' _ => hr w', ?_⟩
  cases b with
  | true => exact h1 (hb.1 rfl)
  | false => exact h2 (Classical.not_not.1 fun e => by have := hb.2 e; cases this)

theorem tixO {t e : TypeId} {z : Value} {sz by' : Nat} [ht : SlT P t e] [he : Elem P e z sz by'] (hsz : Enc.sz α = sz) {B : Nat} {D : Nat → Prop} {k : Value → Prop} {a : Option Addr} {n c i : Nat} {l : List α} {x : α} (h : Own B e w (.slice a n c) l) (hi : l[i]? = some x)
    (hk : ∀ g, Value.blk (.slice a n c) = some g → B ≤ g → At w g (i * sz) (enc x) → k (.pointer (some ⟨g, i * sz, none⟩))) : TakeS P (Instr.indexAt t (.slice a n c) (.int .i64 i)) D k w := by
  have hl : i < l.length := (List.getElem?_eq_some_iff.1 hi).1
  obtain ⟨g, cur, rfl, rfl, hb, hg, hnc, hcm, hcs, htake⟩ := h.blk (by intro h0; subst h0; simp at hl)
  rw [TakeS_iff]
  refine ⟨_, fun w' _ => run_idx ht he (b := g) (o := 0) (by omega) (by omega) w', ?_⟩
  obtain ⟨_, b, o, hbo, hat⟩ := h.sl.at hi
  cases hbo
  subst hsz
  have := hk g rfl hb (by simpa using hat)
  simpa using this
/-- a block of another kind is not that of a row -/
theorem Bk.notOwn {B B' : Nat} {e e' : TypeId} {v : Value} {l : List α} {b : Nat} {cs : List Value} (k : Bk w b cs e') (h : Own B e w v l) (hne : e ≠ e') : ¬ ownD B' v b := by
  intro hd
  rcases h with ⟨_, a, rfl⟩ | h
  · exact hd.2.2 a rfl
  · rcases h.2 with ⟨rfl, _⟩ | ⟨g, cap, cur, rfl, _, hg, _⟩
    · cases hd.2.1
    · have h2 := hd.2.1
      simp only [Value.blk] at h2; cases h2
      have := k.h; rw [hg] at this; cases this; exact hne rfl

/-! pointers held against nil -/
class PtrT (P : Program) (t : TypeId) : Prop where
  h : ∃ e, P.underlying t = some (.pointer e)
theorem run_equalIn_pnil (d : Nat) {t e : TypeId} (he : P.underlying t = some (.pointer e)) (p : Option Addr) (w : World) : (Op.equalIn (d + 1) t (.pointer p) (.pointer none)).run P w = .ok p.isNone w := by
  cases p <;> simp [Op.equalIn, run_underlying he]
theorem run_pnil {t : TypeId} (ht : PtrT P t) {X Y : Operand} (p : Option Addr) (w : World) : (do eqGuard .eql t X Y (.pointer p) (.pointer none); binOp .eql t (.pointer p) (.pointer none) : Sem Value).run P w = .ok (.bool p.isNone) w := by
  obtain ⟨e, he⟩ := ht.h
  have g : (eqGuard .eql t X Y (.pointer p) (.pointer none)).run P w = .ok () w := rfl
  rw [Sem.run_bind, g, Result.andThen_ok]
  simp only [binOp]
  rw [Sem.run_bind]
  have : (Op.equal t (.pointer p) (.pointer none)).run P w = .ok p.isNone w := by
    exact run_equalIn_pnil 9999 he p w
  rw [this]; rfl
theorem rpnil {t : TypeId} [ht : PtrT P t] {X Y : Operand} {p : Option Addr} (hk : k (.bool p.isNone) w) : SemV P (do eqGuard .eql t X Y (.pointer p) (.pointer none); binOp .eql t (.pointer p) (.pointer none)) k pn w :=
  SemV.of (run_pnil ht p w) hk
end
end Go.W
