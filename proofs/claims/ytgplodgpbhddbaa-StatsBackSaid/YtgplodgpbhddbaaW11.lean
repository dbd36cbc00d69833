/-
  Proved here: rules of strings, bools, greatest and least, and the data of requests.
  Conditions: those that each fact names.
-/
import Derived.Test.YtgplodgpbhddbaaW99
set_option linter.unusedSimpArgs false
namespace Go.W
open Go
open Enc (enc)

section
variable {P : Program} {k : Value → World → Prop} {pn : List PanicEntry → World → Prop} {w : World}
theorem beq_str (a b : ByteArray) : (a.toList == b.toList) = true ↔ a = b := by
  rw [beq_iff_eq, ByteArray.toList_eq, ByteArray.toList_eq]
  constructor
  · intro h
    have : a.data = b.data := Array.toList_inj.1 h
    cases a; cases b; simp_all
  · rintro rfl; rfl
theorem eqGuard_str (op : BinOp) (t : TypeId) (x y : Operand) (a b : ByteArray) (w : World) : (eqGuard op t x y (.string a) (.string b)).run P w = .ok () w := by
  cases op <;> rfl
theorem run_eql_str {t : TypeId} {x y : Operand} {a b : ByteArray} (w : World) : (do eqGuard .eql t x y (.string a) (.string b); binOp .eql t (.string a) (.string b) : Sem Value).run P w = .ok (.bool (a.toList == b.toList)) w := by
  rw [Sem.run_bind, eqGuard_str]; simp [binOp_string_eql]
theorem run_neq_str {t : TypeId} {x y : Operand} {a b : ByteArray} (w : World) : (do eqGuard .neq t x y (.string a) (.string b); binOp .neq t (.string a) (.string b) : Sem Value).run P w = .ok (.bool (!(a.toList == b.toList))) w := by
  rw [Sem.run_bind, eqGuard_str]; simp [binOp_string_neq]
theorem run_two {s : Sem Value} {p : Prop} (b : Bool) (h : s.run P w = .ok (.bool b) w) (hb : b = true ↔ p) (h1 : p → k (.bool true) w) (h2 : ¬ p → k (.bool false) w) : SemV P s k pn w := by
  refine SemV.of h ?_
  cases b
  · exact h2 fun hp => by have := hb.2 hp; cases this
  · exact h1 (hb.1 rfl)
theorem take_two {s : Sem Value} {p : Prop} {D : Nat → Prop} {k : Value → Prop} (b : Bool) (h : ∀ w', s.run P w' = .ok (.bool b) w') (hb : b = true ↔ p) (h1 : p → k (.bool true)) (h2 : ¬ p → k (.bool false)) : TakeS P s D k w := by
  rw [TakeS_iff]
  refine ⟨_, fun w' _ => h w', ?_⟩
  cases b
  · exact h2 fun hp => by have := hb.2 hp; cases this
  · exact h1 (hb.1 rfl)
theorem beq_not {b : Bool} {p : Prop} (h : b = true ↔ p) : (!b) = true ↔ ¬ p := by cases b <;> simp_all
theorem rseq {t : TypeId} {x y : Operand} {a b : ByteArray} (h1 : a = b → k (.bool true) w) (h2 : a ≠ b → k (.bool false) w) : SemV P (do eqGuard .eql t x y (.string a) (.string b); binOp .eql t (.string a) (.string b)) k pn w :=
  run_two _ (run_eql_str w) (beq_str a b) h1 h2
theorem rsne {t : TypeId} {x y : Operand} {a b : ByteArray} (h1 : a ≠ b → k (.bool true) w) (h2 : a = b → k (.bool false) w) : SemV P (do eqGuard .neq t x y (.string a) (.string b); binOp .neq t (.string a) (.string b)) k pn w :=
  run_two _ (run_neq_str w) (beq_not (beq_str a b)) h1 fun h => h2 (Classical.not_not.1 h)
theorem tseq {t : TypeId} {x y : Operand} {a b : ByteArray} {D : Nat → Prop} {k : Value → Prop} (h1 : a = b → k (.bool true)) (h2 : a ≠ b → k (.bool false)) : TakeS P (do eqGuard .eql t x y (.string a) (.string b); binOp .eql t (.string a) (.string b)) D k w :=
  take_two _ (fun w' => run_eql_str w') (beq_str a b) h1 h2
theorem tsne {t : TypeId} {x y : Operand} {a b : ByteArray} {D : Nat → Prop} {k : Value → Prop} (h1 : a ≠ b → k (.bool true)) (h2 : a = b → k (.bool false)) : TakeS P (do eqGuard .neq t x y (.string a) (.string b); binOp .neq t (.string a) (.string b)) D k w :=
  take_two _ (fun w' => run_neq_str w') (beq_not (beq_str a b)) h1 fun h => h2 (Classical.not_not.1 h)
theorem run_equalIn_bool (d : Nat) {t : TypeId} (ht : P.underlying t = some .bool) (a b : Bool) (w : World) : (Op.equalIn (d + 1) t (.bool a) (.bool b)).run P w = .ok (a == b) w := by
  simp [Op.equalIn, run_underlying ht]
theorem run_eql_bool {t : TypeId} (ht : P.underlying t = some .bool) (a b : Bool) (w : World) : (binOp .eql t (.bool a) (.bool b)).run P w = .ok (.bool (a == b)) w := by
  simp only [binOp]
  simp [Op.equal, Op.maxDepth, run_equalIn_bool 9999 ht]
theorem run_neq_bool {t : TypeId} (ht : P.underlying t = some .bool) (a b : Bool) (w : World) : (binOp .neq t (.bool a) (.bool b)).run P w = .ok (.bool (!(a == b))) w := by
  simp only [binOp]
  simp [Op.equal, Op.maxDepth, run_equalIn_bool 9999 ht]
class BoolT (P : Program) (t : TypeId) : Prop where
  h : P.underlying t = some .bool
theorem run_beq {t : TypeId} (ht : BoolT P t) {x y : Operand} {a b : Bool} (w : World) : (do eqGuard .eql t x y (.bool a) (.bool b); binOp .eql t (.bool a) (.bool b) : Sem Value).run P w = .ok (.bool (a == b)) w := by
  rw [Sem.run_bind, show (eqGuard .eql t x y (.bool a) (.bool b)).run P w = .ok () w from rfl, Result.andThen_ok, run_eql_bool ht.h]
theorem run_bne {t : TypeId} (ht : BoolT P t) {x y : Operand} {a b : Bool} (w : World) : (do eqGuard .neq t x y (.bool a) (.bool b); binOp .neq t (.bool a) (.bool b) : Sem Value).run P w = .ok (.bool (!(a == b))) w := by
  rw [Sem.run_bind, show (eqGuard .neq t x y (.bool a) (.bool b)).run P w = .ok () w from rfl, Result.andThen_ok, run_neq_bool ht.h]
theorem rbeq {t : TypeId} [ht : BoolT P t] {x y : Operand} {a b : Bool} (h1 : a = b → k (.bool true) w) (h2 : a ≠ b → k (.bool false) w) : SemV P (do eqGuard .eql t x y (.bool a) (.bool b); binOp .eql t (.bool a) (.bool b)) k pn w :=
  run_two _ (run_beq ht w) beq_iff_eq h1 h2
theorem rbne {t : TypeId} [ht : BoolT P t] {x y : Operand} {a b : Bool} (h1 : a ≠ b → k (.bool true) w) (h2 : a = b → k (.bool false) w) : SemV P (do eqGuard .neq t x y (.bool a) (.bool b); binOp .neq t (.bool a) (.bool b)) k pn w :=
  run_two _ (run_bne ht w) (beq_not beq_iff_eq) h1 fun h => h2 (Classical.not_not.1 h)
theorem tbeq {t : TypeId} [ht : BoolT P t] {x y : Operand} {a b : Bool} {D : Nat → Prop} {k : Value → Prop} (h1 : a = b → k (.bool true)) (h2 : a ≠ b → k (.bool false)) : TakeS P (do eqGuard .eql t x y (.bool a) (.bool b); binOp .eql t (.bool a) (.bool b)) D k w :=
  take_two _ (fun w' => run_beq ht w') beq_iff_eq h1 h2
theorem tbne {t : TypeId} [ht : BoolT P t] {x y : Operand} {a b : Bool} {D : Nat → Prop} {k : Value → Prop} (h1 : a ≠ b → k (.bool true)) (h2 : a = b → k (.bool false)) : TakeS P (do eqGuard .neq t x y (.bool a) (.bool b); binOp .neq t (.bool a) (.bool b)) D k w :=
  take_two _ (fun w' => run_bne ht w') (beq_not beq_iff_eq) h1 fun h => h2 (Classical.not_not.1 h)
theorem rmax {at' : Array TypeId} {ty : TypeId} {x y : Int} (hk : k (.int .i64 (max x y)) w) : SemV P (Builtin.max_ at' ty #[.int .i64 x, .int .i64 y]) k pn w :=
  SemV.of (v := .int .i64 (max x y)) (w' := w) (by simp [Builtin.max_, Builtin.max2]; split <;> omega) hk
theorem rmin {at' : Array TypeId} {ty : TypeId} {x y : Int} (hk : k (.int .i64 (min x y)) w) : SemV P (Builtin.min_ at' ty #[.int .i64 x, .int .i64 y]) k pn w :=
  SemV.of (v := .int .i64 (min x y)) (w' := w) (by simp [Builtin.min_, Builtin.min2]; split <;> omega) hk
theorem tmax {at' : Array TypeId} {ty : TypeId} {x y : Int} {D : Nat → Prop} {k : Value → Prop} (hk : k (.int .i64 (max x y))) : TakeS P (Builtin.max_ at' ty #[.int .i64 x, .int .i64 y]) D k w := by
  rw [TakeS_iff]; exact ⟨.int .i64 (max x y), fun w' _ => by simp [Builtin.max_, Builtin.max2]; split <;> omega, hk⟩
end

/-- a struct as a value -/
abbrev agg {α : Type} [Enc α] (x : α) : Value := .agg (enc x).toArray
theorem agg_cells {α : Type} [Enc α] (x : α) : (agg x).cells = (enc x).toArray := rfl

/-! queries, requests, slots, as they lie -/
structure RQ where
  kind : Int
  frm : Int
  to : Int
  words : SV
  rad : Int
  most : Int
instance : Enc RQ := ⟨6, fun x => [.int .i64 x.kind, .int .i64 x.frm, .int .i64 x.to, x.words.v, .int .i64 x.rad, .int .i64 x.most], fun _ => rfl,
  by intro x u hu; simp [SV.v] at hu; rcases hu with h | h | h | h | h | h <;> subst h <;> rfl, by decide⟩
structure RReq where
  id : Int
  kind : Int
  q : RQ
instance : Enc RReq := ⟨8, fun x => .int .i64 x.id :: .int .i64 x.kind :: enc x.q, fun _ => rfl,
  by intro x u hu; simp at hu; rcases hu with h | h | h; (subst h; rfl); (subst h; rfl); exact Enc.one _ _ h, by decide⟩
structure RHeld where
  used : Bool
  r : RReq
instance : Enc RHeld := ⟨9, fun x => .bool x.used :: enc x.r, fun _ => rfl,
  by intro x u hu; simp at hu; rcases hu with h | h; (subst h; rfl); exact Enc.one _ _ h, by decide⟩
/-- the words that a slice of texts holds -/
abbrev Wd := SV → List ByteArray
def QOk (wd : Wd) (w : World) (q : RQ) : Prop := SlF w q.words.v (wd q.words)
theorem QOk.ext {wd : Wd} {w w' : World} {q : RQ} (h : QOk wd w q) (e : Ext w w') : QOk wd w' q := SlF.ext h e
def sameQ (wd : Wd) (a b : RQ) : Prop := a.kind = b.kind ∧ a.frm = b.frm ∧ a.to = b.to ∧ wd a.words = wd b.words ∧ a.rad = b.rad ∧ a.most = b.most
def sameR (wd : Wd) (a b : RReq) : Prop := a.id = b.id ∧ a.kind = b.kind ∧ sameQ wd a.q b.q
def sameH (wd : Wd) (a b : RHeld) : Prop := a.used = b.used ∧ sameR wd a.r b.r
theorem sameQ.refl (wd : Wd) (a : RQ) : sameQ wd a a := ⟨rfl, rfl, rfl, rfl, rfl, rfl⟩
theorem sameR.refl (wd : Wd) (a : RReq) : sameR wd a a := ⟨rfl, rfl, sameQ.refl wd _⟩
theorem sameH.refl (wd : Wd) (a : RHeld) : sameH wd a a := ⟨rfl, sameR.refl wd _⟩
/-- two rows alike, place by place -/
def Alike2 {α β : Type} (R : α → β → Prop) (l : List α) (m : List β) : Prop := l.length = m.length ∧ ∀ (i : Nat) (a : α) (b : β), l[i]? = some a → m[i]? = some b → R a b
theorem Alike2.nil {α β : Type} {R : α → β → Prop} : Alike2 R [] [] := ⟨rfl, by simp⟩
theorem Alike2.refl {α : Type} {R : α → α → Prop} (h : ∀ a, R a a) (l : List α) : Alike2 R l l := ⟨rfl, fun i a b ha hb => by rw [ha] at hb; cases hb; exact h a⟩
theorem Alike2.take {α β : Type} {R : α → β → Prop} {l : List α} {m : List β} {k : Nat} (h : Alike2 R (l.take k) (m.take k)) (hl : k < l.length) (hm : k < m.length) (hr : R l[k] m[k]) : Alike2 R (l.take (k + 1)) (m.take (k + 1)) := by
  refine ⟨by simp; omega, fun i a b ha hb => ?_⟩
  rw [List.getElem?_take] at ha hb
  by_cases hi : i < k
  · refine h.2 i a b ?_ ?_
    · rw [List.getElem?_take, if_pos hi]; rw [if_pos (by omega)] at ha; exact ha
    · rw [List.getElem?_take, if_pos hi]; rw [if_pos (by omega)] at hb; exact hb
  · split at ha
    · obtain rfl : i = k := by omega
      rw [if_pos (by omega)] at hb
      rw [List.getElem?_eq_getElem hl] at ha; rw [List.getElem?_eq_getElem hm] at hb
      cases ha; cases hb; exact hr
    · cases ha
/-- the answer is whether p -/
def Tells (p : Prop) (v : Value) : Prop := (v = .bool true ∧ p) ∨ (v = .bool false ∧ ¬ p)
theorem Tells.t {p : Prop} (h : p) : Tells p (.bool true) := .inl ⟨rfl, h⟩
theorem Tells.f {p : Prop} (h : ¬ p) : Tells p (.bool false) := .inr ⟨rfl, h⟩
end Go.W
