/-
  Proved here: what is written is told by the kinds of blocks: rows and cells of other kinds stay.
  Conditions: those that each fact names.
-/
import Derived.Test.YtgplodgpbhddbaaW20
namespace Go.W
open Go
open Enc (enc)

/-- what is written last lies in blocks that a does not have -/
theorem Fr.new {D E : Nat → Prop} {a b c : World} (h : Fr D a b) (k : Fr E b c) (hd : ∀ i, E i → a.heap.size ≤ i) : Fr D a c :=
  ⟨k.os.trans h.os, k.tape.trans h.tape, k.output.trans h.output, Nat.le_trans h.size k.size, fun i hi hn => (k.block i (Nat.lt_of_lt_of_le hi h.size) fun hx => by have := hd i hx; omega).trans (h.block i hi hn), fun i o hi ho => k.nc i o (h.nc i o hi ho) ho⟩
/-- the kind of a block: of cells their type; maps have one of their own -/
abbrev mapK : TypeId := 4294967296
def kindO : Obj → Option TypeId
  | .cells _ e _ => some e
  | .map _ _ => some mapK
  | _ => none
/-- blocks from B on, of these kinds, as w has them -/
def Ty (B : Nat) (es : List TypeId) (w : World) : Nat → Prop := fun i => B ≤ i ∧ ∃ o e, w.heap[i]? = some o ∧ kindO o = some e ∧ e ∈ es
theorem Ty.cells {B : Nat} {es : List TypeId} {w : World} {i : Nat} {cs : Array Value} {e : TypeId} {z : Nat × Nat} (h : Ty B es w i) (hc : w.heap[i]? = some (.cells cs e z)) : e ∈ es := by
  obtain ⟨_, o, e', h1, h2, h3⟩ := h
  rw [hc] at h1; cases h1; cases h2; exact h3
theorem Ty.map {B : Nat} {es : List TypeId} {w : World} {i : Nat} {m : Array MapEntry} {c : Nat} (h : Ty B es w i) (hc : w.heap[i]? = some (.map m c)) : mapK ∈ es := by
  obtain ⟨_, o, e', h1, h2, h3⟩ := h
  rw [hc] at h1; cases h1; cases h2; exact h3
theorem Ty.mk {B : Nat} {es : List TypeId} {w : World} {i : Nat} {cs : Array Value} {e : TypeId} {z : Nat × Nat} (hB : B ≤ i) (hc : w.heap[i]? = some (.cells cs e z)) (he : e ∈ es) : Ty B es w i := ⟨hB, _, e, hc, rfl, he⟩
theorem Ty.mkM {B : Nat} {es : List TypeId} {w : World} {i : Nat} {m : Array MapEntry} {c : Nat} (hB : B ≤ i) (hc : w.heap[i]? = some (.map m c)) (he : mapK ∈ es) : Ty B es w i := ⟨hB, _, mapK, hc, rfl, he⟩
abbrev FrT (B : Nat) (es : List TypeId) (w w' : World) : Prop := Fr (Ty B es w) w w'
theorem FrT.refl (B : Nat) (es : List TypeId) (w : World) : FrT B es w w := Fr.refl _ w
theorem FrT.trans {B : Nat} {es : List TypeId} {a b c : World} (h : FrT B es a b) (k : FrT B es b c) : FrT B es a c := by
  refine ⟨k.os.trans h.os, k.tape.trans h.tape, k.output.trans h.output, Nat.le_trans h.size k.size, fun i hi hd => ?_, fun i o hi ho => k.nc i o (h.nc i o hi ho) ho⟩
  have e := h.block i hi hd
  rw [k.block i (Nat.lt_of_lt_of_le hi h.size) (fun ⟨h1, o, t, h2, h3⟩ => hd ⟨h1, o, t, by rw [← e]; exact h2, h3⟩), e]
theorem FrT.mono {B B' : Nat} {es es' : List TypeId} {a b : World} (h : FrT B es a b) (hB : B' ≤ B) (he : ∀ e ∈ es, e ∈ es') : FrT B' es' a b :=
  Fr.mono h fun _ _ ⟨h1, o, t, h2, h3, h4⟩ => ⟨Nat.le_trans hB h1, o, t, h2, h3, he t h4⟩
theorem FrT.ext {B : Nat} {es : List TypeId} {a b : World} (h : Ext a b) : FrT B es a b := h.fr
/-- behind u, whose blocks all lie below B -/
theorem FrT.st {B : Nat} {es : List TypeId} {a b c : World} (h : Ext a b) (k : FrT B es b c) (hB : a.heap.size ≤ B) : Ext a c := Fr.st h k fun _ hi => Nat.le_trans hB hi.1
theorem FrT.stw {B : Nat} {es : List TypeId} {u b c : World} (k : FrT B es b c) (hB : u.heap.size ≤ B) : Stw u b c := Fr.stw k fun _ hi => Nat.le_trans hB hi.1
theorem Bk.kept {B : Nat} {es : List TypeId} {w w' : World} {b : Nat} {cs : List Value} {e : TypeId} (k : Bk w b cs e) (f : FrT B es w w') (he : e ∉ es) : Bk w' b cs e := by
  exact k.fr f fun hd => he (hd.cells k.h)
theorem Bk.wrote {B : Nat} {es : List TypeId} {w w' : World} {b : Nat} {cs : List Value} {e : TypeId} (k : Bk w b cs e) (f : Fr (fun i => i = b) w w') (hB : B ≤ b) (he : e ∈ es) : FrT B es w w' :=
  f.mono fun i _ hi => by subst hi; exact .mk hB k.h he
section
variable {α : Type} [Enc α]
theorem Own.kept {B C : Nat} {es : List TypeId} {w w' : World} {e : TypeId} {v : Value} {l : List α} (h : Own C e w v l) (f : FrT B es w w') (he : e ∉ es) : Own C e w' v l := by
  rcases h with h | h
  · exact .inl h
  · refine .inr ⟨h.1, ?_⟩
    rcases h.2 with hn | ⟨g, cap, cur, rfl, hb, hg, rest⟩
    · exact .inl hn
    · refine .inr ⟨g, cap, cur, rfl, hb, f.blk hg fun hd => he (hd.cells hg), rest⟩
theorem Own.wrote {B C : Nat} {es : List TypeId} {w w' : World} {e : TypeId} {v : Value} {l : List α} (h : Own C e w v l) (f : Fr (ownD C v) w w') (hB : B ≤ C) (he : e ∈ es) : FrT B es w w' := by
  refine f.mono fun i hi hd => ?_
  rcases h with ⟨_, a, rfl⟩ | h
  · exact absurd rfl (hd.2.2 a)
  · rcases h.2 with ⟨rfl, _⟩ | ⟨g, cap, cur, rfl, hb, hg, _⟩
    · cases hd.2.1
    · have h2 := hd.2.1
      simp only [Value.blk] at h2; cases h2
      exact .mk (Nat.le_trans hB hb) hg he
/-- a row that can be read, of blocks below B -/
theorem SlF.kept {B : Nat} {es : List TypeId} {w w' : World} {v : Value} {l : List α} (h : SlF w v l) (f : FrT B es w w') (hb : ∀ b, Value.blk v = some b → b < B) : SlF w' v l :=
  h.fr f fun b hv hd => by have := hb b hv; have := hd.1; omega
end
/-- a block of another kind stays -/
theorem FrT.ne {B : Nat} {es : List TypeId} {w w' : World} {b : Nat} {cs : List Value} {e : TypeId} (f : FrT B es w w') (k : Bk w b cs e) (he : e ∉ es) : Fr (fun i => i ≠ b) w w' :=
  Fr.mono f fun i _ hi => by
    rintro rfl
    exact he (hi.cells k.h)
section
variable {P : Program} {k : Value → World → Prop} {pn : List PanicEntry → World → Prop} {w : World}
theorem run_equal_pnil {t : TypeId} (ht : PtrT P t) (p : Option Addr) (w : World) : (Op.equal t (.pointer p) (.pointer none)).run P w = .ok p.isNone w := by
  obtain ⟨e, he⟩ := ht.h
  exact run_equalIn_pnil 9999 he p w
theorem run_pnnil {t : TypeId} (ht : PtrT P t) {X Y : Operand} (p : Option Addr) (w : World) : (do eqGuard .neq t X Y (.pointer p) (.pointer none); binOp .neq t (.pointer p) (.pointer none) : Sem Value).run P w = .ok (.bool (!p.isNone)) w := by
  have g : (eqGuard .neq t X Y (.pointer p) (.pointer none)).run P w = .ok () w := rfl
  rw [Sem.run_bind, g, Result.andThen_ok]
  simp only [binOp]
  rw [Sem.run_bind, run_equal_pnil ht p w]; rfl
theorem rpnnil {t : TypeId} [ht : PtrT P t] {X Y : Operand} {p : Option Addr} (hk : k (.bool (!p.isNone)) w) : SemV P (do eqGuard .neq t X Y (.pointer p) (.pointer none); binOp .neq t (.pointer p) (.pointer none)) k pn w :=
  SemV.of (run_pnnil ht p w) hk
theorem tpnil {t : TypeId} [ht : PtrT P t] {X Y : Operand} {p : Option Addr} {D : Nat → Prop} {k : Value → Prop} (hk : k (.bool p.isNone)) : TakeS P (do eqGuard .eql t X Y (.pointer p) (.pointer none); binOp .eql t (.pointer p) (.pointer none)) D k w := by
  rw [TakeS_iff]; exact ⟨_, fun w' _ => run_pnil ht p w', hk⟩
theorem tpnnil {t : TypeId} [ht : PtrT P t] {X Y : Operand} {p : Option Addr} {D : Nat → Prop} {k : Value → Prop} (hk : k (.bool (!p.isNone))) : TakeS P (do eqGuard .neq t X Y (.pointer p) (.pointer none); binOp .neq t (.pointer p) (.pointer none)) D k w := by
  rw [TakeS_iff]; exact ⟨_, fun w' _ => run_pnnil ht p w', hk⟩
end
section
variable {α : Type} [Enc α] {P : Program} {k : Value → World → Prop} {pn : List PanicEntry → World → Prop} {w : World}
/-- append, to a row of blocks from B on -/
theorem rappB {t ty e : TypeId} {z : Value} {sz by' : Nat} [ht : SlT P t e] [he : Elem P e z sz by'] {B : Nat} {v x : Value} {l m : List α} (hsz : Enc.sz α = sz ∧ z.cells.size = sz)
    (hO : Own B e w v l) (hS : SlF w x m) (hB : B ≤ w.heap.size) (hb : (l.length + m.length) * by' ≤ 140737488355328 ∧ l.length + m.length ≤ 9223372036854775807)
    (hk : ∀ v' w', Own B e w' v' (l ++ m) → Fr (ownD B v) w w' → k v' w') : SemV P (Builtin.append_ #[t, t] ty #[v, x]) k pn w := by
  obtain ⟨v', w', h1, h2, h3⟩ := run_app (ty := ty) ht he hsz.1 hsz.2 hO hS hb.1 (by unfold maxLen; omega) hB
  exact SemV.of h1 (hk _ _ h2 h3)
end
end Go.W
