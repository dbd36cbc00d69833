/-
  Proved here: what is written is told by kinds of blocks and some blocks by themselves.
  Conditions: those that each fact names.
-/
import Derived.Test.YtgplodgpbhddbaaW25
namespace Go.W
open Go
open Enc (enc)

/-- what is written: blocks of X, and blocks from B on of these kinds -/
abbrev FrX (X : Nat → Prop) (B : Nat) (es : List TypeId) (w w' : World) : Prop := Fr (fun i => X i ∨ Ty B es w i) w w'
theorem FrX.refl (X : Nat → Prop) (B : Nat) (es : List TypeId) (w : World) : FrX X B es w w := Fr.refl _ w
theorem FrX.trans {X : Nat → Prop} {B : Nat} {es : List TypeId} {a b c : World} (h : FrX X B es a b) (k : FrX X B es b c) : FrX X B es a c := by
  refine ⟨k.os.trans h.os, k.tape.trans h.tape, k.output.trans h.output, Nat.le_trans h.size k.size, fun i hi hd => ?_, fun i o hi ho => k.nc i o (h.nc i o hi ho) ho⟩
  have e := h.block i hi hd
  rw [k.block i (Nat.lt_of_lt_of_le hi h.size) (fun h' => hd (h'.imp id fun ⟨h1, o, t, h2, h3⟩ => ⟨h1, o, t, by rw [← e]; exact h2, h3⟩)), e]
theorem FrT.x {X : Nat → Prop} {B B' : Nat} {es es' : List TypeId} {a b : World} (h : FrT B es a b) (hB : B' ≤ B) (he : ∀ e ∈ es, e ∈ es') : FrX X B' es' a b := Fr.mono (FrT.mono h hB he) fun _ _ h => .inr h
theorem FrX.ext {X : Nat → Prop} {B : Nat} {es : List TypeId} {a b : World} (h : Ext a b) : FrX X B es a b := h.fr
theorem FrX.st {X : Nat → Prop} {B : Nat} {es : List TypeId} {a b c : World} (h : Ext a b) (k : FrX X B es b c) (hB : a.heap.size ≤ B) (hX : ∀ i, X i → a.heap.size ≤ i) : Ext a c := Fr.st h k fun i hi => hi.elim (hX i) fun hi => Nat.le_trans hB hi.1
theorem Bk.keptX {X : Nat → Prop} {B : Nat} {es : List TypeId} {w w' : World} {b : Nat} {cs : List Value} {e : TypeId} (k : Bk w b cs e) (f : FrX X B es w w') (hX : ¬ X b) (he : e ∉ es) : Bk w' b cs e :=
  k.fr f fun hd => hd.elim hX fun hd => he (hd.cells k.h)
section
variable {α : Type} [Enc α]
theorem Own.keptX {X : Nat → Prop} {B C : Nat} {es : List TypeId} {w w' : World} {e : TypeId} {v : Value} {l : List α} (h : Own C e w v l) (f : FrX X B es w w') (hX : ∀ g, C ≤ g → Value.blk v = some g → ¬ X g) (he : e ∉ es) : Own C e w' v l := by
  rcases h with h | h
  · exact .inl h
  · refine .inr ⟨h.1, ?_⟩
    rcases h.2 with hn | ⟨g, cap, cur, rfl, hb, hg, rest⟩
    · exact .inl hn
    · exact .inr ⟨g, cap, cur, rfl, hb, f.blk hg fun hd => hd.elim (hX g hb rfl) fun hd => he (hd.cells hg), rest⟩
theorem SlY.keptX {X : Nat → Prop} {B : Nat} {e : TypeId} {es : List TypeId} {w w' : World} {v : Value} {l : List α} (h : SlY e w v l) (f : FrX X B es w w') (hX : ∀ g, Value.blk v = some g → ¬ X g) (he : e ∉ es) : SlY e w' v l :=
  h.fr f fun g _ _ hg hc hd => hd.elim (hX g hg) fun hd => he (hd.cells hc)
theorem Own.wroteX {X : Nat → Prop} {B C : Nat} {es : List TypeId} {w w' : World} {e : TypeId} {v : Value} {l : List α} (_ : Own C e w v l) (f : Fr (ownD C v) w w') (hX : ∀ g, Value.blk v = some g → X g) : FrX X B es w w' :=
  Fr.mono f fun i _ hd => .inl (hX i hd.2.1)
theorem SlY.blkN {e : TypeId} {w : World} {v : Value} {l : List α} (h : SlY e w v l) (hl : l ≠ []) : ∃ g, Value.blk v = some g ∧ g < w.heap.size := by
  rcases h.2 with h | ⟨b, cs, z, hb, hc⟩
  · exact absurd h hl
  · exact ⟨b, hb, blk_lt hc⟩
theorem SlY.frN {e : TypeId} {D : Nat → Prop} {w w' : World} {v : Value} {l : List α} (h : SlY e w v l) (f : Fr D w w') (hd : ∀ g, l ≠ [] → Value.blk v = some g → ¬ D g) : SlY e w' v l := by
  by_cases hl : l = []
  · subst hl
    obtain ⟨a, c, rfl, hc, _⟩ := h.1
    exact ⟨⟨a, c, rfl, hc, .inl rfl⟩, .inl rfl⟩
  · exact h.fr f fun g _ _ hg _ => hd g hl hg
end
section
variable {P : Program} {kt : TypeId} {κ : Type} [DecidableEq κ] [M : MKey P kt κ] {k : Value → World → Prop} {pn : List PanicEntry → World → Prop} {w : World}
/-- a map made, as the walk meets it -/
theorem rmkN {o : Oper} {F : Nat → Value} {t : TypeId} (ho : o.op = .makeMap t none) (hk : ∀ b w', Nx w w' b → MapL P kt w' b ([] : List (κ × Value)) → k (.map (some b)) w') : NextS P (execOp (ev F) o) k pn w := by
  have e : (execOp (ev F) o).run P w = .ok (.value (.map (some w.heap.size))) (w.alloc (.map #[] 0)) := by
    unfold execOp
    simp only [ho]
    rfl
  rw [NextS_iff, e]
  exact hk _ _ (Nx.mk' w _) ⟨⟨#[], 0, heap_alloc_new w _, rfl⟩, .nil⟩
end
end Go.W
