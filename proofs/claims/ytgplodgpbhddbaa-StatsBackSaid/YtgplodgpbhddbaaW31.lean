/-
  Proved here: strings.Builder: texts written one behind the other, and told.
  Conditions: those that each fact names; the library's functions lie in the program.
-/
import Derived.Test.YtgplodgpbhddbaaW30
import Derived.Shelf.Strings.BuilderK
namespace Go.W
open Go Go.Proofs Go.Shelf
open Enc (enc)
/-- a builder that the call made (in blocks from B on) holds these bytes -/
def BldB (T e : TypeId) (B b : Nat) (l : List UInt8) (w : World) : Prop := Lib.IsBuilderF T e B b (Lib.byteCells l) w
theorem bld_new {T e : TypeId} {B b : Nat} {w : World} (hB : B ≤ b) (k : Bk w b [.pointer none, .slice none 0 0] T) : BldB T e B b [] w :=
  .inl ⟨hB, .slice none 0 0, k.h, World.ownsRowF_nil w B e 1, by simp [Value.ownBlock]⟩
theorem atF_fr {T e : TypeId} {B b : Nat} {p : Value} {bs : List Value} {D : Nat → Prop} {w w' : World} (h : Lib.BuilderAtF T e B b p bs w) (f : Fr D w w') (hd : ∀ i c t z, w.heap[i]? = some (.cells c t z) → (t = T ∧ i = b ∨ t = e ∧ B ≤ i) → ¬ D i) : Lib.BuilderAtF T e B b p bs w' := by
  obtain ⟨hB, v, hb, hown, hne⟩ := h
  refine ⟨hB, v, f.blk hb (hd _ _ _ _ hb (.inl ⟨rfl, rfl⟩)), ⟨hown.1, ?_⟩, hne⟩
  rcases hown.2 with hn | ⟨g, cap, cur, fz, rfl, hg, hgg, rest⟩
  · exact .inl hn
  · exact .inr ⟨g, cap, cur, fz, rfl, hg, f.blk hgg (hd _ _ _ _ hgg (.inr ⟨rfl, hg⟩)), rest⟩
theorem BldB.fr {T e : TypeId} {B b : Nat} {l : List UInt8} {D : Nat → Prop} {w w' : World} (h : BldB T e B b l w) (f : Fr D w w') (hd : ∀ i c t z, w.heap[i]? = some (.cells c t z) → (t = T ∧ i = b ∨ t = e ∧ B ≤ i) → ¬ D i) : BldB T e B b l w' := by
  rcases h with h | h
  · exact .inl (atF_fr h f hd)
  · exact .inr (atF_fr h f hd)
theorem BldB.up {T e : TypeId} {B b : Nat} {l : List UInt8} {w w' : World} [L : Le w w'] (h : BldB T e B b l w) : BldB T e B b l w' := h.fr L.e fun _ _ _ _ _ _ h => h
theorem BldB.kept {T e : TypeId} {B b C : Nat} {es : List TypeId} {l : List UInt8} {w w' : World} (h : BldB T e B b l w) (f : FrT C es w w') (hT : T ∉ es) (he : e ∉ es) : BldB T e B b l w' :=
  h.fr f fun i c t z hi ht hD => by
    have := hD.cells hi
    rcases ht with ⟨rfl, _⟩ | ⟨rfl, _⟩
    · exact hT this
    · exact he this
theorem BldB.lt {T e : TypeId} {B b : Nat} {l : List UInt8} {w : World} (h : BldB T e B b l w) : b < w.heap.size := by
  rcases h with ⟨_, v, hb, _⟩ | ⟨_, v, hb, _⟩ <;> exact blk_lt hb
theorem BldB.obj {T e : TypeId} {B b : Nat} {l : List UInt8} {w : World} (h : BldB T e B b l w) : ∃ c z, w.heap[b]? = some (.cells c T z) := by
  rcases h with ⟨_, v, hb, _⟩ | ⟨_, v, hb, _⟩ <;> exact ⟨_, _, hb⟩
theorem bld_frame {T e : TypeId} {B b : Nat} {l : List UInt8} {w w' : World} (h : BldB T e B b l w) (h1 : Go.RowKit.Below B w w') (h2 : Lib.OthersKept e (some b) w w') : FrX (fun i => i = b) B [e] w w' := by
  refine ⟨h1.os, h1.tape, h1.output, h1.size, fun i hi hd => ?_, fun i o ho hr => ?_⟩
  · obtain ⟨o, ho⟩ : ∃ o, w.heap[i]? = some o := ⟨_, Array.getElem?_eq_getElem hi⟩
    by_cases hB : i < B
    · exact h1.block i hB
    · rw [ho]
      refine h2 i o ho (fun he => hd (.inl (Option.some.inj he))) fun c fz he => hd (.inr ?_)
      subst he
      exact Ty.mk (by omega) ho (by simp)
  · obtain ⟨c, z, hb⟩ := h.obj
    refine h2 i o ho (fun he => ?_) fun c fz he => ?_
    · have : i = b := Option.some.inj he
      subst this
      rw [hb] at ho; cases ho; cases hr
    · subst he; cases hr
section
variable {P : Program}
theorem bld_write {ρ : Ren} (L : Lays.n166 P ρ) (X : Builder.Extra P ρ) {f : FuncId} {T e : TypeId} (hf : ρ.f 166 = f) (hT : ρ.t 72 = T) (he : ρ.t 5 = e) (hc : callable P f) {B b : Nat} {l m : List UInt8} {w : World} (h : BldB T e B b l w) (hB : B ≤ w.heap.size) (hlen : l.length + m.length ≤ 140737488355328) :
    Sp P f #[.pointer (some ⟨b, 0, none⟩), .string ⟨m.toArray⟩] w fun v w' => v = .tuple #[.int .i64 m.length, .nilIface] ∧ BldB T e B b (l ++ m) w' ∧ FrX (fun i => i = b) B [e] w w' := by
  subst hf; subst hT; subst he
  refine ⟨hc, (Any.Builder_WriteString_k L X B b (Lib.byteCells l) ⟨m.toArray⟩ w h (by rw [Lib.byteCells_length]; exact hlen) hB).mono ?_⟩
  rintro en w' ⟨rfl, h1, h2, h3⟩
  refine ⟨rfl, .inr ?_, bld_frame h h2 h3⟩
  rw [Lib.byteCells_append]
  exact h1
theorem bld_string {ρ : Ren} (L : Lays.n169 P ρ) (X : Builder.Extra P ρ) {f : FuncId} {T e : TypeId} (hf : ρ.f 169 = f) (hT : ρ.t 72 = T) (he : ρ.t 5 = e) (hc : callable P f) {B b : Nat} {l : List UInt8} {w : World} (h : BldB T e B b l w) (hB : B ≤ w.heap.size) :
    Sp P f #[.pointer (some ⟨b, 0, none⟩)] w fun v w' => v = .string ⟨l.toArray⟩ ∧ BldB T e B b l w' ∧ FrX (fun i => i = b) B [e] w w' := by
  subst hf; subst hT; subst he
  refine ⟨hc, (Any.Builder_String_any_k L X B b l w h hB).mono ?_⟩
  rintro en w' ⟨rfl, h1, h2, h3⟩
  exact ⟨rfl, h1, bld_frame h h2 h3⟩
theorem FnAt.can {f : FuncId} {fn : Func} {n : Nat} (h : FnAt P f fn n) : callable P f := ⟨fn, h.hf, h.hb, h.hm⟩
end
end Go.W
