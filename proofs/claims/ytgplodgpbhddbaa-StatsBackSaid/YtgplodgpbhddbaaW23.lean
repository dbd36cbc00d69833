/-
  Proved here: rows that are read only, of blocks of a kind that is known: they stay when blocks of other kinds are written.
  Conditions: those that each fact names.
-/
import Derived.Test.YtgplodgpbhddbaaW22
namespace Go.W
open Go
open Enc (enc)

section
variable {α : Type} [Enc α]
/-- a row that can be read, of a block of this kind -/
def SlY (e : TypeId) (w : World) (v : Value) (l : List α) : Prop := SlF w v l ∧ (l = [] ∨ ∃ b cs z, Value.blk v = some b ∧ w.heap[b]? = some (.cells cs e z))
theorem SlY.sl {e : TypeId} {w : World} {v : Value} {l : List α} (h : SlY e w v l) : SlF w v l := h.1
theorem SlY.fr {e : TypeId} {D : Nat → Prop} {w w' : World} {v : Value} {l : List α} (h : SlY e w v l) (f : Fr D w w') (hd : ∀ b cs z, Value.blk v = some b → w.heap[b]? = some (.cells cs e z) → ¬ D b) : SlY e w' v l := by
  rcases h with ⟨h, rfl | ⟨b, cs, z, hb, hc⟩⟩
  · obtain ⟨a, c, rfl, hc, _⟩ := h
    exact ⟨⟨a, c, rfl, hc, .inl rfl⟩, .inl rfl⟩
  · have hn := hd b cs z hb hc
    exact ⟨h.fr f fun b' hb' => by rw [hb] at hb'; cases hb'; exact hn, .inr ⟨b, cs, z, hb, f.blk hc hn⟩⟩
theorem SlY.up {e : TypeId} {w w' : World} [L : Le w w'] {v : Value} {l : List α} (h : SlY e w v l) : SlY e w' v l := h.fr L.e fun _ _ _ _ _ h => h
theorem SlY.kept {e : TypeId} {B : Nat} {es : List TypeId} {w w' : World} {v : Value} {l : List α} (h : SlY e w v l) (f : FrT B es w w') (he : e ∉ es) : SlY e w' v l :=
  h.fr f fun _ _ _ _ hc hd => he (hd.cells hc)
theorem SlY.nil (e : TypeId) (w : World) : SlY e w (.slice none 0 0) ([] : List α) := ⟨SlF.nil w, .inl rfl⟩
theorem Own.y {B : Nat} {e : TypeId} {w : World} {v : Value} {l : List α} (h : Own B e w v l) : SlY e w v l := by
  refine ⟨h.sl, ?_⟩
  by_cases hl : l = []
  · exact .inl hl
  · right
    obtain ⟨a, c, rfl⟩ := h.shape
    obtain ⟨g, cur, rfl, _, _, hg, _⟩ := h.blk hl
    exact ⟨g, cur, _, rfl, hg⟩
theorem SlY.part {e : TypeId} {w : World} {a : Option Addr} {n c : Nat} {l : List α} (h : SlY e w (.slice a n c) l) (lo hi : Nat) (h1 : lo ≤ hi) (h2 : hi ≤ n) :
    SlY e w (.slice (if c = lo then a else a.map (·.add (lo * Enc.sz α))) (hi - lo) (c - lo)) ((l.drop lo).take (hi - lo)) := by
  refine ⟨h.1.part lo hi h1 h2, ?_⟩
  rcases h.2 with rfl | ⟨b, cs, z, hb, hc⟩
  · left; simp
  · right
    refine ⟨b, cs, z, ?_, hc⟩
    cases a with
    | none => cases hb
    | some a =>
      simp only [Value.blk] at hb; cases hb
      split
      · rfl
      · simp only [Option.map_some, Value.blk]
        congr 1
        unfold Addr.add; split <;> rfl
theorem blk_part (a : Option Addr) (n n' c c' lo d : Nat) : Value.blk (.slice (if c = lo then a else a.map (·.add d)) n' c') = Value.blk (.slice a n c) := by
  cases a with
  | none => split <;> rfl
  | some a =>
    split
    · rfl
    · simp only [Option.map_some, Value.blk]
      congr 1
      unfold Addr.add; split <;> rfl
section
variable {P : Program} {k : Value → World → Prop} {pn : List PanicEntry → World → Prop} {w : World}
theorem rslYp {t e : TypeId} {z : Value} {by' : Nat} [ht : SlT P t e] [he : Elem P e z (Enc.sz α) by'] {a : Option Addr} {n c : Nat} {l : List α} {q : TypeId} {x : Value} (m : Nat) (h : SlY q w (.slice a n c) l) (h2 : m ≤ n) (hx : x = .int .i64 m)
    (hk : ∀ a' c', SlY q w (.slice a' m c') (l.take m) → Value.blk (.slice a' m c') = Value.blk (.slice a n c) → k (.slice a' m c') w) : SemV P (Instr.sliceAt t (.slice a n c) none (some x) none) k pn w := by
  subst hx
  have hnc : n ≤ c := by obtain ⟨a', c', hv, hc, _⟩ := h.1; cases hv; exact hc
  have hp := h.part 0 m (Nat.zero_le _) h2
  rw [List.drop_zero, Nat.sub_zero, Nat.sub_zero] at hp
  exact SemV.of (run_slice ht he none (some m) (Nat.zero_le _) (Nat.le_trans h2 hnc) w) (hk _ _ hp (blk_part ..))
theorem tslYp {t e : TypeId} {z : Value} {by' : Nat} [ht : SlT P t e] [he : Elem P e z (Enc.sz α) by'] {D : Nat → Prop} {k : Value → Prop} {a : Option Addr} {n c : Nat} {l : List α} {q : TypeId} {x : Value} (m : Nat) (h : SlY q w (.slice a n c) l) (h2 : m ≤ n) (hx : x = .int .i64 m)
    (hk : ∀ a' c', SlY q w (.slice a' m c') (l.take m) → Value.blk (.slice a' m c') = Value.blk (.slice a n c) → k (.slice a' m c')) : TakeS P (Instr.sliceAt t (.slice a n c) none (some x) none) D k w := by
  subst hx
  have hnc : n ≤ c := by obtain ⟨a', c', hv, hc, _⟩ := h.1; cases hv; exact hc
  have hp := h.part 0 m (Nat.zero_le _) h2
  rw [List.drop_zero, Nat.sub_zero, Nat.sub_zero] at hp
  rw [TakeS_iff]
  exact ⟨_, fun w' _ => run_slice ht he none (some m) (Nat.zero_le _) (Nat.le_trans h2 hnc) w', hk _ _ hp (blk_part ..)⟩
theorem rslYs {t e : TypeId} {z : Value} {by' : Nat} [ht : SlT P t e] [he : Elem P e z (Enc.sz α) by'] {a : Option Addr} {n c : Nat} {l : List α} {q : TypeId} {x : Value} (m : Nat) (h : SlY q w (.slice a n c) l) (h2 : m ≤ n) (hx : x = .int .i64 m)
    (hk : ∀ a' c', SlY q w (.slice a' (n - m) c') (l.drop m) → Value.blk (.slice a' (n - m) c') = Value.blk (.slice a n c) → k (.slice a' (n - m) c') w) : SemV P (Instr.sliceAt t (.slice a n c) (some x) none none) k pn w := by
  subst hx
  have hnc : n ≤ c := by obtain ⟨a', c', hv, hc, _⟩ := h.1; cases hv; exact hc
  have hn : n = l.length := h.1.len
  have hp := h.part m n h2 (Nat.le_refl _)
  rw [List.take_of_length_le (by rw [List.length_drop]; omega)] at hp
  exact SemV.of (run_slice ht he (some m) none h2 hnc w) (hk _ _ hp (blk_part ..))
theorem tslYs {t e : TypeId} {z : Value} {by' : Nat} [ht : SlT P t e] [he : Elem P e z (Enc.sz α) by'] {D : Nat → Prop} {k : Value → Prop} {a : Option Addr} {n c : Nat} {l : List α} {q : TypeId} {x : Value} (m : Nat) (h : SlY q w (.slice a n c) l) (h2 : m ≤ n) (hx : x = .int .i64 m)
    (hk : ∀ a' c', SlY q w (.slice a' (n - m) c') (l.drop m) → Value.blk (.slice a' (n - m) c') = Value.blk (.slice a n c) → k (.slice a' (n - m) c')) : TakeS P (Instr.sliceAt t (.slice a n c) (some x) none none) D k w := by
  subst hx
  have hnc : n ≤ c := by obtain ⟨a', c', hv, hc, _⟩ := h.1; cases hv; exact hc
  have hn : n = l.length := h.1.len
  have hp := h.part m n h2 (Nat.le_refl _)
  rw [List.take_of_length_le (by rw [List.length_drop]; omega)] at hp
  rw [TakeS_iff]
  exact ⟨_, fun w' _ => run_slice ht he (some m) none h2 hnc w', hk _ _ hp (blk_part ..)⟩
end
theorem SlY.len {e : TypeId} {w : World} {a : Option Addr} {n c : Nat} {l : List α} (h : SlY e w (.slice a n c) l) : n = l.length := h.1.len
theorem SlY.shape {e : TypeId} {w : World} {v : Value} {l : List α} (h : SlY e w v l) : ∃ a c, v = .slice a l.length c := h.1.shape
end
end Go.W
