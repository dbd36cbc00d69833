/-
  Proved here: values that lie flat in memory, slices that hold a list, slices that the call made itself.
  Conditions: those that each fact names.
-/
import Derived.Test.YtgplodgpbhddbaaW7
import Derived.Laws.CopyOwn
namespace Go.W
open Go

/-! data that lies flat in memory -/
class Enc (α : Type) where
  sz : Nat
  enc : α → List Value
  len : ∀ x, (enc x).length = sz
  one : ∀ x, ∀ u ∈ enc x, u.oneCell' = true
  pos : 0 < sz
open Enc (enc)

instance : Enc Int := ⟨1, fun x => [.int .i64 x], fun _ => rfl, by intro x u hu; simp at hu; subst hu; rfl, by decide⟩
instance : Enc Bool := ⟨1, fun x => [.bool x], fun _ => rfl, by intro x u hu; simp at hu; subst hu; rfl, by decide⟩
instance : Enc ByteArray := ⟨1, fun x => [.string x], fun _ => rfl, by intro x u hu; simp at hu; subst hu; rfl, by decide⟩
/-- a slice value, as it lies in a cell -/
structure SV where
  a : Option Addr
  n : Nat
  c : Nat
def SV.v (s : SV) : Value := .slice s.a s.n s.c
instance : Enc SV := ⟨1, fun x => [.slice x.a x.n x.c], fun _ => rfl, by intro x u hu; simp at hu; subst hu; rfl, by decide⟩

section
variable {α : Type} [Enc α]

def flat (l : List α) : List Value := l.flatMap enc
@[simp] theorem flat_nil : flat ([] : List α) = [] := rfl
@[simp] theorem flat_cons (x : α) (l : List α) : flat (x :: l) = enc x ++ flat l := rfl
@[simp] theorem flat_append (l m : List α) : flat (l ++ m) = flat l ++ flat m := by simp [flat]
theorem flat_len (l : List α) : (flat l).length = l.length * Enc.sz α := by
  induction l with
  | nil => simp
  | cons x r ih => simp [ih, Enc.len, Nat.add_mul, Nat.add_comm]
theorem flat_one (l : List α) : ∀ u ∈ flat l, u.oneCell' = true := by
  intro u hu
  obtain ⟨x, _, hx⟩ := List.mem_flatMap.1 hu
  exact Enc.one x u hx
theorem flat_drop (l : List α) (i : Nat) : flat (l.drop i) = (flat l).drop (i * Enc.sz α) := by
  induction l generalizing i with
  | nil => simp
  | cons x r ih =>
    cases i with
    | zero => simp
    | succ i =>
      simp only [List.drop_succ_cons, ih, flat_cons]
      rw [List.drop_append, Enc.len, List.drop_of_length_le (l := enc x) (by rw [Enc.len, Nat.add_mul]; omega)]
      simp [Nat.add_mul]
theorem flat_take (l : List α) (i : Nat) : flat (l.take i) = (flat l).take (i * Enc.sz α) := by
  induction l generalizing i with
  | nil => simp
  | cons x r ih =>
    cases i with
    | zero => simp
    | succ i =>
      simp only [List.take_succ_cons, ih, flat_cons]
      rw [List.take_append, Enc.len, List.take_of_length_le (l := enc x) (by rw [Enc.len, Nat.add_mul]; omega)]
      simp [Nat.add_mul]
theorem flat_get (l : List α) {i : Nat} {x : α} (h : l[i]? = some x) : ((flat l).drop (i * Enc.sz α)).take (Enc.sz α) = enc x := by
  rw [← flat_drop]
  have hi := List.getElem?_eq_some_iff.1 h
  obtain ⟨hl, rfl⟩ := hi
  rw [List.drop_eq_getElem_cons hl, flat_cons, List.take_append, Enc.len]
  simp [List.take_of_length_le (l := enc l[i]) (by rw [Enc.len]; exact Nat.le_refl _)]
theorem flat_set (l : List α) {i : Nat} (x : α) (h : i < l.length) : (flat l).take (i * Enc.sz α) ++ enc x ++ (flat l).drop (i * Enc.sz α + Enc.sz α) = flat (l.set i x) := by
  rw [← flat_take, show i * Enc.sz α + Enc.sz α = (i + 1) * Enc.sz α by rw [Nat.add_mul, Nat.one_mul], ← flat_drop]
  rw [List.set_eq_take_append_cons_drop, if_pos h]
  simp [flat_append]

/-- this slice value holds these -/
def SlF (w : World) (v : Value) (l : List α) : Prop :=
  ∃ a c, v = .slice a l.length c ∧ l.length ≤ c ∧ (l = [] ∨ ∃ b o, a = some ⟨b, o, none⟩ ∧ At w b o (flat l))

theorem SlF.shape {w : World} {v : Value} {l : List α} (h : SlF w v l) : ∃ a c, v = .slice a l.length c := by obtain ⟨a, c, h, _⟩ := h; exact ⟨a, c, h⟩
theorem SlF.ext {w w' : World} {v : Value} {l : List α} (h : SlF w v l) (he : Ext w w') : SlF w' v l := by
  obtain ⟨a, c, hv, hc, h⟩ := h
  exact ⟨a, c, hv, hc, h.imp id fun ⟨b, o, ha, hat⟩ => ⟨b, o, ha, hat.ext he⟩⟩
theorem SlF.up {w w' : World} [h : Le w w'] {v : Value} {l : List α} (a : SlF w v l) : SlF w' v l := a.ext h.e
theorem SlF.nil (w : World) : SlF w (.slice none 0 0) ([] : List α) := ⟨none, 0, rfl, Nat.le_refl _, .inl rfl⟩
theorem SlF.nil' (w : World) (a : Option Addr) (c : Nat) : SlF w (.slice a 0 c) ([] : List α) := ⟨a, c, rfl, Nat.zero_le _, .inl rfl⟩
def Value.blk : Value → Option Nat
  | .slice (some a) _ _ => some a.block
  | _ => none
theorem SlF.fr {D : Nat → Prop} {w w' : World} {v : Value} {l : List α} (h : SlF w v l) (he : Fr D w w') (hd : ∀ b, Value.blk v = some b → ¬ D b) : SlF w' v l := by
  obtain ⟨a, c, rfl, hc, h⟩ := h
  refine ⟨a, c, rfl, hc, h.imp id fun ⟨b, o, ha, hat⟩ => ⟨b, o, ha, hat.fr he ?_⟩⟩
  subst ha; exact hd b rfl
theorem SlF.lt {w : World} {v : Value} {l : List α} (h : SlF w v l) (hl : l ≠ []) : ∃ b, Value.blk v = some b ∧ b < w.heap.size := by
  obtain ⟨a, c, rfl, hc, h⟩ := h
  rcases h with h | ⟨b, o, rfl, hat⟩
  · exact absurd h hl
  · refine ⟨b, rfl, ?_⟩
    cases l with
    | nil => exact absurd rfl hl
    | cons x r =>
      have := Enc.len x
      have hp := Enc.pos (α := α)
      have h0 : (flat (x :: r))[0]? = some ((enc x)[0]'(by omega)) := by
        rw [flat_cons, List.getElem?_append_left (by omega)]; simp
      exact World.block_lt_of_cell? w _ (hat 0 _ h0)

theorem SlF.len {w : World} {a : Option Addr} {n c : Nat} {l : List α} (h : SlF w (.slice a n c) l) : n = l.length := by obtain ⟨a', c', hv, _⟩ := h; cases hv; rfl
/-- where an element lies -/
theorem SlF.at {w : World} {a : Option Addr} {n c : Nat} {l : List α} (h : SlF w (.slice a n c) l) {i : Nat} {x : α} (hi : l[i]? = some x) :
    n = l.length ∧ ∃ b o, a = some ⟨b, o, none⟩ ∧ At w b (o + i * Enc.sz α) (enc x) := by
  obtain ⟨a', c', hv, _, h⟩ := h
  cases hv
  refine ⟨rfl, ?_⟩
  rcases h with rfl | ⟨b, o, ha, hat⟩
  · simp at hi
  · refine ⟨b, o, ha, ?_⟩
    rw [← flat_get l hi]
    exact hat.sub _ _

/-- a part of a slice -/
theorem SlF.part {w : World} {a : Option Addr} {n c : Nat} {l : List α} (h : SlF w (.slice a n c) l) (lo hi : Nat) (h1 : lo ≤ hi) (h2 : hi ≤ n) :
    SlF w (.slice (if c = lo then a else a.map (·.add (lo * Enc.sz α))) (hi - lo) (c - lo)) ((l.drop lo).take (hi - lo)) := by
  obtain ⟨a', c', hv, hc, h⟩ := h
  cases hv
  have hlen : ((l.drop lo).take (hi - lo)).length = hi - lo := by simp; omega
  refine ⟨_, _, by rw [hlen], by rw [hlen]; omega, ?_⟩
  rcases h with rfl | ⟨b, o, rfl, hat⟩
  · left; simp
  · by_cases hcl : c = lo
    · left
      apply List.eq_nil_of_length_eq_zero
      rw [hlen]; omega
    · right
      refine ⟨b, o + lo * Enc.sz α, by simp [hcl, addr_add], ?_⟩
      rw [flat_take, flat_drop]
      exact hat.sub _ _

/-- a slice that the call made itself, in blocks from B on -/
def Own (B : Nat) (e : TypeId) (w : World) (v : Value) (l : List α) : Prop :=
  (l = [] ∧ ∃ a, v = .slice a 0 0) ∨ w.ownsRow B e (Enc.sz α) v l.length (flat l)
def ownD (B : Nat) (v : Value) : Nat → Prop := fun b => B ≤ b ∧ Value.blk v = some b ∧ ∀ a, v ≠ .slice a 0 0

theorem Own.nil (B : Nat) (e : TypeId) (w : World) : Own B e w (.slice none 0 0) ([] : List α) := .inl ⟨rfl, _, rfl⟩
theorem Own.nil' (B : Nat) (e : TypeId) (w : World) (a : Option Addr) : Own B e w (.slice a 0 0) ([] : List α) := .inl ⟨rfl, _, rfl⟩
theorem Own.sl {B : Nat} {e : TypeId} {w : World} {v : Value} {l : List α} (h : Own B e w v l) : SlF w v l := by
  rcases h with ⟨rfl, a, rfl⟩ | h
  · exact SlF.nil' w a 0
  · rcases h.2 with ⟨rfl, hn⟩ | ⟨g, cap, cur, rfl, hb, hg, hnc, hcm, hcs, htake⟩
    · have : l = [] := List.eq_nil_of_length_eq_zero hn
      subst this; exact SlF.nil w
    · refine ⟨_, _, rfl, hnc, .inr ⟨g, 0, rfl, ?_⟩⟩
      intro j v hj
      rw [cell_of_row w g (0 + j) cur e (0, 0) hg]
      rw [← htake, List.getElem?_take] at hj
      split at hj
      · simpa using hj
      · cases hj
theorem Own.fr {D : Nat → Prop} {B : Nat} {e : TypeId} {w w' : World} {v : Value} {l : List α} (h : Own B e w v l) (hf : Fr D w w') (hd : ∀ b, B ≤ b → Value.blk v = some b → ¬ D b) : Own B e w' v l := by
  rcases h with h | h
  · exact .inl h
  · refine .inr ⟨h.1, ?_⟩
    rcases h.2 with hn | ⟨g, cap, cur, rfl, hb, hg, rest⟩
    · exact .inl hn
    · exact .inr ⟨g, cap, cur, rfl, hb, hf.blk hg (hd g hb rfl), rest⟩
theorem Own.not0 {B : Nat} {e : TypeId} {w : World} {v : Value} {l : List α} (h : Own B e w v l) (hl : l ≠ []) (a : Option Addr) : v ≠ .slice a 0 0 := by
  intro hv
  subst hv
  obtain ⟨a', c', hs⟩ := h.sl.shape
  injection hs with _ h2 _
  exact hl (List.eq_nil_of_length_eq_zero h2.symm)
theorem Own.wr {B B' : Nat} {e : TypeId} {w : World} {v : Value} {l : List α} (h : Own B e w v l) {b : Nat} (hb : ownD B' v b) : b < w.heap.size := by
  rcases h with ⟨rfl, a, rfl⟩ | h
  · exact absurd rfl (hb.2.2 a)
  · rcases h.2 with ⟨rfl, hn⟩ | ⟨g, cap, cur, rfl, _, hg, rest⟩
    · cases hb.2.1
    · have := hb.2.1; simp only [Value.blk] at this; cases this; exact blk_lt hg
theorem Own.ext {B : Nat} {e : TypeId} {w w' : World} {v : Value} {l : List α} (h : Own B e w v l) (hf : Ext w w') : Own B e w' v l := h.fr hf fun _ _ _ h => h
theorem Own.mono {B B' : Nat} {e : TypeId} {w : World} {v : Value} {l : List α} (h : Own B e w v l) (hb : B' ≤ B) : Own B' e w v l := by
  rcases h with h | h
  · exact .inl h
  · refine .inr ⟨h.1, h.2.imp id ?_⟩
    rintro ⟨g, cap, cur, hv, hg, rest⟩
    exact ⟨g, cap, cur, hv, by omega, rest⟩
theorem Own.up {B : Nat} {e : TypeId} {w w' : World} [h : Le w w'] {v : Value} {l : List α} (a : Own B e w v l) : Own B e w' v l := a.ext h.e
theorem Own.older {u u' : World} {e : TypeId} {w : World} [h : Le u' u] {v : Value} {l : List α} (a : Own u.heap.size e w v l) : Own u'.heap.size e w v l := a.mono h.e.size
theorem Own.lt {B : Nat} {e : TypeId} {w : World} {v : Value} {l : List α} (h : Own B e w v l) (hl : l ≠ []) : ∃ g, Value.blk v = some g ∧ B ≤ g ∧ g < w.heap.size := by
  rcases h with ⟨h, _⟩ | h
  · exact absurd h hl
  · rcases h.2 with ⟨_, hn⟩ | ⟨g, cap, cur, rfl, hb, hg, rest⟩
    · exact absurd (List.eq_nil_of_length_eq_zero hn) hl
    · exact ⟨g, rfl, hb, blk_lt hg⟩

section
variable {P : Program} {k : Value → World → Prop} {pn : List PanicEntry → World → Prop} {w : World}

/-- index -/
theorem rix {t e : TypeId} {z : Value} {by' : Nat} [ht : SlT P t e] [he : Elem P e z (Enc.sz α) by'] {a : Option Addr} {n c i : Nat} {l : List α} {x : α} (h : SlF w (.slice a n c) l) (hi : l[i]? = some x)
    (hk : ∀ b o, At w b o (enc x) → k (.pointer (some ⟨b, o, none⟩)) w) : SemV P (Instr.indexAt t (.slice a n c) (.int .i64 i)) k pn w := by
  obtain ⟨rfl, b, o, rfl, hat⟩ := h.at hi
  have hl : i < l.length := (List.getElem?_eq_some_iff.1 hi).1
  exact SemV.of (run_idx ht he (by omega) (by omega) w) (hk _ _ hat)
theorem tix {t e : TypeId} {z : Value} {by' : Nat} [ht : SlT P t e] [he : Elem P e z (Enc.sz α) by'] {D : Nat → Prop} {k : Value → Prop} {a : Option Addr} {n c i : Nat} {l : List α} {x : α} (h : SlF w (.slice a n c) l) (hi : l[i]? = some x)
    (hk : ∀ b o, At w b o (enc x) → Value.blk (.slice a n c) = some b → k (.pointer (some ⟨b, o, none⟩))) : TakeS P (Instr.indexAt t (.slice a n c) (.int .i64 i)) D k w := by
  obtain ⟨rfl, b, o, rfl, hat⟩ := h.at hi
  have hl : i < l.length := (List.getElem?_eq_some_iff.1 hi).1
  rw [TakeS_iff]
  exact ⟨_, fun w' _ => run_idx ht he (by omega) (by omega) w', hk _ _ hat rfl⟩

theorem tload1 {t : TypeId} [ht : One P t] {D : Nat → Prop} {k : Value → Prop} {b o : Nat} {v : Value} (h : w.cell? ⟨b, o, none⟩ = some v) (hd : ¬ D b) (hk : k v) : TakeS P (Instr.loadAt t (.pointer (some ⟨b, o, none⟩))) D k w := by
  rw [TakeS_iff]
  exact ⟨v, fun w' hw' => by simp [Instr.loadAt, Instr.sureAddr, run_load1 ht (hw'.cell h hd)], hk⟩
theorem tloadA {t n : Nat} [ht : Agg P t n] {D : Nat → Prop} {k : Value → Prop} {b o : Nat} {cs : List Value} (h : At w b o cs) (hl : cs.length = n) (hd : ¬ D b) (hk : k (.agg cs.toArray)) : TakeS P (Instr.loadAt t (.pointer (some ⟨b, o, none⟩))) D k w := by
  rw [TakeS_iff]
  exact ⟨_, fun w' hw' => by simp [Instr.loadAt, Instr.sureAddr, run_loadA ht (h.fr hw' hd) hl], hk⟩

/-- a slice of a slice: the bounds may be there or not -/
def loV : Option Nat → Option Value
  | none => none
  | some n => some (.int .i64 n)
theorem run_slice {t e : TypeId} {z : Value} {sz by' : Nat} (ht : SlT P t e) (he : Elem P e z sz by') {a : Option Addr} {n c : Nat} (lo hi : Option Nat) (h1 : lo.getD 0 ≤ hi.getD n) (h2 : hi.getD n ≤ c) (w : World) :
    (Instr.sliceAt t (.slice a n c) (loV lo) (loV hi) none).run P w = .ok (.slice (if c = lo.getD 0 then a else a.map (·.add (lo.getD 0 * sz))) (hi.getD n - lo.getD 0) (c - lo.getD 0)) w := by
  obtain ⟨j, hj, _, hs, _⟩ := info_parts he.h
  cases lo <;> cases hi <;> simp only [Option.getD_none, Option.getD_some] at h1 h2 <;>
    simp [Instr.sliceAt, Instr.slice, Instr.sliceBounds, Instr.sliceBound, loV, underlying, ht.h, asIntOf, sizeOf, typeInfo, hj, hs, h1, h2]
theorem rsl {t e : TypeId} {z : Value} {by' : Nat} [ht : SlT P t e] [he : Elem P e z (Enc.sz α) by'] {a : Option Addr} {n c : Nat} {l : List α} (lo hi : Option Nat) (h : SlF w (.slice a n c) l) (h1 : lo.getD 0 ≤ hi.getD n) (h2 : hi.getD n ≤ n)
    (hk : ∀ a' c', SlF w (.slice a' (hi.getD n - lo.getD 0) c') ((l.drop (lo.getD 0)).take (hi.getD n - lo.getD 0)) → k (.slice a' (hi.getD n - lo.getD 0) c') w) : SemV P (Instr.sliceAt t (.slice a n c) (loV lo) (loV hi) none) k pn w := by
  have hnc : n ≤ c := by obtain ⟨a', c', hv, hc, _⟩ := h; cases hv; exact hc
  exact SemV.of (run_slice ht he lo hi h1 (by omega) w) (hk _ _ (h.part _ _ h1 h2))
theorem tsl {t e : TypeId} {z : Value} {by' : Nat} [ht : SlT P t e] [he : Elem P e z (Enc.sz α) by'] {D : Nat → Prop} {k : Value → Prop} {a : Option Addr} {n c : Nat} {l : List α} (lo hi : Option Nat) (h : SlF w (.slice a n c) l) (h1 : lo.getD 0 ≤ hi.getD n) (h2 : hi.getD n ≤ n)
    (hk : ∀ a' c', SlF w (.slice a' (hi.getD n - lo.getD 0) c') ((l.drop (lo.getD 0)).take (hi.getD n - lo.getD 0)) → k (.slice a' (hi.getD n - lo.getD 0) c')) : TakeS P (Instr.sliceAt t (.slice a n c) (loV lo) (loV hi) none) D k w := by
  have hnc : n ≤ c := by obtain ⟨a', c', hv, hc, _⟩ := h; cases hv; exact hc
  rw [TakeS_iff]
  exact ⟨_, fun w' _ => run_slice ht he lo hi h1 (by omega) w', hk _ _ (h.part _ _ h1 h2)⟩

/-- append -/
theorem run_app {t ty e : TypeId} {z : Value} {sz by' : Nat} (ht : SlT P t e) (he : Elem P e z sz by') (hsz : Enc.sz α = sz) (hzc : z.cells.size = sz) {B : Nat} {v x : Value} {l m : List α}
    (hO : Own B e w v l) (hS : SlF w x m) (hb : (l.length + m.length) * by' ≤ 140737488355328) (hm : l.length + m.length ≤ maxLen) (hB : B ≤ w.heap.size) :
    ∃ v' w', (Builtin.append_ #[t, t] ty #[v, x]).run P w = .ok v' w' ∧ Own B e w' v' (l ++ m) ∧ Fr (ownD B v) w w' := by
  obtain ⟨i, hi, hz, hs, hby⟩ := info_parts he.h
  subst hsz
  have hp := Enc.pos (α := α)
  obtain ⟨xa, xc, rfl, hxc, hx⟩ := hS
  -- an empty source
  by_cases hm0 : m = []
  · subst hm0
    rw [List.append_nil]
    refine ⟨v, w, ?_, hO, Fr.refl _ w⟩
    rcases hO with ⟨rfl, a, rfl⟩ | hO
    · cases xa <;> cases a <;> simp [Builtin.append_, run_underlying ht.h, sizeOf, typeInfo, hi, Builtin.lenOf, Builtin.firstCells, loadCells, loadCellsFrom, storeCells]
    · rcases hO.2 with ⟨rfl, hn⟩ | ⟨g, cap, cur, rfl, hb', hg, hnc, _⟩
      · cases xa <;> simp [Builtin.append_, run_underlying ht.h, sizeOf, typeInfo, hi, Builtin.lenOf, Builtin.firstCells, loadCells, loadCellsFrom]
      · cases xa <;> simp [Builtin.append_, run_underlying ht.h, sizeOf, typeInfo, hi, Builtin.lenOf, Builtin.firstCells, hnc, storeCells, loadCells, loadCellsFrom]
  rcases hx with hx | ⟨b, o, rfl, hat⟩
  · exact absurd hx hm0
  have hnews : ∀ j u, (flat m)[j]? = some u → w.cell? ((⟨b, o, none⟩ : Addr).add j) = some u := fun j u hj => by rw [addr_add]; exact hat j u hj
  have hl : (flat m).length = m.length * Enc.sz α := flat_len m
  have hO : (l = [] ∧ ∃ a, v = .slice a 0 0) ∨ (w.ownsRow B e (Enc.sz α) v l.length (flat l) ∧ ∀ a, v ≠ .slice a 0 0) := by
    by_cases hv : ∃ a, v = .slice a 0 0
    · left
      obtain ⟨a, rfl⟩ := hv
      obtain ⟨a', c', hs⟩ := hO.sl.shape
      refine ⟨List.eq_nil_of_length_eq_zero ?_, a, rfl⟩
      injection hs with _ h2 _; exact h2.symm
    · rcases hO with h | h
      · exact absurd h.2 hv
      · exact .inr ⟨h, fun a ha => hv ⟨a, ha⟩⟩
  rcases hO with ⟨rfl, a, rfl⟩ | ⟨hO, hv0⟩
  · cases a with
    | none =>
      obtain ⟨v', w', h1, h2, h3, _⟩ := run_append_own (P := P) w B t ty e i z (Enc.sz α) by' ht.h hi hz hs hby hzc hp _ 0 [] (World.ownsRow_nil w B e (Enc.sz α)) ⟨b, o, none⟩ m.length xc (flat m) hl hnews (flat_one m) (by simpa using hm) (by simpa using hb) hB
      refine ⟨v', w', h1, .inr (by simpa using h2), (Fr.grown h3 fun r o hr => by simp [Value.ownBlock] at hr).mono fun j _ hj => ?_⟩
      simp [Value.ownBlock] at hj
    | some a =>
      have hmp : 0 < m.length := by cases m; exact absurd rfl hm0; simp
      have hr := run_append_grow (P := P) w t ty e i z ht.h hi hz a 0 0 [] (by simp) (by simp) ⟨b, o, none⟩ m.length xc (flat m) (by rw [hl, hs]) hnews (by omega) (by simp only [maxLen] at hm; simp at hm; omega)
        (by rw [hby]; exact growslice_fits (by omega) (by simpa using hb))
      refine ⟨_, _, hr, .inr ⟨by simpa using hl, .inr ⟨w.heap.size, grownCap w (0 + m.length) 0 e, _, by simp, hB, heap_alloc_new w.drew _, ?_, ?_, ?_, ?_⟩⟩, (show Ext w w.drew from ⟨rfl, rfl, rfl, Nat.le_refl _, fun _ _ _ => rfl, fun _ _ h _ => h⟩).t (Ext.alloc w.drew _) |>.fr⟩
      · have := grownCap_ge w (0 + m.length) 0 e; simpa using this
      · exact grownCap_le_maxLen w _ 0 e (by simpa using hm)
      · have hge := grownCap_ge w (0 + m.length) 0 e
        simp only [Array.size_append, List.size_toArray, size_zeroCells, hzc, hl, List.length_nil, Nat.zero_add, ← Nat.add_mul] at hge ⊢
        congr 1
        omega
      · simp only [Array.toList_append, List.nil_append, Nat.zero_add]
        rw [← hl]; exact List.take_left
  · obtain ⟨v', w', h1, h2, h3, _⟩ := run_append_own (P := P) w B t ty e i z (Enc.sz α) by' ht.h hi hz hs hby hzc hp v l.length (flat l) hO ⟨b, o, none⟩ m.length xc (flat m) hl hnews (flat_one m) hm hb hB
    refine ⟨v', w', h1, .inr (by simpa using h2), (Fr.grown h3 fun r o hr ho => ?_).mono fun j _ hj => ?_⟩
    · rcases hO.2 with ⟨rfl, _⟩ | ⟨g, cap, cur, rfl, _, hg, _⟩
      · cases hr
      · cases hr; rw [hg] at ho; cases ho; rfl
    have hj' : v.ownBlock = some j := hj.symm
    refine ⟨(hO.lt j hj').1, ?_, hv0⟩
    rcases hO.2 with ⟨rfl, _⟩ | ⟨g, cap, cur, rfl, _⟩
    · cases hj'
    · exact hj'
end
end
end Go.W
