/-
  Proved here: rules of stores into rows and cells, and of copy.
  Conditions: those that each fact names.
-/
import Derived.Test.YtgplodgpbhddbaaW9
import Derived.Laws.MakeOwn
namespace Go.W
open Go
open Enc (enc)

def splice (cur : List Value) (off : Nat) (vs : List Value) : List Value := cur.take off ++ vs ++ cur.drop (off + vs.length)
def sizeB (P : Program) (t n : Nat) : Bool := match P.info? t with | some i => Nat.beq i.size n | none => false
class Size (P : Program) (t : TypeId) (n : outParam Nat) : Prop where
  h : sizeB P t n = true

theorem Fr.setRow (w : World) (g : Nat) (cs : Array Value) : Fr (fun b => b = g) w (w.setRow g cs) := ⟨rfl, rfl, rfl, by simp, fun b _ hb => setRow_other w g b cs hb, fun b o hb ho => by
  unfold World.setRow
  rw [Array.getElem?_modify]
  split
  · rw [hb]; cases o <;> first | rfl | cases ho
  · exact hb⟩

section
variable {P : Program} {k : Value → World → Prop} {pn : List PanicEntry → World → Prop} {w : World}

theorem size_run {t n : Nat} (h : sizeB P t n = true) (w : World) : (sizeOf t).run P w = .ok n w := by
  unfold sizeB at h
  split at h
  · rename_i i hi
    simp only [sizeOf, typeInfo, Sem.run_bind, run_program, Result.andThen_ok, hi, Sem.run_pure]
    rw [Nat.eq_of_beq_eq_true h]
  · cases h

theorem run_stB {t : TypeId} {n : Nat} (ht : Size P t n) {g off : Nat} {cur : Array Value} {e : TypeId} {v : Value} {vs : List Value} (hg : w.heap[g]? = some (.cells cur e (0, 0))) (hv : v.cells.toList = vs) (hn : vs.length = n) (hfit : off + n ≤ cur.size) (h1 : ∀ u ∈ vs, u.oneCell' = true) :
    (Instr.storeAt t (.pointer (some ⟨g, off, none⟩)) v).run P w = .ok () (w.setRow g (splice cur.toList off vs).toArray) := by
  have hs := run_storeCells_at P g off e vs 0 cur w hg (by rw [hn]; simpa using hfit) h1
  simp only [Nat.add_zero] at hs
  have hvs : v.cells.size = n := by rw [← hn, ← hv]; simp
  simp only [Instr.storeAt, Instr.sureAddr, storeVar, Sem.run_bind, Sem.run_pure, Result.andThen_ok, size_run ht.h, hvs, hv]
  simp [hs, splice]
/-- a store into a block that is known whole -/
theorem rst {t : TypeId} {n : Nat} [ht : Size P t n] {g off : Nat} {cur : Array Value} {e : TypeId} {v : Value} {vs : List Value} (hg : w.heap[g]? = some (.cells cur e (0, 0))) (hv : v.cells.toList = vs) (hn : vs.length = n) (hfit : off + n ≤ cur.size) (h1 : ∀ u ∈ vs, u.oneCell' = true)
    (hk : ∀ w', w'.heap[g]? = some (.cells (splice cur.toList off vs).toArray e (0, 0)) → Fr (fun b => b = g) w w' → w'.heap.size = w.heap.size → k undef w') : SemU P (Instr.storeAt t (.pointer (some ⟨g, off, none⟩)) v) k pn w :=
  SemU.of (run_stB ht hg hv hn hfit h1) (hk _ (setRow_heap w g cur _ e _ hg) (Fr.setRow w g _) (by simp))

variable {α : Type} [Enc α]

theorem Own.blk {B : Nat} {e : TypeId} {a : Option Addr} {n c : Nat} {l : List α} (h : Own B e w (.slice a n c) l) (hl : l ≠ []) :
    ∃ g cur, a = some ⟨g, 0, none⟩ ∧ n = l.length ∧ B ≤ g ∧ w.heap[g]? = some (.cells cur e (0, 0)) ∧ n ≤ c ∧ c ≤ maxLen ∧ cur.size = c * Enc.sz α ∧ cur.toList.take (n * Enc.sz α) = flat l := by
  rcases h with ⟨h, _⟩ | h
  · exact absurd h hl
  · rcases h.2 with ⟨_, hn⟩ | ⟨g, cap, cur, hv, hb, hg, hnc, hcm, hcs, htake⟩
    · exact absurd (List.eq_nil_of_length_eq_zero hn) hl
    · cases hv; exact ⟨g, cur, rfl, rfl, hb, hg, hnc, hcm, hcs, htake⟩

theorem no_own {B b : Nat} {a c : Nat} (h : ownD B (.slice none a c) b) : False := by cases h.2.1
/-- index, to store there -/
theorem rixO {t e : TypeId} {z : Value} {sz by' : Nat} [ht : SlT P t e] [he : Elem P e z sz by'] (hsz : Enc.sz α = sz) {B : Nat} {a : Option Addr} {n c i : Nat} {l : List α} {x : α} (h : Own B e w (.slice a n c) l) (hi : l[i]? = some x)
    (hk : ∀ g, Value.blk (.slice a n c) = some g → B ≤ g → At w g (i * sz) (enc x) → k (.pointer (some ⟨g, i * sz, none⟩)) w) : SemV P (Instr.indexAt t (.slice a n c) (.int .i64 i)) k pn w := by
  have hl : i < l.length := (List.getElem?_eq_some_iff.1 hi).1
  obtain ⟨g, cur, rfl, rfl, hb, hg, hnc, hcm, hcs, htake⟩ := h.blk (by intro h0; subst h0; simp at hl)
  refine SemV.of (run_idx ht he (b := g) (o := 0) (by omega) (by omega) w) ?_
  obtain ⟨_, b, o, hbo, hat⟩ := h.sl.at hi
  cases hbo
  subst hsz
  have := hk g rfl hb (by simpa using hat)
  simpa using this

theorem splice_len (cur vs : List Value) (off : Nat) (h : off + vs.length ≤ cur.length) : (splice cur off vs).length = cur.length := by simp [splice]; omega
theorem splice_take (cur vs : List Value) (off m : Nat) (h : off + vs.length ≤ m) (hm : m ≤ cur.length) : (splice cur off vs).take m = splice (cur.take m) off vs := by
  simp only [splice, List.take_append, List.length_append, List.length_take]
  rw [Nat.min_eq_left (by omega), List.take_take, Nat.min_eq_right (by omega), List.take_take, Nat.min_eq_left (by omega), List.take_of_length_le (l := vs) (by omega)]
  congr 1
  rw [List.drop_take]

/-- what is owned, behind a store of cells at this place: an element's, or some of its -/
theorem Own.stored {B : Nat} {e : TypeId} {v : Value} {l l' : List α} {g off : Nat} {vs : List Value} (h : Own B e w v l) (hb : Value.blk v = some g) (hl : l ≠ []) (hlen : l'.length = l.length) (hoff : off + vs.length ≤ l.length * Enc.sz α) (hfl : splice (flat l) off vs = flat l') :
    ∃ cur, w.heap[g]? = some (.cells cur e (0, 0)) ∧ off + vs.length ≤ cur.size ∧ ∀ w', w'.heap[g]? = some (.cells (splice cur.toList off vs).toArray e (0, 0)) → Own B e w' v l' := by
  obtain ⟨a, c, rfl⟩ := h.sl.shape
  obtain ⟨g', cur, rfl, _, hb', hg, hnc, hcm, hcs, htake⟩ := h.blk hl
  cases hb
  have hle : l.length * Enc.sz α ≤ cur.toList.length := by simp [hcs]; exact Nat.mul_le_mul_right _ hnc
  refine ⟨cur, hg, by simp at hle; omega, fun w' hw' => .inr ⟨flat_len l', .inr ⟨g', c, _, by rw [hlen], hb', hw', by rw [hlen]; exact hnc, hcm, ?_, ?_⟩⟩⟩
  · simp [splice_len _ _ _ (show off + vs.length ≤ cur.toList.length by omega), hcs]
  · rw [hlen, List.toList_toArray, splice_take _ _ _ _ hoff hle, htake, hfl]

/-- a store of a whole element -/
theorem rstO' {t : TypeId} {sz : Nat} [ht : Size P t sz] (hsz : Enc.sz α = sz) {B : Nat} {e : TypeId} {v : Value} {l : List α} {g i : Nat} {u : Value} (x : α) (h : Own B e w v l) (hb : Value.blk v = some g) (hi : i < l.length) (hu : u.cells.toList = enc x)
    (hk : ∀ w', Own B e w' v (l.set i x) → Fr (ownD B v) w w' → w'.heap.size = w.heap.size → k undef w') : SemU P (Instr.storeAt t (.pointer (some ⟨g, i * sz, none⟩)) u) k pn w := by
  subst hsz
  have hle : i * Enc.sz α + (enc x).length ≤ l.length * Enc.sz α := by
    rw [Enc.len]; calc i * Enc.sz α + Enc.sz α = (i + 1) * Enc.sz α := by rw [Nat.add_mul, Nat.one_mul]
      _ ≤ _ := Nat.mul_le_mul_right _ hi
  obtain ⟨cur, hg, hfit, hw⟩ := h.stored (l' := l.set i x) (vs := enc x) (off := i * Enc.sz α) hb (by intro h0; subst h0; simp at hi) (by simp) hle (by unfold splice; rw [Enc.len]; exact flat_set l x hi)
  refine rst hg hu (Enc.len x) (by rw [Enc.len] at hfit; exact hfit) (Enc.one x) fun w' h1 h2 h3 => hk w' (hw w' h1) (h2.mono fun b _ hbb => ?_) h3
  subst hbb
  have hB : B ≤ b := by
    obtain ⟨g', hg', hB, _⟩ := h.lt (by intro h0; subst h0; simp at hi)
    rw [hb] at hg'; cases hg'; exact hB
  exact ⟨hB, hb, h.not0 (by intro h0; subst h0; simp at hi)⟩

theorem splice_flat (l : List α) {i : Nat} {x x' : α} {f : Nat} {u : Value} (hi : l[i]? = some x) (hx : enc x' = (enc x).set f u) (hf : f < Enc.sz α) : splice (flat l) (i * Enc.sz α + f) [u] = flat (l.set i x') := by
  obtain ⟨hl, hxx⟩ := List.getElem?_eq_some_iff.1 hi
  rw [← flat_set l x' hl, hx]
  have hle : i * Enc.sz α + Enc.sz α ≤ (flat l).length := by
    rw [flat_len]; calc i * Enc.sz α + Enc.sz α = (i + 1) * Enc.sz α := by rw [Nat.add_mul, Nat.one_mul]
      _ ≤ _ := Nat.mul_le_mul_right _ hl
  have hmid := flat_get l hi
  have e1 : flat l = (flat l).take (i * Enc.sz α) ++ enc x ++ (flat l).drop (i * Enc.sz α + Enc.sz α) := by
    rw [← hmid, List.append_assoc]
    have : ((flat l).drop (i * Enc.sz α)).take (Enc.sz α) ++ (flat l).drop (i * Enc.sz α + Enc.sz α) = (flat l).drop (i * Enc.sz α) := by
      rw [← List.drop_drop]; exact List.take_append_drop _ _
    rw [this, List.take_append_drop]
  generalize hA : (flat l).take (i * Enc.sz α) = A at *
  generalize hC : (flat l).drop (i * Enc.sz α + Enc.sz α) = C at *
  have hAl : A.length = i * Enc.sz α := by rw [← hA, List.length_take]; omega
  have hxl : (enc x).length = Enc.sz α := Enc.len x
  rw [e1]
  unfold splice
  rw [List.set_eq_take_append_cons_drop, if_pos (by omega)]
  simp only [List.length_singleton, List.take_append, List.drop_append, List.length_append, hAl, hxl]
  rw [List.take_of_length_le (l := A) (by omega), List.drop_of_length_le (l := A) (by omega)]
  rw [show i * Enc.sz α + f - (i * Enc.sz α) = f by omega, show i * Enc.sz α + f + 1 - i * Enc.sz α = f + 1 by omega]
  rw [show i * Enc.sz α + f - (i * Enc.sz α + Enc.sz α) = 0 by omega, show i * Enc.sz α + f + 1 - (i * Enc.sz α + Enc.sz α) = 0 by omega]
  simp

/-- a store into one field of an element -/
theorem rstOf' {t : TypeId} [ht : Size P t 1] {B : Nat} {e : TypeId} {v : Value} {l : List α} {g i f sz : Nat} {x : α} {u : Value} (x' : α) (hsz : Enc.sz α = sz) (h : Own B e w v l) (hb : Value.blk v = some g) (hi : l[i]? = some x) (hx : enc x' = (enc x).set f u) (hf : f < sz) (hu : u.cells = #[u]) (h1 : u.oneCell' = true)
    (hk : ∀ w', Own B e w' v (l.set i x') → Fr (ownD B v) w w' → w'.heap.size = w.heap.size → k undef w') : SemU P (Instr.storeAt t (.pointer (some ⟨g, i * sz + f, none⟩)) u) k pn w := by
  subst hsz
  have hil : i < l.length := (List.getElem?_eq_some_iff.1 hi).1
  have hle : i * Enc.sz α + f + [u].length ≤ l.length * Enc.sz α := by
    calc i * Enc.sz α + f + 1 ≤ (i + 1) * Enc.sz α := by rw [Nat.add_mul, Nat.one_mul]; omega
      _ ≤ _ := Nat.mul_le_mul_right _ hil
  have hl0 : l ≠ [] := by intro h0; subst h0; simp at hil
  obtain ⟨cur, hg, hfit, hw⟩ := h.stored (l' := l.set i x') (vs := [u]) (off := i * Enc.sz α + f) hb hl0 (by simp) hle (splice_flat l hi hx hf)
  refine rst hg (vs := [u]) (by simp [hu]) rfl hfit (by intro y hy; simp at hy; subst hy; exact h1) fun w' h1 h2 h3 => hk w' (hw w' h1) (h2.mono fun b _ hbb => ?_) h3
  subst hbb
  have hB : B ≤ b := by
    obtain ⟨g', hg', hB, _⟩ := h.lt hl0
    rw [hb] at hg'; cases hg'; exact hB
  exact ⟨hB, hb, h.not0 hl0⟩

/-- make -/
theorem made_flat (z : Array Value) (x : α) (hz : z.toList = enc x) (n : Nat) : (madeCells z (n * Enc.sz α)).toList = flat (List.replicate n x) := by
  have hzs : z.size = Enc.sz α := by rw [← Enc.len x, ← hz]; simp
  have hp := Enc.pos (α := α)
  apply List.ext_getElem?
  intro j
  have hr : ∀ n j, (flat (List.replicate n x))[j]? = if j < n * Enc.sz α then (enc x)[j % Enc.sz α]? else none := by
    intro n
    induction n with
    | zero => intro j; simp
    | succ n ih =>
      intro j
      simp only [List.replicate_succ, flat_cons, List.getElem?_append, Enc.len]
      by_cases h : j < Enc.sz α
      · have : j < (n + 1) * Enc.sz α := by rw [Nat.add_mul]; omega
        simp [h, this, Nat.mod_eq_of_lt h]
      · simp only [h, if_false, ih]
        have e1 : (j - Enc.sz α) % Enc.sz α = j % Enc.sz α := by rw [← Nat.mod_eq_sub_mod (by omega)]
        have e2 : (j - Enc.sz α < n * Enc.sz α) ↔ (j < (n + 1) * Enc.sz α) := by rw [Nat.add_mul]; omega
        simp only [e1, e2]
  rw [hr]
  by_cases h : j < n * Enc.sz α
  · have hm : j % Enc.sz α < Enc.sz α := Nat.mod_lt _ hp
    have hm' : j % z.size < z.size := by rw [hzs]; exact hm
    simp only [madeCells, Array.toList_map, Array.toList_range, List.getElem?_map, h, if_true]
    rw [List.getElem?_range h, ← hz]
    simp [hzs, hm]
  · simp only [madeCells, Array.toList_map, Array.toList_range, List.getElem?_map, h, if_false]
    rw [List.getElem?_eq_none (by simp; omega)]; rfl
theorem rmk' {t e : TypeId} {z : Value} {sz by' : Nat} [ht : SlT P t e] [he : Elem P e z sz by'] (x : α) (hsz : Enc.sz α = sz) (hz : z.cells.toList = enc x) {n : Nat} {B : Nat} (hB : B ≤ w.heap.size) (hb : by' * n ≤ 281474976710656 ∧ n ≤ 9223372036854775807)
    (hk : ∀ g w', Own B e w' (.slice (some ⟨g, 0, none⟩) n n) (List.replicate n x) → Ext w w' → w.heap.size ≤ g → k (.slice (some ⟨g, 0, none⟩) n n) w') : SemV P (Instr.makeSlice t (.int .i64 n) (.int .i64 n)) k pn w := by
  obtain ⟨i, hi, hz0, hs, hby⟩ := info_parts he.h
  subst hsz
  obtain ⟨w', h1, h2, h3⟩ := run_make_full (P := P) w B t e i z (Enc.sz α) ht.h hi hz0 hs .i64 .i64 n (by rw [hby]; exact hb.1) (by unfold maxLen; omega) hB
  rw [made_flat z.cells x hz n] at h2
  refine SemV.of h1 (hk _ w' (.inr (by simpa using h2)) ((Fr.grown h3 fun _ _ hr => by cases hr).mono fun _ _ h => by simp at h) (Nat.le_refl _))

/-- a part of what is owned, to copy into it -/
theorem rslO {t e : TypeId} {z : Value} {sz by' : Nat} [ht : SlT P t e] [he : Elem P e z sz by'] {B : Nat} {a : Option Addr} {n c : Nat} {l : List α} (lo hi : Option Nat) (h : Own B e w (.slice a n c) l) (h1 : lo.getD 0 ≤ hi.getD n) (h2 : hi.getD n ≤ n)
    (hk : ∀ a' c', (hi.getD n - lo.getD 0 = 0 ∨ ∃ g, Value.blk (.slice a n c) = some g ∧ a' = some ⟨g, lo.getD 0 * sz, none⟩) → k (.slice a' (hi.getD n - lo.getD 0) c') w) : SemV P (Instr.sliceAt t (.slice a n c) (loV lo) (loV hi) none) k pn w := by
  have hnc : n ≤ c := by obtain ⟨a', c', hv, hc, _⟩ := h.sl; cases hv; exact hc
  refine SemV.of (run_slice ht he lo hi h1 (by omega) w) (hk _ _ ?_)
  by_cases h0 : hi.getD n - lo.getD 0 = 0
  · exact .inl h0
  · right
    have hn : n = l.length := by obtain ⟨a', c', hv, hc, _⟩ := h.sl; cases hv; rfl
    obtain ⟨g, cur, rfl, _⟩ := h.blk (by intro h0; subst h0; simp at hn; omega)
    exact ⟨g, rfl, by rw [if_neg (by omega)]; simp [addr_add]⟩

theorem rcp' {dT sT ty e : TypeId} {z : Value} {sz by' : Nat} [ht : SlT P dT e] [he : Elem P e z sz by'] (hsz : Enc.sz α = sz) {B : Nat} {v x : Value} {l m : List α} {a' : Option Addr} {dn dc : Nat} (lo : Nat) (hO : Own B e w v l) (hS : SlF w x m)
    (hd : dn = 0 ∨ ∃ g, Value.blk v = some g ∧ a' = some ⟨g, lo * sz, none⟩) (hle : lo + dn ≤ l.length) (hmd : m.length ≤ dn)
    (hk : ∀ w', Own B e w' v (l.take lo ++ m ++ l.drop (lo + m.length)) → Fr (ownD B v) w w' → w'.heap.size = w.heap.size → k (.int .i64 m.length) w') : SemV P (Builtin.copy_ #[dT, sT] ty #[.slice a' dn dc, x]) k pn w := by
  obtain ⟨i, hi, _, hs, _⟩ := info_parts he.h
  subst hsz
  obtain ⟨xa, xc, rfl, hxc, hx⟩ := hS
  by_cases hm0 : m = []
  · subst hm0
    have hres : l.take lo ++ [] ++ l.drop (lo + ([] : List α).length) = l := by simp
    refine SemV.of (v := .int .i64 ((0 : Nat) : Int)) (w' := w) ?_ (hk w (by rw [hres]; exact hO) (Fr.refl _ w) rfl)
    cases xa <;> cases a' <;> simp [Builtin.copy_, run_underlying ht.h, Builtin.lenOf, sizeOf, typeInfo, hi, Builtin.firstCells, loadCells, loadCellsFrom, storeCells, goInt]
  · have hml : 0 < m.length := by cases m; exact absurd rfl hm0; simp
    rcases hx with hx | ⟨b, o, rfl, hat⟩
    · exact absurd hx hm0
    rcases hd with hd | ⟨g, hg, rfl⟩
    · omega
    have hl0 : l ≠ [] := by intro h0; subst h0; simp at hle; omega
    have hoff : lo * Enc.sz α + (flat m).length ≤ l.length * Enc.sz α := by
      rw [flat_len, ← Nat.add_mul]; exact Nat.mul_le_mul_right _ (by omega)
    have hspl : splice (flat l) (lo * Enc.sz α) (flat m) = flat (l.take lo ++ m ++ l.drop (lo + m.length)) := by
      simp only [flat_append, flat_take, flat_drop, splice, flat_len, ← Nat.add_mul]
    obtain ⟨cur, hcur, hfit, hw⟩ := hO.stored (l' := l.take lo ++ m ++ l.drop (lo + m.length)) (vs := flat m) hg hl0 (by simp; omega) hoff hspl
    have hnews : ∀ j u, (flat m)[j]? = some u → w.cell? ((⟨b, o, none⟩ : Addr).add j) = some u := fun j u hj => by rw [addr_add]; exact hat j u hj
    have hld := run_firstCells_some (P := P) w (Enc.sz α) m.length ⟨b, o, none⟩ m.length xc (flat m) (flat_len m) hnews
    have hst := run_storeCells_at P g (lo * Enc.sz α) e (flat m) 0 cur w hcur (by simpa using hfit) (flat_one m)
    simp only [Nat.add_zero] at hst
    have hmin : Nat.min m.length dn = m.length := Nat.min_eq_left hmd
    have hB : B ≤ g := by obtain ⟨g', hg', hB, _⟩ := hO.lt hl0; rw [hg] at hg'; cases hg'; exact hB
    refine SemV.of (v := .int .i64 (m.length : Int)) (w' := w.setRow g (splice cur.toList (lo * Enc.sz α) (flat m)).toArray) ?_ (hk _ (hw _ (setRow_heap w g cur _ e _ hcur)) ((Fr.setRow w g _).mono fun j _ hj => ⟨by omega, by rw [hj]; exact hg, hO.not0 hl0⟩) (by simp))
    simp only [Builtin.copy_, Builtin.lenOf, sizeOf, typeInfo]
    simp [hst, goInt, splice, run_underlying ht.h, hmin, hld, hi, hs]
theorem rstO {t : TypeId} {sz : Nat} [ht : Size P t sz] (hsz : Enc.sz α = sz) {u : World} {e : TypeId} {v : Value} {l : List α} {g i : Nat} {y : Value} (x : α) (h : Own u.heap.size e w v l) (hb : Value.blk v = some g) (hi : i < l.length) (hu : y.cells.toList = enc x)
    (hk : ∀ w', Own u.heap.size e w' v (l.set i x) → Fr (ownD u.heap.size v) w w' → Stw u w w' → w'.heap.size = w.heap.size → k undef w') : SemU P (Instr.storeAt t (.pointer (some ⟨g, i * sz, none⟩)) y) k pn w :=
  rstO' hsz x h hb hi hu fun w' h1 h2 h3 => hk w' h1 h2 (ownD_stw h2) h3
theorem rstOf {t : TypeId} [ht : Size P t 1] {u : World} {e : TypeId} {v : Value} {l : List α} {g i f sz : Nat} {x : α} {y : Value} (x' : α) (hsz : Enc.sz α = sz) (h : Own u.heap.size e w v l) (hb : Value.blk v = some g) (hi : l[i]? = some x) (hx : enc x' = (enc x).set f y) (hf : f < sz) (hu : y.cells = #[y]) (h1 : y.oneCell' = true)
    (hk : ∀ w', Own u.heap.size e w' v (l.set i x') → Fr (ownD u.heap.size v) w w' → Stw u w w' → w'.heap.size = w.heap.size → k undef w') : SemU P (Instr.storeAt t (.pointer (some ⟨g, i * sz + f, none⟩)) y) k pn w :=
  rstOf' x' hsz h hb hi hx hf hu h1 fun w' a b c => hk w' a b (ownD_stw b) c
theorem rmk {t e : TypeId} {z : Value} {sz by' : Nat} [ht : SlT P t e] [he : Elem P e z sz by'] (x : α) (hsz : Enc.sz α = sz) (hz : z.cells.toList = enc x) {n : Nat} (hb : by' * n ≤ 281474976710656 ∧ n ≤ 9223372036854775807)
    (hk : ∀ g w', Own w.heap.size e w' (.slice (some ⟨g, 0, none⟩) n n) (List.replicate n x) → Stp w w' → w.heap.size ≤ g → k (.slice (some ⟨g, 0, none⟩) n n) w') : SemV P (Instr.makeSlice t (.int .i64 n) (.int .i64 n)) k pn w :=
  rmk' x hsz hz (Nat.le_refl _) hb fun g w' a b c => hk g w' a ⟨b⟩ c
theorem rcp {dT sT ty e : TypeId} {z : Value} {sz by' : Nat} [ht : SlT P dT e] [he : Elem P e z sz by'] (hsz : Enc.sz α = sz) {u : World} {v x : Value} {l m : List α} {a' : Option Addr} {dn dc : Nat} (lo : Nat) (hO : Own u.heap.size e w v l) (hS : SlF w x m)
    (hd : dn = 0 ∨ ∃ g, Value.blk v = some g ∧ a' = some ⟨g, lo * sz, none⟩) (hle : lo + dn ≤ l.length) (hmd : m.length ≤ dn)
    (hk : ∀ w', Own u.heap.size e w' v (l.take lo ++ m ++ l.drop (lo + m.length)) → Fr (ownD u.heap.size v) w w' → Stw u w w' → w'.heap.size = w.heap.size → k (.int .i64 m.length) w') : SemV P (Builtin.copy_ #[dT, sT] ty #[.slice a' dn dc, x]) k pn w :=
  rcp' hsz lo hO hS hd hle hmd fun w' a b c => hk w' a b (ownD_stw b) c
end
end Go.W
