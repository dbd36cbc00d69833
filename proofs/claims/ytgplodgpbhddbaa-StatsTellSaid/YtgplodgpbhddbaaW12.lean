/-
  Proved here: what can be read as a row says is data as the contracts want it; a law that returns true and changes nothing meets its row.
  Conditions: those that each fact names.
-/
import Derived.Test.YtgplodgpbhddbaaW11
import Derived.ProofKit
import Derived.SizedLaws
set_option linter.unusedSimpArgs false
namespace Go.W
open Go
open Enc (enc)

/-! from a row's condition, that the arguments can be read, to the data -/
section
variable {P : Program}
class Rd (P : Program) (t : TypeId) (α : Type) [Enc α] where
  G : World → α → Prop
  cells : P.cellsOf t = Enc.sz α
  rd : ∀ {H : Type} {eH : TypeId × Value → H} {w : World} {sp : Nat → Bool} {fuel : Nat} {cs : List Value} {x : DataW H × List MemPlace}, DataW.trod eH P w 0 sp true fuel t cs = some x → ∃ a : α, cs = enc a ∧ G w a

abbrev rdInt {t : TypeId} (h : P.underlying t = some (.int .i64)) (hc : P.cellsOf t = 1) : Rd P t Int where
  G _ q := -9223372036854775808 ≤ q ∧ q ≤ 9223372036854775807
  cells := hc
  rd := by
    intro H eH w sp fuel cs x hx
    cases fuel with
    | zero => simp [DataW.trod] at hx
    | succ n =>
      unfold DataW.trod at hx
      rw [h] at hx
      split at hx <;> simp_all
      obtain ⟨⟨rfl, hw⟩, _⟩ := hx
      subst_vars
      refine ⟨_, rfl, ?_⟩
      simp [Lit.wf, IntKind.min, IntKind.max, IntKind.signed, IntKind.bits] at hw
      omega
abbrev rdBool {t : TypeId} (h : P.underlying t = some .bool) (hc : P.cellsOf t = 1) : Rd P t Bool where
  G _ _ := True
  cells := hc
  rd := by
    intro H eH w sp fuel cs x hx
    cases fuel with
    | zero => simp [DataW.trod] at hx
    | succ n =>
      unfold DataW.trod at hx
      rw [h] at hx
      split at hx
      case h_1 => exact ⟨_, rfl, trivial⟩
      all_goals simp_all
abbrev rdStr {t : TypeId} (h : P.underlying t = some .string) (hc : P.cellsOf t = 1) : Rd P t ByteArray where
  G _ s := s.size ≤ maxLen
  cells := hc
  rd := by
    intro H eH w sp fuel cs x hx
    cases fuel with
    | zero => simp [DataW.trod] at hx
    | succ n =>
      unfold DataW.trod at hx
      rw [h] at hx
      split at hx <;> simp_all
      exact ⟨_, rfl, hx.1⟩

theorem At.app {w : World} {b o : Nat} {l m : List Value} (h1 : At w b o l) (h2 : At w b (o + l.length) m) : At w b o (l ++ m) := by
  intro j v hj
  rw [List.getElem?_append] at hj
  split at hj
  · exact h1 j v hj
  · have := h2 _ v hj
    rwa [show o + l.length + (j - l.length) = o + j by omega] at this
theorem At.flat {α : Type} [Enc α] {w : World} {b : Nat} : ∀ {l : List α} {o : Nat}, (∀ (i : Nat) (x : α), l[i]? = some x → At w b (o + i * Enc.sz α) (enc x)) → At w b o (Go.W.flat l) := by
  intro l
  induction l with
  | nil => intro o _ j v hj; simp at hj
  | cons x r ih =>
    intro o h
    refine At.app (by simpa using h 0 x rfl) (ih fun i y hy => ?_)
    have := h (i + 1) y (by simpa using hy)
    rwa [Enc.len, show o + Enc.sz α + i * Enc.sz α = o + (i + 1) * Enc.sz α by rw [Nat.add_mul]; omega]

theorem list_of {α : Type} {p : Nat → α → Prop} : ∀ {n : Nat}, (∀ i, i < n → ∃ a, p i a) → ∃ l : List α, l.length = n ∧ ∀ i a, l[i]? = some a → p i a := by
  intro n
  induction n with
  | zero => intro _; exact ⟨[], rfl, by simp⟩
  | succ n ih =>
    intro h
    obtain ⟨l, hl, hp⟩ := ih fun i hi => h i (by omega)
    obtain ⟨a, ha⟩ := h n (by omega)
    refine ⟨l ++ [a], by simp [hl], fun i b hb => ?_⟩
    rw [List.getElem?_append] at hb
    split at hb
    · exact hp i b hb
    · rename_i hge
      cases hk : i - l.length with
      | zero => rw [hk] at hb; simp at hb; subst hb; rwa [show i = n by omega]
      | succ k => rw [hk] at hb; simp at hb

theorem rd_slice {α : Type} [Enc α] {t e : TypeId} [R : Rd P e α] (ht : P.underlying t = some (.slice e)) {H : Type} {eH : TypeId × Value → H} {w : World} {sp : Nat → Bool} {fuel : Nat} {cs : List Value} {x : DataW H × List MemPlace} (hx : DataW.trod eH P w 0 sp true fuel t cs = some x) :
    ∃ a n c, ∃ l : List α, cs = [.slice a n c] ∧ SlF w (.slice a n c) l ∧ (∀ y ∈ l, R.G w y) ∧ c ≤ maxLen ∧ n ≤ c := by
  rcases DataW.trod_slice ht hx with ⟨rfl, _⟩ | ⟨a, len, cap, elems, rest, n, _, rfl, _, _, hl, hm, hlen, hel, _⟩
  · exact ⟨none, 0, 0, [], rfl, SlF.nil w, by simp, by decide, Nat.le_refl _⟩
  · have hex : ∀ i, i < len → ∃ y : α, (∃ c, w.cells? 0 (a.add (i * P.cellsOf e)) (P.cellsOf e) = some c ∧ c = enc y) ∧ R.G w y := by
      intro i hi
      have hE := hel i hi
      rw [List.getElem?_eq_getElem (by omega), Option.bind_eq_some_iff] at hE
      obtain ⟨c, h1, h2⟩ := hE
      obtain ⟨y, h3, h4⟩ := R.rd h2
      exact ⟨y, ⟨c, h1, h3⟩, h4⟩
    obtain ⟨l, hll, hp⟩ := list_of hex
    refine ⟨some a, len, cap, l, rfl, ⟨_, _, by rw [hll], by rw [hll]; exact hl, ?_⟩, ?_, hm, hl⟩
    · by_cases h0 : l = []
      · exact .inl h0
      · right
        have hpos := Enc.pos (α := α)
        have hc := R.cells
        have hl0 : 0 < l.length := by cases l; exact absurd rfl h0; simp
        have hspot : a.spot = none := by
          obtain ⟨⟨c, h1, h2⟩, _⟩ := hp 0 l[0] (by simp [hl0])
          obtain ⟨_, h3, h4⟩ := World.cells?_some h1
          have := h4 0 (by omega)
          rw [List.getElem?_eq_getElem (by omega)] at this
          have h5 : (a.add (0 * P.cellsOf e)).add 0 = a := by simp [Addr.add]
          rw [h5] at this
          unfold World.cell? at this
          split at this
          · split at this
            · cases this
            · rename_i hs; simpa using hs
          · cases this
        obtain ⟨ab, ao, as⟩ := a
        simp only at hspot; subst hspot
        refine ⟨ab, ao, rfl, At.flat fun i y hy => ?_⟩
        obtain ⟨⟨c, h1, rfl⟩, _⟩ := hp i y hy
        obtain ⟨_, h3, h4⟩ := World.cells?_some h1
        intro j v hj
        have hjl : j < (enc y).length := (List.getElem?_eq_some_iff.1 hj).1
        have := h4 j (by omega)
        rw [addr_add, addr_add, hc] at this
        rw [this]; exact hj
    · intro y hy
      obtain ⟨i, hi, rfl⟩ := List.mem_iff_getElem.1 hy
      exact (hp i _ (by simp [hi])).2
abbrev rdSl {α : Type} [Enc α] {t e : TypeId} [R : Rd P e α] (ht : P.underlying t = some (.slice e)) (hc : P.cellsOf t = 1) : Rd P t SV where
  G w s := ∃ l : List α, SlF w s.v l ∧ (∀ y ∈ l, R.G w y) ∧ s.c ≤ maxLen ∧ s.n ≤ s.c
  cells := hc
  rd := by
    intro H eH w sp fuel cs x hx
    obtain ⟨a, n, c, l, rfl, h1, h2, h3, h4⟩ := rd_slice (α := α) ht hx
    exact ⟨⟨a, n, c⟩, rfl, l, h1, h2, h3, h4⟩

def strB (P : Program) (t : TypeId) (fl : List (TypeId × Nat × Nat)) (n : Nat) : Bool :=
  match P.underlying t with
  | some (.struct fs) => decide (fs.toList.map (fun f => (f.type, f.offset, P.cellsOf f.type)) = fl) && P.cellsOf t == n
  | _ => false
theorem rd_struct {t : TypeId} {fl : List (TypeId × Nat × Nat)} {n : Nat} (h : strB P t fl n = true) {H : Type} {eH : TypeId × Value → H} {w : World} {sp : Nat → Bool} {fuel : Nat} {cs : List Value} {x : DataW H × List MemPlace} (hx : DataW.trod eH P w 0 sp true fuel t cs = some x) :
    cs.length = n ∧ ∀ (i : Nat) (ft : TypeId) (off sz : Nat), fl[i]? = some (ft, off, sz) → ∃ fuel y, DataW.trod eH P w 0 sp true fuel ft ((cs.drop off).take sz) = some y := by
  unfold strB at h
  split at h
  · rename_i fs hfs
    rw [Bool.and_eq_true] at h
    obtain ⟨h1, h2⟩ := h
    obtain ⟨xs, m, _, _, h3, h4, h5⟩ := DataW.trod_struct hfs hx
    refine ⟨by rw [h3]; exact of_decide_eq_true (by simpa using h2), fun i ft off sz hi => ?_⟩
    rw [← of_decide_eq_true h1, List.getElem?_map, Option.map_eq_some_iff] at hi
    obtain ⟨f, hf, he⟩ := hi
    injection he with e1 he; injection he with e2 e3
    subst e1; subst e2; subst e3
    have hf' : fs[i]? = some f := by simpa using hf
    have := h5 i f hf'
    have hlt : i < xs.length := by rw [h4]; exact (Array.getElem?_eq_some_iff.1 hf').1
    rw [List.getElem?_eq_getElem hlt] at this
    exact ⟨m, _, this⟩
  · cases h
theorem rd_field {α : Type} [Enc α] {t : TypeId} {fl : List (TypeId × Nat × Nat)} {H : Type} {eH : TypeId × Value → H} {w : World} {sp : Nat → Bool} {cs : List Value} (hf : ∀ (i : Nat) (ft : TypeId) (off sz : Nat), fl[i]? = some (ft, off, sz) → ∃ fuel y, DataW.trod eH P w 0 sp true fuel ft ((cs.drop off).take sz) = some y)
    (i : Nat) {off sz : Nat} [R : Rd P t α] (hi : fl[i]? = some (t, off, sz)) : ∃ a : α, (cs.drop off).take sz = enc a ∧ R.G w a := by
  obtain ⟨fuel, y, h⟩ := hf i t off sz hi
  exact R.rd h
theorem tile {cs : List Value} {off sz n : Nat} {a r : List Value} (h : (cs.drop off).take sz = a) (hr : cs.drop n = r) (hn : off + sz = n) : cs.drop off = a ++ r := by
  subst hn; rw [← h, ← hr, ← List.drop_drop, List.take_append_drop]
theorem tile0 {cs : List Value} {n : Nat} (h : cs.length = n) : cs.drop n = [] := List.drop_eq_nil_of_le (by omega)

/-! arguments -/
theorem notAgg {W : World} {b : Nat} {t : TypeId} {v : Value} {cs : Array Value} (h : Value.okWide P W .any b t v) (hv : v = .agg cs) : (∃ fs, P.underlying t = some (.struct fs)) ∨ ∃ n e, P.underlying t = some (.array n e) := by
  subst hv
  unfold Value.okWide at h
  split at h
  · rename_i fs hf; exact .inl ⟨fs, hf⟩
  · rename_i n e hf; exact .inr ⟨n, e, hf⟩
  · rename_i h1 h2
    unfold Cell.okWide Cell.ok at h
    split at h <;> try cases ‹Value.agg cs = _›
    split at h <;> first | cases ‹Value.agg cs = _› | cases h
theorem arg_one {W : World} {b : Nat} {t : TypeId} {v u : Value} (h : Value.okWide P W .any b t v) (hn : (match P.underlying t with | some (.struct _) => false | some (.array _ _) => false | _ => true) = true) (hc : v.cells.toList = [u]) : v = u := by
  cases v <;> first
    | (simp [Value.cells] at hc; exact hc)
    | (rename_i cs; rcases notAgg h rfl with ⟨fs, hf⟩ | ⟨n, e, hf⟩ <;> rw [hf] at hn <;> cases hn)
theorem arg_agg {W : World} {b : Nat} {t : TypeId} {v : Value} {cs : List Value} (h : Value.okWide P W .any b t v) (hn : (match P.underlying t with | some (.struct _) => true | some (.array _ _) => true | _ => false) = true) (hc : v.cells.toList = cs) : v = .agg cs.toArray := by
  unfold Value.okWide at h
  split at h
  · obtain ⟨c, rfl, _⟩ := h; simp [Value.cells] at hc; simp [← hc]
  · obtain ⟨c, rfl, _⟩ := h; simp [Value.cells] at hc; simp [← hc]
  · rename_i h1 h2
    split at hn
    · exact absurd ‹_› (h1 _)
    · exact absurd ‹_› (h2 _ _)
    · cases hn
/-! a law's row: from the contract to the given statement -/
theorem trodAll_keep {H : Type} {eH : TypeId × Value → H} (hl : laidOutB P = true) {W W' : World} (hb : Go.RowKit.Below W.heap.size W W') : ∀ {ts : List TypeId} {vs : List Value} {ds : List (DataW H)} {ps : List MemPlace}, ts.all (fun t => P.readableRec t && decide (t < P.types.size)) = true →
    DataW.TrodAll eH P W 0 (fun _ => true) true ts vs ds ps → (∀ x ∈ ps, x.block < W.heap.size) → DataW.TrodAll eH P W' 0 (fun b => decide (b < W.heap.size)) true ts vs ds ps
  | [], [], [], _, _, h, _ => h
  | [], [], _ :: _, _, _, h, _ => h.elim
  | [], _ :: _, _, _, _, h, _ => h.elim
  | _ :: _, [], _, _, _, h, _ => h.elim
  | _ :: _, _ :: _, [], _, _, h, _ => h.elim
  | t :: ts, v :: vs, d :: ds, ps, ht, ⟨p, q, h1, h2, e⟩, hlt => by
    simp only [List.all_cons, Bool.and_eq_true, decide_eq_true_eq] at ht
    subst e
    exact ⟨p, q, Go.RowKit.Below.trod hl ht.1.1 ht.1.2 h1 hb fun x hx => hlt x (List.mem_append_left _ hx),
      trodAll_keep hl hb (by simpa using ht.2) h2 fun x hx => hlt x (List.mem_append_right _ hx), rfl⟩
theorem Ext.kept {W W' : World} {may : MemPlace → Prop} (h : Ext W W') : W.keptBut W' may := by
  refine ⟨h.os, h.output, fun i hi => ?_⟩
  rw [h.below.block i hi]
  have : ∃ o, W.heap[i]? = some o := ⟨_, Array.getElem?_eq_getElem hi⟩
  obtain ⟨o, ho⟩ := this
  rw [ho]
  cases o <;> simp

theorem trodAll_len {H : Type} {eH : TypeId × Value → H} {W : World} {b : Nat} {sp : Nat → Bool} {hd : Bool} : ∀ {ts : List TypeId} {vs : List Value} {ds : List (DataW H)} {ps : List MemPlace}, DataW.TrodAll eH P W b sp hd ts vs ds ps → ds.length = ts.length
  | [], [], [], _, _ => rfl
  | [], [], _ :: _, _, h => h.elim
  | [], _ :: _, _, _, h => h.elim
  | _ :: _, [], _, _, h => h.elim
  | _ :: _, _ :: _, [], _, h => h.elim
  | _ :: _, _ :: _, _ :: _, _, ⟨_, _, _, h, _⟩ => congrArg (· + 1) (trodAll_len h)

theorem law_lift {C : Checked} {os : Os} {f : FuncId} {fn : Func} {s : ChangeSpec} {H : Type} {eH : TypeId × Value → H} {tb : TypeId}
    (own : ownKnob C.prog.godebug = none) (started : os.Started) (noInit : C.prog.inits.idxOf? f = none) (hfn : C.prog.funcs[f]? = some fn)
    (witness : ∃ (w : World) (tape : Tape) (i : Input), w.os = os ∧ (w.forCall tape i).Shaped C.prog ∧ i.vars = [] ∧ Input.okWide C.prog (w.forCall tape i) .any w.heap.size f i ∧
      s.pre6 eH C.prog fn [] false (w.forCall tape i).memory i.args ∧ ({} : Assume).holds C.prog (lone (Frame.enter C.prog f i.args .normal) [] (w.forCall tape i)))
    (hl : laidOutB C.prog = true) (hrd : fn.params.toList.all (fun t => C.prog.readableRec t && decide (t < C.prog.types.size)) = true) (hv : s.vars = []) (hr : fn.resultTypes = #[tb]) (hb : C.prog.underlying tb = some .bool)
    (hs : ∀ ds : List (DataW H), ds.length = fn.params.size → s.fn H ds = { results := [.lit (.bool true)], args := ds })
    (law : ∀ (W : World) (base : Nat) (args : Array Value) (ds : List (DataW H)) (ps : List MemPlace), (∀ (j : Nat) t v, fn.params[j]? = some t → args[j]? = some v → Value.okWide C.prog W .any base t v) →
      DataW.TrodAll eH C.prog W 0 (fun _ => true) true fn.params.toList args.toList ds ps → (DataW.weightsEach C.prog fn.params.toList ds).all (· ≤ reachBytes) = true → Sp C.prog f args W fun v W' => v = .bool true ∧ Ext W W') :
    ReturnsInHanded {} C os f .any (s.pre6 eH C.prog fn [] false) (s.post eH C.prog fn false true false false) := by
  refine returnsInHanded_of_change_sized own started noInit hfn witness ?_
  intro W base args ds gs before hval hW _ hwt _
  have hlt := hW.lt
  have hW' := hW
  obtain ⟨p, q, hA, hV, rfl, hfz, hnd⟩ := hW
  rw [hv] at hV
  have hgs : gs = [] ∧ q = [] := by
    cases gs with
    | nil => exact ⟨rfl, hV⟩
    | cons g r => exact hV.elim
  obtain ⟨rfl, rfl⟩ := hgs
  have hwt' : (DataW.weightsEach C.prog fn.params.toList ds).all (· ≤ reachBytes) = true := by
    have : s.plain.varTypes C.prog = [] := by simp [DataSpec.varTypes, ChangeSpec.plain, hv]
    rw [this] at hwt; simpa using hwt
  refine (law W base args ds p hval hA hwt').calls.mono fun e W' he => ?_
  cases e <;> try exact he.elim
  rename_i v
  obtain ⟨rfl, he⟩ := he
  refine ⟨_, rfl, ds, [], p ++ [], [], p, [], hW', ?_, ?_, ?_, he.kept, fun h => by cases h⟩
  · rw [List.append_nil, hs ds (by have := trodAll_len hA; simpa using this), hr]
    exact Go.ChangeShapes.trodAll_mk1 (Go.RowKit.shut_bool hb _)
  · rw [List.append_nil, hs ds (by have := trodAll_len hA; simpa using this)]
    exact trodAll_keep hl he.below hrd hA fun x hx => hlt x (by simpa using hx)
  · rw [List.append_nil, hs ds (by have := trodAll_len hA; simpa using this), hv]
    rfl
end
end Go.W
