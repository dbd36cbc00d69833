/-
  Proved here: rules of calls, results, branches and arithmetic.
  Conditions: those that each fact names.
-/
import Derived.Test.YtgplodgpbhddbaaW2
import Derived.RangeFuncLeaves
import Derived.RangeFuncRecord
namespace Go.W
open Go

/-! entering a function -/
def codeOf (fn : Func) : Code := match fn.body with | some c => c | none => .refuse ""
structure LoadR (P : Program) (t : TypeId) (a : Addr) (k : Value → Prop) (w : World) : Prop where
  out : ∃ v, (loadVar t a).run P w = .ok v w ∧ k v
theorem LoadR_iff (P : Program) (t : TypeId) (a : Addr) (k : Value → Prop) (w : World) : LoadR P t a k w ↔ (∃ v, (loadVar t a).run P w = .ok v w ∧ k v) := ⟨fun h => h.out, fun h => ⟨h⟩⟩

def resS (P : Program) : List ResultVar → List Value → (Nat → Value) → (Value → World → Prop) → World → Prop
  | [], acc, _, R, w => match acc with | [v] => R v w | acc => R (.tuple acc.toArray) w
  | .tmp t :: r, acc, F, R, w => resS P r (acc ++ [ev F (.tmp t)]) F R w
  | .cell p t :: r, acc, F, R, w => match ev F (.tmp p) with
    | .pointer (some a) => LoadR P t a (fun v => resS P r (acc ++ [v]) F R w) w
    | _ => False

/-- deferred calls are left to be carried out -/
structure LeaveS (P : Program) (rs : List ResultVar) (F : Nat → Value) (ds : List Deferred) (u : FrameMode) (R : Value → World → Prop) (pn : List PanicEntry → World → Prop) (w : World) : Prop where
  out : ∀ (fn : Func) (tmps : Array Value), fn.results.toList = rs → (∀ t, tmps.getD t undef = ev F (.tmp t)) → LeavesInM Fence.wide 0 P fn tmps (RetP R pn) ds u w
def retS (P : Program) (rs : List ResultVar) (R : Value → World → Prop) (pn : List PanicEntry → World → Prop) (F : Nat → Value) (w : World) : Prop :=
  match decD (F 4294967296) with
  | [] => resS P rs [] F R w
  | d :: ds => LeaveS P rs F (d :: ds) .returning R pn w
def panS (P : Program) (rs : List ResultVar) (R : Value → World → Prop) (pn : List PanicEntry → World → Prop) (F : Nat → Value) (c : List PanicEntry) (w : World) : Prop :=
  match decD (F 4294967296) with
  | [] => pn c w
  | d :: ds => LeaveS P rs F (d :: ds) (.panicking c) R pn w
def retK (P : Program) (rs : List ResultVar) (R : Value → World → Prop) (pn : List PanicEntry → World → Prop) : KS where
  nrm := fun F w => retS P rs R pn F w
  ext := fun _ _ _ => False
  ret := fun F w => retS P rs R pn F w
  pan := fun F c w => panS P rs R pn F c w

section
variable {P : Program}

def resRun (F : Nat → Value) (x : ResultVar) : Sem Value :=
  match x with
  | .tmp t => pure (ev F (.tmp t))
  | .cell a t => do loadVar t (← asAddr (ev F (.tmp a)))

theorem resS_run (F : Nat → Value) (R : Value → World → Prop) (w : World) : ∀ (l : List ResultVar) (acc : List Value),
    resS P l acc F R w → ∃ vs, (l.mapM (resRun F)).run P w = .ok vs w ∧
      (match acc ++ vs with | [v] => R v w | acc => R (.tuple acc.toArray) w)
  | [], acc, h => ⟨[], by simp, by simpa [resS] using h⟩
  | .tmp t :: r, acc, h => by
    simp only [resS] at h
    obtain ⟨vs, h1, h2⟩ := resS_run F R w r _ h
    refine ⟨ev F (.tmp t) :: vs, ?_, by simpa using h2⟩
    simp only [List.mapM_cons, Sem.run_bind, h1, resRun, Sem.run_pure, Result.andThen_ok]
  | .cell p t :: r, acc, h => by
    simp only [resS] at h
    split at h
    · rename_i a ha
      rw [LoadR_iff] at h
      obtain ⟨v, hr, h⟩ := h
      obtain ⟨vs, h1, h2⟩ := resS_run F R w r _ h
      refine ⟨v :: vs, ?_, by simpa using h2⟩
      simp only [List.mapM_cons, Sem.run_bind, h1, resRun, Sem.run_pure, Result.andThen_ok, ha, asAddr, hr]
    · exact h.elim

theorem resRun_eq {tmps : Array Value} {F : Nat → Value} (hF : ∀ t, tmps.getD t undef = ev F (.tmp t)) (x : ResultVar) : (match x with
    | .tmp t => pure (tmps.getD t undef)
    | .cell a t => do loadVar t (← asAddr (tmps.getD a undef)) : Sem Value) = resRun F x := by
  cases x <;> simp only [resRun, hF]
theorem results_of (fn : Func) (tmps : Array Value) (F : Nat → Value) (R : Value → World → Prop) (w : World) (hF : ∀ t, tmps.getD t undef = ev F (.tmp t)) (h : resS P fn.results.toList [] F R w) :
    ∃ v, (results fn tmps).run P w = .ok v w ∧ R v w := by
  obtain ⟨vs, h1, h2⟩ := resS_run F R w _ _ h
  have key : (fn.results.mapM (resRun F)).run P w = .ok vs.toArray w := by
    rw [Array.mapM_eq_mapM_toList, Sem.run_map, h1]; rfl
  have e : results fn tmps = (do let vs ← fn.results.mapM (resRun F); pure (if h : vs.size = 1 then vs[0] else .tuple vs)) := by
    have hx : (fun x : ResultVar => (match x with
      | .tmp t => pure (tmps.getD t undef)
      | .cell a t => do loadVar t (← asAddr (tmps.getD a undef)) : Sem Value)) = resRun F := funext (resRun_eq hF)
    rw [← hx]
    unfold results
    congr 1
  rw [e, Sem.run_bind, key]
  simp only [Result.andThen_ok, List.nil_append] at h2 ⊢
  match vs, h2 with
  | [], h2 => exact ⟨_, by simp, h2⟩
  | [v], h2 => exact ⟨v, by simp, h2⟩
  | a :: b :: r, h2 => exact ⟨_, by simp, h2⟩

theorem argF_get (l : List Value) (t : Nat) : argF l t = (l[t]?).getD undef := by
  induction l generalizing t with
  | nil => simp [argF]
  | cons x r ih => cases t <;> simp [argF, ih]

theorem enter_rel (args : Array Value) (n : Nat) (hs : args.size ≤ n) (hk : n ≤ 4294967296) : Rel n (argF args.toList) { tmps := args ++ Array.replicate (n - args.size) undef, defers := [] } := by
  refine ⟨by simp; omega, hk, ?_, ?_⟩
  · rw [argF_get, List.getElem?_eq_none (by simp; omega)]; rfl
  intro t _
  rw [argF_get]
  simp only [Array.getD_eq_getD_getElem?, Array.getElem?_append]
  by_cases h : t < args.size
  · simp [h]
  · have h2 : args.toList[t]? = none := by simp; omega
    simp only [h, if_false, h2, Option.getD_none]
    by_cases h3 : t - args.size < n - args.size
    · simp [h3]
    · rw [Array.getElem?_eq_none (by simp; omega)]; rfl
theorem Rel.ev_get {n : Nat} {F : Nat → Value} {a : Act} (h : Rel n F a) (t : Nat) : a.tmps.getD t undef = ev F (.tmp t) := by
  rw [← h.eval]; rfl

theorem enter_calls {T : Tab} (hT : T.ok P = true) (hr : T.round = false) {f : FuncId} {fn : Func} {n : Nat} {args : Array Value} {w : World} {R : Value → World → Prop} {pn : List PanicEntry → World → Prop}
    (hf : P.funcs[f]? = some fn) (hn : fn.ntmps = n) (hb : fn.body.isSome = true) (hs : Nat.ble args.size n = true) (hk : Nat.ble n 4294967296 = true)
    (h : S P T n (codeOf fn) (retK P fn.results.toList R pn) (argF args.toList) w) : Calls P f args w (RetP R pn) := by
  subst hn
  obtain ⟨c, hc⟩ := Option.isSome_iff_exists.1 hb
  have hcc : codeOf fn = c := by simp [codeOf, hc]
  rw [hcc] at h
  rw [← callsIn_wide (n := 0)]
  refine callsIn_of_wp_marks hf hc trivial (Code.wpIn_mono ?_ (S_sound hT c _ _ w h none (by rw [hr]; rfl) _ (enter_rel args fn.ntmps (Nat.le_of_ble_eq_true hs) (Nat.le_of_ble_eq_true hk))))
  have fin : ∀ {F' : Nat → Value} {a : Act} {w' : World}, Rel fn.ntmps F' a → retS P fn.results.toList R pn F' w' → LeavesInM Fence.wide 0 P fn a.tmps (RetP R pn) a.defers .returning w' := by
    intro F' a w' h1 h3
    unfold retS at h3
    rw [← h1.defers] at h3
    split at h3
    · rename_i hd
      obtain ⟨v, h4, h5⟩ := results_of fn a.tmps F' R w' h1.ev_get h3
      rw [hd]
      exact ⟨v, h4, h5⟩
    · rename_i hd
      rw [hd]; exact h3.out fn a.tmps rfl h1.ev_get
  intro e a w' hq
  cases e <;> simp only [KS.lift, retK] at hq <;> simp only [bodyPostM]
  · obtain ⟨F', h1, _, h3⟩ := hq; exact fin h1 h3
  · obtain ⟨F', _, _, h3⟩ := hq; exact h3
  · obtain ⟨F', h1, _, h3⟩ := hq; exact fin h1 h3
  · obtain ⟨F', h1, _, h3⟩ := hq
    unfold panS at h3
    rw [← h1.defers] at h3
    split at h3
    · rename_i hd
      rw [hd]; exact h3
    · rename_i hd
      rw [hd]; exact h3.out fn a.tmps rfl h1.ev_get

/-- a range's block, with no call in it -/
theorem leave_mark {rs : List ResultVar} {F : Nat → Value} {D : Nat} {args : Array Value} {ds : List Deferred} {u : FrameMode} {R : Value → World → Prop} {pn : List PanicEntry → World → Prop} {w : World} (hu : u ≠ .run) (hD : w.heap[D]? = some (.deferred (some [])))
    (h : LeaveS P rs F ds u R pn (w.putObj D (.deferred none))) : LeaveS P rs F ({ target := .collected D, args } :: ds) u R pn w :=
  ⟨fun fn tmps h1 h2 => ⟨hu, .inl ⟨D, _, rfl, run_takeDeferred hD, h.out fn tmps h1 h2⟩⟩⟩
theorem leave_ret {rs : List ResultVar} {F : Nat → Value} {R : Value → World → Prop} {pn : List PanicEntry → World → Prop} {w : World} (h : resS P rs [] F R w) : LeaveS P rs F [] .returning R pn w :=
  ⟨fun fn tmps h1 h2 => by subst h1; obtain ⟨v, h4, h5⟩ := results_of fn tmps F R w h2 h; exact ⟨v, h4, h5⟩⟩
theorem leave_pan {rs : List ResultVar} {F : Nat → Value} {c : List PanicEntry} {R : Value → World → Prop} {pn : List PanicEntry → World → Prop} {w : World} (h : pn c w) : LeaveS P rs F [] (.panicking c) R pn w :=
  ⟨fun _ _ _ _ => h⟩

theorem Sp.enter {T : Tab} (hT : T.ok P = true) (hr : T.round = false) {f : FuncId} {fn : Func} {n : Nat} {args : Array Value} {w : World} {R : Value → World → Prop}
    (hf : P.funcs[f]? = some fn) (hn : fn.ntmps = n) (hb : fn.body.isSome = true) (hm : (fn.name == "runtime.NumGoroutine") = false) (hs : Nat.ble args.size n = true) (hk : Nat.ble n 4294967296 = true)
    (h : S P T n (codeOf fn) (retK P fn.results.toList R (fun _ _ => False)) (argF args.toList) w) : Sp P f args w R :=
  ⟨⟨fn, hf, hb, hm⟩, (enter_calls hT hr hf hn hb hs hk h).mono fun e w' he => by cases e <;> exact he⟩

theorem Sp.mono {f : FuncId} {args : Array Value} {w : World} {R R' : Value → World → Prop} (h : Sp P f args w R) (hr : ∀ v w', R v w' → R' v w') : Sp P f args w R' :=
  ⟨h.can, h.calls.mono fun e w' he => by cases e <;> first | exact hr _ _ he | exact he⟩

/-! rules: branching, calls, arithmetic -/
theorem ite {p A B : Prop} (h : p → A) (h' : ¬ p → B) : IteC p A B := ⟨h, h'⟩

theorem rcall {f : FuncId} {args : Array Value} {k : Value → World → Prop} {pn : List PanicEntry → World → Prop} {w : World} {R : Value → World → Prop}
    (h : Sp P f args w R) (hk : ∀ v w', R v w' → k v w') : CallS P f args k pn w := by
  rw [CallS_iff]
  exact ⟨h.can, h.calls.mono fun e w' he => by cases e <;> first | exact hk _ _ he | exact he.elim⟩

theorem wrap_id {x : Int} (h0 : -9223372036854775808 ≤ x) (h1 : x ≤ 9223372036854775807) : IntKind.i64.wrap x = x := IntWalk.i64_in x (by omega)
theorem rar {x : Int} {k : Value → World → Prop} {w : World} (h0 : -9223372036854775808 ≤ x ∧ x ≤ 9223372036854775807) (hk : k (.int .i64 x) w) : ArS .i64 x k w := by
  rw [ArS_iff]; rw [wrap_id h0.1 h0.2]; exact hk
end
end Go.W
