/-
  Proved here: functions that may panic; deferred calls; a deferred function that recovers.
  Conditions: those that each fact names.
-/
import Derived.Test.YtgplodgpbhddbaaW29
import Derived.RecoverIn
set_option linter.unusedSimpArgs false
namespace Go.W
open Go
open Enc (enc)
section
variable {P : Program}
/-- a contract with two ends: it returns, and R holds, or it panics, and Rp holds -/
structure SpP (P : Program) (f : FuncId) (args : Array Value) (w : World) (R : Value → World → Prop) (Rp : List PanicEntry → World → Prop) : Prop where
  can : callable P f
  calls : Calls P f args w (RetP R Rp)
theorem Sp.p {f : FuncId} {args : Array Value} {w : World} {R : Value → World → Prop} {Rp : List PanicEntry → World → Prop} (h : Sp P f args w R) : SpP P f args w R Rp :=
  ⟨h.can, h.calls.mono fun e w' he => by cases e <;> first | exact he | exact he.elim⟩
theorem SpP.sp {f : FuncId} {args : Array Value} {w : World} {R : Value → World → Prop} (h : SpP P f args w R fun _ _ => False) : Sp P f args w R :=
  ⟨h.can, h.calls.mono fun e w' he => by cases e <;> first | exact he | exact he.elim⟩
theorem SpP.mono {f : FuncId} {args : Array Value} {w : World} {R R' : Value → World → Prop} {Rp Rp' : List PanicEntry → World → Prop} (h : SpP P f args w R Rp) (hr : ∀ v w', R v w' → R' v w') (hp : ∀ c w', Rp c w' → Rp' c w') : SpP P f args w R' Rp' :=
  ⟨h.can, h.calls.mono fun e w' he => by cases e <;> first | exact hr _ _ he | exact hp _ _ he | exact he⟩
theorem rcallP {f : FuncId} {args : Array Value} {k : Value → World → Prop} {pn : List PanicEntry → World → Prop} {w : World} {R : Value → World → Prop} {Rp : List PanicEntry → World → Prop}
    (h : SpP P f args w R Rp) (hk : ∀ v w', R v w' → k v w') (hp : ∀ c w', Rp c w' → pn c w') : CallS P f args k pn w := by
  rw [CallS_iff]
  exact ⟨h.can, h.calls.mono fun e w' he => by cases e <;> first | exact hk _ _ he | exact hp _ _ he | exact he.elim⟩
theorem enP {T : Tab} (hT : T.ok P = true) {f : FuncId} {fn : Func} {n : Nat} [h : FnAt P f fn n] {args : Array Value} {w : World} {R : Value → World → Prop} {Rp : List PanicEntry → World → Prop} (hs : Nat.ble args.size n = true)
    (hc : S P T n (codeOf fn) (retK P fn.results.toList R Rp) (argF args.toList) w) (hk : Nat.ble n 4294967296 = true := by rfl) (hr : T.round = false := by rfl) : SpP P f args w R Rp :=
  ⟨⟨fn, h.hf, h.hb, h.hm⟩, enter_calls hT hr h.hf h.hn h.hb hs hk hc⟩
theorem rpanic {t : TypeId} {v : Value} {k : Value → World → Prop} {pn : List PanicEntry → World → Prop} {w : World} (h : pn [{ v := .iface t v, recovered := false }] w) : SemV P (Instr.panic (.iface t v)) k pn w := by
  rw [SemV_iff]; exact h

/-- a panic in a region that draws its order, with no deferred call -/
theorem panR {rs : List ResultVar} {F : Nat → Value} {c : List PanicEntry} {R : Value → World → Prop} {pn : List PanicEntry → World → Prop} {w : World} {ws : Nat → Bool} (h0 : ws 4294967296 = false) (hd : decD (F 4294967296) = []) (h : pn c w) :
    ∀ F', agree ws F F' → (retK P rs R pn).pan F' c w := fun F' ha => by
  show panS P rs R pn F' c w
  unfold panS
  rw [ha _ h0, hd]; exact h
theorem tmin {at' : Array TypeId} {ty : TypeId} {x y : Int} {D : Nat → Prop} {k : Value → Prop} {w : World} (hk : k (.int .i64 (min x y))) : TakeS P (Builtin.min_ at' ty #[.int .i64 x, .int .i64 y]) D k w := by
  rw [TakeS_iff]; exact ⟨.int .i64 (min x y), fun w' _ => by simp [Builtin.min_, Builtin.min2]; split <;> omega, hk⟩
theorem tconvE {s d : TypeId} {kd ks kx : IntKind} [hs : KindT P s ks] [hd : KindT P d kd] {n z : Int} {D : Nat → Prop} {k : Value → Prop} {w : World} (hz : kd.wrap n = z) (hk : k (.int kd z)) : TakeS P (convert s d (.int kx n)) D k w := by
  rw [TakeS_iff]; exact ⟨.int kd z, fun w' _ => by rw [run_conv hs hd n w', hz], hk⟩
/-- an interface that holds nothing, asked for a type -/
theorem rtaN {t u : TypeId} {z : Value} {sz by' : Nat} [ht : Conc P t] [he : Elem P t z sz by'] {k : Value → World → Prop} {pn : List PanicEntry → World → Prop} {w : World} (hk : k (.tuple #[z, .bool false]) w) : SemV P (Instr.typeAssert .nilIface u t true) k pn w := by
  obtain ⟨i, hi, hz, _, _⟩ := info_parts he.h
  have h := ht.h
  unfold concB at h
  refine SemV.of (w' := w) ?_ hk
  unfold Instr.typeAssert
  simp only [Sem.run_bind, underlying, run_program, Result.andThen_ok]
  cases hd : P.underlying t with
  | none => rw [hd] at h; cases h
  | some d =>
    rw [hd] at h
    cases d <;> first | (simp [zeroValue, typeInfo, hi, hz]; done) | cases h
/-! deferred calls -/
/-- what recover tells in a deferred call, and the mode of the caller behind it -/
def recM : FrameMode → Value × FrameMode
  | .panicking ({ v, recovered := false, goexit := false } :: older) => (v, .panicking ({ v, recovered := true } :: older))
  | u => (.nilIface, u)
/-- called as a deferred call of a frame in mode u, it returns -/
structure SpD (P : Program) (g : FuncId) (args : Array Value) (u : FrameMode) (w : World) (R : FrameMode → World → Prop) : Prop where
  can : callable P g
  calls : CallsDIn Fence.wide 0 P g args u w fun e u' w' => match e with | .returned _ => R u' w' | _ => False
theorem callsDIn_mono {F : Fence} {n : Nat} {f : FuncId} {args : Array Value} {u : FrameMode} {w : World} {R R' : Ending → FrameMode → World → Prop} (h : CallsDIn F n P f args u w R) (hr : ∀ e u' w', R e u' w' → R' e u' w') : CallsDIn F n P f args u w R' :=
  ⟨h.1, fun c cs hu hroom => let ⟨e, u', w', fr, r, rest⟩ := h.2 c cs hu hroom; ⟨e, u', w', fr, hr _ _ _ r, rest⟩⟩
theorem leave_call {rs : List ResultVar} {F : Nat → Value} {g : FuncId} {first cap : Array Value} {ds : List Deferred} {u : FrameMode} {R : Value → World → Prop} {pn : List PanicEntry → World → Prop} {w : World} (hu : u ≠ .run)
    (h : SpD P g (first ++ cap) u w fun u' w' => LeaveS P rs F ds (settle u') R pn w') : LeaveS P rs F ({ target := .fn (.func g) cap, args := first } :: ds) u R pn w := by
  refine ⟨fun fn tmps h1 h2 => ⟨hu, .inr ⟨(fun hd => by cases hd), .func g, cap, g, first ++ cap, rfl, callFunc_run h.can w, fun _ _ => trivial, callsDIn_mono h.calls ?_⟩⟩⟩
  intro e u' w' he
  cases e with
  | returned v => exact he.out fn tmps h1 h2
  | panicked c => exact he.elim
  | outgrown => exact he.elim
def retKD (R : World → Prop) : KS where
  nrm := fun F w => decD (F 4294967296) = [] ∧ R w
  ext := fun _ _ _ => False
  ret := fun F w => decD (F 4294967296) = [] ∧ R w
  pan := fun _ _ _ => False
theorem wpSIn_rec {T : Tab} {n : Nat} (hT : T.ok P = true) (hr0 : T.round = false) {i : Nat} {ops : Array Oper} {rest : Code} {o : Oper} {os : List Oper} {d : Nat} {K : KS} {F : Nat → Value} {a : Act} {c₀ : Frame} {cs : List Frame} {u : FrameMode} {w : World}
    (ho : ops.toList = o :: os) (hg : o.guard = none) (hd : o.dst = some d) (hdn : d < n) (hx : ∀ (ρ : Operand → Value) (w : World), (execOp ρ o).run P w = .ok .recover w) (hu : c₀.mode = u) (ha : Rel n F a)
    (h : opsS P T n ops.toList os (upd F d (recM u).1) (fun F' w' => S P T n rest K F' w') (fun F' c w' => K.pan F' c w') w) :
    (Code.seq (.region i ops false) rest).wpSIn Fence.wide 0 P (fun e a' cs' w' => K.lift n F (fun _ => true) e a' w' ∧ cs' = { c₀ with mode := (recM u).2 } :: cs) a (c₀ :: cs) w := by
  intro b k hb hro hF hroom
  have i0 : (lone (b.atR a (.code (.seq (.region i ops false) rest) :: k)) (c₀ :: cs) w).fenced P Fence.wide := fenced_calm hF hroom rfl
  have i1 : (lone (b.atR a (.code (.region i ops false) :: .code rest :: k)) (c₀ :: cs) w).fenced P Fence.wide := fenced_calm hF hroom rfl
  have hop0 : ops[0]? = some o := by rw [← Array.getElem?_toList, ho]; rfl
  have hsz : ops.size = os.length + 1 := by rw [← Array.length_toList, ho]; rfl
  have hrange : List.range ops.size = 0 :: List.range' 1 os.length := by rw [hsz, List.range_eq_range', List.range'_succ]
  have hw : Region.wanted o (yielded ops a.tmps) = true := by simp [Region.wanted, hg]
  have habout : ∀ f, o.about P w a.eval = some f → Fence.wide.fn f := fun _ _ => trivial
  have i2 : (lone (b.atR a (.inRegion ops (0 :: List.range' 1 os.length) :: .code rest :: k)) (c₀ :: cs) w).fenced P Fence.wide := fenced_oper hF hroom hop0 habout
  have hgs := stepGR_op (P := P) (b := b) (k := .code rest :: k) (cs := c₀ :: cs) (w := w) (rest := List.range' 1 os.length) hop0 hw
  rw [hro, Oper.semAt_none] at hgs
  have hfin : ∀ v, (b.atR a (.inRegion ops (0 :: List.range' 1 os.length) :: .code rest :: k)).finish v = b.atR (a.put o.dst v) (.inRegion ops (List.range' 1 os.length) :: .code rest :: k) := by
    intro v; rw [Frame.finish_atR, hop0]; rfl
  have hk : (b.atR a (.inRegion ops (0 :: List.range' 1 os.length) :: .code rest :: k)).kind = .deferred := hb
  have htr := tryRecover_deferred hk (c₀ :: cs)
  have hstep : step P (lone (b.atR a (.inRegion ops (0 :: List.range' 1 os.length) :: .code rest :: k)) (c₀ :: cs) w) =
      .next (lone (b.atR (a.put o.dst (recM u).1) (.inRegion ops (List.range' 1 os.length) :: .code rest :: k)) ({ c₀ with mode := (recM u).2 } :: cs) w) := by
    refine step_lone_go ?_
    rw [hgs, ← hfin]
    simp only [Frame.atR, hro] at htr ⊢
    cases hrec : recoverD (c₀ :: cs) with
    | none =>
      have e1 : (recM u) = (.nilIface, u) := by
        unfold recM
        split
        · exfalso
          rename_i v older
          rw [recoverD, hu] at hrec
          cases hrec
        · rfl
      have e2 : ({ c₀ with mode := u } : Frame) = c₀ := by subst hu; rfl
      rw [e1]
      simp [stepG.apply, hx, htr, hrec, e2]
    | some p =>
      obtain ⟨v, cs'⟩ := p
      have e1 : (recM u).1 = v ∧ { c₀ with mode := (recM u).2 } :: cs = cs' := by
        simp only [recoverD] at hrec
        split at hrec
        · rename_i v' older hm
          simp only [Option.some.injEq, Prod.mk.injEq] at hrec
          have hu' : u = .panicking ({ v := v', recovered := false, goexit := false } :: older) := by rw [← hu, hm]
          subst hu'
          exact ⟨hrec.1, hrec.2⟩
        · cases hrec
      obtain ⟨e1, e2⟩ := e1
      rw [e1, e2]
      simp [stepG.apply, hx, htr, hrec]
  -- the rest of the region
  have ha1 : Rel n (upd F d (recM u).1) (a.put o.dst (recM u).1) := by
    obtain ⟨F', h1, _, h3⟩ := ha.put (d := o.dst) (v := (recM u).1) (k := fun G => G = upd F d (recM u).1) (by
      rw [hd]; show (match Nat.blt d n with | true => _ | false => False)
      have : Nat.blt d n = true := by rw [Nat.blt_eq]; exact hdn
      rw [this])
    exact h3 ▸ h1
  have hlist := opsS_wp hT (md := none) (by rw [hr0]; rfl) ops (upd F d (recM u).1) _ _ os (fun _ => false) _ w _ ha1 (fun _ _ => rfl) h
  have hops := (wpOpsIn_eq_wpListIn (F := fw none) (n := 0) (P := P) (ops := ops) (Q := LQ n (upd F d (recM u).1) (fun t => false || wrL os t) (fun F' w' => S P T n rest K F' w') (fun F' c w' => K.pan F' c w')) os 1 (fun j => by
    rw [← Array.getElem?_toList, ho, Nat.add_comm]; rfl))
  rw [← hops] at hlist
  have hroom2 : (fw none).room (({ c₀ with mode := (recM u).2 } :: cs).length + 1 + 0) := room_fw none _
  obtain ⟨e, a', w', hq, harr⟩ := wp_opsIn _ _ _ hlist b (.code rest :: k) ({ c₀ with mode := (recM u).2 } :: cs) hro trivial hroom2
  have hpre : StepsIn (Machine.fenced P Fence.wide) P (lone (b.atR a (.code (.seq (.region i ops false) rest) :: k)) (c₀ :: cs) w) (lone (b.atR (a.put o.dst (recM u).1) (.inRegion ops (List.range' 1 os.length) :: .code rest :: k)) ({ c₀ with mode := (recM u).2 } :: cs) w) := by
    refine .head i0 stepR_seq (.head i1 ?_ (.one i2 hstep))
    rw [← hrange]; exact stepR_region
  cases e with
  | normal =>
    obtain ⟨F', h1, _, h3⟩ := hq
    obtain ⟨e2, a2, w2, hq2, harr2⟩ := S_sound hT rest K F' w' h3 none (by rw [hr0]; rfl) a' h1 b k ({ c₀ with mode := (recM u).2 } :: cs) hro trivial hroom2
    have harr1 : StepsIn (Machine.fenced P Fence.wide) P _ _ := harr
    have harr3 : ArrivesIn (Machine.fenced P Fence.wide) P _ b k _ e2 a2 w2 := harr2
    refine ⟨e2, a2, { c₀ with mode := (recM u).2 } :: cs, w2, rfl, ⟨?_, rfl⟩, ArrivesIn.of_steps hpre (ArrivesIn.of_steps harr1 harr3)⟩
    cases e2 <;> simp only [KS.lift] at hq2 ⊢ <;> first | exact hq2.elim | (obtain ⟨G, g1, _, g3⟩ := hq2; exact ⟨G, g1, (fun _ ht => by cases ht), g3⟩)
  | panic c =>
    obtain ⟨F', h1, _, h3⟩ := hq
    obtain ⟨todo, hs⟩ := harr
    exact ⟨.panic c, a', { c₀ with mode := (recM u).2 } :: cs, w', rfl, ⟨⟨F', h1, (fun _ ht => by cases ht), h3⟩, rfl⟩, ArrivesIn.of_steps hpre ⟨todo, hs⟩⟩
  | exit i => exact hq.elim
  | goto i => exact hq.elim
  | ret => exact hq.elim
  | outgrown => exact hq.elim
theorem SpD.enter {T : Tab} (hT : T.ok P = true) (hr0 : T.round = false) {g : FuncId} {fn : Func} {n : Nat} [hF : FnAt P g fn n] {args : Array Value} {u : FrameMode} {w : World} {R : FrameMode → World → Prop} {i : Nat} {ops : Array Oper} {rest : Code} {o : Oper} {os : List Oper} {d : Nat}
    (hc : codeOf fn = .seq (.region i ops false) rest) (hres : fn.results.toList = []) (ho : ops.toList = o :: os) (hg : o.guard = none) (hd : o.dst = some d) (hdn : Nat.blt d n = true) (hx : ∀ (ρ : Operand → Value) (w : World), (execOp ρ o).run P w = .ok .recover w)
    (hs : Nat.ble args.size n = true) (hk : Nat.ble n 4294967296 = true)
    (h : opsS P T n ops.toList os (upd (argF args.toList) d (recM u).1) (fun F' w' => S P T n rest (retKD (R (recM u).2)) F' w') (fun _ _ _ => False) w) : SpD P g args u w R := by
  have hn := hF.hn
  subst hn
  obtain ⟨c, hcc⟩ := Option.isSome_iff_exists.1 hF.hb
  have hc2 : codeOf fn = c := by simp [codeOf, hcc]
  rw [hc] at hc2
  refine ⟨⟨fn, hF.hf, hF.hb, hF.hm⟩, callsDIn_of_wpSIn hF.hf hcc trivial fun c₀ cs hu => ?_⟩
  rw [← hc2]
  have hdn' : d < fn.ntmps := by rw [Nat.blt_eq] at hdn; exact hdn
  have hq := wpSIn_rec hT hr0 (i := i) (K := retKD (R (recM u).2)) (cs := cs) (u := u) ho hg hd hdn' hx hu (enter_rel args fn.ntmps (Nat.le_of_ble_eq_true hs) (Nat.le_of_ble_eq_true hk)) h
  intro b k h1 h2 h3 h4
  obtain ⟨e, a', cs', w', hl, ⟨hq1, hcs⟩, harr⟩ := hq b k h1 h2 h3 h4
  refine ⟨e, a', cs', w', hl, ?_, harr⟩
  have hrun : ∀ tmps : Array Value, (results fn tmps).run P w' = .ok (.tuple #[]) w' := by
    intro tmps
    have : fn.results = #[] := by apply Array.toList_inj.1; rw [hres]
    simp [results, this]
  cases e <;> simp only [KS.lift, retKD] at hq1 <;> simp only [bodyPostS]
  · obtain ⟨G, g1, _, g3, g4⟩ := hq1
    exact ⟨by rw [g1.defers]; exact g3, _, hcs, _, hrun _, g4⟩
  · obtain ⟨G, _, _, g3⟩ := hq1; exact g3.elim
  · obtain ⟨G, g1, _, g3, g4⟩ := hq1
    exact ⟨by rw [g1.defers]; exact g3, _, hcs, _, hrun _, g4⟩
  · obtain ⟨G, g1, _, g3⟩ := hq1; exact g3.elim
end
end Go.W
