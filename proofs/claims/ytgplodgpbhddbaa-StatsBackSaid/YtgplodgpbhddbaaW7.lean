/-
  Proved here: what holds behind a step may be weakened, and steps may be cut.
  Conditions: those that each fact names.
-/
import Derived.Test.YtgplodgpbhddbaaW6
set_option linter.unusedSimpArgs false
namespace Go.W
open Go

section
variable {P : Program} {T : Tab} {n : Nat} {k k' : Value → World → Prop} {pn pn' : List PanicEntry → World → Prop} {w : World}

theorem SemV_mono {s : Sem Value} (hk : ∀ v w, k v w → k' v w) (hp : ∀ c w, pn c w → pn' c w) (h : SemV P s k pn w) : SemV P s k' pn' w := by
  simp only [SemV_iff] at *
  generalize s.run P w = r at *
  cases r with
  | ok v w' => exact hk _ _ h
  | halt x w' => cases x <;> first | exact hp _ _ h | exact h
theorem SemU_mono {s : Sem Unit} (hk : ∀ v w, k v w → k' v w) (hp : ∀ c w, pn c w → pn' c w) (h : SemU P s k pn w) : SemU P s k' pn' w := by
  simp only [SemU_iff] at *
  generalize s.run P w = r at *
  cases r with
  | ok v w' => exact hk _ _ h
  | halt x w' => cases x <;> first | exact hp _ _ h | exact h
theorem CallS_mono {f : FuncId} {args : Array Value} (hk : ∀ v w, k v w → k' v w) (hp : ∀ c w, pn c w → pn' c w) (h : CallS P f args k pn w) : CallS P f args k' pn' w := by
  simp only [CallS_iff] at *
  exact ⟨h.1, h.2.mono fun e w' he => by cases e <;> first | exact hk _ _ he | exact hp _ _ he | exact he⟩
theorem RoundS_mono {l : Nat} {f : FuncId} {tmps : Array Value} {assign body : Code} (hk : ∀ v w, k v w → k' v w) (hp : ∀ c w, pn c w → pn' c w) (h : RoundS P l f tmps assign body k pn w) : RoundS P l f tmps assign body k' pn' w :=
  ⟨h.out.mono fun e w' he => by cases e <;> first | exact hk _ _ he | exact hp _ _ he | exact he⟩
theorem NextS_mono {s : Sem Next} (hk : ∀ v w, k v w → k' v w) (hp : ∀ c w, pn c w → pn' c w) (h : NextS P s k pn w) : NextS P s k' pn' w := by
  simp only [NextS_iff] at *
  generalize s.run P w = r at *
  cases r with
  | ok x w' => cases x <;> first | exact hk _ _ h | exact CallS_mono hk hp h | exact RoundS_mono hk hp h | exact h
  | halt x w' => cases x <;> first | exact hp _ _ h | exact h
theorem cmpS_mono {op : BinOp} {x y : Int} {alt alt' : Prop} (hk : ∀ v w, k v w → k' v w) (ha : alt → alt') (h : cmpS op x y k alt w) : cmpS op x y k' alt' w := by
  cases op <;> simp only [cmpS] at * <;> first | exact ⟨fun p => hk _ _ (h.t p), fun p => hk _ _ (h.f p)⟩ | exact ha h

theorem opS_mono {o : Oper} {F : Nat → Value} (hk : ∀ v w, k v w → k' v w) (hp : ∀ c w, pn c w → pn' c w) (h : opS P T o F k pn w) : opS P T o F k' pn' w := by
  unfold opS at *
  split at h <;> rename_i ho <;> (try simp only [ho])
  · exact hk _ _ h
  · exact hk _ _ h
  · unfold pickS at *; split at h
    · split at h <;> exact hk _ _ h
    · exact h.elim
  · unfold binS at *
    split at h
    · rename_i kx m ky n' hx hy
      try simp only
      cases hk' : kindEq kx ky with
      | false => simp only [hk', cond_false] at h
      | true =>
        simp only [hk', cond_true] at h ⊢
        split at h <;> (try simp only [ArS_iff, DivS_iff, RemS_iff] at *) <;> first | exact hk _ _ h | exact ⟨h.1, hk _ _ h.2⟩ | exact cmpS_mono hk (SemV_mono hk hp) h
    · exact SemV_mono hk hp h
  · unfold unS at *; split at h
    · exact hk _ _ h
    · exact SemV_mono hk hp h
  · unfold fieldS at *; split at h
    · rename_i hx
      try simp only [hx]
      split at h
      · exact hk _ _ h
      · exact SemV_mono hk hp (by first | exact h | simpa only [hx] using h)
    · exact SemV_mono hk hp h
  · unfold extS at *; split at h
    · split at h
      · exact hk _ _ h
      · exact h.elim
    · exact h.elim
  · exact hk _ _ h
  · unfold callS at *
    split at h
    · unfold fnS at *
      split at h
      · exact CallS_mono hk hp h
      · exact NextS_mono hk hp h
    · exact NextS_mono hk hp h
    · split at h
      · split at h
        · unfold lenS at *
          split at h
          · split at h
            · exact hk _ _ h
            · exact h.elim
          · split at h
            · exact hk _ _ h
            · exact h.elim
          · exact NextS_mono hk hp h
        · exact h.elim
      all_goals first | exact SemV_mono hk hp h | exact NextS_mono hk hp h
  all_goals first | exact SemV_mono hk hp h | exact SemU_mono hk hp h | exact h.elim | (unfold nilS at *; split at h; exact hk _ _ h; exact NextS_mono hk hp h) | exact NextS_mono hk hp h

theorem putS_mono {F : Nat → Value} {d : Option Nat} {v : Value} {q q' : (Nat → Value) → Prop} (hk : ∀ G, agree (isD d) F G → q G → q' G) (h : putS n F d v q) : putS n F d v q' := by
  cases d with
  | none => exact hk _ (fun _ _ => rfl) h
  | some d =>
    simp only [putS] at *
    split at h
    · refine hk _ (fun t ht => ?_) h
      simp only [isD] at ht
      simp [upd, ht]
    · exact h

theorem opsS_mono (all : List Oper) {q q' : (Nat → Value) → World → Prop} {p p' : (Nat → Value) → List PanicEntry → World → Prop} : ∀ (l : List Oper) (F : Nat → Value) (w : World),
    (∀ G w, agree (wrL l) F G → q G w → q' G w) → (∀ G c w, agree (wrL l) F G → p G c w → p' G c w) → opsS P T n all l F q p w → opsS P T n all l F q' p' w := by
  intro l
  induction l with
  | nil => intro F w hk _ h; exact hk _ _ (fun _ _ => rfl) h
  | cons o rest ih =>
    intro F w hk hp h
    have step : ∀ {G : Nat → Value} {v : Value} {w' : World}, agree (fun _ => false) F G → putS n G o.dst v (fun F' => opsS P T n all rest F' q p w') → putS n G o.dst v (fun F' => opsS P T n all rest F' q' p' w') := by
      intro G v w' hG hh
      have ag : ∀ {G' H : Nat → Value}, agree (isD o.dst) G G' → agree (wrL rest) G' H → agree (wrL (o :: rest)) F H := by
        intro G' H hG' hH t ht
        simp only [wrL, wrO, Bool.or_eq_false_iff] at ht
        rw [hH t ht.2, hG' t ht.1.1, hG t rfl]
      exact putS_mono (fun G' hG' hq => ih G' w' (fun H w'' hH hqq => hk H w'' (ag hG' hH) hqq) (fun H c w'' hH hqq => hp H c w'' (ag hG' hH) hqq) hq) hh
    have sw : ∀ {d : Nat} {b : Bool}, F d = .bool b → agree (fun _ => false) F (upd F d (.bool b)) := by
      intro d b hb t _
      rw [← hb, upd_self]
    have hp0 : ∀ {G : Nat → Value}, agree (fun _ => false) F G → ∀ c w, p G c w → p' G c w := fun hG c w h => hp _ c w (fun t _ => hG t rfl) h
    by_cases hdef : ∃ c, o.op = .defer c
    · obtain ⟨c, hc⟩ := hdef
      simp only [opsS_cons, opsStep, hc, defS] at h ⊢
      split at h
      case h_2 => exact h.elim
      rename_i f hr hg hd hcal
      split at h
      case h_2 => exact h.elim
      rename_i fn first cap hf
      have ag : ∀ {H : Nat → Value}, agree (wrL rest) (upd F 4294967296 (consD (.agg (.func fn first cap :: evL F c.args.toList).toArray) (F 4294967296))) H → agree (wrL (o :: rest)) F H := by
        intro H hH t ht
        simp only [wrL, wrO, hc, isDef, Bool.true_and, Bool.or_eq_false_iff] at ht
        rw [hH t ht.2]; unfold upd; rw [ht.1.2]; rfl
      exact ih _ w (fun H w'' hH hqq => hk H w'' (ag hH) hqq) (fun H c w'' hH hqq => hp H c w'' (ag hH) hqq) h
    have hstep : ∀ (q : (Nat → Value) → World → Prop) (p : (Nat → Value) → List PanicEntry → World → Prop), opsStep P T n all o (opsS P T n all rest) F q p w = (match o.guard with
      | none => opS P T o F (fun v w' => putS n F o.dst v fun F' => opsS P T n all rest F' q p w') (p F) w
      | some (j, want) => match nth all j with
        | some g => match g.dst with
          | some d => match F d with
            | .bool b => match Nat.blt d n with
              | true => match want with
                | true => condS b (opS P T o (upd F d (.bool true)) (fun v w' => putS n (upd F d (.bool true)) o.dst v fun F' => opsS P T n all rest F' q p w') (p (upd F d (.bool true))) w)
                    (putS n (upd F d (.bool false)) o.dst undef fun F' => opsS P T n all rest F' q p w)
                | false => condS b (putS n (upd F d (.bool true)) o.dst undef fun F' => opsS P T n all rest F' q p w)
                    (opS P T o (upd F d (.bool false)) (fun v w' => putS n (upd F d (.bool false)) o.dst v fun F' => opsS P T n all rest F' q p w') (p (upd F d (.bool false))) w)
              | false => False
            | .tuple _ => putS n F o.dst undef fun F' => opsS P T n all rest F' q p w
            | _ => False
          | none => False
        | none => False) := by
      intro q p
      unfold opsStep
      cases ho : o.op <;> first | rfl | exact absurd ⟨_, ho⟩ hdef
    rw [opsS_cons, hstep] at h ⊢
    clear hstep
    cases hg : o.guard with
    | none => simp only [hg] at *; exact opS_mono (fun v w' hv => step (fun _ _ => rfl) hv) (hp0 fun _ _ => rfl) h
    | some jw =>
      obtain ⟨j, want⟩ := jw
      simp only [hg] at *
      cases hj : nth all j with
      | none => simp only [hj] at h
      | some g =>
        simp only [hj] at h ⊢
        cases hd : g.dst with
        | none => simp only [hd] at h
        | some d =>
          simp only [hd] at h ⊢
          cases hF : F d <;> simp only [hF] at h ⊢
          case bool b =>
            cases hb : Nat.blt d n <;> simp only [hb] at h ⊢
            have := sw hF
            cases want <;> cases b <;> simp only [condS] at h ⊢ <;> first
              | exact opS_mono (fun v w' hv => step this hv) (hp0 this) h
              | exact step this h
          case tuple vs => exact step (fun _ _ => rfl) h

theorem S_mono : ∀ (c : Code) (Q Q' : KS) (F : Nat → Value) (w : World), S P T n c Q F w →
    (∀ G w, agree (wr c) F G → Q.nrm G w → Q'.nrm G w) → (∀ i G w, agree (wr c) F G → Q.ext i G w → Q'.ext i G w) → (∀ G w, agree (wr c) F G → Q.ret G w → Q'.ret G w) → (∀ G p w, agree (wr c) F G → Q.pan G p w → Q'.pan G p w) →
    S P T n c Q' F w := by
  have deep : ∀ (c : Code) (Q Q' : KS) (F : Nat → Value) (w : World), DeepS P T n c Q F w →
    (∀ G w, agree (wr c) F G → Q.nrm G w → Q'.nrm G w) → (∀ i G w, agree (wr c) F G → Q.ext i G w → Q'.ext i G w) → (∀ G w, agree (wr c) F G → Q.ret G w → Q'.ret G w) → (∀ G p w, agree (wr c) F G → Q.pan G p w → Q'.pan G p w) →
    DeepS P T n c Q' F w := by
    intro c Q Q' F w h h1 h2 h3 h4
    simp only [DeepS_iff] at *
    intro md hmd a ha
    exact Code.wpIn_mono (lift_mono (fun G w _ hG hq => ⟨hG, h1 G w hG hq⟩) (fun i G w hG hq => ⟨hG, h2 i G w hG hq⟩) (fun G w hG hq => ⟨hG, h3 G w hG hq⟩) (fun G c w hG hq => ⟨hG, h4 G c w hG hq⟩)) (h md hmd a ha)
  intro c
  induction c with
  | skip => intro Q Q' F w h h1 _ _ _; exact h1 _ _ (fun _ _ => rfl) h
  | label l => intro Q Q' F w h h1 _ _ _; exact h1 _ _ (fun _ _ => rfl) h
  | ret => intro Q Q' F w h _ _ h3 _; exact h3 _ _ (fun _ _ => rfl) h
  | exit i => intro Q Q' F w h _ h2 _ _; exact h2 _ _ _ (fun _ _ => rfl) h
  | region i ops draw =>
    intro Q Q' F w h h1 h2 h3 h4
    cases draw with
    | false => simp only [S_skip, S_label, S_ret, S_exit, S_seq, S_cond, S_block, S_scope, S_region, S_draw, S_loop, S_rangeFunc, S_goto, S_refuse] at *; exact opsS_mono _ _ _ _ h1 h4 h
    | true => simp only [S_skip, S_label, S_ret, S_exit, S_seq, S_cond, S_block, S_scope, S_region, S_draw, S_loop, S_rangeFunc, S_goto, S_refuse] at *; exact deep _ _ _ _ _ h h1 h2 h3 h4
  | seq x y ihx ihy =>
    intro Q Q' F w h h1 h2 h3 h4
    simp only [S_skip, S_label, S_ret, S_exit, S_seq, S_cond, S_block, S_scope, S_region, S_draw, S_loop, S_rangeFunc, S_goto, S_refuse] at *
    have wl : ∀ {G : Nat → Value}, agree (wr x) F G → agree (wr (.seq x y)) F G := fun hG t ht => by simp only [wr, Bool.or_eq_false_iff] at ht; exact hG t ht.1
    have wlr : ∀ {G H : Nat → Value}, agree (wr x) F G → agree (wr y) G H → agree (wr (.seq x y)) F H := fun hG hH t ht => by simp only [wr, Bool.or_eq_false_iff] at ht; rw [hH t ht.2, hG t ht.1]
    refine ihx _ _ F w h ?_ (fun i G w hG => h2 i G w (wl hG)) (fun G w hG => h3 G w (wl hG)) (fun G p w hG => h4 G p w (wl hG))
    intro G w' hG hS
    exact ihy _ _ G w' hS (fun H w hH => h1 H w (wlr hG hH)) (fun i H w hH => h2 i H w (wlr hG hH)) (fun H w hH => h3 H w (wlr hG hH)) (fun H p w hH => h4 H p w (wlr hG hH))
  | cond c x y ihx ihy =>
    intro Q Q' F w h h1 h2 h3 h4
    simp only [S_skip, S_label, S_ret, S_exit, S_seq, S_cond, S_block, S_scope, S_region, S_draw, S_loop, S_rangeFunc, S_goto, S_refuse] at *
    have wl : ∀ {G : Nat → Value}, agree (wr x) F G → agree (wr (.cond c x y)) F G := fun hG t ht => by simp only [wr, Bool.or_eq_false_iff] at ht; exact hG t ht.1
    have wrr : ∀ {G : Nat → Value}, agree (wr y) F G → agree (wr (.cond c x y)) F G := fun hG t ht => by simp only [wr, Bool.or_eq_false_iff] at ht; exact hG t ht.2
    split at h
    · rename_i b hb
      cases b
      · exact ihy _ _ F w h (fun H w hH => h1 H w (wrr hH)) (fun i H w hH => h2 i H w (wrr hH)) (fun H w hH => h3 H w (wrr hH)) (fun H p w hH => h4 H p w (wrr hH))
      · exact ihx _ _ F w h (fun H w hH => h1 H w (wl hH)) (fun i H w hH => h2 i H w (wl hH)) (fun H w hH => h3 H w (wl hH)) (fun H p w hH => h4 H p w (wl hH))
    · exact h.elim
  | block i c ih =>
    intro Q Q' F w h h1 h2 h3 h4
    simp only [S_skip, S_label, S_ret, S_exit, S_seq, S_cond, S_block, S_scope, S_region, S_draw, S_loop, S_rangeFunc, S_goto, S_refuse] at *
    refine ih _ _ F w h h1 ?_ h3 h4
    intro j G w' hG hq
    cases hb : Nat.beq j i <;> simp only [hb] at hq ⊢
    · exact h2 j G w' hG hq
    · exact h1 G w' hG hq
  | scope c ih => intro Q Q' F w h h1 h2 h3 h4; simp only [S_skip, S_label, S_ret, S_exit, S_seq, S_cond, S_block, S_scope, S_region, S_draw, S_loop, S_rangeFunc, S_goto, S_refuse] at *; exact ih _ _ F w h h1 h2 h3 h4
  | _ => intro Q Q' F w h h1 h2 h3 h4; simp only [S_skip, S_label, S_ret, S_exit, S_seq, S_cond, S_block, S_scope, S_region, S_draw, S_loop, S_rangeFunc, S_goto, S_refuse] at *; exact deep _ _ _ _ _ h h1 h2 h3 h4

/-- ways meet again: what holds behind the first part -/
theorem cutL (m : Nat) (exc slots : List Nat) (I : List Value → World → Prop) {c x y : Code} {Q : KS} {F : Nat → Value} (hc : c = .seq x y) (hok : okB m exc slots x = true)
    (hx : S P T n x { Q with nrm := fun F' w' => I (mapF F' slots) w' } F w)
    (hy : ∀ vs g w', vs.length = slots.length → I vs w' → S P T n y Q (hdF m exc (zipS slots vs) g F) w') : S P T n c Q F w := by
  subst hc
  have hlen : ∀ (G : Nat → Value) l, (mapF G l).length = l.length := by intro G l; induction l <;> simp_all [mapF]
  refine S_mono x _ _ F w hx ?_ (fun _ _ _ _ h => h) (fun _ _ _ h => h) (fun _ _ _ _ h => h)
  intro G w' hG hI
  have := hy (mapF G slots) G w' (hlen G slots) hI
  rwa [hd_again hok hG] at this
theorem cut0 (m : Nat) (exc : List Nat) (I : World → Prop) {c x y : Code} {Q : KS} {F : Nat → Value} (hc : c = .seq x y) (hok : okB m exc [] x = true)
    (hx : S P T n x { Q with nrm := fun _ w' => I w' } F w) (hy : ∀ g w', I w' → S P T n y Q (hdF m exc [] g F) w') : S P T n c Q F w :=
  cutL m exc [] (fun _ w => I w) hc hok hx fun vs g w' _ hI => by simpa [zipS] using hy g w' hI
theorem cut1 (m : Nat) (exc : List Nat) (s1 : Nat) (I : Value → World → Prop) {c x y : Code} {Q : KS} {F : Nat → Value} (hc : c = .seq x y) (hok : okB m exc [s1] x = true)
    (hx : S P T n x { Q with nrm := fun F' w' => I (F' s1) w' } F w) (hy : ∀ v1 g w', I v1 w' → S P T n y Q (hdF m exc [(s1, v1)] g F) w') : S P T n c Q F w :=
  cutL m exc [s1] (fun vs w => match vs with | [v1] => I v1 w | _ => False) hc hok hx fun vs g w' _ hI => match vs, hI with | [v1], hI => hy v1 g w' hI
theorem cut2 (m : Nat) (exc : List Nat) (s1 s2 : Nat) (I : Value → Value → World → Prop) {c x y : Code} {Q : KS} {F : Nat → Value} (hc : c = .seq x y) (hok : okB m exc [s1, s2] x = true)
    (hx : S P T n x { Q with nrm := fun F' w' => I (F' s1) (F' s2) w' } F w) (hy : ∀ v1 v2 g w', I v1 v2 w' → S P T n y Q (hdF m exc [(s1, v1), (s2, v2)] g F) w') : S P T n c Q F w :=
  cutL m exc [s1, s2] (fun vs w => match vs with | [v1, v2] => I v1 v2 w | _ => False) hc hok hx fun vs g w' _ hI => match vs, hI with | [v1, v2], hI => hy v1 v2 g w' hI
theorem cut3 (m : Nat) (exc : List Nat) (s1 s2 s3 : Nat) (I : Value → Value → Value → World → Prop) {c x y : Code} {Q : KS} {F : Nat → Value} (hc : c = .seq x y) (hok : okB m exc [s1, s2, s3] x = true)
    (hx : S P T n x { Q with nrm := fun F' w' => I (F' s1) (F' s2) (F' s3) w' } F w) (hy : ∀ v1 v2 v3 g w', I v1 v2 v3 w' → S P T n y Q (hdF m exc [(s1, v1), (s2, v2), (s3, v3)] g F) w') : S P T n c Q F w :=
  cutL m exc [s1, s2, s3] (fun vs w => match vs with | [v1, v2, v3] => I v1 v2 v3 w | _ => False) hc hok hx fun vs g w' _ hI => match vs, hI with | [v1, v2, v3], hI => hy v1 v2 v3 g w' hI
end
end Go.W
