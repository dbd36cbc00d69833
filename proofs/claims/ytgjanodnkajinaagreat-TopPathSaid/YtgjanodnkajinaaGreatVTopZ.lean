/-
  Proved here: the statement that the last theorem names: for every input the law returns true, and the input reads as it did.
  Conditions: none beyond the given rows.
-/
import Derived.Test.YtgjanodnkajinaaGreatRows
import Derived.Test.YtgjanodnkajinaaGreatChecked
import Derived.Test.YtgjanodnkajinaaGreatV6
set_option linter.unusedVariables false
set_option linter.unusedSimpArgs false
namespace Go.Proofs.YtgjanodnkajinaaGreat
theorem and_tt{a b:Bool}(h:a=true)(k:b=true):(a && b)=true:=by rw [h,k];rfl
open Go.W Go.ChangeShapes
set_option maxRecDepth 100000
set_option linter.unusedVariables false
set_option maxRecDepth 100000 in
theorem topPath_lifted(os:Os)(started:os.Started)(H:Type)(eH:TypeId×Value→H):
  ReturnsInHanded {} Tryz.checked os 3 .any (Rows.topPathSpec.pre6 eH Tryz.prog Tryz.f3 Rows.topPathRow.domain false) (Rows.topPathSpec.post eH Tryz.prog Tryz.f3 false true false false):=by
 refine zMF (C:=Tryz.checked) own0 started (by kernel_rfl) Tryz.func3
  (ChangeSpec.witness6 (enc:=eH) (C:=Tryz.checked) false ⟨#[],#[.agg #[.int .i64 0,.int .i64 0,.int .i64 0,.int .i64 0,.int .i64 0],.string ⟨#[]⟩,.slice none 0 0],[]⟩ 8 (by kernel_rfl) (by kernel_rfl) (by kernel_rfl) (by kernel_rfl)) laid0 (by kernel_rfl) rfl (tb:=E.q6) (by kernel_rfl) (by kernel_rfl) ?_ ?_
 ·intro ds hd
  match ds,hd with
  |[_,_,_],_=>rfl
 ·intro W base args ds ps hval hA hwt
  have hval:∀(j:Nat) t v,Tryz.f3.params[j]? = some t→args[j]? = some v→Value.okWide Tryz.prog W .any base t v:=hval
  have hA:DataW.TrodAll eH Tryz.prog W 0 (fun _=>true) true Tryz.f3.params.toList args.toList ds ps:=hA
  rw [Tryz.params3] at hA hval
  have hwt:(DataW.weightsEach Tryz.prog Tryz.f3.params.toList ds).all (·≤reachBytes)=true:=hwt
  rw [Tryz.params3] at hwt
  obtain⟨v0,v1,v2,d0,d1,d2,p0,p1,p2,rfl,rfl,rfl,h0,h1,h2⟩:=trodAll_three hA
  obtain⟨c,rfl⟩:=zNp (hval 0 _ _ rfl rfl) h0
  obtain⟨m,rfl,mb⟩:=zNr (hval 1 _ _ rfl rfl) h1 (w_tail (w_tail hwt).2).1
  obtain⟨la,ln,lc,l,rfl,ls,lm⟩:=zNq (hval 2 _ _ rfl rfl) h2
  exact zN9 (zDG mb ls lm)
theorem topPath_k0:(fun(P:Program) (f:FuncId) (fn:Func) (s:ChangeSpec) (c:OpenClaim)=>(c.wf (OpenSpec.ofChange s):Bool)) Tryz.prog 3 Tryz.f3 Rows.topPathSpec Rows.topPathRow=true:=by kernel_rfl
theorem topPath_k1:(fun(P:Program) (f:FuncId) (fn:Func) (s:ChangeSpec) (c:OpenClaim)=>(laidOutB P:Bool)) Tryz.prog 3 Tryz.f3 Rows.topPathSpec Rows.topPathRow=true:=by kernel_rfl
theorem topPath_k2:(fun(P:Program) (f:FuncId) (fn:Func) (s:ChangeSpec) (c:OpenClaim)=>(mapsRowed P:Bool)) Tryz.prog 3 Tryz.f3 Rows.topPathSpec Rows.topPathRow=true:=by kernel_rfl
theorem topPath_k3:(fun(P:Program) (f:FuncId) (fn:Func) (s:ChangeSpec) (c:OpenClaim)=>(fn.params.all (P.readableRec ·):Bool)) Tryz.prog 3 Tryz.f3 Rows.topPathSpec Rows.topPathRow=true:=by kernel_rfl
theorem topPath_k4:(fun(P:Program) (f:FuncId) (fn:Func) (s:ChangeSpec) (c:OpenClaim)=>(namedTie P c.named s.vars:Bool)) Tryz.prog 3 Tryz.f3 Rows.topPathSpec Rows.topPathRow=true:=by kernel_rfl
theorem topPath_k5:(fun(P:Program) (f:FuncId) (fn:Func) (s:ChangeSpec) (c:OpenClaim)=>((c.stops==[]):Bool)) Tryz.prog 3 Tryz.f3 Rows.topPathSpec Rows.topPathRow=true:=by kernel_rfl
theorem topPath_k6:(fun(P:Program) (f:FuncId) (fn:Func) (s:ChangeSpec) (c:OpenClaim)=>((P.stops==[]):Bool)) Tryz.prog 3 Tryz.f3 Rows.topPathSpec Rows.topPathRow=true:=by kernel_rfl
theorem topPath_k7:(fun(P:Program) (f:FuncId) (fn:Func) (s:ChangeSpec) (c:OpenClaim)=>((c.knobs==[]):Bool)) Tryz.prog 3 Tryz.f3 Rows.topPathSpec Rows.topPathRow=true:=by kernel_rfl
theorem topPath_k8:(fun(P:Program) (f:FuncId) (fn:Func) (s:ChangeSpec) (c:OpenClaim)=>((P.stopKnobs==[]):Bool)) Tryz.prog 3 Tryz.f3 Rows.topPathSpec Rows.topPathRow=true:=by kernel_rfl
theorem topPath_k9:(fun(P:Program) (f:FuncId) (fn:Func) (s:ChangeSpec) (c:OpenClaim)=>((c.inPlace==P.inPlace f):Bool)) Tryz.prog 3 Tryz.f3 Rows.topPathSpec Rows.topPathRow=true:=by kernel_rfl
theorem topPath_k10:(fun(P:Program) (f:FuncId) (fn:Func) (s:ChangeSpec) (c:OpenClaim)=>((c.unfollowed==P.unfollowed f):Bool)) Tryz.prog 3 Tryz.f3 Rows.topPathSpec Rows.topPathRow=true:=by kernel_rfl
theorem topPath_k11:(fun(P:Program) (f:FuncId) (fn:Func) (s:ChangeSpec) (c:OpenClaim)=>((c.recurses==P.recurses f):Bool)) Tryz.prog 3 Tryz.f3 Rows.topPathSpec Rows.topPathRow=true:=by kernel_rfl
theorem topPath_k12:(fun(P:Program) (f:FuncId) (fn:Func) (s:ChangeSpec) (c:OpenClaim)=>((c.named==P.varsNamed f):Bool)) Tryz.prog 3 Tryz.f3 Rows.topPathSpec Rows.topPathRow=true:=by kernel_rfl
theorem topPath_k13:(fun(P:Program) (f:FuncId) (fn:Func) (s:ChangeSpec) (c:OpenClaim)=>((c.maps==(fn.params.toList++s.plain.varTypes P).any (P.mapsRec ·)):Bool)) Tryz.prog 3 Tryz.f3 Rows.topPathSpec Rows.topPathRow=true:=by kernel_rfl
theorem topPath_k14:(fun(P:Program) (f:FuncId) (fn:Func) (s:ChangeSpec) (c:OpenClaim)=>((c.ifaces==(fn.params.toList++s.plain.varTypes P).any (P.ifacesRec ·)):Bool)) Tryz.prog 3 Tryz.f3 Rows.topPathSpec Rows.topPathRow=true:=by kernel_rfl
theorem topPath_k15:(fun(P:Program) (f:FuncId) (fn:Func) (s:ChangeSpec) (c:OpenClaim)=>((c.mapsOut==P.mapsAmong fn.resultTypes.toList):Bool)) Tryz.prog 3 Tryz.f3 Rows.topPathSpec Rows.topPathRow=true:=by kernel_rfl
theorem topPath_k16:(fun(P:Program) (f:FuncId) (fn:Func) (s:ChangeSpec) (c:OpenClaim)=>((c.loops==(fn.params.toList++s.plain.varTypes P).any (P.loopsFrom ·)):Bool)) Tryz.prog 3 Tryz.f3 Rows.topPathSpec Rows.topPathRow=true:=by kernel_rfl
theorem topPath_k17:(fun(P:Program) (f:FuncId) (fn:Func) (s:ChangeSpec) (c:OpenClaim)=>((c.wideKeys==(fn.params.toList++s.plain.varTypes P++fn.resultTypes.toList).any (P.wideKeysFrom ·)):Bool)) Tryz.prog 3 Tryz.f3 Rows.topPathSpec Rows.topPathRow=true:=by kernel_rfl
theorem topPath_k18:(fun(P:Program) (f:FuncId) (fn:Func) (s:ChangeSpec) (c:OpenClaim)=>(s.vars.all (P.varReadable ·):Bool)) Tryz.prog 3 Tryz.f3 Rows.topPathSpec Rows.topPathRow=true:=by kernel_rfl
theorem topPath_k19:(fun(P:Program) (f:FuncId) (fn:Func) (s:ChangeSpec) (c:OpenClaim)=>(fn.resultTypes.all (fun t=>P.readableRec t && decide (t<P.types.size)):Bool)) Tryz.prog 3 Tryz.f3 Rows.topPathSpec Rows.topPathRow=true:=by kernel_rfl
theorem topPath_k20:(fun(P:Program) (f:FuncId) (fn:Func) (s:ChangeSpec) (c:OpenClaim)=>((c.ifacesOut==fn.resultTypes.toList.any (P.ifacesRec ·)):Bool)) Tryz.prog 3 Tryz.f3 Rows.topPathSpec Rows.topPathRow=true:=by kernel_rfl
theorem topPath_k21:(fun(P:Program) (f:FuncId) (fn:Func) (s:ChangeSpec) (c:OpenClaim)=>((c.loopsOut==fn.resultTypes.toList.any (P.loopsFrom ·)):Bool)) Tryz.prog 3 Tryz.f3 Rows.topPathSpec Rows.topPathRow=true:=by kernel_rfl
theorem topPath_k22:(fun(P:Program) (f:FuncId) (fn:Func) (s:ChangeSpec) (c:OpenClaim)=>((c.plainKeys==P.plainKeys):Bool)) Tryz.prog 3 Tryz.f3 Rows.topPathSpec Rows.topPathRow=true:=by kernel_rfl
theorem topPath_k23:(fun(P:Program) (f:FuncId) (fn:Func) (s:ChangeSpec) (c:OpenClaim)=>(c.shortTexts.isNone:Bool)) Tryz.prog 3 Tryz.f3 Rows.topPathSpec Rows.topPathRow=true:=by kernel_rfl
theorem topPath_k24:(fun(P:Program) (f:FuncId) (fn:Func) (s:ChangeSpec) (c:OpenClaim)=>(P.stopsHeard:Bool)) Tryz.prog 3 Tryz.f3 Rows.topPathSpec Rows.topPathRow=true:=by kernel_rfl
theorem topPath_k25:(fun(P:Program) (f:FuncId) (fn:Func) (s:ChangeSpec) (c:OpenClaim)=>(P.mayEnter:Bool)) Tryz.prog 3 Tryz.f3 Rows.topPathSpec Rows.topPathRow=true:=by kernel_rfl
theorem topPath_k26:(fun(P:Program) (f:FuncId) (fn:Func) (s:ChangeSpec) (c:OpenClaim)=>((c.lifted==P.liftsFinal):Bool)) Tryz.prog 3 Tryz.f3 Rows.topPathSpec Rows.topPathRow=true:=by kernel_rfl
theorem topPath_k27:(fun(P:Program) (f:FuncId) (fn:Func) (s:ChangeSpec) (c:OpenClaim)=>((P.make==some c.make):Bool)) Tryz.prog 3 Tryz.f3 Rows.topPathSpec Rows.topPathRow=true:=by kernel_rfl
theorem topPath_k28:(fun(P:Program) (f:FuncId) (fn:Func) (s:ChangeSpec) (c:OpenClaim)=>((c.kinds==(if c.domain.isEmpty then [] else fn.params.toList.map fun t=>match P.underlying t with|some (.int k)=>some k|_=>none)):Bool)) Tryz.prog 3 Tryz.f3 Rows.topPathSpec Rows.topPathRow=true:=by kernel_rfl
theorem topPath_k29:(fun(P:Program) (f:FuncId) (fn:Func) (s:ChangeSpec) (c:OpenClaim)=>((c.pinned==c.pinnedBy):Bool)) Tryz.prog 3 Tryz.f3 Rows.topPathSpec Rows.topPathRow=true:=by kernel_rfl
theorem topPath_k30:(fun(P:Program) (f:FuncId) (fn:Func) (s:ChangeSpec) (c:OpenClaim)=>((c.veiled==(fn.params.toList++s.plain.varTypes P++fn.resultTypes.toList).any (P.veiledRec ·)):Bool)) Tryz.prog 3 Tryz.f3 Rows.topPathSpec Rows.topPathRow=true:=by kernel_rfl
theorem topPath_k31:(fun(P:Program) (f:FuncId) (fn:Func) (s:ChangeSpec) (c:OpenClaim)=>(c.veiledFits P fn.params.toList (fn.params.toList++s.plain.varTypes P++fn.resultTypes.toList):Bool)) Tryz.prog 3 Tryz.f3 Rows.topPathSpec Rows.topPathRow=true:=by kernel_rfl
theorem topPath_closed:joinedFacts Tryz.prog 3 Tryz.f3 Rows.topPathSpec Rows.topPathRow=true:=(and_tt (and_tt (and_tt (and_tt (and_tt (and_tt (and_tt (and_tt (and_tt (and_tt (and_tt (and_tt (and_tt (and_tt (and_tt (and_tt (and_tt (and_tt (and_tt (and_tt (and_tt (and_tt (and_tt (and_tt (and_tt (and_tt (and_tt (and_tt (and_tt (and_tt (and_tt topPath_k0 topPath_k1) topPath_k2) topPath_k3) topPath_k4) topPath_k5) topPath_k6) topPath_k7) topPath_k8) topPath_k9) topPath_k10) topPath_k11) topPath_k12) topPath_k13) topPath_k14) topPath_k15) topPath_k16) topPath_k17) topPath_k18) topPath_k19) topPath_k20) topPath_k21) topPath_k22) topPath_k23) topPath_k24) topPath_k25) topPath_k26) topPath_k27) topPath_k28) topPath_k29) topPath_k30) topPath_k31)
theorem topPath_named:Tryz.prog.funcNamed Rows.topPathRow.func=some 3:=by kernel_rfl
theorem topPath_inst:Tryz.f3.isInstance Tryz.prog Rows.topPathRow.origin Rows.topPathRow.targs:=of_decide_eq_true (by kernel_rfl)
theorem topPath_wrap:Tryz.f3.isWrapper Tryz.prog Rows.topPathRow.wrapper Rows.topPathRow.mainSum:=by unfold Func.isWrapper;first|(rw [if_pos (by decide +kernel)];kernel_rfl)|(rw [if_neg (by decide +kernel)];exact⟨rfl,rfl⟩)
theorem topPath_holds:Rows.TopPathSaid:=
 OpenClaim.holds_of_wide (p:=Tryz.pinned) 3 Tryz.f3 rfl rfl rfl rfl rfl rfl rfl ⟨rfl,rfl,rfl,rfl,rfl⟩ rfl rfl rfl rfl rfl topPath_named Tryz.func3 topPath_closed topPath_inst topPath_wrap
  (fun os started H enc _=>topPath_lifted os started H enc)
#print axioms topPath_holds
end Go.Proofs.YtgjanodnkajinaaGreat
