/-
  Proved here: the statement that the last theorem names: for every input the law returns true, and the input reads as it did.
  Conditions: none beyond the given rows.
-/
import Derived.Test.YtgjanodnkajinaaGreatRows
import Derived.Test.YtgjanodnkajinaaGreatChecked
import Derived.Test.YtgjanodnkajinaaGreatJ6
set_option linter.unusedVariables false
set_option linter.unusedSimpArgs false
namespace Go.Proofs.YtgjanodnkajinaaGreat
theorem and_tt{a b:Bool}(h:a=true)(k:b=true):(a && b)=true:=by rw [h,k];rfl
open Go.W Go.ChangeShapes
set_option maxRecDepth 100000
set_option linter.unusedVariables false
set_option maxRecDepth 100000 in
theorem topHubs_lifted(os:Os)(started:os.Started)(H:Type)(eH:TypeId×Value->H):
  ReturnsInHanded {} Tryz.checked os 4 .any (Rows.topHubsSpec.pre6 eH Tryz.prog Tryz.f4 Rows.topHubsRow.domain false) (Rows.topHubsSpec.post eH Tryz.prog Tryz.f4 false true false false):=by
 refine zMX (C:=Tryz.checked) own0 started (by kernel_rfl) Tryz.func4
  (ChangeSpec.witness6 (enc:=eH) (C:=Tryz.checked) false ⟨#[],#[.agg #[.int .i64 0,.int .i64 0,.int .i64 0,.int .i64 0,.int .i64 0],.string ⟨#[]⟩,.slice none 0 0],[]⟩ 8 (by kernel_rfl) (by kernel_rfl) (by kernel_rfl) (by kernel_rfl)) laid0 (by kernel_rfl) rfl (tb:=E.q2) (by kernel_rfl) (by kernel_rfl) ?_ ?_
 ·intro ds hd
  match ds,hd with
  |[_,_,_],_=>rfl
 ·intro W base args ds ps hval hA hwt
  have hval:∀(j:Nat) t v,Tryz.f4.params[j]? = some t->args[j]? = some v->Value.okWide Tryz.prog W .any base t v:=hval
  have hA:DataW.TrodAll eH Tryz.prog W 0 (λ_=>true) true Tryz.f4.params.toList args.toList ds ps:=hA
  rw [Tryz.params4] at hA hval
  have hwt:(DataW.weightsEach Tryz.prog Tryz.f4.params.toList ds).all (·<=reachBytes)=true:=hwt
  rw [Tryz.params4] at hwt
  obtain⟨v0,v1,v2,d0,d1,d2,p0,p1,p2,rfl,rfl,rfl,h0,h1,h2⟩:=trodAll_three hA
  obtain⟨c,rfl⟩:=zNJ (hval 0 _ _ rfl rfl) h0
  obtain⟨m,rfl,mb⟩:=zNL (hval 1 _ _ rfl rfl) h1 (w_tail (w_tail hwt).2).1
  obtain⟨la,ln,lc,l,rfl,ls,lm⟩:=zNK (hval 2 _ _ rfl rfl) h2
  exact zOw (zDH mb ls lm)
theorem topHubs_k0:(λ(P:Program) (f:FuncId) (fn:Func) (s:ChangeSpec) (c:OpenClaim)=>(c.wf (OpenSpec.ofChange s):Bool)) Tryz.prog 4 Tryz.f4 Rows.topHubsSpec Rows.topHubsRow=true:=by kernel_rfl
theorem topHubs_k1:(λ(P:Program) (f:FuncId) (fn:Func) (s:ChangeSpec) (c:OpenClaim)=>(laidOutB P:Bool)) Tryz.prog 4 Tryz.f4 Rows.topHubsSpec Rows.topHubsRow=true:=by kernel_rfl
theorem topHubs_k2:(λ(P:Program) (f:FuncId) (fn:Func) (s:ChangeSpec) (c:OpenClaim)=>(mapsRowed P:Bool)) Tryz.prog 4 Tryz.f4 Rows.topHubsSpec Rows.topHubsRow=true:=by kernel_rfl
theorem topHubs_k3:(λ(P:Program) (f:FuncId) (fn:Func) (s:ChangeSpec) (c:OpenClaim)=>(fn.params.all (P.readableRec ·):Bool)) Tryz.prog 4 Tryz.f4 Rows.topHubsSpec Rows.topHubsRow=true:=by kernel_rfl
theorem topHubs_k4:(λ(P:Program) (f:FuncId) (fn:Func) (s:ChangeSpec) (c:OpenClaim)=>(namedTie P c.named s.vars:Bool)) Tryz.prog 4 Tryz.f4 Rows.topHubsSpec Rows.topHubsRow=true:=by kernel_rfl
theorem topHubs_k5:(λ(P:Program) (f:FuncId) (fn:Func) (s:ChangeSpec) (c:OpenClaim)=>((c.stops==[]):Bool)) Tryz.prog 4 Tryz.f4 Rows.topHubsSpec Rows.topHubsRow=true:=by kernel_rfl
theorem topHubs_k6:(λ(P:Program) (f:FuncId) (fn:Func) (s:ChangeSpec) (c:OpenClaim)=>((P.stops==[]):Bool)) Tryz.prog 4 Tryz.f4 Rows.topHubsSpec Rows.topHubsRow=true:=by kernel_rfl
theorem topHubs_k7:(λ(P:Program) (f:FuncId) (fn:Func) (s:ChangeSpec) (c:OpenClaim)=>((c.knobs==[]):Bool)) Tryz.prog 4 Tryz.f4 Rows.topHubsSpec Rows.topHubsRow=true:=by kernel_rfl
theorem topHubs_k8:(λ(P:Program) (f:FuncId) (fn:Func) (s:ChangeSpec) (c:OpenClaim)=>((P.stopKnobs==[]):Bool)) Tryz.prog 4 Tryz.f4 Rows.topHubsSpec Rows.topHubsRow=true:=by kernel_rfl
theorem topHubs_k9:(λ(P:Program) (f:FuncId) (fn:Func) (s:ChangeSpec) (c:OpenClaim)=>((c.inPlace==P.inPlace f):Bool)) Tryz.prog 4 Tryz.f4 Rows.topHubsSpec Rows.topHubsRow=true:=by kernel_rfl
theorem topHubs_k10:(λ(P:Program) (f:FuncId) (fn:Func) (s:ChangeSpec) (c:OpenClaim)=>((c.unfollowed==P.unfollowed f):Bool)) Tryz.prog 4 Tryz.f4 Rows.topHubsSpec Rows.topHubsRow=true:=by kernel_rfl
theorem topHubs_k11:(λ(P:Program) (f:FuncId) (fn:Func) (s:ChangeSpec) (c:OpenClaim)=>((c.recurses==P.recurses f):Bool)) Tryz.prog 4 Tryz.f4 Rows.topHubsSpec Rows.topHubsRow=true:=by kernel_rfl
theorem topHubs_k12:(λ(P:Program) (f:FuncId) (fn:Func) (s:ChangeSpec) (c:OpenClaim)=>((c.named==P.varsNamed f):Bool)) Tryz.prog 4 Tryz.f4 Rows.topHubsSpec Rows.topHubsRow=true:=by kernel_rfl
theorem topHubs_k13:(λ(P:Program) (f:FuncId) (fn:Func) (s:ChangeSpec) (c:OpenClaim)=>((c.maps==(fn.params.toList++s.plain.varTypes P).any (P.mapsRec ·)):Bool)) Tryz.prog 4 Tryz.f4 Rows.topHubsSpec Rows.topHubsRow=true:=by kernel_rfl
theorem topHubs_k14:(λ(P:Program) (f:FuncId) (fn:Func) (s:ChangeSpec) (c:OpenClaim)=>((c.ifaces==(fn.params.toList++s.plain.varTypes P).any (P.ifacesRec ·)):Bool)) Tryz.prog 4 Tryz.f4 Rows.topHubsSpec Rows.topHubsRow=true:=by kernel_rfl
theorem topHubs_k15:(λ(P:Program) (f:FuncId) (fn:Func) (s:ChangeSpec) (c:OpenClaim)=>((c.mapsOut==P.mapsAmong fn.resultTypes.toList):Bool)) Tryz.prog 4 Tryz.f4 Rows.topHubsSpec Rows.topHubsRow=true:=by kernel_rfl
theorem topHubs_k16:(λ(P:Program) (f:FuncId) (fn:Func) (s:ChangeSpec) (c:OpenClaim)=>((c.loops==(fn.params.toList++s.plain.varTypes P).any (P.loopsFrom ·)):Bool)) Tryz.prog 4 Tryz.f4 Rows.topHubsSpec Rows.topHubsRow=true:=by kernel_rfl
theorem topHubs_k17:(λ(P:Program) (f:FuncId) (fn:Func) (s:ChangeSpec) (c:OpenClaim)=>((c.wideKeys==(fn.params.toList++s.plain.varTypes P++fn.resultTypes.toList).any (P.wideKeysFrom ·)):Bool)) Tryz.prog 4 Tryz.f4 Rows.topHubsSpec Rows.topHubsRow=true:=by kernel_rfl
theorem topHubs_k18:(λ(P:Program) (f:FuncId) (fn:Func) (s:ChangeSpec) (c:OpenClaim)=>(s.vars.all (P.varReadable ·):Bool)) Tryz.prog 4 Tryz.f4 Rows.topHubsSpec Rows.topHubsRow=true:=by kernel_rfl
theorem topHubs_k19:(λ(P:Program) (f:FuncId) (fn:Func) (s:ChangeSpec) (c:OpenClaim)=>(fn.resultTypes.all (λt=>P.readableRec t && decide (t<P.types.size)):Bool)) Tryz.prog 4 Tryz.f4 Rows.topHubsSpec Rows.topHubsRow=true:=by kernel_rfl
theorem topHubs_k20:(λ(P:Program) (f:FuncId) (fn:Func) (s:ChangeSpec) (c:OpenClaim)=>((c.ifacesOut==fn.resultTypes.toList.any (P.ifacesRec ·)):Bool)) Tryz.prog 4 Tryz.f4 Rows.topHubsSpec Rows.topHubsRow=true:=by kernel_rfl
theorem topHubs_k21:(λ(P:Program) (f:FuncId) (fn:Func) (s:ChangeSpec) (c:OpenClaim)=>((c.loopsOut==fn.resultTypes.toList.any (P.loopsFrom ·)):Bool)) Tryz.prog 4 Tryz.f4 Rows.topHubsSpec Rows.topHubsRow=true:=by kernel_rfl
theorem topHubs_k22:(λ(P:Program) (f:FuncId) (fn:Func) (s:ChangeSpec) (c:OpenClaim)=>((c.plainKeys==P.plainKeys):Bool)) Tryz.prog 4 Tryz.f4 Rows.topHubsSpec Rows.topHubsRow=true:=by kernel_rfl
theorem topHubs_k23:(λ(P:Program) (f:FuncId) (fn:Func) (s:ChangeSpec) (c:OpenClaim)=>(c.shortTexts.isNone:Bool)) Tryz.prog 4 Tryz.f4 Rows.topHubsSpec Rows.topHubsRow=true:=by kernel_rfl
theorem topHubs_k24:(λ(P:Program) (f:FuncId) (fn:Func) (s:ChangeSpec) (c:OpenClaim)=>(P.stopsHeard:Bool)) Tryz.prog 4 Tryz.f4 Rows.topHubsSpec Rows.topHubsRow=true:=by kernel_rfl
theorem topHubs_k25:(λ(P:Program) (f:FuncId) (fn:Func) (s:ChangeSpec) (c:OpenClaim)=>(P.mayEnter:Bool)) Tryz.prog 4 Tryz.f4 Rows.topHubsSpec Rows.topHubsRow=true:=by kernel_rfl
theorem topHubs_k26:(λ(P:Program) (f:FuncId) (fn:Func) (s:ChangeSpec) (c:OpenClaim)=>((c.lifted==P.liftsFinal):Bool)) Tryz.prog 4 Tryz.f4 Rows.topHubsSpec Rows.topHubsRow=true:=by kernel_rfl
theorem topHubs_k27:(λ(P:Program) (f:FuncId) (fn:Func) (s:ChangeSpec) (c:OpenClaim)=>((P.make==some c.make):Bool)) Tryz.prog 4 Tryz.f4 Rows.topHubsSpec Rows.topHubsRow=true:=by kernel_rfl
theorem topHubs_k28:(λ(P:Program) (f:FuncId) (fn:Func) (s:ChangeSpec) (c:OpenClaim)=>((c.kinds==(if c.domain.isEmpty then [] else fn.params.toList.map λt=>match P.underlying t with|some (.int k)=>some k|_=>none)):Bool)) Tryz.prog 4 Tryz.f4 Rows.topHubsSpec Rows.topHubsRow=true:=by kernel_rfl
theorem topHubs_k29:(λ(P:Program) (f:FuncId) (fn:Func) (s:ChangeSpec) (c:OpenClaim)=>((c.pinned==c.pinnedBy):Bool)) Tryz.prog 4 Tryz.f4 Rows.topHubsSpec Rows.topHubsRow=true:=by kernel_rfl
theorem topHubs_k30:(λ(P:Program) (f:FuncId) (fn:Func) (s:ChangeSpec) (c:OpenClaim)=>((c.veiled==(fn.params.toList++s.plain.varTypes P++fn.resultTypes.toList).any (P.veiledRec ·)):Bool)) Tryz.prog 4 Tryz.f4 Rows.topHubsSpec Rows.topHubsRow=true:=by kernel_rfl
theorem topHubs_k31:(λ(P:Program) (f:FuncId) (fn:Func) (s:ChangeSpec) (c:OpenClaim)=>(c.veiledFits P fn.params.toList (fn.params.toList++s.plain.varTypes P++fn.resultTypes.toList):Bool)) Tryz.prog 4 Tryz.f4 Rows.topHubsSpec Rows.topHubsRow=true:=by kernel_rfl
theorem topHubs_closed:joinedFacts Tryz.prog 4 Tryz.f4 Rows.topHubsSpec Rows.topHubsRow=true:=(and_tt (and_tt (and_tt (and_tt (and_tt (and_tt (and_tt (and_tt (and_tt (and_tt (and_tt (and_tt (and_tt (and_tt (and_tt (and_tt (and_tt (and_tt (and_tt (and_tt (and_tt (and_tt (and_tt (and_tt (and_tt (and_tt (and_tt (and_tt (and_tt (and_tt (and_tt topHubs_k0 topHubs_k1) topHubs_k2) topHubs_k3) topHubs_k4) topHubs_k5) topHubs_k6) topHubs_k7) topHubs_k8) topHubs_k9) topHubs_k10) topHubs_k11) topHubs_k12) topHubs_k13) topHubs_k14) topHubs_k15) topHubs_k16) topHubs_k17) topHubs_k18) topHubs_k19) topHubs_k20) topHubs_k21) topHubs_k22) topHubs_k23) topHubs_k24) topHubs_k25) topHubs_k26) topHubs_k27) topHubs_k28) topHubs_k29) topHubs_k30) topHubs_k31)
theorem topHubs_named:Tryz.prog.funcNamed Rows.topHubsRow.func=some 4:=by kernel_rfl
theorem topHubs_inst:Tryz.f4.isInstance Tryz.prog Rows.topHubsRow.origin Rows.topHubsRow.targs:=of_decide_eq_true (by kernel_rfl)
theorem topHubs_wrap:Tryz.f4.isWrapper Tryz.prog Rows.topHubsRow.wrapper Rows.topHubsRow.mainSum:=by unfold Func.isWrapper;first|(rw [if_pos (by decide +kernel)];kernel_rfl)|(rw [if_neg (by decide +kernel)];exact⟨rfl,rfl⟩)
theorem topHubs_holds:Rows.TopHubsSaid:=
 OpenClaim.holds_of_wide (p:=Tryz.pinned) 4 Tryz.f4 rfl rfl rfl rfl rfl rfl rfl ⟨rfl,rfl,rfl,rfl,rfl⟩ rfl rfl rfl rfl rfl topHubs_named Tryz.func4 topHubs_closed topHubs_inst topHubs_wrap
  (λos started H enc _=>topHubs_lifted os started H enc)
#print axioms topHubs_holds
end Go.Proofs.YtgjanodnkajinaaGreat
