/-
  Proved here: the statement that the last theorem names: for every input the law returns true, and the input reads as it did.
  Conditions: none beyond the given rows.
-/
import Derived.Test.YtneehpnmjhjocaaGreatRows
import Derived.Test.YtneehpnmjhjocaaGreatChecked
import Derived.Test.YtneehpnmjhjocaaGreatH7
set_option linter.unusedVariables false
set_option linter.unusedSimpArgs false
namespace Go.Proofs.YtneehpnmjhjocaaGreat
theorem and_tt{a b:Bool}(h:a=true)(k:b=true):(a && b)=true:=by rw [h,k];rfl
open Go.W Go.ChangeShapes
set_option maxRecDepth 100000
set_option linter.unusedVariables false
set_option maxRecDepth 100000 in
theorem serverRuns_lifted(os:Os)(b:os.Started)(H:Type)(f:TypeId×Value->H):
  ReturnsInHanded {} Tryz.checked os 3 .any (Rows.serverRunsSpec.pre6 f Tryz.prog Tryz.f3 Rows.serverRunsRow.domain false) (Rows.serverRunsSpec.post f Tryz.prog Tryz.f3 false true false false):=by
 refine zOL (C:=Tryz.checked) own0 b (by kernel_rfl) Tryz.func3
  (ChangeSpec.witness6 (enc:=f) (C:=Tryz.checked) false ⟨#[],#[.agg #[.int .i64 0,.int .i64 0,.int .i64 0,.int .i64 0,.int .i64 0],.string ⟨#[]⟩,.slice none 0 0],[]⟩ 8 (by kernel_rfl) (by kernel_rfl) (by kernel_rfl) (by kernel_rfl)) laid0 (by kernel_rfl) rfl (tb:=E.ya) (by kernel_rfl) (by kernel_rfl) ?_ ?_
 ·intro ds hd
  match ds,hd with
  |[_,_,_],_=>rfl
 ·intro W e args ds ps a g d;have a:∀(j:Nat) t v,Tryz.f3.params[j]? = some t->args[j]? = some v->Value.okWide Tryz.prog W .any e t v:=a;have g:DataW.TrodAll f Tryz.prog W 0 (λ_=>true) true Tryz.f3.params.toList args.toList ds ps:=g;rw [Tryz.params3] at g a;have d:(DataW.weightsEach Tryz.prog Tryz.f3.params.toList ds).all (·<=reachBytes)=true:=d;rw [Tryz.params3] at d;obtain⟨o,p,q,d0,d1,d2,p0,p1,p2,rfl,rfl,rfl,h0,h,i⟩:=trodAll_three g;obtain⟨c,rfl⟩:=zPt (a 0 _ _ rfl rfl) h0;obtain⟨m,rfl,r⟩:=zPv (a 1 _ _ rfl rfl) h (w_tail (w_tail d).2).1;obtain⟨la,s,u,l,rfl,k,n⟩:=zPu (a 2 _ _ rfl rfl) i;exact zQa (zF7 k n)
theorem serverRuns_k0:(λ(P:Program) (f:FuncId) (a:Func) (s:ChangeSpec) (c:OpenClaim)=>(c.wf (OpenSpec.ofChange s):Bool)) Tryz.prog 3 Tryz.f3 Rows.serverRunsSpec Rows.serverRunsRow=true:=by kernel_rfl
theorem serverRuns_k1:(λ(P:Program) (f:FuncId) (a:Func) (s:ChangeSpec) (c:OpenClaim)=>(laidOutB P:Bool)) Tryz.prog 3 Tryz.f3 Rows.serverRunsSpec Rows.serverRunsRow=true:=by kernel_rfl
theorem serverRuns_k2:(λ(P:Program) (f:FuncId) (a:Func) (s:ChangeSpec) (c:OpenClaim)=>(mapsRowed P:Bool)) Tryz.prog 3 Tryz.f3 Rows.serverRunsSpec Rows.serverRunsRow=true:=by kernel_rfl
theorem serverRuns_k3:(λ(P:Program) (f:FuncId) (a:Func) (s:ChangeSpec) (c:OpenClaim)=>(a.params.all (P.readableRec ·):Bool)) Tryz.prog 3 Tryz.f3 Rows.serverRunsSpec Rows.serverRunsRow=true:=by kernel_rfl
theorem serverRuns_k4:(λ(P:Program) (f:FuncId) (a:Func) (s:ChangeSpec) (c:OpenClaim)=>(namedTie P c.named s.vars:Bool)) Tryz.prog 3 Tryz.f3 Rows.serverRunsSpec Rows.serverRunsRow=true:=by kernel_rfl
theorem serverRuns_k5:(λ(P:Program) (f:FuncId) (a:Func) (s:ChangeSpec) (c:OpenClaim)=>((c.stops==[]):Bool)) Tryz.prog 3 Tryz.f3 Rows.serverRunsSpec Rows.serverRunsRow=true:=by kernel_rfl
theorem serverRuns_k6:(λ(P:Program) (f:FuncId) (a:Func) (s:ChangeSpec) (c:OpenClaim)=>((P.stops==[]):Bool)) Tryz.prog 3 Tryz.f3 Rows.serverRunsSpec Rows.serverRunsRow=true:=by kernel_rfl
theorem serverRuns_k7:(λ(P:Program) (f:FuncId) (a:Func) (s:ChangeSpec) (c:OpenClaim)=>((c.knobs==[]):Bool)) Tryz.prog 3 Tryz.f3 Rows.serverRunsSpec Rows.serverRunsRow=true:=by kernel_rfl
theorem serverRuns_k8:(λ(P:Program) (f:FuncId) (a:Func) (s:ChangeSpec) (c:OpenClaim)=>((P.stopKnobs==[]):Bool)) Tryz.prog 3 Tryz.f3 Rows.serverRunsSpec Rows.serverRunsRow=true:=by kernel_rfl
theorem serverRuns_k9:(λ(P:Program) (f:FuncId) (a:Func) (s:ChangeSpec) (c:OpenClaim)=>((c.inPlace==P.inPlace f):Bool)) Tryz.prog 3 Tryz.f3 Rows.serverRunsSpec Rows.serverRunsRow=true:=by kernel_rfl
theorem serverRuns_k10:(λ(P:Program) (f:FuncId) (a:Func) (s:ChangeSpec) (c:OpenClaim)=>((c.unfollowed==P.unfollowed f):Bool)) Tryz.prog 3 Tryz.f3 Rows.serverRunsSpec Rows.serverRunsRow=true:=by kernel_rfl
theorem serverRuns_k11:(λ(P:Program) (f:FuncId) (a:Func) (s:ChangeSpec) (c:OpenClaim)=>((c.recurses==P.recurses f):Bool)) Tryz.prog 3 Tryz.f3 Rows.serverRunsSpec Rows.serverRunsRow=true:=by kernel_rfl
theorem serverRuns_k12:(λ(P:Program) (f:FuncId) (a:Func) (s:ChangeSpec) (c:OpenClaim)=>((c.named==P.varsNamed f):Bool)) Tryz.prog 3 Tryz.f3 Rows.serverRunsSpec Rows.serverRunsRow=true:=by kernel_rfl
theorem serverRuns_k13:(λ(P:Program) (f:FuncId) (a:Func) (s:ChangeSpec) (c:OpenClaim)=>((c.maps==(a.params.toList++s.plain.varTypes P).any (P.mapsRec ·)):Bool)) Tryz.prog 3 Tryz.f3 Rows.serverRunsSpec Rows.serverRunsRow=true:=by kernel_rfl
theorem serverRuns_k14:(λ(P:Program) (f:FuncId) (a:Func) (s:ChangeSpec) (c:OpenClaim)=>((c.ifaces==(a.params.toList++s.plain.varTypes P).any (P.ifacesRec ·)):Bool)) Tryz.prog 3 Tryz.f3 Rows.serverRunsSpec Rows.serverRunsRow=true:=by kernel_rfl
theorem serverRuns_k15:(λ(P:Program) (f:FuncId) (a:Func) (s:ChangeSpec) (c:OpenClaim)=>((c.mapsOut==P.mapsAmong a.resultTypes.toList):Bool)) Tryz.prog 3 Tryz.f3 Rows.serverRunsSpec Rows.serverRunsRow=true:=by kernel_rfl
theorem serverRuns_k16:(λ(P:Program) (f:FuncId) (a:Func) (s:ChangeSpec) (c:OpenClaim)=>((c.loops==(a.params.toList++s.plain.varTypes P).any (P.loopsFrom ·)):Bool)) Tryz.prog 3 Tryz.f3 Rows.serverRunsSpec Rows.serverRunsRow=true:=by kernel_rfl
theorem serverRuns_k17:(λ(P:Program) (f:FuncId) (a:Func) (s:ChangeSpec) (c:OpenClaim)=>((c.wideKeys==(a.params.toList++s.plain.varTypes P++a.resultTypes.toList).any (P.wideKeysFrom ·)):Bool)) Tryz.prog 3 Tryz.f3 Rows.serverRunsSpec Rows.serverRunsRow=true:=by kernel_rfl
theorem serverRuns_k18:(λ(P:Program) (f:FuncId) (a:Func) (s:ChangeSpec) (c:OpenClaim)=>(s.vars.all (P.varReadable ·):Bool)) Tryz.prog 3 Tryz.f3 Rows.serverRunsSpec Rows.serverRunsRow=true:=by kernel_rfl
theorem serverRuns_k19:(λ(P:Program) (f:FuncId) (a:Func) (s:ChangeSpec) (c:OpenClaim)=>(a.resultTypes.all (λt=>P.readableRec t && decide (t<P.types.size)):Bool)) Tryz.prog 3 Tryz.f3 Rows.serverRunsSpec Rows.serverRunsRow=true:=by kernel_rfl
theorem serverRuns_k20:(λ(P:Program) (f:FuncId) (a:Func) (s:ChangeSpec) (c:OpenClaim)=>((c.ifacesOut==a.resultTypes.toList.any (P.ifacesRec ·)):Bool)) Tryz.prog 3 Tryz.f3 Rows.serverRunsSpec Rows.serverRunsRow=true:=by kernel_rfl
theorem serverRuns_k21:(λ(P:Program) (f:FuncId) (a:Func) (s:ChangeSpec) (c:OpenClaim)=>((c.loopsOut==a.resultTypes.toList.any (P.loopsFrom ·)):Bool)) Tryz.prog 3 Tryz.f3 Rows.serverRunsSpec Rows.serverRunsRow=true:=by kernel_rfl
theorem serverRuns_k22:(λ(P:Program) (f:FuncId) (a:Func) (s:ChangeSpec) (c:OpenClaim)=>((c.plainKeys==P.plainKeys):Bool)) Tryz.prog 3 Tryz.f3 Rows.serverRunsSpec Rows.serverRunsRow=true:=by kernel_rfl
theorem serverRuns_k23:(λ(P:Program) (f:FuncId) (a:Func) (s:ChangeSpec) (c:OpenClaim)=>(c.shortTexts.isNone:Bool)) Tryz.prog 3 Tryz.f3 Rows.serverRunsSpec Rows.serverRunsRow=true:=by kernel_rfl
theorem serverRuns_k24:(λ(P:Program) (f:FuncId) (a:Func) (s:ChangeSpec) (c:OpenClaim)=>(P.stopsHeard:Bool)) Tryz.prog 3 Tryz.f3 Rows.serverRunsSpec Rows.serverRunsRow=true:=by kernel_rfl
theorem serverRuns_k25:(λ(P:Program) (f:FuncId) (a:Func) (s:ChangeSpec) (c:OpenClaim)=>(P.mayEnter:Bool)) Tryz.prog 3 Tryz.f3 Rows.serverRunsSpec Rows.serverRunsRow=true:=by kernel_rfl
theorem serverRuns_k26:(λ(P:Program) (f:FuncId) (a:Func) (s:ChangeSpec) (c:OpenClaim)=>((c.lifted==P.liftsFinal):Bool)) Tryz.prog 3 Tryz.f3 Rows.serverRunsSpec Rows.serverRunsRow=true:=by kernel_rfl
theorem serverRuns_k27:(λ(P:Program) (f:FuncId) (a:Func) (s:ChangeSpec) (c:OpenClaim)=>((P.make==some c.make):Bool)) Tryz.prog 3 Tryz.f3 Rows.serverRunsSpec Rows.serverRunsRow=true:=by kernel_rfl
theorem serverRuns_k28:(λ(P:Program) (f:FuncId) (a:Func) (s:ChangeSpec) (c:OpenClaim)=>((c.kinds==(if c.domain.isEmpty then [] else a.params.toList.map λt=>match P.underlying t with|some (.int k)=>some k|_=>none)):Bool)) Tryz.prog 3 Tryz.f3 Rows.serverRunsSpec Rows.serverRunsRow=true:=by kernel_rfl
theorem serverRuns_k29:(λ(P:Program) (f:FuncId) (a:Func) (s:ChangeSpec) (c:OpenClaim)=>((c.pinned==c.pinnedBy):Bool)) Tryz.prog 3 Tryz.f3 Rows.serverRunsSpec Rows.serverRunsRow=true:=by kernel_rfl
theorem serverRuns_k30:(λ(P:Program) (f:FuncId) (a:Func) (s:ChangeSpec) (c:OpenClaim)=>((c.veiled==(a.params.toList++s.plain.varTypes P++a.resultTypes.toList).any (P.veiledRec ·)):Bool)) Tryz.prog 3 Tryz.f3 Rows.serverRunsSpec Rows.serverRunsRow=true:=by kernel_rfl
theorem serverRuns_k31:(λ(P:Program) (f:FuncId) (a:Func) (s:ChangeSpec) (c:OpenClaim)=>(c.veiledFits P a.params.toList (a.params.toList++s.plain.varTypes P++a.resultTypes.toList):Bool)) Tryz.prog 3 Tryz.f3 Rows.serverRunsSpec Rows.serverRunsRow=true:=by kernel_rfl
theorem serverRuns_closed:joinedFacts Tryz.prog 3 Tryz.f3 Rows.serverRunsSpec Rows.serverRunsRow=true:=(and_tt (and_tt (and_tt (and_tt (and_tt (and_tt (and_tt (and_tt (and_tt (and_tt (and_tt (and_tt (and_tt (and_tt (and_tt (and_tt (and_tt (and_tt (and_tt (and_tt (and_tt (and_tt (and_tt (and_tt (and_tt (and_tt (and_tt (and_tt (and_tt (and_tt (and_tt serverRuns_k0 serverRuns_k1) serverRuns_k2) serverRuns_k3) serverRuns_k4) serverRuns_k5) serverRuns_k6) serverRuns_k7) serverRuns_k8) serverRuns_k9) serverRuns_k10) serverRuns_k11) serverRuns_k12) serverRuns_k13) serverRuns_k14) serverRuns_k15) serverRuns_k16) serverRuns_k17) serverRuns_k18) serverRuns_k19) serverRuns_k20) serverRuns_k21) serverRuns_k22) serverRuns_k23) serverRuns_k24) serverRuns_k25) serverRuns_k26) serverRuns_k27) serverRuns_k28) serverRuns_k29) serverRuns_k30) serverRuns_k31)
theorem serverRuns_named:Tryz.prog.funcNamed Rows.serverRunsRow.func=some 3:=by kernel_rfl
theorem serverRuns_inst:Tryz.f3.isInstance Tryz.prog Rows.serverRunsRow.origin Rows.serverRunsRow.targs:=of_decide_eq_true (by kernel_rfl)
theorem serverRuns_wrap:Tryz.f3.isWrapper Tryz.prog Rows.serverRunsRow.wrapper Rows.serverRunsRow.mainSum:=by unfold Func.isWrapper;first|(rw [if_pos (by decide +kernel)];kernel_rfl)|(rw [if_neg (by decide +kernel)];exact⟨rfl,rfl⟩)
theorem serverRuns_holds:Rows.ServerRunsSaid:=
 OpenClaim.holds_of_wide (p:=Tryz.pinned) 3 Tryz.f3 rfl rfl rfl rfl rfl rfl rfl ⟨rfl,rfl,rfl,rfl,rfl⟩ rfl rfl rfl rfl rfl serverRuns_named Tryz.func3 serverRuns_closed serverRuns_inst serverRuns_wrap
  (λos a H enc _=>serverRuns_lifted os a H enc)
#print axioms serverRuns_holds
end Go.Proofs.YtneehpnmjhjocaaGreat
