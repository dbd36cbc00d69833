/-
  Proved here: the statement that the last theorem names: for every input the law returns true, and the input reads as it did.
  Conditions: none beyond the given rows.
-/
import Derived.Test.YtneehpnmjhjocaaGreatRows
import Derived.Test.YtneehpnmjhjocaaGreatChecked
import Derived.Test.YtneehpnmjhjocaaGreatK7
set_option linter.unusedVariables false
set_option linter.unusedSimpArgs false
namespace Go.Proofs.YtneehpnmjhjocaaGreat
theorem and_tt{a b:Bool}(h:a=true)(k:b=true):(a && b)=true:=by rw [h,k];rfl
open Go.W Go.ChangeShapes
set_option maxRecDepth 100000
set_option linter.unusedVariables false
set_option maxRecDepth 100000 in
theorem auditRuns_lifted(os:Os)(b:os.Started)(H:Type)(f:TypeId×Value->H):
  ReturnsInHanded {} Tryz.checked os 4 .any (Rows.auditRunsSpec.pre6 f Tryz.prog Tryz.f4 Rows.auditRunsRow.domain false) (Rows.auditRunsSpec.post f Tryz.prog Tryz.f4 false true false false):=by
 refine zPa (C:=Tryz.checked) own0 b (by kernel_rfl) Tryz.func4
  (ChangeSpec.witness6 (enc:=f) (C:=Tryz.checked) false ⟨#[],#[.agg #[.int .i64 0,.int .i64 0,.int .i64 0,.int .i64 0,.int .i64 0],.string ⟨#[]⟩,.slice none 0 0],[]⟩ 8 (by kernel_rfl) (by kernel_rfl) (by kernel_rfl) (by kernel_rfl)) laid0 (by kernel_rfl) rfl (tb:=4) (by kernel_rfl) (by kernel_rfl) ?_ ?_
 ·intro ds hd
  match ds,hd with
  |[_,_,_],_=>rfl
 ·intro W e args ds ps a g d;have a:∀(j:Nat) t v,Tryz.f4.params[j]? = some t->args[j]? = some v->Value.okWide Tryz.prog W .any e t v:=a;have g:DataW.TrodAll f Tryz.prog W 0 (λ_=>true) true Tryz.f4.params.toList args.toList ds ps:=g;rw [Tryz.params4] at g a;have d:(DataW.weightsEach Tryz.prog Tryz.f4.params.toList ds).all (·<=reachBytes)=true:=d;rw [Tryz.params4] at d;obtain⟨q,r,s,u,w,x,y,z,A,rfl,rfl,rfl,h0,h,i⟩:=trodAll_three g;obtain⟨c,rfl⟩:=zPT (a 0 _ _ rfl rfl) h0;obtain⟨m,rfl,k⟩:=zPU (a 1 _ _ rfl rfl) h (w_tail (w_tail d).2).1;obtain⟨la,B,D,l,rfl,n,o,p⟩:=zOK (a 2 _ _ rfl rfl) i (w_tail (w_tail (w_tail d).2).2).1;exact zQA (zG5 k n o p)
theorem auditRuns_k0:(λ(P:Program) (f:FuncId) (a:Func) (s:ChangeSpec) (c:OpenClaim)=>(c.wf (OpenSpec.ofChange s):Bool)) Tryz.prog 4 Tryz.f4 Rows.auditRunsSpec Rows.auditRunsRow=true:=by kernel_rfl
theorem auditRuns_k1:(λ(P:Program) (f:FuncId) (a:Func) (s:ChangeSpec) (c:OpenClaim)=>(laidOutB P:Bool)) Tryz.prog 4 Tryz.f4 Rows.auditRunsSpec Rows.auditRunsRow=true:=by kernel_rfl
theorem auditRuns_k2:(λ(P:Program) (f:FuncId) (a:Func) (s:ChangeSpec) (c:OpenClaim)=>(mapsRowed P:Bool)) Tryz.prog 4 Tryz.f4 Rows.auditRunsSpec Rows.auditRunsRow=true:=by kernel_rfl
theorem auditRuns_k3:(λ(P:Program) (f:FuncId) (a:Func) (s:ChangeSpec) (c:OpenClaim)=>(a.params.all (P.readableRec ·):Bool)) Tryz.prog 4 Tryz.f4 Rows.auditRunsSpec Rows.auditRunsRow=true:=by kernel_rfl
theorem auditRuns_k4:(λ(P:Program) (f:FuncId) (a:Func) (s:ChangeSpec) (c:OpenClaim)=>(namedTie P c.named s.vars:Bool)) Tryz.prog 4 Tryz.f4 Rows.auditRunsSpec Rows.auditRunsRow=true:=by kernel_rfl
theorem auditRuns_k5:(λ(P:Program) (f:FuncId) (a:Func) (s:ChangeSpec) (c:OpenClaim)=>((c.stops==[]):Bool)) Tryz.prog 4 Tryz.f4 Rows.auditRunsSpec Rows.auditRunsRow=true:=by kernel_rfl
theorem auditRuns_k6:(λ(P:Program) (f:FuncId) (a:Func) (s:ChangeSpec) (c:OpenClaim)=>((P.stops==[]):Bool)) Tryz.prog 4 Tryz.f4 Rows.auditRunsSpec Rows.auditRunsRow=true:=by kernel_rfl
theorem auditRuns_k7:(λ(P:Program) (f:FuncId) (a:Func) (s:ChangeSpec) (c:OpenClaim)=>((c.knobs==[]):Bool)) Tryz.prog 4 Tryz.f4 Rows.auditRunsSpec Rows.auditRunsRow=true:=by kernel_rfl
theorem auditRuns_k8:(λ(P:Program) (f:FuncId) (a:Func) (s:ChangeSpec) (c:OpenClaim)=>((P.stopKnobs==[]):Bool)) Tryz.prog 4 Tryz.f4 Rows.auditRunsSpec Rows.auditRunsRow=true:=by kernel_rfl
theorem auditRuns_k9:(λ(P:Program) (f:FuncId) (a:Func) (s:ChangeSpec) (c:OpenClaim)=>((c.inPlace==P.inPlace f):Bool)) Tryz.prog 4 Tryz.f4 Rows.auditRunsSpec Rows.auditRunsRow=true:=by kernel_rfl
theorem auditRuns_k10:(λ(P:Program) (f:FuncId) (a:Func) (s:ChangeSpec) (c:OpenClaim)=>((c.unfollowed==P.unfollowed f):Bool)) Tryz.prog 4 Tryz.f4 Rows.auditRunsSpec Rows.auditRunsRow=true:=by kernel_rfl
theorem auditRuns_k11:(λ(P:Program) (f:FuncId) (a:Func) (s:ChangeSpec) (c:OpenClaim)=>((c.recurses==P.recurses f):Bool)) Tryz.prog 4 Tryz.f4 Rows.auditRunsSpec Rows.auditRunsRow=true:=by kernel_rfl
theorem auditRuns_k12:(λ(P:Program) (f:FuncId) (a:Func) (s:ChangeSpec) (c:OpenClaim)=>((c.named==P.varsNamed f):Bool)) Tryz.prog 4 Tryz.f4 Rows.auditRunsSpec Rows.auditRunsRow=true:=by kernel_rfl
theorem auditRuns_k13:(λ(P:Program) (f:FuncId) (a:Func) (s:ChangeSpec) (c:OpenClaim)=>((c.maps==(a.params.toList++s.plain.varTypes P).any (P.mapsRec ·)):Bool)) Tryz.prog 4 Tryz.f4 Rows.auditRunsSpec Rows.auditRunsRow=true:=by kernel_rfl
theorem auditRuns_k14:(λ(P:Program) (f:FuncId) (a:Func) (s:ChangeSpec) (c:OpenClaim)=>((c.ifaces==(a.params.toList++s.plain.varTypes P).any (P.ifacesRec ·)):Bool)) Tryz.prog 4 Tryz.f4 Rows.auditRunsSpec Rows.auditRunsRow=true:=by kernel_rfl
theorem auditRuns_k15:(λ(P:Program) (f:FuncId) (a:Func) (s:ChangeSpec) (c:OpenClaim)=>((c.mapsOut==P.mapsAmong a.resultTypes.toList):Bool)) Tryz.prog 4 Tryz.f4 Rows.auditRunsSpec Rows.auditRunsRow=true:=by kernel_rfl
theorem auditRuns_k16:(λ(P:Program) (f:FuncId) (a:Func) (s:ChangeSpec) (c:OpenClaim)=>((c.loops==(a.params.toList++s.plain.varTypes P).any (P.loopsFrom ·)):Bool)) Tryz.prog 4 Tryz.f4 Rows.auditRunsSpec Rows.auditRunsRow=true:=by kernel_rfl
theorem auditRuns_k17:(λ(P:Program) (f:FuncId) (a:Func) (s:ChangeSpec) (c:OpenClaim)=>((c.wideKeys==(a.params.toList++s.plain.varTypes P++a.resultTypes.toList).any (P.wideKeysFrom ·)):Bool)) Tryz.prog 4 Tryz.f4 Rows.auditRunsSpec Rows.auditRunsRow=true:=by kernel_rfl
theorem auditRuns_k18:(λ(P:Program) (f:FuncId) (a:Func) (s:ChangeSpec) (c:OpenClaim)=>(s.vars.all (P.varReadable ·):Bool)) Tryz.prog 4 Tryz.f4 Rows.auditRunsSpec Rows.auditRunsRow=true:=by kernel_rfl
theorem auditRuns_k19:(λ(P:Program) (f:FuncId) (a:Func) (s:ChangeSpec) (c:OpenClaim)=>(a.resultTypes.all (λt=>P.readableRec t && decide (t<P.types.size)):Bool)) Tryz.prog 4 Tryz.f4 Rows.auditRunsSpec Rows.auditRunsRow=true:=by kernel_rfl
theorem auditRuns_k20:(λ(P:Program) (f:FuncId) (a:Func) (s:ChangeSpec) (c:OpenClaim)=>((c.ifacesOut==a.resultTypes.toList.any (P.ifacesRec ·)):Bool)) Tryz.prog 4 Tryz.f4 Rows.auditRunsSpec Rows.auditRunsRow=true:=by kernel_rfl
theorem auditRuns_k21:(λ(P:Program) (f:FuncId) (a:Func) (s:ChangeSpec) (c:OpenClaim)=>((c.loopsOut==a.resultTypes.toList.any (P.loopsFrom ·)):Bool)) Tryz.prog 4 Tryz.f4 Rows.auditRunsSpec Rows.auditRunsRow=true:=by kernel_rfl
theorem auditRuns_k22:(λ(P:Program) (f:FuncId) (a:Func) (s:ChangeSpec) (c:OpenClaim)=>((c.plainKeys==P.plainKeys):Bool)) Tryz.prog 4 Tryz.f4 Rows.auditRunsSpec Rows.auditRunsRow=true:=by kernel_rfl
theorem auditRuns_k23:(λ(P:Program) (f:FuncId) (a:Func) (s:ChangeSpec) (c:OpenClaim)=>(c.shortTexts.isNone:Bool)) Tryz.prog 4 Tryz.f4 Rows.auditRunsSpec Rows.auditRunsRow=true:=by kernel_rfl
theorem auditRuns_k24:(λ(P:Program) (f:FuncId) (a:Func) (s:ChangeSpec) (c:OpenClaim)=>(P.stopsHeard:Bool)) Tryz.prog 4 Tryz.f4 Rows.auditRunsSpec Rows.auditRunsRow=true:=by kernel_rfl
theorem auditRuns_k25:(λ(P:Program) (f:FuncId) (a:Func) (s:ChangeSpec) (c:OpenClaim)=>(P.mayEnter:Bool)) Tryz.prog 4 Tryz.f4 Rows.auditRunsSpec Rows.auditRunsRow=true:=by kernel_rfl
theorem auditRuns_k26:(λ(P:Program) (f:FuncId) (a:Func) (s:ChangeSpec) (c:OpenClaim)=>((c.lifted==P.liftsFinal):Bool)) Tryz.prog 4 Tryz.f4 Rows.auditRunsSpec Rows.auditRunsRow=true:=by kernel_rfl
theorem auditRuns_k27:(λ(P:Program) (f:FuncId) (a:Func) (s:ChangeSpec) (c:OpenClaim)=>((P.make==some c.make):Bool)) Tryz.prog 4 Tryz.f4 Rows.auditRunsSpec Rows.auditRunsRow=true:=by kernel_rfl
theorem auditRuns_k28:(λ(P:Program) (f:FuncId) (a:Func) (s:ChangeSpec) (c:OpenClaim)=>((c.kinds==(if c.domain.isEmpty then [] else a.params.toList.map λt=>match P.underlying t with|some (.int k)=>some k|_=>none)):Bool)) Tryz.prog 4 Tryz.f4 Rows.auditRunsSpec Rows.auditRunsRow=true:=by kernel_rfl
theorem auditRuns_k29:(λ(P:Program) (f:FuncId) (a:Func) (s:ChangeSpec) (c:OpenClaim)=>((c.pinned==c.pinnedBy):Bool)) Tryz.prog 4 Tryz.f4 Rows.auditRunsSpec Rows.auditRunsRow=true:=by kernel_rfl
theorem auditRuns_k30:(λ(P:Program) (f:FuncId) (a:Func) (s:ChangeSpec) (c:OpenClaim)=>((c.veiled==(a.params.toList++s.plain.varTypes P++a.resultTypes.toList).any (P.veiledRec ·)):Bool)) Tryz.prog 4 Tryz.f4 Rows.auditRunsSpec Rows.auditRunsRow=true:=by kernel_rfl
theorem auditRuns_k31:(λ(P:Program) (f:FuncId) (a:Func) (s:ChangeSpec) (c:OpenClaim)=>(c.veiledFits P a.params.toList (a.params.toList++s.plain.varTypes P++a.resultTypes.toList):Bool)) Tryz.prog 4 Tryz.f4 Rows.auditRunsSpec Rows.auditRunsRow=true:=by kernel_rfl
theorem auditRuns_closed:joinedFacts Tryz.prog 4 Tryz.f4 Rows.auditRunsSpec Rows.auditRunsRow=true:=(and_tt (and_tt (and_tt (and_tt (and_tt (and_tt (and_tt (and_tt (and_tt (and_tt (and_tt (and_tt (and_tt (and_tt (and_tt (and_tt (and_tt (and_tt (and_tt (and_tt (and_tt (and_tt (and_tt (and_tt (and_tt (and_tt (and_tt (and_tt (and_tt (and_tt (and_tt auditRuns_k0 auditRuns_k1) auditRuns_k2) auditRuns_k3) auditRuns_k4) auditRuns_k5) auditRuns_k6) auditRuns_k7) auditRuns_k8) auditRuns_k9) auditRuns_k10) auditRuns_k11) auditRuns_k12) auditRuns_k13) auditRuns_k14) auditRuns_k15) auditRuns_k16) auditRuns_k17) auditRuns_k18) auditRuns_k19) auditRuns_k20) auditRuns_k21) auditRuns_k22) auditRuns_k23) auditRuns_k24) auditRuns_k25) auditRuns_k26) auditRuns_k27) auditRuns_k28) auditRuns_k29) auditRuns_k30) auditRuns_k31)
theorem auditRuns_named:Tryz.prog.funcNamed Rows.auditRunsRow.func=some 4:=by kernel_rfl
theorem auditRuns_inst:Tryz.f4.isInstance Tryz.prog Rows.auditRunsRow.origin Rows.auditRunsRow.targs:=of_decide_eq_true (by kernel_rfl)
theorem auditRuns_wrap:Tryz.f4.isWrapper Tryz.prog Rows.auditRunsRow.wrapper Rows.auditRunsRow.mainSum:=by unfold Func.isWrapper;first|(rw [if_pos (by decide +kernel)];kernel_rfl)|(rw [if_neg (by decide +kernel)];exact⟨rfl,rfl⟩)
theorem auditRuns_holds:Rows.AuditRunsSaid:=
 OpenClaim.holds_of_wide (p:=Tryz.pinned) 4 Tryz.f4 rfl rfl rfl rfl rfl rfl rfl ⟨rfl,rfl,rfl,rfl,rfl⟩ rfl rfl rfl rfl rfl auditRuns_named Tryz.func4 auditRuns_closed auditRuns_inst auditRuns_wrap
  (λos a H enc _=>auditRuns_lifted os a H enc)
#print axioms auditRuns_holds
end Go.Proofs.YtneehpnmjhjocaaGreat
