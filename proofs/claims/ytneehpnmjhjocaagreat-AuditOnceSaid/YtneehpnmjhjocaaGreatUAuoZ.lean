/-
  Proved here: the statement that the last theorem names: for every input the law returns true, and the input reads as it did.
  Conditions: none beyond the given rows.
-/
import Derived.Test.YtneehpnmjhjocaaGreatRows
import Derived.Test.YtneehpnmjhjocaaGreatChecked
import Derived.Test.YtneehpnmjhjocaaGreatU6
set_option linter.unusedVariables false
set_option linter.unusedSimpArgs false
namespace Go.Proofs.YtneehpnmjhjocaaGreat
theorem and_tt{a b:Bool}(h:a=true)(k:b=true):(a && b)=true:=by rw [h,k];rfl
open Go.W Go.ChangeShapes
set_option maxRecDepth 100000
set_option linter.unusedVariables false
set_option maxRecDepth 100000 in
theorem auditOnce_lifted(os:Os)(started:os.Started)(H:Type)(eH:TypeId×Value→H):
  ReturnsInHanded {} Tryz.checked os 8 .any (Rows.auditOnceSpec.pre6 eH Tryz.prog Tryz.f8 Rows.auditOnceRow.domain false) (Rows.auditOnceSpec.post eH Tryz.prog Tryz.f8 false true false false):=by
 refine zM0 (C:=Tryz.checked) own0 started (by kernel_rfl) Tryz.func8
  (ChangeSpec.witness6 (enc:=eH) (C:=Tryz.checked) false ⟨#[],#[.agg #[.int .i64 0,.int .i64 0,.int .i64 0,.int .i64 0,.int .i64 0],.string ⟨#[]⟩,.slice none 0 0],[]⟩ 8 (by kernel_rfl) (by kernel_rfl) (by kernel_rfl) (by kernel_rfl)) laid0 (by kernel_rfl) rfl (tb:=E.q8) (by kernel_rfl) (by kernel_rfl) ?_ ?_
 ·intro ds hd
  match ds,hd with
  |[_,_,_],_=>rfl
 ·intro W base args ds ps hval hA hwt
  have hval:∀(j:Nat) t v,Tryz.f8.params[j]? = some t→args[j]? = some v→Value.okWide Tryz.prog W .any base t v:=hval
  have hA:DataW.TrodAll eH Tryz.prog W 0 (fun _=>true) true Tryz.f8.params.toList args.toList ds ps:=hA
  rw [Tryz.params8] at hA hval
  have hwt:(DataW.weightsEach Tryz.prog Tryz.f8.params.toList ds).all (·≤reachBytes)=true:=hwt
  rw [Tryz.params8] at hwt
  obtain⟨v0,v1,v2,d0,d1,d2,p0,p1,p2,rfl,rfl,rfl,h0,h1,h2⟩:=trodAll_three hA
  obtain⟨c,rfl⟩:=zNJ (hval 0 _ _ rfl rfl) h0
  obtain⟨m,rfl,mb⟩:=zNK (hval 1 _ _ rfl rfl) h1 (w_tail (w_tail hwt).2).1
  obtain⟨la,ln,lc,l,rfl,ls,lm,lf⟩:=zMF (hval 2 _ _ rfl rfl) h2 (w_tail (w_tail (w_tail hwt).2).2).1
  exact zOt (zF7 mb ls lm lf)
theorem auditOnce_k0:(fun(P:Program) (f:FuncId) (fn:Func) (s:ChangeSpec) (c:OpenClaim)=>(c.wf (OpenSpec.ofChange s):Bool)) Tryz.prog 8 Tryz.f8 Rows.auditOnceSpec Rows.auditOnceRow=true:=by kernel_rfl
theorem auditOnce_k1:(fun(P:Program) (f:FuncId) (fn:Func) (s:ChangeSpec) (c:OpenClaim)=>(laidOutB P:Bool)) Tryz.prog 8 Tryz.f8 Rows.auditOnceSpec Rows.auditOnceRow=true:=by kernel_rfl
theorem auditOnce_k2:(fun(P:Program) (f:FuncId) (fn:Func) (s:ChangeSpec) (c:OpenClaim)=>(mapsRowed P:Bool)) Tryz.prog 8 Tryz.f8 Rows.auditOnceSpec Rows.auditOnceRow=true:=by kernel_rfl
theorem auditOnce_k3:(fun(P:Program) (f:FuncId) (fn:Func) (s:ChangeSpec) (c:OpenClaim)=>(fn.params.all (P.readableRec ·):Bool)) Tryz.prog 8 Tryz.f8 Rows.auditOnceSpec Rows.auditOnceRow=true:=by kernel_rfl
theorem auditOnce_k4:(fun(P:Program) (f:FuncId) (fn:Func) (s:ChangeSpec) (c:OpenClaim)=>(namedTie P c.named s.vars:Bool)) Tryz.prog 8 Tryz.f8 Rows.auditOnceSpec Rows.auditOnceRow=true:=by kernel_rfl
theorem auditOnce_k5:(fun(P:Program) (f:FuncId) (fn:Func) (s:ChangeSpec) (c:OpenClaim)=>((c.stops==[]):Bool)) Tryz.prog 8 Tryz.f8 Rows.auditOnceSpec Rows.auditOnceRow=true:=by kernel_rfl
theorem auditOnce_k6:(fun(P:Program) (f:FuncId) (fn:Func) (s:ChangeSpec) (c:OpenClaim)=>((P.stops==[]):Bool)) Tryz.prog 8 Tryz.f8 Rows.auditOnceSpec Rows.auditOnceRow=true:=by kernel_rfl
theorem auditOnce_k7:(fun(P:Program) (f:FuncId) (fn:Func) (s:ChangeSpec) (c:OpenClaim)=>((c.knobs==[]):Bool)) Tryz.prog 8 Tryz.f8 Rows.auditOnceSpec Rows.auditOnceRow=true:=by kernel_rfl
theorem auditOnce_k8:(fun(P:Program) (f:FuncId) (fn:Func) (s:ChangeSpec) (c:OpenClaim)=>((P.stopKnobs==[]):Bool)) Tryz.prog 8 Tryz.f8 Rows.auditOnceSpec Rows.auditOnceRow=true:=by kernel_rfl
theorem auditOnce_k9:(fun(P:Program) (f:FuncId) (fn:Func) (s:ChangeSpec) (c:OpenClaim)=>((c.inPlace==P.inPlace f):Bool)) Tryz.prog 8 Tryz.f8 Rows.auditOnceSpec Rows.auditOnceRow=true:=by kernel_rfl
theorem auditOnce_k10:(fun(P:Program) (f:FuncId) (fn:Func) (s:ChangeSpec) (c:OpenClaim)=>((c.unfollowed==P.unfollowed f):Bool)) Tryz.prog 8 Tryz.f8 Rows.auditOnceSpec Rows.auditOnceRow=true:=by kernel_rfl
theorem auditOnce_k11:(fun(P:Program) (f:FuncId) (fn:Func) (s:ChangeSpec) (c:OpenClaim)=>((c.recurses==P.recurses f):Bool)) Tryz.prog 8 Tryz.f8 Rows.auditOnceSpec Rows.auditOnceRow=true:=by kernel_rfl
theorem auditOnce_k12:(fun(P:Program) (f:FuncId) (fn:Func) (s:ChangeSpec) (c:OpenClaim)=>((c.named==P.varsNamed f):Bool)) Tryz.prog 8 Tryz.f8 Rows.auditOnceSpec Rows.auditOnceRow=true:=by kernel_rfl
theorem auditOnce_k13:(fun(P:Program) (f:FuncId) (fn:Func) (s:ChangeSpec) (c:OpenClaim)=>((c.maps==(fn.params.toList++s.plain.varTypes P).any (P.mapsRec ·)):Bool)) Tryz.prog 8 Tryz.f8 Rows.auditOnceSpec Rows.auditOnceRow=true:=by kernel_rfl
theorem auditOnce_k14:(fun(P:Program) (f:FuncId) (fn:Func) (s:ChangeSpec) (c:OpenClaim)=>((c.ifaces==(fn.params.toList++s.plain.varTypes P).any (P.ifacesRec ·)):Bool)) Tryz.prog 8 Tryz.f8 Rows.auditOnceSpec Rows.auditOnceRow=true:=by kernel_rfl
theorem auditOnce_k15:(fun(P:Program) (f:FuncId) (fn:Func) (s:ChangeSpec) (c:OpenClaim)=>((c.mapsOut==P.mapsAmong fn.resultTypes.toList):Bool)) Tryz.prog 8 Tryz.f8 Rows.auditOnceSpec Rows.auditOnceRow=true:=by kernel_rfl
theorem auditOnce_k16:(fun(P:Program) (f:FuncId) (fn:Func) (s:ChangeSpec) (c:OpenClaim)=>((c.loops==(fn.params.toList++s.plain.varTypes P).any (P.loopsFrom ·)):Bool)) Tryz.prog 8 Tryz.f8 Rows.auditOnceSpec Rows.auditOnceRow=true:=by kernel_rfl
theorem auditOnce_k17:(fun(P:Program) (f:FuncId) (fn:Func) (s:ChangeSpec) (c:OpenClaim)=>((c.wideKeys==(fn.params.toList++s.plain.varTypes P++fn.resultTypes.toList).any (P.wideKeysFrom ·)):Bool)) Tryz.prog 8 Tryz.f8 Rows.auditOnceSpec Rows.auditOnceRow=true:=by kernel_rfl
theorem auditOnce_k18:(fun(P:Program) (f:FuncId) (fn:Func) (s:ChangeSpec) (c:OpenClaim)=>(s.vars.all (P.varReadable ·):Bool)) Tryz.prog 8 Tryz.f8 Rows.auditOnceSpec Rows.auditOnceRow=true:=by kernel_rfl
theorem auditOnce_k19:(fun(P:Program) (f:FuncId) (fn:Func) (s:ChangeSpec) (c:OpenClaim)=>(fn.resultTypes.all (fun t=>P.readableRec t && decide (t<P.types.size)):Bool)) Tryz.prog 8 Tryz.f8 Rows.auditOnceSpec Rows.auditOnceRow=true:=by kernel_rfl
theorem auditOnce_k20:(fun(P:Program) (f:FuncId) (fn:Func) (s:ChangeSpec) (c:OpenClaim)=>((c.ifacesOut==fn.resultTypes.toList.any (P.ifacesRec ·)):Bool)) Tryz.prog 8 Tryz.f8 Rows.auditOnceSpec Rows.auditOnceRow=true:=by kernel_rfl
theorem auditOnce_k21:(fun(P:Program) (f:FuncId) (fn:Func) (s:ChangeSpec) (c:OpenClaim)=>((c.loopsOut==fn.resultTypes.toList.any (P.loopsFrom ·)):Bool)) Tryz.prog 8 Tryz.f8 Rows.auditOnceSpec Rows.auditOnceRow=true:=by kernel_rfl
theorem auditOnce_k22:(fun(P:Program) (f:FuncId) (fn:Func) (s:ChangeSpec) (c:OpenClaim)=>((c.plainKeys==P.plainKeys):Bool)) Tryz.prog 8 Tryz.f8 Rows.auditOnceSpec Rows.auditOnceRow=true:=by kernel_rfl
theorem auditOnce_k23:(fun(P:Program) (f:FuncId) (fn:Func) (s:ChangeSpec) (c:OpenClaim)=>(c.shortTexts.isNone:Bool)) Tryz.prog 8 Tryz.f8 Rows.auditOnceSpec Rows.auditOnceRow=true:=by kernel_rfl
theorem auditOnce_k24:(fun(P:Program) (f:FuncId) (fn:Func) (s:ChangeSpec) (c:OpenClaim)=>(P.stopsHeard:Bool)) Tryz.prog 8 Tryz.f8 Rows.auditOnceSpec Rows.auditOnceRow=true:=by kernel_rfl
theorem auditOnce_k25:(fun(P:Program) (f:FuncId) (fn:Func) (s:ChangeSpec) (c:OpenClaim)=>(P.mayEnter:Bool)) Tryz.prog 8 Tryz.f8 Rows.auditOnceSpec Rows.auditOnceRow=true:=by kernel_rfl
theorem auditOnce_k26:(fun(P:Program) (f:FuncId) (fn:Func) (s:ChangeSpec) (c:OpenClaim)=>((c.lifted==P.liftsFinal):Bool)) Tryz.prog 8 Tryz.f8 Rows.auditOnceSpec Rows.auditOnceRow=true:=by kernel_rfl
theorem auditOnce_k27:(fun(P:Program) (f:FuncId) (fn:Func) (s:ChangeSpec) (c:OpenClaim)=>((P.make==some c.make):Bool)) Tryz.prog 8 Tryz.f8 Rows.auditOnceSpec Rows.auditOnceRow=true:=by kernel_rfl
theorem auditOnce_k28:(fun(P:Program) (f:FuncId) (fn:Func) (s:ChangeSpec) (c:OpenClaim)=>((c.kinds==(if c.domain.isEmpty then [] else fn.params.toList.map fun t=>match P.underlying t with|some (.int k)=>some k|_=>none)):Bool)) Tryz.prog 8 Tryz.f8 Rows.auditOnceSpec Rows.auditOnceRow=true:=by kernel_rfl
theorem auditOnce_k29:(fun(P:Program) (f:FuncId) (fn:Func) (s:ChangeSpec) (c:OpenClaim)=>((c.pinned==c.pinnedBy):Bool)) Tryz.prog 8 Tryz.f8 Rows.auditOnceSpec Rows.auditOnceRow=true:=by kernel_rfl
theorem auditOnce_k30:(fun(P:Program) (f:FuncId) (fn:Func) (s:ChangeSpec) (c:OpenClaim)=>((c.veiled==(fn.params.toList++s.plain.varTypes P++fn.resultTypes.toList).any (P.veiledRec ·)):Bool)) Tryz.prog 8 Tryz.f8 Rows.auditOnceSpec Rows.auditOnceRow=true:=by kernel_rfl
theorem auditOnce_k31:(fun(P:Program) (f:FuncId) (fn:Func) (s:ChangeSpec) (c:OpenClaim)=>(c.veiledFits P fn.params.toList (fn.params.toList++s.plain.varTypes P++fn.resultTypes.toList):Bool)) Tryz.prog 8 Tryz.f8 Rows.auditOnceSpec Rows.auditOnceRow=true:=by kernel_rfl
theorem auditOnce_closed:joinedFacts Tryz.prog 8 Tryz.f8 Rows.auditOnceSpec Rows.auditOnceRow=true:=(and_tt (and_tt (and_tt (and_tt (and_tt (and_tt (and_tt (and_tt (and_tt (and_tt (and_tt (and_tt (and_tt (and_tt (and_tt (and_tt (and_tt (and_tt (and_tt (and_tt (and_tt (and_tt (and_tt (and_tt (and_tt (and_tt (and_tt (and_tt (and_tt (and_tt (and_tt auditOnce_k0 auditOnce_k1) auditOnce_k2) auditOnce_k3) auditOnce_k4) auditOnce_k5) auditOnce_k6) auditOnce_k7) auditOnce_k8) auditOnce_k9) auditOnce_k10) auditOnce_k11) auditOnce_k12) auditOnce_k13) auditOnce_k14) auditOnce_k15) auditOnce_k16) auditOnce_k17) auditOnce_k18) auditOnce_k19) auditOnce_k20) auditOnce_k21) auditOnce_k22) auditOnce_k23) auditOnce_k24) auditOnce_k25) auditOnce_k26) auditOnce_k27) auditOnce_k28) auditOnce_k29) auditOnce_k30) auditOnce_k31)
theorem auditOnce_named:Tryz.prog.funcNamed Rows.auditOnceRow.func=some 8:=by kernel_rfl
theorem auditOnce_inst:Tryz.f8.isInstance Tryz.prog Rows.auditOnceRow.origin Rows.auditOnceRow.targs:=of_decide_eq_true (by kernel_rfl)
theorem auditOnce_wrap:Tryz.f8.isWrapper Tryz.prog Rows.auditOnceRow.wrapper Rows.auditOnceRow.mainSum:=by unfold Func.isWrapper;first|(rw [if_pos (by decide +kernel)];kernel_rfl)|(rw [if_neg (by decide +kernel)];exact⟨rfl,rfl⟩)
theorem auditOnce_holds:Rows.AuditOnceSaid:=
 OpenClaim.holds_of_wide (p:=Tryz.pinned) 8 Tryz.f8 rfl rfl rfl rfl rfl rfl rfl ⟨rfl,rfl,rfl,rfl,rfl⟩ rfl rfl rfl rfl rfl auditOnce_named Tryz.func8 auditOnce_closed auditOnce_inst auditOnce_wrap
  (fun os started H enc _=>auditOnce_lifted os started H enc)
#print axioms auditOnce_holds
end Go.Proofs.YtneehpnmjhjocaaGreat
