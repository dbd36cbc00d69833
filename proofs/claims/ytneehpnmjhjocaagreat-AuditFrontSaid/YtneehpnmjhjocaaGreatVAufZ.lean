/-
  Proved here: the statement that the last theorem names: for every input the law returns true, and the input reads as it did.
  Conditions: none beyond the given rows.
-/
import Derived.Test.YtneehpnmjhjocaaGreatRows
import Derived.Test.YtneehpnmjhjocaaGreatChecked
import Derived.Test.YtneehpnmjhjocaaGreatV5
set_option linter.unusedVariables false
set_option linter.unusedSimpArgs false
namespace Go.Proofs.YtneehpnmjhjocaaGreat
theorem and_tt{a b:Bool}(h:a=true)(k:b=true):(a && b)=true:=by rw [h,k];rfl
open Go.W Go.ChangeShapes
set_option maxRecDepth 100000
set_option linter.unusedVariables false
set_option maxRecDepth 100000 in
theorem auditFront_lifted(os:Os)(started:os.Started)(H:Type)(eH:TypeId×Value→H):
  ReturnsInHanded {} Tryz.checked os 6 .any (Rows.auditFrontSpec.pre6 eH Tryz.prog Tryz.f6 Rows.auditFrontRow.domain false) (Rows.auditFrontSpec.post eH Tryz.prog Tryz.f6 false true false false):=by
 refine zFR (C:=Tryz.checked) own0 started (by kernel_rfl) Tryz.func6
  (ChangeSpec.witness6 (enc:=eH) (C:=Tryz.checked) false ⟨#[],#[.agg #[.int .i64 0,.int .i64 0,.int .i64 0,.int .i64 0,.int .i64 0],.string ⟨#[]⟩,.slice none 0 0,.int .i64 0],[]⟩ 8 (by kernel_rfl) (by kernel_rfl) (by kernel_rfl) (by kernel_rfl)) laid0 (by kernel_rfl) rfl (tb:=E.q2) (by kernel_rfl) (by kernel_rfl) ?_ ?_
 ·intro ds hd
  match ds,hd with
  |[_,_,_,_],_=>rfl
 ·intro W base args ds ps hval hA hwt
  have hval:∀(j:Nat) t v,Tryz.f6.params[j]? = some t→args[j]? = some v→Value.okWide Tryz.prog W .any base t v:=hval
  have hA:DataW.TrodAll eH Tryz.prog W 0 (fun _=>true) true Tryz.f6.params.toList args.toList ds ps:=hA
  rw [Tryz.params6] at hA hval
  have hwt:(DataW.weightsEach Tryz.prog Tryz.f6.params.toList ds).all (·≤reachBytes)=true:=hwt
  rw [Tryz.params6] at hwt
  obtain⟨v0,v1,v2,v3,d0,d1,d2,d3,p0,p1,p2,p3,rfl,rfl,rfl,h0,h1,h2,h3⟩:=Go.RowKit.trodAll_four hA
  obtain⟨c,rfl⟩:=zGO (hval 0 _ _ rfl rfl) h0
  obtain⟨m,rfl,mb⟩:=zGP (hval 1 _ _ rfl rfl) h1 (w_tail (w_tail hwt).2).1
  obtain⟨la,ln,lc,l,rfl,ls,lm,lf⟩:=zFE (hval 2 _ _ rfl rfl) h2 (w_tail (w_tail (w_tail hwt).2).2).1
  obtain⟨i,rfl,ib⟩:=zMP (hval 3 _ _ rfl rfl) h3
  exact zHf (zFb mb ls lm lf)
theorem auditFront_k0:(fun(P:Program) (f:FuncId) (fn:Func) (s:ChangeSpec) (c:OpenClaim)=>(c.wf (OpenSpec.ofChange s):Bool)) Tryz.prog 6 Tryz.f6 Rows.auditFrontSpec Rows.auditFrontRow=true:=by kernel_rfl
theorem auditFront_k1:(fun(P:Program) (f:FuncId) (fn:Func) (s:ChangeSpec) (c:OpenClaim)=>(laidOutB P:Bool)) Tryz.prog 6 Tryz.f6 Rows.auditFrontSpec Rows.auditFrontRow=true:=by kernel_rfl
theorem auditFront_k2:(fun(P:Program) (f:FuncId) (fn:Func) (s:ChangeSpec) (c:OpenClaim)=>(mapsRowed P:Bool)) Tryz.prog 6 Tryz.f6 Rows.auditFrontSpec Rows.auditFrontRow=true:=by kernel_rfl
theorem auditFront_k3:(fun(P:Program) (f:FuncId) (fn:Func) (s:ChangeSpec) (c:OpenClaim)=>(fn.params.all (P.readableRec ·):Bool)) Tryz.prog 6 Tryz.f6 Rows.auditFrontSpec Rows.auditFrontRow=true:=by kernel_rfl
theorem auditFront_k4:(fun(P:Program) (f:FuncId) (fn:Func) (s:ChangeSpec) (c:OpenClaim)=>(namedTie P c.named s.vars:Bool)) Tryz.prog 6 Tryz.f6 Rows.auditFrontSpec Rows.auditFrontRow=true:=by kernel_rfl
theorem auditFront_k5:(fun(P:Program) (f:FuncId) (fn:Func) (s:ChangeSpec) (c:OpenClaim)=>((c.stops==[]):Bool)) Tryz.prog 6 Tryz.f6 Rows.auditFrontSpec Rows.auditFrontRow=true:=by kernel_rfl
theorem auditFront_k6:(fun(P:Program) (f:FuncId) (fn:Func) (s:ChangeSpec) (c:OpenClaim)=>((P.stops==[]):Bool)) Tryz.prog 6 Tryz.f6 Rows.auditFrontSpec Rows.auditFrontRow=true:=by kernel_rfl
theorem auditFront_k7:(fun(P:Program) (f:FuncId) (fn:Func) (s:ChangeSpec) (c:OpenClaim)=>((c.knobs==[]):Bool)) Tryz.prog 6 Tryz.f6 Rows.auditFrontSpec Rows.auditFrontRow=true:=by kernel_rfl
theorem auditFront_k8:(fun(P:Program) (f:FuncId) (fn:Func) (s:ChangeSpec) (c:OpenClaim)=>((P.stopKnobs==[]):Bool)) Tryz.prog 6 Tryz.f6 Rows.auditFrontSpec Rows.auditFrontRow=true:=by kernel_rfl
theorem auditFront_k9:(fun(P:Program) (f:FuncId) (fn:Func) (s:ChangeSpec) (c:OpenClaim)=>((c.inPlace==P.inPlace f):Bool)) Tryz.prog 6 Tryz.f6 Rows.auditFrontSpec Rows.auditFrontRow=true:=by kernel_rfl
theorem auditFront_k10:(fun(P:Program) (f:FuncId) (fn:Func) (s:ChangeSpec) (c:OpenClaim)=>((c.unfollowed==P.unfollowed f):Bool)) Tryz.prog 6 Tryz.f6 Rows.auditFrontSpec Rows.auditFrontRow=true:=by kernel_rfl
theorem auditFront_k11:(fun(P:Program) (f:FuncId) (fn:Func) (s:ChangeSpec) (c:OpenClaim)=>((c.recurses==P.recurses f):Bool)) Tryz.prog 6 Tryz.f6 Rows.auditFrontSpec Rows.auditFrontRow=true:=by kernel_rfl
theorem auditFront_k12:(fun(P:Program) (f:FuncId) (fn:Func) (s:ChangeSpec) (c:OpenClaim)=>((c.named==P.varsNamed f):Bool)) Tryz.prog 6 Tryz.f6 Rows.auditFrontSpec Rows.auditFrontRow=true:=by kernel_rfl
theorem auditFront_k13:(fun(P:Program) (f:FuncId) (fn:Func) (s:ChangeSpec) (c:OpenClaim)=>((c.maps==(fn.params.toList++s.plain.varTypes P).any (P.mapsRec ·)):Bool)) Tryz.prog 6 Tryz.f6 Rows.auditFrontSpec Rows.auditFrontRow=true:=by kernel_rfl
theorem auditFront_k14:(fun(P:Program) (f:FuncId) (fn:Func) (s:ChangeSpec) (c:OpenClaim)=>((c.ifaces==(fn.params.toList++s.plain.varTypes P).any (P.ifacesRec ·)):Bool)) Tryz.prog 6 Tryz.f6 Rows.auditFrontSpec Rows.auditFrontRow=true:=by kernel_rfl
theorem auditFront_k15:(fun(P:Program) (f:FuncId) (fn:Func) (s:ChangeSpec) (c:OpenClaim)=>((c.mapsOut==P.mapsAmong fn.resultTypes.toList):Bool)) Tryz.prog 6 Tryz.f6 Rows.auditFrontSpec Rows.auditFrontRow=true:=by kernel_rfl
theorem auditFront_k16:(fun(P:Program) (f:FuncId) (fn:Func) (s:ChangeSpec) (c:OpenClaim)=>((c.loops==(fn.params.toList++s.plain.varTypes P).any (P.loopsFrom ·)):Bool)) Tryz.prog 6 Tryz.f6 Rows.auditFrontSpec Rows.auditFrontRow=true:=by kernel_rfl
theorem auditFront_k17:(fun(P:Program) (f:FuncId) (fn:Func) (s:ChangeSpec) (c:OpenClaim)=>((c.wideKeys==(fn.params.toList++s.plain.varTypes P++fn.resultTypes.toList).any (P.wideKeysFrom ·)):Bool)) Tryz.prog 6 Tryz.f6 Rows.auditFrontSpec Rows.auditFrontRow=true:=by kernel_rfl
theorem auditFront_k18:(fun(P:Program) (f:FuncId) (fn:Func) (s:ChangeSpec) (c:OpenClaim)=>(s.vars.all (P.varReadable ·):Bool)) Tryz.prog 6 Tryz.f6 Rows.auditFrontSpec Rows.auditFrontRow=true:=by kernel_rfl
theorem auditFront_k19:(fun(P:Program) (f:FuncId) (fn:Func) (s:ChangeSpec) (c:OpenClaim)=>(fn.resultTypes.all (fun t=>P.readableRec t && decide (t<P.types.size)):Bool)) Tryz.prog 6 Tryz.f6 Rows.auditFrontSpec Rows.auditFrontRow=true:=by kernel_rfl
theorem auditFront_k20:(fun(P:Program) (f:FuncId) (fn:Func) (s:ChangeSpec) (c:OpenClaim)=>((c.ifacesOut==fn.resultTypes.toList.any (P.ifacesRec ·)):Bool)) Tryz.prog 6 Tryz.f6 Rows.auditFrontSpec Rows.auditFrontRow=true:=by kernel_rfl
theorem auditFront_k21:(fun(P:Program) (f:FuncId) (fn:Func) (s:ChangeSpec) (c:OpenClaim)=>((c.loopsOut==fn.resultTypes.toList.any (P.loopsFrom ·)):Bool)) Tryz.prog 6 Tryz.f6 Rows.auditFrontSpec Rows.auditFrontRow=true:=by kernel_rfl
theorem auditFront_k22:(fun(P:Program) (f:FuncId) (fn:Func) (s:ChangeSpec) (c:OpenClaim)=>((c.plainKeys==P.plainKeys):Bool)) Tryz.prog 6 Tryz.f6 Rows.auditFrontSpec Rows.auditFrontRow=true:=by kernel_rfl
theorem auditFront_k23:(fun(P:Program) (f:FuncId) (fn:Func) (s:ChangeSpec) (c:OpenClaim)=>(c.shortTexts.isNone:Bool)) Tryz.prog 6 Tryz.f6 Rows.auditFrontSpec Rows.auditFrontRow=true:=by kernel_rfl
theorem auditFront_k24:(fun(P:Program) (f:FuncId) (fn:Func) (s:ChangeSpec) (c:OpenClaim)=>(P.stopsHeard:Bool)) Tryz.prog 6 Tryz.f6 Rows.auditFrontSpec Rows.auditFrontRow=true:=by kernel_rfl
theorem auditFront_k25:(fun(P:Program) (f:FuncId) (fn:Func) (s:ChangeSpec) (c:OpenClaim)=>(P.mayEnter:Bool)) Tryz.prog 6 Tryz.f6 Rows.auditFrontSpec Rows.auditFrontRow=true:=by kernel_rfl
theorem auditFront_k26:(fun(P:Program) (f:FuncId) (fn:Func) (s:ChangeSpec) (c:OpenClaim)=>((c.lifted==P.liftsFinal):Bool)) Tryz.prog 6 Tryz.f6 Rows.auditFrontSpec Rows.auditFrontRow=true:=by kernel_rfl
theorem auditFront_k27:(fun(P:Program) (f:FuncId) (fn:Func) (s:ChangeSpec) (c:OpenClaim)=>((P.make==some c.make):Bool)) Tryz.prog 6 Tryz.f6 Rows.auditFrontSpec Rows.auditFrontRow=true:=by kernel_rfl
theorem auditFront_k28:(fun(P:Program) (f:FuncId) (fn:Func) (s:ChangeSpec) (c:OpenClaim)=>((c.kinds==(if c.domain.isEmpty then [] else fn.params.toList.map fun t=>match P.underlying t with|some (.int k)=>some k|_=>none)):Bool)) Tryz.prog 6 Tryz.f6 Rows.auditFrontSpec Rows.auditFrontRow=true:=by kernel_rfl
theorem auditFront_k29:(fun(P:Program) (f:FuncId) (fn:Func) (s:ChangeSpec) (c:OpenClaim)=>((c.pinned==c.pinnedBy):Bool)) Tryz.prog 6 Tryz.f6 Rows.auditFrontSpec Rows.auditFrontRow=true:=by kernel_rfl
theorem auditFront_k30:(fun(P:Program) (f:FuncId) (fn:Func) (s:ChangeSpec) (c:OpenClaim)=>((c.veiled==(fn.params.toList++s.plain.varTypes P++fn.resultTypes.toList).any (P.veiledRec ·)):Bool)) Tryz.prog 6 Tryz.f6 Rows.auditFrontSpec Rows.auditFrontRow=true:=by kernel_rfl
theorem auditFront_k31:(fun(P:Program) (f:FuncId) (fn:Func) (s:ChangeSpec) (c:OpenClaim)=>(c.veiledFits P fn.params.toList (fn.params.toList++s.plain.varTypes P++fn.resultTypes.toList):Bool)) Tryz.prog 6 Tryz.f6 Rows.auditFrontSpec Rows.auditFrontRow=true:=by kernel_rfl
theorem auditFront_closed:joinedFacts Tryz.prog 6 Tryz.f6 Rows.auditFrontSpec Rows.auditFrontRow=true:=(and_tt (and_tt (and_tt (and_tt (and_tt (and_tt (and_tt (and_tt (and_tt (and_tt (and_tt (and_tt (and_tt (and_tt (and_tt (and_tt (and_tt (and_tt (and_tt (and_tt (and_tt (and_tt (and_tt (and_tt (and_tt (and_tt (and_tt (and_tt (and_tt (and_tt (and_tt auditFront_k0 auditFront_k1) auditFront_k2) auditFront_k3) auditFront_k4) auditFront_k5) auditFront_k6) auditFront_k7) auditFront_k8) auditFront_k9) auditFront_k10) auditFront_k11) auditFront_k12) auditFront_k13) auditFront_k14) auditFront_k15) auditFront_k16) auditFront_k17) auditFront_k18) auditFront_k19) auditFront_k20) auditFront_k21) auditFront_k22) auditFront_k23) auditFront_k24) auditFront_k25) auditFront_k26) auditFront_k27) auditFront_k28) auditFront_k29) auditFront_k30) auditFront_k31)
theorem auditFront_named:Tryz.prog.funcNamed Rows.auditFrontRow.func=some 6:=by kernel_rfl
theorem auditFront_inst:Tryz.f6.isInstance Tryz.prog Rows.auditFrontRow.origin Rows.auditFrontRow.targs:=of_decide_eq_true (by kernel_rfl)
theorem auditFront_wrap:Tryz.f6.isWrapper Tryz.prog Rows.auditFrontRow.wrapper Rows.auditFrontRow.mainSum:=by unfold Func.isWrapper;first|(rw [if_pos (by decide +kernel)];kernel_rfl)|(rw [if_neg (by decide +kernel)];exact⟨rfl,rfl⟩)
theorem auditFront_holds:Rows.AuditFrontSaid:=
 OpenClaim.holds_of_wide (p:=Tryz.pinned) 6 Tryz.f6 rfl rfl rfl rfl rfl rfl rfl ⟨rfl,rfl,rfl,rfl,rfl⟩ rfl rfl rfl rfl rfl auditFront_named Tryz.func6 auditFront_closed auditFront_inst auditFront_wrap
  (fun os started H enc _=>auditFront_lifted os started H enc)
#print axioms auditFront_holds
end Go.Proofs.YtneehpnmjhjocaaGreat
