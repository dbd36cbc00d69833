/-
  Proved here: the statement that the last theorem names: for every input the law returns true, and the input reads as it did.
  Conditions: none beyond the given rows.
-/
import Derived.Test.YtneehpnmjhjocaaGreatRows
import Derived.Test.YtneehpnmjhjocaaGreatChecked
import Derived.Test.YtneehpnmjhjocaaGreatV5
set_option linter.unusedVariables false
set_option linter.unusedSimpArgs false
namespace Go.Proofs.YtneehpnmjhjocaaGreat
theorem and_tt{a b:Bool}(h:a=true)(k:b=true):(a && b)=true:=by rw [h,k];rfl
open Go.W Go.ChangeShapes
set_option maxRecDepth 100000
set_option linter.unusedVariables false
set_option maxRecDepth 100000 in
theorem auditServer_lifted(os:Os)(started:os.Started)(H:Type)(eH:TypeId×Value→H):
  ReturnsInHanded {} Tryz.checked os 7 .any (Rows.auditServerSpec.pre6 eH Tryz.prog Tryz.f7 Rows.auditServerRow.domain false) (Rows.auditServerSpec.post eH Tryz.prog Tryz.f7 false true false false):=by
 refine zFR (C:=Tryz.checked) own0 started (by kernel_rfl) Tryz.func7
  (ChangeSpec.witness6 (enc:=eH) (C:=Tryz.checked) false ⟨#[],#[.agg #[.int .i64 0,.int .i64 0,.int .i64 0,.int .i64 0,.int .i64 0],.string ⟨#[]⟩,.slice none 0 0],[]⟩ 8 (by kernel_rfl) (by kernel_rfl) (by kernel_rfl) (by kernel_rfl)) laid0 (by kernel_rfl) rfl (tb:=E.q2) (by kernel_rfl) (by kernel_rfl) ?_ ?_
 ·intro ds hd
  match ds,hd with
  |[_,_,_],_=>rfl
 ·intro W base args ds ps hval hA hwt
  have hval:∀(j:Nat) t v,Tryz.f7.params[j]? = some t→args[j]? = some v→Value.okWide Tryz.prog W .any base t v:=hval
  have hA:DataW.TrodAll eH Tryz.prog W 0 (fun _=>true) true Tryz.f7.params.toList args.toList ds ps:=hA
  rw [Tryz.params7] at hA hval
  have hwt:(DataW.weightsEach Tryz.prog Tryz.f7.params.toList ds).all (·≤reachBytes)=true:=hwt
  rw [Tryz.params7] at hwt
  obtain⟨v0,v1,v2,d0,d1,d2,p0,p1,p2,rfl,rfl,rfl,h0,h1,h2⟩:=trodAll_three hA
  obtain⟨c,rfl⟩:=zGO (hval 0 _ _ rfl rfl) h0
  obtain⟨m,rfl,mb⟩:=zGP (hval 1 _ _ rfl rfl) h1 (w_tail (w_tail hwt).2).1
  obtain⟨la,ln,lc,l,rfl,ls,lm,lf⟩:=zFE (hval 2 _ _ rfl rfl) h2 (w_tail (w_tail (w_tail hwt).2).2).1
  exact zHf (zEA mb ls lm lf)
theorem auditServer_k0:(fun(P:Program) (f:FuncId) (fn:Func) (s:ChangeSpec) (c:OpenClaim)=>(c.wf (OpenSpec.ofChange s):Bool)) Tryz.prog 7 Tryz.f7 Rows.auditServerSpec Rows.auditServerRow=true:=by kernel_rfl
theorem auditServer_k1:(fun(P:Program) (f:FuncId) (fn:Func) (s:ChangeSpec) (c:OpenClaim)=>(laidOutB P:Bool)) Tryz.prog 7 Tryz.f7 Rows.auditServerSpec Rows.auditServerRow=true:=by kernel_rfl
theorem auditServer_k2:(fun(P:Program) (f:FuncId) (fn:Func) (s:ChangeSpec) (c:OpenClaim)=>(mapsRowed P:Bool)) Tryz.prog 7 Tryz.f7 Rows.auditServerSpec Rows.auditServerRow=true:=by kernel_rfl
theorem auditServer_k3:(fun(P:Program) (f:FuncId) (fn:Func) (s:ChangeSpec) (c:OpenClaim)=>(fn.params.all (P.readableRec ·):Bool)) Tryz.prog 7 Tryz.f7 Rows.auditServerSpec Rows.auditServerRow=true:=by kernel_rfl
theorem auditServer_k4:(fun(P:Program) (f:FuncId) (fn:Func) (s:ChangeSpec) (c:OpenClaim)=>(namedTie P c.named s.vars:Bool)) Tryz.prog 7 Tryz.f7 Rows.auditServerSpec Rows.auditServerRow=true:=by kernel_rfl
theorem auditServer_k5:(fun(P:Program) (f:FuncId) (fn:Func) (s:ChangeSpec) (c:OpenClaim)=>((c.stops==[]):Bool)) Tryz.prog 7 Tryz.f7 Rows.auditServerSpec Rows.auditServerRow=true:=by kernel_rfl
theorem auditServer_k6:(fun(P:Program) (f:FuncId) (fn:Func) (s:ChangeSpec) (c:OpenClaim)=>((P.stops==[]):Bool)) Tryz.prog 7 Tryz.f7 Rows.auditServerSpec Rows.auditServerRow=true:=by kernel_rfl
theorem auditServer_k7:(fun(P:Program) (f:FuncId) (fn:Func) (s:ChangeSpec) (c:OpenClaim)=>((c.knobs==[]):Bool)) Tryz.prog 7 Tryz.f7 Rows.auditServerSpec Rows.auditServerRow=true:=by kernel_rfl
theorem auditServer_k8:(fun(P:Program) (f:FuncId) (fn:Func) (s:ChangeSpec) (c:OpenClaim)=>((P.stopKnobs==[]):Bool)) Tryz.prog 7 Tryz.f7 Rows.auditServerSpec Rows.auditServerRow=true:=by kernel_rfl
theorem auditServer_k9:(fun(P:Program) (f:FuncId) (fn:Func) (s:ChangeSpec) (c:OpenClaim)=>((c.inPlace==P.inPlace f):Bool)) Tryz.prog 7 Tryz.f7 Rows.auditServerSpec Rows.auditServerRow=true:=by kernel_rfl
theorem auditServer_k10:(fun(P:Program) (f:FuncId) (fn:Func) (s:ChangeSpec) (c:OpenClaim)=>((c.unfollowed==P.unfollowed f):Bool)) Tryz.prog 7 Tryz.f7 Rows.auditServerSpec Rows.auditServerRow=true:=by kernel_rfl
theorem auditServer_k11:(fun(P:Program) (f:FuncId) (fn:Func) (s:ChangeSpec) (c:OpenClaim)=>((c.recurses==P.recurses f):Bool)) Tryz.prog 7 Tryz.f7 Rows.auditServerSpec Rows.auditServerRow=true:=by kernel_rfl
theorem auditServer_k12:(fun(P:Program) (f:FuncId) (fn:Func) (s:ChangeSpec) (c:OpenClaim)=>((c.named==P.varsNamed f):Bool)) Tryz.prog 7 Tryz.f7 Rows.auditServerSpec Rows.auditServerRow=true:=by kernel_rfl
theorem auditServer_k13:(fun(P:Program) (f:FuncId) (fn:Func) (s:ChangeSpec) (c:OpenClaim)=>((c.maps==(fn.params.toList++s.plain.varTypes P).any (P.mapsRec ·)):Bool)) Tryz.prog 7 Tryz.f7 Rows.auditServerSpec Rows.auditServerRow=true:=by kernel_rfl
theorem auditServer_k14:(fun(P:Program) (f:FuncId) (fn:Func) (s:ChangeSpec) (c:OpenClaim)=>((c.ifaces==(fn.params.toList++s.plain.varTypes P).any (P.ifacesRec ·)):Bool)) Tryz.prog 7 Tryz.f7 Rows.auditServerSpec Rows.auditServerRow=true:=by kernel_rfl
theorem auditServer_k15:(fun(P:Program) (f:FuncId) (fn:Func) (s:ChangeSpec) (c:OpenClaim)=>((c.mapsOut==P.mapsAmong fn.resultTypes.toList):Bool)) Tryz.prog 7 Tryz.f7 Rows.auditServerSpec Rows.auditServerRow=true:=by kernel_rfl
theorem auditServer_k16:(fun(P:Program) (f:FuncId) (fn:Func) (s:ChangeSpec) (c:OpenClaim)=>((c.loops==(fn.params.toList++s.plain.varTypes P).any (P.loopsFrom ·)):Bool)) Tryz.prog 7 Tryz.f7 Rows.auditServerSpec Rows.auditServerRow=true:=by kernel_rfl
theorem auditServer_k17:(fun(P:Program) (f:FuncId) (fn:Func) (s:ChangeSpec) (c:OpenClaim)=>((c.wideKeys==(fn.params.toList++s.plain.varTypes P++fn.resultTypes.toList).any (P.wideKeysFrom ·)):Bool)) Tryz.prog 7 Tryz.f7 Rows.auditServerSpec Rows.auditServerRow=true:=by kernel_rfl
theorem auditServer_k18:(fun(P:Program) (f:FuncId) (fn:Func) (s:ChangeSpec) (c:OpenClaim)=>(s.vars.all (P.varReadable ·):Bool)) Tryz.prog 7 Tryz.f7 Rows.auditServerSpec Rows.auditServerRow=true:=by kernel_rfl
theorem auditServer_k19:(fun(P:Program) (f:FuncId) (fn:Func) (s:ChangeSpec) (c:OpenClaim)=>(fn.resultTypes.all (fun t=>P.readableRec t && decide (t<P.types.size)):Bool)) Tryz.prog 7 Tryz.f7 Rows.auditServerSpec Rows.auditServerRow=true:=by kernel_rfl
theorem auditServer_k20:(fun(P:Program) (f:FuncId) (fn:Func) (s:ChangeSpec) (c:OpenClaim)=>((c.ifacesOut==fn.resultTypes.toList.any (P.ifacesRec ·)):Bool)) Tryz.prog 7 Tryz.f7 Rows.auditServerSpec Rows.auditServerRow=true:=by kernel_rfl
theorem auditServer_k21:(fun(P:Program) (f:FuncId) (fn:Func) (s:ChangeSpec) (c:OpenClaim)=>((c.loopsOut==fn.resultTypes.toList.any (P.loopsFrom ·)):Bool)) Tryz.prog 7 Tryz.f7 Rows.auditServerSpec Rows.auditServerRow=true:=by kernel_rfl
theorem auditServer_k22:(fun(P:Program) (f:FuncId) (fn:Func) (s:ChangeSpec) (c:OpenClaim)=>((c.plainKeys==P.plainKeys):Bool)) Tryz.prog 7 Tryz.f7 Rows.auditServerSpec Rows.auditServerRow=true:=by kernel_rfl
theorem auditServer_k23:(fun(P:Program) (f:FuncId) (fn:Func) (s:ChangeSpec) (c:OpenClaim)=>(c.shortTexts.isNone:Bool)) Tryz.prog 7 Tryz.f7 Rows.auditServerSpec Rows.auditServerRow=true:=by kernel_rfl
theorem auditServer_k24:(fun(P:Program) (f:FuncId) (fn:Func) (s:ChangeSpec) (c:OpenClaim)=>(P.stopsHeard:Bool)) Tryz.prog 7 Tryz.f7 Rows.auditServerSpec Rows.auditServerRow=true:=by kernel_rfl
theorem auditServer_k25:(fun(P:Program) (f:FuncId) (fn:Func) (s:ChangeSpec) (c:OpenClaim)=>(P.mayEnter:Bool)) Tryz.prog 7 Tryz.f7 Rows.auditServerSpec Rows.auditServerRow=true:=by kernel_rfl
theorem auditServer_k26:(fun(P:Program) (f:FuncId) (fn:Func) (s:ChangeSpec) (c:OpenClaim)=>((c.lifted==P.liftsFinal):Bool)) Tryz.prog 7 Tryz.f7 Rows.auditServerSpec Rows.auditServerRow=true:=by kernel_rfl
theorem auditServer_k27:(fun(P:Program) (f:FuncId) (fn:Func) (s:ChangeSpec) (c:OpenClaim)=>((P.make==some c.make):Bool)) Tryz.prog 7 Tryz.f7 Rows.auditServerSpec Rows.auditServerRow=true:=by kernel_rfl
theorem auditServer_k28:(fun(P:Program) (f:FuncId) (fn:Func) (s:ChangeSpec) (c:OpenClaim)=>((c.kinds==(if c.domain.isEmpty then [] else fn.params.toList.map fun t=>match P.underlying t with|some (.int k)=>some k|_=>none)):Bool)) Tryz.prog 7 Tryz.f7 Rows.auditServerSpec Rows.auditServerRow=true:=by kernel_rfl
theorem auditServer_k29:(fun(P:Program) (f:FuncId) (fn:Func) (s:ChangeSpec) (c:OpenClaim)=>((c.pinned==c.pinnedBy):Bool)) Tryz.prog 7 Tryz.f7 Rows.auditServerSpec Rows.auditServerRow=true:=by kernel_rfl
theorem auditServer_k30:(fun(P:Program) (f:FuncId) (fn:Func) (s:ChangeSpec) (c:OpenClaim)=>((c.veiled==(fn.params.toList++s.plain.varTypes P++fn.resultTypes.toList).any (P.veiledRec ·)):Bool)) Tryz.prog 7 Tryz.f7 Rows.auditServerSpec Rows.auditServerRow=true:=by kernel_rfl
theorem auditServer_k31:(fun(P:Program) (f:FuncId) (fn:Func) (s:ChangeSpec) (c:OpenClaim)=>(c.veiledFits P fn.params.toList (fn.params.toList++s.plain.varTypes P++fn.resultTypes.toList):Bool)) Tryz.prog 7 Tryz.f7 Rows.auditServerSpec Rows.auditServerRow=true:=by kernel_rfl
theorem auditServer_closed:joinedFacts Tryz.prog 7 Tryz.f7 Rows.auditServerSpec Rows.auditServerRow=true:=(and_tt (and_tt (and_tt (and_tt (and_tt (and_tt (and_tt (and_tt (and_tt (and_tt (and_tt (and_tt (and_tt (and_tt (and_tt (and_tt (and_tt (and_tt (and_tt (and_tt (and_tt (and_tt (and_tt (and_tt (and_tt (and_tt (and_tt (and_tt (and_tt (and_tt (and_tt auditServer_k0 auditServer_k1) auditServer_k2) auditServer_k3) auditServer_k4) auditServer_k5) auditServer_k6) auditServer_k7) auditServer_k8) auditServer_k9) auditServer_k10) auditServer_k11) auditServer_k12) auditServer_k13) auditServer_k14) auditServer_k15) auditServer_k16) auditServer_k17) auditServer_k18) auditServer_k19) auditServer_k20) auditServer_k21) auditServer_k22) auditServer_k23) auditServer_k24) auditServer_k25) auditServer_k26) auditServer_k27) auditServer_k28) auditServer_k29) auditServer_k30) auditServer_k31)
theorem auditServer_named:Tryz.prog.funcNamed Rows.auditServerRow.func=some 7:=by kernel_rfl
theorem auditServer_inst:Tryz.f7.isInstance Tryz.prog Rows.auditServerRow.origin Rows.auditServerRow.targs:=of_decide_eq_true (by kernel_rfl)
theorem auditServer_wrap:Tryz.f7.isWrapper Tryz.prog Rows.auditServerRow.wrapper Rows.auditServerRow.mainSum:=by unfold Func.isWrapper;first|(rw [if_pos (by decide +kernel)];kernel_rfl)|(rw [if_neg (by decide +kernel)];exact⟨rfl,rfl⟩)
theorem auditServer_holds:Rows.AuditServerSaid:=
 OpenClaim.holds_of_wide (p:=Tryz.pinned) 7 Tryz.f7 rfl rfl rfl rfl rfl rfl rfl ⟨rfl,rfl,rfl,rfl,rfl⟩ rfl rfl rfl rfl rfl auditServer_named Tryz.func7 auditServer_closed auditServer_inst auditServer_wrap
  (fun os started H enc _=>auditServer_lifted os started H enc)
#print axioms auditServer_holds
end Go.Proofs.YtneehpnmjhjocaaGreat
