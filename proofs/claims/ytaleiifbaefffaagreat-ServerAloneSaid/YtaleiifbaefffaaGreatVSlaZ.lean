/-
  Proved here: the statement that the last theorem names: for every input the law returns true, and the input reads as it did.
  Conditions: none beyond the given rows.
-/
import Derived.Test.YtaleiifbaefffaaGreatRows
import Derived.Test.YtaleiifbaefffaaGreatChecked
import Derived.Test.YtaleiifbaefffaaGreatV6
set_option linter.unusedVariables false
set_option linter.unusedSimpArgs false
namespace Go.Proofs.YtaleiifbaefffaaGreat
theorem and_tt{a b:Bool}(h:a=true)(k:b=true):(a && b)=true:=by rw [h,k];rfl
open Go.W Go.ChangeShapes
set_option maxRecDepth 100000
set_option linter.unusedVariables false
set_option maxRecDepth 100000 in
theorem serverAlone_lifted(os:Os)(started:os.Started)(H:Type)(eH:TypeId×Value→H):
  ReturnsInHanded {} Tryz.checked os 5 .any (Rows.serverAloneSpec.pre6 eH Tryz.prog Tryz.f5 Rows.serverAloneRow.domain false) (Rows.serverAloneSpec.post eH Tryz.prog Tryz.f5 false true false false):=by
 refine zD0 (C:=Tryz.checked) own0 started (by kernel_rfl) Tryz.func5
  (ChangeSpec.witness6 (enc:=eH) (C:=Tryz.checked) false ⟨#[],#[.agg #[.int .i64 0,.int .i64 0,.int .i64 0,.int .i64 0,.int .i64 0],.string ⟨#[]⟩,.slice none 0 0,.int .i64 0],[]⟩ 8 (by kernel_rfl) (by kernel_rfl) (by kernel_rfl) (by kernel_rfl)) laid0 (by kernel_rfl) rfl (tb:=E.q1) (by kernel_rfl) (by kernel_rfl) ?_ ?_
 ·intro ds hd
  match ds,hd with
  |[_,_,_,_],_=>rfl
 ·intro W base args ds ps hval hA hwt
  have hval:∀(j:Nat) t v,Tryz.f5.params[j]? = some t→args[j]? = some v→Value.okWide Tryz.prog W .any base t v:=hval
  have hA:DataW.TrodAll eH Tryz.prog W 0 (fun _=>true) true Tryz.f5.params.toList args.toList ds ps:=hA
  rw [Tryz.params5] at hA hval
  have hwt:(DataW.weightsEach Tryz.prog Tryz.f5.params.toList ds).all (·≤reachBytes)=true:=hwt
  rw [Tryz.params5] at hwt
  obtain⟨v0,v1,v2,v3,d0,d1,d2,d3,p0,p1,p2,p3,rfl,rfl,rfl,h0,h1,h2,h3⟩:=Go.RowKit.trodAll_four hA
  obtain⟨c,rfl⟩:=zFi (hval 0 _ _ rfl rfl) h0
  obtain⟨m,rfl,mb⟩:=zFk (hval 1 _ _ rfl rfl) h1 (w_tail (w_tail hwt).2).1
  obtain⟨la,ln,lc,l,rfl,ls,lm⟩:=zFj (hval 2 _ _ rfl rfl) h2
  obtain⟨i,rfl,ib⟩:=zNG (hval 3 _ _ rfl rfl) h3
  exact zFx (zEV mb ib ls lm)
theorem serverAlone_k0:(fun(P:Program) (f:FuncId) (fn:Func) (s:ChangeSpec) (c:OpenClaim)=>(c.wf (OpenSpec.ofChange s):Bool)) Tryz.prog 5 Tryz.f5 Rows.serverAloneSpec Rows.serverAloneRow=true:=by kernel_rfl
theorem serverAlone_k1:(fun(P:Program) (f:FuncId) (fn:Func) (s:ChangeSpec) (c:OpenClaim)=>(laidOutB P:Bool)) Tryz.prog 5 Tryz.f5 Rows.serverAloneSpec Rows.serverAloneRow=true:=by kernel_rfl
theorem serverAlone_k2:(fun(P:Program) (f:FuncId) (fn:Func) (s:ChangeSpec) (c:OpenClaim)=>(mapsRowed P:Bool)) Tryz.prog 5 Tryz.f5 Rows.serverAloneSpec Rows.serverAloneRow=true:=by kernel_rfl
theorem serverAlone_k3:(fun(P:Program) (f:FuncId) (fn:Func) (s:ChangeSpec) (c:OpenClaim)=>(fn.params.all (P.readableRec ·):Bool)) Tryz.prog 5 Tryz.f5 Rows.serverAloneSpec Rows.serverAloneRow=true:=by kernel_rfl
theorem serverAlone_k4:(fun(P:Program) (f:FuncId) (fn:Func) (s:ChangeSpec) (c:OpenClaim)=>(namedTie P c.named s.vars:Bool)) Tryz.prog 5 Tryz.f5 Rows.serverAloneSpec Rows.serverAloneRow=true:=by kernel_rfl
theorem serverAlone_k5:(fun(P:Program) (f:FuncId) (fn:Func) (s:ChangeSpec) (c:OpenClaim)=>((c.stops==[]):Bool)) Tryz.prog 5 Tryz.f5 Rows.serverAloneSpec Rows.serverAloneRow=true:=by kernel_rfl
theorem serverAlone_k6:(fun(P:Program) (f:FuncId) (fn:Func) (s:ChangeSpec) (c:OpenClaim)=>((P.stops==[]):Bool)) Tryz.prog 5 Tryz.f5 Rows.serverAloneSpec Rows.serverAloneRow=true:=by kernel_rfl
theorem serverAlone_k7:(fun(P:Program) (f:FuncId) (fn:Func) (s:ChangeSpec) (c:OpenClaim)=>((c.knobs==[]):Bool)) Tryz.prog 5 Tryz.f5 Rows.serverAloneSpec Rows.serverAloneRow=true:=by kernel_rfl
theorem serverAlone_k8:(fun(P:Program) (f:FuncId) (fn:Func) (s:ChangeSpec) (c:OpenClaim)=>((P.stopKnobs==[]):Bool)) Tryz.prog 5 Tryz.f5 Rows.serverAloneSpec Rows.serverAloneRow=true:=by kernel_rfl
theorem serverAlone_k9:(fun(P:Program) (f:FuncId) (fn:Func) (s:ChangeSpec) (c:OpenClaim)=>((c.inPlace==P.inPlace f):Bool)) Tryz.prog 5 Tryz.f5 Rows.serverAloneSpec Rows.serverAloneRow=true:=by kernel_rfl
theorem serverAlone_k10:(fun(P:Program) (f:FuncId) (fn:Func) (s:ChangeSpec) (c:OpenClaim)=>((c.unfollowed==P.unfollowed f):Bool)) Tryz.prog 5 Tryz.f5 Rows.serverAloneSpec Rows.serverAloneRow=true:=by kernel_rfl
theorem serverAlone_k11:(fun(P:Program) (f:FuncId) (fn:Func) (s:ChangeSpec) (c:OpenClaim)=>((c.recurses==P.recurses f):Bool)) Tryz.prog 5 Tryz.f5 Rows.serverAloneSpec Rows.serverAloneRow=true:=by kernel_rfl
theorem serverAlone_k12:(fun(P:Program) (f:FuncId) (fn:Func) (s:ChangeSpec) (c:OpenClaim)=>((c.named==P.varsNamed f):Bool)) Tryz.prog 5 Tryz.f5 Rows.serverAloneSpec Rows.serverAloneRow=true:=by kernel_rfl
theorem serverAlone_k13:(fun(P:Program) (f:FuncId) (fn:Func) (s:ChangeSpec) (c:OpenClaim)=>((c.maps==(fn.params.toList++s.plain.varTypes P).any (P.mapsRec ·)):Bool)) Tryz.prog 5 Tryz.f5 Rows.serverAloneSpec Rows.serverAloneRow=true:=by kernel_rfl
theorem serverAlone_k14:(fun(P:Program) (f:FuncId) (fn:Func) (s:ChangeSpec) (c:OpenClaim)=>((c.ifaces==(fn.params.toList++s.plain.varTypes P).any (P.ifacesRec ·)):Bool)) Tryz.prog 5 Tryz.f5 Rows.serverAloneSpec Rows.serverAloneRow=true:=by kernel_rfl
theorem serverAlone_k15:(fun(P:Program) (f:FuncId) (fn:Func) (s:ChangeSpec) (c:OpenClaim)=>((c.mapsOut==P.mapsAmong fn.resultTypes.toList):Bool)) Tryz.prog 5 Tryz.f5 Rows.serverAloneSpec Rows.serverAloneRow=true:=by kernel_rfl
theorem serverAlone_k16:(fun(P:Program) (f:FuncId) (fn:Func) (s:ChangeSpec) (c:OpenClaim)=>((c.loops==(fn.params.toList++s.plain.varTypes P).any (P.loopsFrom ·)):Bool)) Tryz.prog 5 Tryz.f5 Rows.serverAloneSpec Rows.serverAloneRow=true:=by kernel_rfl
theorem serverAlone_k17:(fun(P:Program) (f:FuncId) (fn:Func) (s:ChangeSpec) (c:OpenClaim)=>((c.wideKeys==(fn.params.toList++s.plain.varTypes P++fn.resultTypes.toList).any (P.wideKeysFrom ·)):Bool)) Tryz.prog 5 Tryz.f5 Rows.serverAloneSpec Rows.serverAloneRow=true:=by kernel_rfl
theorem serverAlone_k18:(fun(P:Program) (f:FuncId) (fn:Func) (s:ChangeSpec) (c:OpenClaim)=>(s.vars.all (P.varReadable ·):Bool)) Tryz.prog 5 Tryz.f5 Rows.serverAloneSpec Rows.serverAloneRow=true:=by kernel_rfl
theorem serverAlone_k19:(fun(P:Program) (f:FuncId) (fn:Func) (s:ChangeSpec) (c:OpenClaim)=>(fn.resultTypes.all (fun t=>P.readableRec t && decide (t<P.types.size)):Bool)) Tryz.prog 5 Tryz.f5 Rows.serverAloneSpec Rows.serverAloneRow=true:=by kernel_rfl
theorem serverAlone_k20:(fun(P:Program) (f:FuncId) (fn:Func) (s:ChangeSpec) (c:OpenClaim)=>((c.ifacesOut==fn.resultTypes.toList.any (P.ifacesRec ·)):Bool)) Tryz.prog 5 Tryz.f5 Rows.serverAloneSpec Rows.serverAloneRow=true:=by kernel_rfl
theorem serverAlone_k21:(fun(P:Program) (f:FuncId) (fn:Func) (s:ChangeSpec) (c:OpenClaim)=>((c.loopsOut==fn.resultTypes.toList.any (P.loopsFrom ·)):Bool)) Tryz.prog 5 Tryz.f5 Rows.serverAloneSpec Rows.serverAloneRow=true:=by kernel_rfl
theorem serverAlone_k22:(fun(P:Program) (f:FuncId) (fn:Func) (s:ChangeSpec) (c:OpenClaim)=>((c.plainKeys==P.plainKeys):Bool)) Tryz.prog 5 Tryz.f5 Rows.serverAloneSpec Rows.serverAloneRow=true:=by kernel_rfl
theorem serverAlone_k23:(fun(P:Program) (f:FuncId) (fn:Func) (s:ChangeSpec) (c:OpenClaim)=>(c.shortTexts.isNone:Bool)) Tryz.prog 5 Tryz.f5 Rows.serverAloneSpec Rows.serverAloneRow=true:=by kernel_rfl
theorem serverAlone_k24:(fun(P:Program) (f:FuncId) (fn:Func) (s:ChangeSpec) (c:OpenClaim)=>(P.stopsHeard:Bool)) Tryz.prog 5 Tryz.f5 Rows.serverAloneSpec Rows.serverAloneRow=true:=by kernel_rfl
theorem serverAlone_k25:(fun(P:Program) (f:FuncId) (fn:Func) (s:ChangeSpec) (c:OpenClaim)=>(P.mayEnter:Bool)) Tryz.prog 5 Tryz.f5 Rows.serverAloneSpec Rows.serverAloneRow=true:=by kernel_rfl
theorem serverAlone_k26:(fun(P:Program) (f:FuncId) (fn:Func) (s:ChangeSpec) (c:OpenClaim)=>((c.lifted==P.liftsFinal):Bool)) Tryz.prog 5 Tryz.f5 Rows.serverAloneSpec Rows.serverAloneRow=true:=by kernel_rfl
theorem serverAlone_k27:(fun(P:Program) (f:FuncId) (fn:Func) (s:ChangeSpec) (c:OpenClaim)=>((P.make==some c.make):Bool)) Tryz.prog 5 Tryz.f5 Rows.serverAloneSpec Rows.serverAloneRow=true:=by kernel_rfl
theorem serverAlone_k28:(fun(P:Program) (f:FuncId) (fn:Func) (s:ChangeSpec) (c:OpenClaim)=>((c.kinds==(if c.domain.isEmpty then [] else fn.params.toList.map fun t=>match P.underlying t with|some (.int k)=>some k|_=>none)):Bool)) Tryz.prog 5 Tryz.f5 Rows.serverAloneSpec Rows.serverAloneRow=true:=by kernel_rfl
theorem serverAlone_k29:(fun(P:Program) (f:FuncId) (fn:Func) (s:ChangeSpec) (c:OpenClaim)=>((c.pinned==c.pinnedBy):Bool)) Tryz.prog 5 Tryz.f5 Rows.serverAloneSpec Rows.serverAloneRow=true:=by kernel_rfl
theorem serverAlone_k30:(fun(P:Program) (f:FuncId) (fn:Func) (s:ChangeSpec) (c:OpenClaim)=>((c.veiled==(fn.params.toList++s.plain.varTypes P++fn.resultTypes.toList).any (P.veiledRec ·)):Bool)) Tryz.prog 5 Tryz.f5 Rows.serverAloneSpec Rows.serverAloneRow=true:=by kernel_rfl
theorem serverAlone_k31:(fun(P:Program) (f:FuncId) (fn:Func) (s:ChangeSpec) (c:OpenClaim)=>(c.veiledFits P fn.params.toList (fn.params.toList++s.plain.varTypes P++fn.resultTypes.toList):Bool)) Tryz.prog 5 Tryz.f5 Rows.serverAloneSpec Rows.serverAloneRow=true:=by kernel_rfl
theorem serverAlone_closed:joinedFacts Tryz.prog 5 Tryz.f5 Rows.serverAloneSpec Rows.serverAloneRow=true:=(and_tt (and_tt (and_tt (and_tt (and_tt (and_tt (and_tt (and_tt (and_tt (and_tt (and_tt (and_tt (and_tt (and_tt (and_tt (and_tt (and_tt (and_tt (and_tt (and_tt (and_tt (and_tt (and_tt (and_tt (and_tt (and_tt (and_tt (and_tt (and_tt (and_tt (and_tt serverAlone_k0 serverAlone_k1) serverAlone_k2) serverAlone_k3) serverAlone_k4) serverAlone_k5) serverAlone_k6) serverAlone_k7) serverAlone_k8) serverAlone_k9) serverAlone_k10) serverAlone_k11) serverAlone_k12) serverAlone_k13) serverAlone_k14) serverAlone_k15) serverAlone_k16) serverAlone_k17) serverAlone_k18) serverAlone_k19) serverAlone_k20) serverAlone_k21) serverAlone_k22) serverAlone_k23) serverAlone_k24) serverAlone_k25) serverAlone_k26) serverAlone_k27) serverAlone_k28) serverAlone_k29) serverAlone_k30) serverAlone_k31)
theorem serverAlone_named:Tryz.prog.funcNamed Rows.serverAloneRow.func=some 5:=by kernel_rfl
theorem serverAlone_inst:Tryz.f5.isInstance Tryz.prog Rows.serverAloneRow.origin Rows.serverAloneRow.targs:=of_decide_eq_true (by kernel_rfl)
theorem serverAlone_wrap:Tryz.f5.isWrapper Tryz.prog Rows.serverAloneRow.wrapper Rows.serverAloneRow.mainSum:=by unfold Func.isWrapper;first|(rw [if_pos (by decide +kernel)];kernel_rfl)|(rw [if_neg (by decide +kernel)];exact⟨rfl,rfl⟩)
theorem serverAlone_holds:Rows.ServerAloneSaid:=
 OpenClaim.holds_of_wide (p:=Tryz.pinned) 5 Tryz.f5 rfl rfl rfl rfl rfl rfl rfl ⟨rfl,rfl,rfl,rfl,rfl⟩ rfl rfl rfl rfl rfl serverAlone_named Tryz.func5 serverAlone_closed serverAlone_inst serverAlone_wrap
  (fun os started H enc _=>serverAlone_lifted os started H enc)
#print axioms serverAlone_holds
end Go.Proofs.YtaleiifbaefffaaGreat
