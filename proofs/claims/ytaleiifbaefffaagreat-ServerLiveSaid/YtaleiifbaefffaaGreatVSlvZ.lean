/-
  Proved here: the statement that the last theorem names: for every input the law returns true, and the input reads as it did.
  Conditions: none beyond the given rows.
-/
import Derived.Test.YtaleiifbaefffaaGreatRows
import Derived.Test.YtaleiifbaefffaaGreatChecked
import Derived.Test.YtaleiifbaefffaaGreatV6
set_option linter.unusedVariables false
set_option linter.unusedSimpArgs false
namespace Go.Proofs.YtaleiifbaefffaaGreat
theorem and_tt{a b:Bool}(h:a=true)(k:b=true):(a && b)=true:=by rw [h,k];rfl
open Go.W Go.ChangeShapes
set_option maxRecDepth 100000
set_option linter.unusedVariables false
set_option maxRecDepth 100000 in
theorem serverLive_lifted(os:Os)(started:os.Started)(H:Type)(eH:TypeId×Value→H):
  ReturnsInHanded {} Tryz.checked os 6 .any (Rows.serverLiveSpec.pre6 eH Tryz.prog Tryz.f6 Rows.serverLiveRow.domain false) (Rows.serverLiveSpec.post eH Tryz.prog Tryz.f6 false true false false):=by
 refine zD0 (C:=Tryz.checked) own0 started (by kernel_rfl) Tryz.func6
  (ChangeSpec.witness6 (enc:=eH) (C:=Tryz.checked) false ⟨#[],#[.agg #[.int .i64 0,.int .i64 0,.int .i64 0,.int .i64 0,.int .i64 0],.string ⟨#[]⟩,.slice none 0 0],[]⟩ 8 (by kernel_rfl) (by kernel_rfl) (by kernel_rfl) (by kernel_rfl)) laid0 (by kernel_rfl) rfl (tb:=E.q1) (by kernel_rfl) (by kernel_rfl) ?_ ?_
 ·intro ds hd
  match ds,hd with
  |[_,_,_],_=>rfl
 ·intro W base args ds ps hval hA hwt
  have hval:∀(j:Nat) t v,Tryz.f6.params[j]? = some t→args[j]? = some v→Value.okWide Tryz.prog W .any base t v:=hval
  have hA:DataW.TrodAll eH Tryz.prog W 0 (fun _=>true) true Tryz.f6.params.toList args.toList ds ps:=hA
  rw [Tryz.params6] at hA hval
  have hwt:(DataW.weightsEach Tryz.prog Tryz.f6.params.toList ds).all (·≤reachBytes)=true:=hwt
  rw [Tryz.params6] at hwt
  obtain⟨v0,v1,v2,d0,d1,d2,p0,p1,p2,rfl,rfl,rfl,h0,h1,h2⟩:=trodAll_three hA
  obtain⟨c,rfl⟩:=zFi (hval 0 _ _ rfl rfl) h0
  obtain⟨m,rfl,mb⟩:=zFk (hval 1 _ _ rfl rfl) h1 (w_tail (w_tail hwt).2).1
  obtain⟨la,ln,lc,l,rfl,ls,lm⟩:=zFj (hval 2 _ _ rfl rfl) h2
  exact zFx (zFE mb ls lm)
theorem serverLive_k0:(fun(P:Program) (f:FuncId) (fn:Func) (s:ChangeSpec) (c:OpenClaim)=>(c.wf (OpenSpec.ofChange s):Bool)) Tryz.prog 6 Tryz.f6 Rows.serverLiveSpec Rows.serverLiveRow=true:=by kernel_rfl
theorem serverLive_k1:(fun(P:Program) (f:FuncId) (fn:Func) (s:ChangeSpec) (c:OpenClaim)=>(laidOutB P:Bool)) Tryz.prog 6 Tryz.f6 Rows.serverLiveSpec Rows.serverLiveRow=true:=by kernel_rfl
theorem serverLive_k2:(fun(P:Program) (f:FuncId) (fn:Func) (s:ChangeSpec) (c:OpenClaim)=>(mapsRowed P:Bool)) Tryz.prog 6 Tryz.f6 Rows.serverLiveSpec Rows.serverLiveRow=true:=by kernel_rfl
theorem serverLive_k3:(fun(P:Program) (f:FuncId) (fn:Func) (s:ChangeSpec) (c:OpenClaim)=>(fn.params.all (P.readableRec ·):Bool)) Tryz.prog 6 Tryz.f6 Rows.serverLiveSpec Rows.serverLiveRow=true:=by kernel_rfl
theorem serverLive_k4:(fun(P:Program) (f:FuncId) (fn:Func) (s:ChangeSpec) (c:OpenClaim)=>(namedTie P c.named s.vars:Bool)) Tryz.prog 6 Tryz.f6 Rows.serverLiveSpec Rows.serverLiveRow=true:=by kernel_rfl
theorem serverLive_k5:(fun(P:Program) (f:FuncId) (fn:Func) (s:ChangeSpec) (c:OpenClaim)=>((c.stops==[]):Bool)) Tryz.prog 6 Tryz.f6 Rows.serverLiveSpec Rows.serverLiveRow=true:=by kernel_rfl
theorem serverLive_k6:(fun(P:Program) (f:FuncId) (fn:Func) (s:ChangeSpec) (c:OpenClaim)=>((P.stops==[]):Bool)) Tryz.prog 6 Tryz.f6 Rows.serverLiveSpec Rows.serverLiveRow=true:=by kernel_rfl
theorem serverLive_k7:(fun(P:Program) (f:FuncId) (fn:Func) (s:ChangeSpec) (c:OpenClaim)=>((c.knobs==[]):Bool)) Tryz.prog 6 Tryz.f6 Rows.serverLiveSpec Rows.serverLiveRow=true:=by kernel_rfl
theorem serverLive_k8:(fun(P:Program) (f:FuncId) (fn:Func) (s:ChangeSpec) (c:OpenClaim)=>((P.stopKnobs==[]):Bool)) Tryz.prog 6 Tryz.f6 Rows.serverLiveSpec Rows.serverLiveRow=true:=by kernel_rfl
theorem serverLive_k9:(fun(P:Program) (f:FuncId) (fn:Func) (s:ChangeSpec) (c:OpenClaim)=>((c.inPlace==P.inPlace f):Bool)) Tryz.prog 6 Tryz.f6 Rows.serverLiveSpec Rows.serverLiveRow=true:=by kernel_rfl
theorem serverLive_k10:(fun(P:Program) (f:FuncId) (fn:Func) (s:ChangeSpec) (c:OpenClaim)=>((c.unfollowed==P.unfollowed f):Bool)) Tryz.prog 6 Tryz.f6 Rows.serverLiveSpec Rows.serverLiveRow=true:=by kernel_rfl
theorem serverLive_k11:(fun(P:Program) (f:FuncId) (fn:Func) (s:ChangeSpec) (c:OpenClaim)=>((c.recurses==P.recurses f):Bool)) Tryz.prog 6 Tryz.f6 Rows.serverLiveSpec Rows.serverLiveRow=true:=by kernel_rfl
theorem serverLive_k12:(fun(P:Program) (f:FuncId) (fn:Func) (s:ChangeSpec) (c:OpenClaim)=>((c.named==P.varsNamed f):Bool)) Tryz.prog 6 Tryz.f6 Rows.serverLiveSpec Rows.serverLiveRow=true:=by kernel_rfl
theorem serverLive_k13:(fun(P:Program) (f:FuncId) (fn:Func) (s:ChangeSpec) (c:OpenClaim)=>((c.maps==(fn.params.toList++s.plain.varTypes P).any (P.mapsRec ·)):Bool)) Tryz.prog 6 Tryz.f6 Rows.serverLiveSpec Rows.serverLiveRow=true:=by kernel_rfl
theorem serverLive_k14:(fun(P:Program) (f:FuncId) (fn:Func) (s:ChangeSpec) (c:OpenClaim)=>((c.ifaces==(fn.params.toList++s.plain.varTypes P).any (P.ifacesRec ·)):Bool)) Tryz.prog 6 Tryz.f6 Rows.serverLiveSpec Rows.serverLiveRow=true:=by kernel_rfl
theorem serverLive_k15:(fun(P:Program) (f:FuncId) (fn:Func) (s:ChangeSpec) (c:OpenClaim)=>((c.mapsOut==P.mapsAmong fn.resultTypes.toList):Bool)) Tryz.prog 6 Tryz.f6 Rows.serverLiveSpec Rows.serverLiveRow=true:=by kernel_rfl
theorem serverLive_k16:(fun(P:Program) (f:FuncId) (fn:Func) (s:ChangeSpec) (c:OpenClaim)=>((c.loops==(fn.params.toList++s.plain.varTypes P).any (P.loopsFrom ·)):Bool)) Tryz.prog 6 Tryz.f6 Rows.serverLiveSpec Rows.serverLiveRow=true:=by kernel_rfl
theorem serverLive_k17:(fun(P:Program) (f:FuncId) (fn:Func) (s:ChangeSpec) (c:OpenClaim)=>((c.wideKeys==(fn.params.toList++s.plain.varTypes P++fn.resultTypes.toList).any (P.wideKeysFrom ·)):Bool)) Tryz.prog 6 Tryz.f6 Rows.serverLiveSpec Rows.serverLiveRow=true:=by kernel_rfl
theorem serverLive_k18:(fun(P:Program) (f:FuncId) (fn:Func) (s:ChangeSpec) (c:OpenClaim)=>(s.vars.all (P.varReadable ·):Bool)) Tryz.prog 6 Tryz.f6 Rows.serverLiveSpec Rows.serverLiveRow=true:=by kernel_rfl
theorem serverLive_k19:(fun(P:Program) (f:FuncId) (fn:Func) (s:ChangeSpec) (c:OpenClaim)=>(fn.resultTypes.all (fun t=>P.readableRec t && decide (t<P.types.size)):Bool)) Tryz.prog 6 Tryz.f6 Rows.serverLiveSpec Rows.serverLiveRow=true:=by kernel_rfl
theorem serverLive_k20:(fun(P:Program) (f:FuncId) (fn:Func) (s:ChangeSpec) (c:OpenClaim)=>((c.ifacesOut==fn.resultTypes.toList.any (P.ifacesRec ·)):Bool)) Tryz.prog 6 Tryz.f6 Rows.serverLiveSpec Rows.serverLiveRow=true:=by kernel_rfl
theorem serverLive_k21:(fun(P:Program) (f:FuncId) (fn:Func) (s:ChangeSpec) (c:OpenClaim)=>((c.loopsOut==fn.resultTypes.toList.any (P.loopsFrom ·)):Bool)) Tryz.prog 6 Tryz.f6 Rows.serverLiveSpec Rows.serverLiveRow=true:=by kernel_rfl
theorem serverLive_k22:(fun(P:Program) (f:FuncId) (fn:Func) (s:ChangeSpec) (c:OpenClaim)=>((c.plainKeys==P.plainKeys):Bool)) Tryz.prog 6 Tryz.f6 Rows.serverLiveSpec Rows.serverLiveRow=true:=by kernel_rfl
theorem serverLive_k23:(fun(P:Program) (f:FuncId) (fn:Func) (s:ChangeSpec) (c:OpenClaim)=>(c.shortTexts.isNone:Bool)) Tryz.prog 6 Tryz.f6 Rows.serverLiveSpec Rows.serverLiveRow=true:=by kernel_rfl
theorem serverLive_k24:(fun(P:Program) (f:FuncId) (fn:Func) (s:ChangeSpec) (c:OpenClaim)=>(P.stopsHeard:Bool)) Tryz.prog 6 Tryz.f6 Rows.serverLiveSpec Rows.serverLiveRow=true:=by kernel_rfl
theorem serverLive_k25:(fun(P:Program) (f:FuncId) (fn:Func) (s:ChangeSpec) (c:OpenClaim)=>(P.mayEnter:Bool)) Tryz.prog 6 Tryz.f6 Rows.serverLiveSpec Rows.serverLiveRow=true:=by kernel_rfl
theorem serverLive_k26:(fun(P:Program) (f:FuncId) (fn:Func) (s:ChangeSpec) (c:OpenClaim)=>((c.lifted==P.liftsFinal):Bool)) Tryz.prog 6 Tryz.f6 Rows.serverLiveSpec Rows.serverLiveRow=true:=by kernel_rfl
theorem serverLive_k27:(fun(P:Program) (f:FuncId) (fn:Func) (s:ChangeSpec) (c:OpenClaim)=>((P.make==some c.make):Bool)) Tryz.prog 6 Tryz.f6 Rows.serverLiveSpec Rows.serverLiveRow=true:=by kernel_rfl
theorem serverLive_k28:(fun(P:Program) (f:FuncId) (fn:Func) (s:ChangeSpec) (c:OpenClaim)=>((c.kinds==(if c.domain.isEmpty then [] else fn.params.toList.map fun t=>match P.underlying t with|some (.int k)=>some k|_=>none)):Bool)) Tryz.prog 6 Tryz.f6 Rows.serverLiveSpec Rows.serverLiveRow=true:=by kernel_rfl
theorem serverLive_k29:(fun(P:Program) (f:FuncId) (fn:Func) (s:ChangeSpec) (c:OpenClaim)=>((c.pinned==c.pinnedBy):Bool)) Tryz.prog 6 Tryz.f6 Rows.serverLiveSpec Rows.serverLiveRow=true:=by kernel_rfl
theorem serverLive_k30:(fun(P:Program) (f:FuncId) (fn:Func) (s:ChangeSpec) (c:OpenClaim)=>((c.veiled==(fn.params.toList++s.plain.varTypes P++fn.resultTypes.toList).any (P.veiledRec ·)):Bool)) Tryz.prog 6 Tryz.f6 Rows.serverLiveSpec Rows.serverLiveRow=true:=by kernel_rfl
theorem serverLive_k31:(fun(P:Program) (f:FuncId) (fn:Func) (s:ChangeSpec) (c:OpenClaim)=>(c.veiledFits P fn.params.toList (fn.params.toList++s.plain.varTypes P++fn.resultTypes.toList):Bool)) Tryz.prog 6 Tryz.f6 Rows.serverLiveSpec Rows.serverLiveRow=true:=by kernel_rfl
theorem serverLive_closed:joinedFacts Tryz.prog 6 Tryz.f6 Rows.serverLiveSpec Rows.serverLiveRow=true:=(and_tt (and_tt (and_tt (and_tt (and_tt (and_tt (and_tt (and_tt (and_tt (and_tt (and_tt (and_tt (and_tt (and_tt (and_tt (and_tt (and_tt (and_tt (and_tt (and_tt (and_tt (and_tt (and_tt (and_tt (and_tt (and_tt (and_tt (and_tt (and_tt (and_tt (and_tt serverLive_k0 serverLive_k1) serverLive_k2) serverLive_k3) serverLive_k4) serverLive_k5) serverLive_k6) serverLive_k7) serverLive_k8) serverLive_k9) serverLive_k10) serverLive_k11) serverLive_k12) serverLive_k13) serverLive_k14) serverLive_k15) serverLive_k16) serverLive_k17) serverLive_k18) serverLive_k19) serverLive_k20) serverLive_k21) serverLive_k22) serverLive_k23) serverLive_k24) serverLive_k25) serverLive_k26) serverLive_k27) serverLive_k28) serverLive_k29) serverLive_k30) serverLive_k31)
theorem serverLive_named:Tryz.prog.funcNamed Rows.serverLiveRow.func=some 6:=by kernel_rfl
theorem serverLive_inst:Tryz.f6.isInstance Tryz.prog Rows.serverLiveRow.origin Rows.serverLiveRow.targs:=of_decide_eq_true (by kernel_rfl)
theorem serverLive_wrap:Tryz.f6.isWrapper Tryz.prog Rows.serverLiveRow.wrapper Rows.serverLiveRow.mainSum:=by unfold Func.isWrapper;first|(rw [if_pos (by decide +kernel)];kernel_rfl)|(rw [if_neg (by decide +kernel)];exact⟨rfl,rfl⟩)
theorem serverLive_holds:Rows.ServerLiveSaid:=
 OpenClaim.holds_of_wide (p:=Tryz.pinned) 6 Tryz.f6 rfl rfl rfl rfl rfl rfl rfl ⟨rfl,rfl,rfl,rfl,rfl⟩ rfl rfl rfl rfl rfl serverLive_named Tryz.func6 serverLive_closed serverLive_inst serverLive_wrap
  (fun os started H enc _=>serverLive_lifted os started H enc)
#print axioms serverLive_holds
end Go.Proofs.YtaleiifbaefffaaGreat
