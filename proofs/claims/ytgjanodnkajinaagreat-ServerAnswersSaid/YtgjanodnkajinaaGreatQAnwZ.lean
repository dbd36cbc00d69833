/-
  Proved here: the statement that the last theorem names: for every input the law returns true, and the input reads as it did.
  Conditions: none beyond the given rows.
-/
import Derived.Test.YtgjanodnkajinaaGreatRows
import Derived.Test.YtgjanodnkajinaaGreatChecked
import Derived.Test.YtgjanodnkajinaaGreatQ6
set_option linter.unusedVariables false
set_option linter.unusedSimpArgs false
namespace Go.Proofs.YtgjanodnkajinaaGreat
theorem aa{a b:Bool}(h:a=true)(k:b=true):(a && b)=true:=by rw [h,k];rfl
open Go.W Go.ChangeShapes
set_option maxRecDepth 100000
set_option linter.unusedVariables false
set_option maxRecDepth 100000 in
theorem serverAnswers_lifted(os:Os)(started:os.Started)(H:Type)(eH:TypeId×Value->H):
  ReturnsInHanded {} Tryz.checked os 5 .any (Rows.serverAnswersSpec.pre6 eH Tryz.prog Tryz.f5 Rows.serverAnswersRow.domain false) (Rows.serverAnswersSpec.post eH Tryz.prog Tryz.f5 false true false false):=by
 refine zNv (C:=Tryz.checked) own0 started (by kernel_rfl) Tryz.func5
  (ChangeSpec.witness6 (enc:=eH) (C:=Tryz.checked) false ⟨#[],#[.agg #[.int .i64 0,.int .i64 0,.int .i64 0,.int .i64 0,.int .i64 0],.string ⟨#[]⟩,.slice none 0 0],[]⟩ 8 (by kernel_rfl) (by kernel_rfl) (by kernel_rfl) (by kernel_rfl)) laid0 (by kernel_rfl) rfl (tb:=E.q6) (by kernel_rfl) (by kernel_rfl) ?_ ?_
 ·intro ds hd
  match ds,hd with
  |[_,_,_],_=>rfl
 ·intro W base args ds ps hval hA hwt
  have hval:∀(j:Nat) t v,Tryz.f5.params[j]? = some t->args[j]? = some v->Value.okWide Tryz.prog W .any base t v:=hval
  have hA:DataW.TrodAll eH Tryz.prog W 0 (λ_=>true) true Tryz.f5.params.toList args.toList ds ps:=hA
  rw [Tryz.params5] at hA hval
  have hwt:(DataW.weightsEach Tryz.prog Tryz.f5.params.toList ds).all (·<=reachBytes)=true:=hwt
  rw [Tryz.params5] at hwt
  obtain⟨v0,v1,v2,d0,d1,d2,p0,p1,p2,rfl,rfl,rfl,h0,h1,h2⟩:=trodAll_three hA
  obtain⟨c,rfl⟩:=zOm (hval 0 _ _ rfl rfl) h0
  obtain⟨m,rfl,mb⟩:=zOo (hval 1 _ _ rfl rfl) h1 (w_tail (w_tail hwt).2).1
  obtain⟨la,ln,lc,l,rfl,ls,lm⟩:=zOn (hval 2 _ _ rfl rfl) h2
  exact zPa (zEb mb ls lm)
abbrev KT:=Program->FuncId->Func->ChangeSpec->OpenClaim->Bool
theorem k0:(λ P f fn s c=>(c.wf (OpenSpec.ofChange s):Bool):KT) Tryz.prog 5 Tryz.f5 Rows.serverAnswersSpec Rows.serverAnswersRow=true:=by kernel_rfl
theorem k1:(λ P f fn s c=>(laidOutB P:Bool):KT) Tryz.prog 5 Tryz.f5 Rows.serverAnswersSpec Rows.serverAnswersRow=true:=by kernel_rfl
theorem k2:(λ P f fn s c=>(mapsRowed P:Bool):KT) Tryz.prog 5 Tryz.f5 Rows.serverAnswersSpec Rows.serverAnswersRow=true:=by kernel_rfl
theorem k3:(λ P f fn s c=>(fn.params.all (P.readableRec ·):Bool):KT) Tryz.prog 5 Tryz.f5 Rows.serverAnswersSpec Rows.serverAnswersRow=true:=by kernel_rfl
theorem k4:(λ P f fn s c=>(namedTie P c.named s.vars:Bool):KT) Tryz.prog 5 Tryz.f5 Rows.serverAnswersSpec Rows.serverAnswersRow=true:=by kernel_rfl
theorem k5:(λ P f fn s c=>((c.stops==[]):Bool):KT) Tryz.prog 5 Tryz.f5 Rows.serverAnswersSpec Rows.serverAnswersRow=true:=by kernel_rfl
theorem k6:(λ P f fn s c=>((P.stops==[]):Bool):KT) Tryz.prog 5 Tryz.f5 Rows.serverAnswersSpec Rows.serverAnswersRow=true:=by kernel_rfl
theorem k7:(λ P f fn s c=>((c.knobs==[]):Bool):KT) Tryz.prog 5 Tryz.f5 Rows.serverAnswersSpec Rows.serverAnswersRow=true:=by kernel_rfl
theorem k8:(λ P f fn s c=>((P.stopKnobs==[]):Bool):KT) Tryz.prog 5 Tryz.f5 Rows.serverAnswersSpec Rows.serverAnswersRow=true:=by kernel_rfl
theorem k9:(λ P f fn s c=>((c.inPlace==P.inPlace f):Bool):KT) Tryz.prog 5 Tryz.f5 Rows.serverAnswersSpec Rows.serverAnswersRow=true:=by kernel_rfl
theorem k10:(λ P f fn s c=>((c.unfollowed==P.unfollowed f):Bool):KT) Tryz.prog 5 Tryz.f5 Rows.serverAnswersSpec Rows.serverAnswersRow=true:=by kernel_rfl
theorem k11:(λ P f fn s c=>((c.recurses==P.recurses f):Bool):KT) Tryz.prog 5 Tryz.f5 Rows.serverAnswersSpec Rows.serverAnswersRow=true:=by kernel_rfl
theorem k12:(λ P f fn s c=>((c.named==P.varsNamed f):Bool):KT) Tryz.prog 5 Tryz.f5 Rows.serverAnswersSpec Rows.serverAnswersRow=true:=by kernel_rfl
theorem k13:(λ P f fn s c=>((c.maps==(fn.params.toList++s.plain.varTypes P).any (P.mapsRec ·)):Bool):KT) Tryz.prog 5 Tryz.f5 Rows.serverAnswersSpec Rows.serverAnswersRow=true:=by kernel_rfl
theorem k14:(λ P f fn s c=>((c.ifaces==(fn.params.toList++s.plain.varTypes P).any (P.ifacesRec ·)):Bool):KT) Tryz.prog 5 Tryz.f5 Rows.serverAnswersSpec Rows.serverAnswersRow=true:=by kernel_rfl
theorem k15:(λ P f fn s c=>((c.mapsOut==P.mapsAmong fn.resultTypes.toList):Bool):KT) Tryz.prog 5 Tryz.f5 Rows.serverAnswersSpec Rows.serverAnswersRow=true:=by kernel_rfl
theorem k16:(λ P f fn s c=>((c.loops==(fn.params.toList++s.plain.varTypes P).any (P.loopsFrom ·)):Bool):KT) Tryz.prog 5 Tryz.f5 Rows.serverAnswersSpec Rows.serverAnswersRow=true:=by kernel_rfl
theorem k17:(λ P f fn s c=>((c.wideKeys==(fn.params.toList++s.plain.varTypes P++fn.resultTypes.toList).any (P.wideKeysFrom ·)):Bool):KT) Tryz.prog 5 Tryz.f5 Rows.serverAnswersSpec Rows.serverAnswersRow=true:=by kernel_rfl
theorem k18:(λ P f fn s c=>(s.vars.all (P.varReadable ·):Bool):KT) Tryz.prog 5 Tryz.f5 Rows.serverAnswersSpec Rows.serverAnswersRow=true:=by kernel_rfl
theorem k19:(λ P f fn s c=>(fn.resultTypes.all (λt=>P.readableRec t && decide (t<P.types.size)):Bool):KT) Tryz.prog 5 Tryz.f5 Rows.serverAnswersSpec Rows.serverAnswersRow=true:=by kernel_rfl
theorem k20:(λ P f fn s c=>((c.ifacesOut==fn.resultTypes.toList.any (P.ifacesRec ·)):Bool):KT) Tryz.prog 5 Tryz.f5 Rows.serverAnswersSpec Rows.serverAnswersRow=true:=by kernel_rfl
theorem k21:(λ P f fn s c=>((c.loopsOut==fn.resultTypes.toList.any (P.loopsFrom ·)):Bool):KT) Tryz.prog 5 Tryz.f5 Rows.serverAnswersSpec Rows.serverAnswersRow=true:=by kernel_rfl
theorem k22:(λ P f fn s c=>((c.plainKeys==P.plainKeys):Bool):KT) Tryz.prog 5 Tryz.f5 Rows.serverAnswersSpec Rows.serverAnswersRow=true:=by kernel_rfl
theorem k23:(λ P f fn s c=>(c.shortTexts.isNone:Bool):KT) Tryz.prog 5 Tryz.f5 Rows.serverAnswersSpec Rows.serverAnswersRow=true:=by kernel_rfl
theorem k24:(λ P f fn s c=>(P.stopsHeard:Bool):KT) Tryz.prog 5 Tryz.f5 Rows.serverAnswersSpec Rows.serverAnswersRow=true:=by kernel_rfl
theorem k25:(λ P f fn s c=>(P.mayEnter:Bool):KT) Tryz.prog 5 Tryz.f5 Rows.serverAnswersSpec Rows.serverAnswersRow=true:=by kernel_rfl
theorem k26:(λ P f fn s c=>((c.lifted==P.liftsFinal):Bool):KT) Tryz.prog 5 Tryz.f5 Rows.serverAnswersSpec Rows.serverAnswersRow=true:=by kernel_rfl
theorem k27:(λ P f fn s c=>((P.make==some c.make):Bool):KT) Tryz.prog 5 Tryz.f5 Rows.serverAnswersSpec Rows.serverAnswersRow=true:=by kernel_rfl
theorem k28:(λ P f fn s c=>((c.kinds==(if c.domain.isEmpty then [] else fn.params.toList.map λt=>match P.underlying t with|some (.int k)=>some k|_=>none)):Bool):KT) Tryz.prog 5 Tryz.f5 Rows.serverAnswersSpec Rows.serverAnswersRow=true:=by kernel_rfl
theorem k29:(λ P f fn s c=>((c.pinned==c.pinnedBy):Bool):KT) Tryz.prog 5 Tryz.f5 Rows.serverAnswersSpec Rows.serverAnswersRow=true:=by kernel_rfl
theorem k30:(λ P f fn s c=>((c.veiled==(fn.params.toList++s.plain.varTypes P++fn.resultTypes.toList).any (P.veiledRec ·)):Bool):KT) Tryz.prog 5 Tryz.f5 Rows.serverAnswersSpec Rows.serverAnswersRow=true:=by kernel_rfl
theorem k31:(λ P f fn s c=>(c.veiledFits P fn.params.toList (fn.params.toList++s.plain.varTypes P++fn.resultTypes.toList):Bool):KT) Tryz.prog 5 Tryz.f5 Rows.serverAnswersSpec Rows.serverAnswersRow=true:=by kernel_rfl
theorem serverAnswers_closed:joinedFacts Tryz.prog 5 Tryz.f5 Rows.serverAnswersSpec Rows.serverAnswersRow=true:=(aa (aa (aa (aa (aa (aa (aa (aa (aa (aa (aa (aa (aa (aa (aa (aa (aa (aa (aa (aa (aa (aa (aa (aa (aa (aa (aa (aa (aa (aa (aa k0 k1) k2) k3) k4) k5) k6) k7) k8) k9) k10) k11) k12) k13) k14) k15) k16) k17) k18) k19) k20) k21) k22) k23) k24) k25) k26) k27) k28) k29) k30) k31)
theorem serverAnswers_named:Tryz.prog.funcNamed Rows.serverAnswersRow.func=some 5:=by kernel_rfl
theorem serverAnswers_inst:Tryz.f5.isInstance Tryz.prog Rows.serverAnswersRow.origin Rows.serverAnswersRow.targs:=of_decide_eq_true (by kernel_rfl)
theorem serverAnswers_wrap:Tryz.f5.isWrapper Tryz.prog Rows.serverAnswersRow.wrapper Rows.serverAnswersRow.mainSum:=by unfold Func.isWrapper;first|(rw [if_pos (by decide +kernel)];kernel_rfl)|(rw [if_neg (by decide +kernel)];exact⟨rfl,rfl⟩)
theorem serverAnswers_holds:Rows.ServerAnswersSaid:=
 OpenClaim.holds_of_wide (p:=Tryz.pinned) 5 Tryz.f5 rfl rfl rfl rfl rfl rfl rfl ⟨rfl,rfl,rfl,rfl,rfl⟩ rfl rfl rfl rfl rfl serverAnswers_named Tryz.func5 serverAnswers_closed serverAnswers_inst serverAnswers_wrap
  (λos started H enc _=>serverAnswers_lifted os started H enc)
#print axioms serverAnswers_holds
end Go.Proofs.YtgjanodnkajinaaGreat
