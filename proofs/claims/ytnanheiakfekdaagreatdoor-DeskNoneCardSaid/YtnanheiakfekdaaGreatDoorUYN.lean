/-
  Proved here: the statement that the last theorem names: for every input the law returns true, and the input reads as it did.
  Conditions: none beyond the given rows.
-/
import Derived.Test.YtnanheiakfekdaaGreatDoorTie
import Derived.Test.YtnanheiakfekdaaGreatDoorCards
import Derived.Test.YtnanheiakfekdaaGreatDoorU7
set_option linter.unusedVariables false
set_option linter.unusedSimpArgs false
namespace Go.W
open Go Go.Proofs Go.RowKit
open AK (enc)
set_option maxRecDepth 20000
variable {w:World}

def moC:Tx:=[103,114,97,112,104,32,50,10,101,100,103,101,32,48,32,49,10,112,97,116,104,32,48,32,49,10,112,97,116,104,32,49,32,48,10,115,101,114,118,101,114,32,49,32,49,32,49,32,57,32,57,10,104,101,108,100,10,119,97,105,116,115,10,108,105,118,101,10,100,105,115,116,32,53,32,48,32,49,10,116,105,99,107,10,116,105,99,107,10]
def muC:Tx:=[111,107,10,111,107,10,48,32,49,10,45,10,111,107,10,45,10,45,10,48,10,111,107,10,45,10,53,32,121,101,115,32,49,10]
theorem linesMo:AE moC=[[103,114,97,112,104,32,50],[101,100,103,101,32,48,32,49],[112,97,116,104,32,48,32,49],[112,97,116,104,32,49,32,48],[115,101,114,118,101,114,32,49,32,49,32,49,32,57,32,57],[104,101,108,100],[119,97,105,116,115],[108,105,118,101],[100,105,115,116,32,53,32,48,32,49],[116,105,99,107],[116,105,99,107]]:=rfl
theorem runM(d:DF):BK d (AE moC)=muC:=by
 rw[linesMo];have g:=zPM d;have m:AT ⟨⟨2,[],[[],[]]⟩,d.s⟩ [101,100,103,101,32,48,32,49]=(Is,⟨g0,d.s⟩):=NP (d:=⟨⟨2,[],[[],[]]⟩,d.s⟩) (i:=0) (j:=1) rfl WR SA rfl (UX (by decide) (by decide) rfl (by decide) (by simp));have o:AT ⟨g0,d.s⟩ [112,97,116,104,32,48,32,49]=([48,32,49],⟨g0,d.s⟩):=Mt (i:=0) (j:=1) rfl WR SA (show 0<g0.n by decide) (show 1<g0.n by decide) (by show DC (CI g0) 0 1=_;rw[Pr];exact Un) Uf;have p:AT ⟨g0,d.s⟩ [112,97,116,104,32,49,32,48]=([45],⟨g0,d.s⟩):=Mt (l:=[]) (i:=1) (j:=0) rfl SA WR (show 1<g0.n by decide) (show 0<g0.n by decide) (by show DC (CI g0) 1 0=_;rw[Pr];exact Wf) yV;have f:AT ⟨g0,d.s⟩ [115,101,114,118,101,114,32,49,32,49,32,49,32,57,32,57]=(Is,⟨g0,some (CI g0,c0,Du c0)⟩):=uU (n1:=1) (n2:=1) (n3:=1) (n4:=9) (n5:=9) rfl SA SA SA dO dO (by decide);rw[Pr]at f;have q:AT ⟨g0,some (g0,c0,Du c0)⟩ [104,101,108,100]=([45],⟨g0,some (g0,c0,Du c0)⟩):=RH rfl rfl;have r:AT ⟨g0,some (g0,c0,Du c0)⟩ [119,97,105,116,115]=([45],⟨g0,some (g0,c0,Du c0)⟩):=zQR rfl rfl
 have a:AT ⟨g0,some (g0,c0,Du c0)⟩ [108,105,118,101]=([48],⟨g0,some (g0,c0,Du c0)⟩):=WF rfl (by
  have h:((List.range c0.workers).map λk=>(DG g0 c0.workers (Du c0).held k:Int))=[0]:=by decide
  rw[h];show EO [Lib.itoa 0] [32]=_;rw[it0];rfl)
 have b:AT ⟨g0,some (g0,c0,Du c0)⟩ [100,105,115,116,32,53,32,48,32,49]=(Is,⟨g0,some (g0,c0,⟨[x5],[none]⟩)⟩):=Rh (i:=5) (j:=0) (k:=1) rfl rfl lW WR SA (ZU (by decide)) iB;have c:AT ⟨g0,some (g0,c0,⟨[x5],[none]⟩)⟩ [116,105,99,107]=([45],⟨g0,some (g0,c0,⟨[],h5 1⟩)⟩):=Lb (l:=[]) (ns:=[]) rfl rfl rfl RA.2 RA.1 rfl;have e:AT ⟨g0,some (g0,c0,⟨[],h5 1⟩)⟩ [116,105,99,107]=([53,32,121,101,115,32,49],⟨g0,some (g0,c0,⟨[],[none]⟩)⟩):=Lb (l:=[]) (ns:=[]) rfl rfl rfl Pp.2 Pp.1 kJ;exact(KL g (KL m (KL o (KL p (KL f (KL q (KL r (KL a (KL b (KL c (KL e rfl))))))))))).trans rfl
theorem l28_DeskNone_sp{s:Tx}(G:HY w):Sp PP 6 #[Ag s] w λv w'=>v=.bool true/\AC w w':=by
 have t:=AM s;refine eN ?_;refine AA Zs ?_;rintro _ w1 ⟨⟨b,rfl⟩,A⟩
 cases b with
 |true =>
  refine AA (PE (G.up (w':=w1))) ?_;rintro _ B ⟨rfl,C⟩;exact⟨rfl,stp⟩
 |false =>
  refine ite (λh0=>?_) (λh0=>?_)
  ·refine AA (PE (G.up (w':=w1))) ?_;rintro _ g ⟨rfl,o⟩;exact⟨rfl,stp⟩
  refine ite (λl=>?_) (λl=>?_)
  ·have j:0<s.length:=by omega
   refine rF (s.length - 1) (FT (i:=s.length - 1) (c:=s[s.length - 1]) (by simp) (ite (λl=>?_) (λl=>?_)))
   ·refine AA (PE (G.up (w':=w1))) ?_;rintro _ g ⟨rfl,o⟩;exact⟨rfl,stp⟩
   have u:s[s.length - 1]=10:=UInt8.toNat_inj.1 (by have h:¬((s[s.length - 1].toNat:Nat):Int)≠10:=l;have D:(10:UInt8).toNat=10:=rfl;omega);have a:s.getLast? = some 10\/s=[]:=Or.inl (pV j u);refine AA (TI (G.up (w':=w1)) (by omega)) ?_;rintro _ g ⟨rfl,o⟩;refine FD (m:=moC) (by have:moC.length=89:=rfl;omega) ?_;refine AA (TI (G.up (w':=g)) (by have:moC.length=89:=rfl;rw[Qb];omega)) ?_;rintro _ p ⟨rfl,x⟩;have q:=jD (m:=moC) a;obtain⟨d,hd⟩:=q;rw[runM]at hd;have e:=AM (BK EE (AE s));have f:=AM (BK EE (AE (s++moC)));have r:(BK EE (AE (s++moC))).length=(BK EE (AE s)).length+muC.length:=by rw[hd,Qb]
   refine iF (· rfl) (iF (· rfl) (iF (by omega) (AA (PE (G.up (w':=p))) ?_)));rintro _ y ⟨rfl,z⟩;have k:Value.int .i64 (((⟨(BK EE (AE s)).toArray⟩:ByteArray).size:Nat):Int)=.int .i64 ((BK EE (AE s)).length:Nat):=congrArg (λn:Nat=>Value.int .i64 (n:Int)) e;have hb:(BK EE (AE s)).length<=(⟨(BK EE (AE (s++moC))).toArray⟩:ByteArray).size:=by omega
   refine Hh k hb ?_;refine DL (λ_=>?_) (λh=>absurd ?_ h)
   case' refine_2=>rw[Na,Jf,JF,hd,List.take_left' rfl]
   refine Ks k hb ?_;refine DL (λ_=>⟨rfl,stp⟩) (λh=>absurd ?_ h);rw[Na,f,r,hd,List.drop_left' rfl,Nat.add_sub_cancel_left,Qg];rfl
  ·have a:s.getLast? = some 10\/s=[]:=Or.inr (Qn (by omega));refine AA (TI (G.up (w':=w1)) (by omega)) ?_;rintro _ g ⟨rfl,o⟩;refine FD (m:=moC) (by have:moC.length=89:=rfl;omega) ?_;refine AA (TI (G.up (w':=g)) (by have:moC.length=89:=rfl;rw[Qb];omega)) ?_;rintro _ p ⟨rfl,x⟩;have q:=jD (m:=moC) a;obtain⟨d,hd⟩:=q;rw[runM]at hd;have e:=AM (BK EE (AE s));have f:=AM (BK EE (AE (s++moC)));have r:(BK EE (AE (s++moC))).length=(BK EE (AE s)).length+muC.length:=by rw[hd,Qb]
   refine iF (· rfl) (iF (· rfl) (iF (by omega) (AA (PE (G.up (w':=p))) ?_)));rintro _ y ⟨rfl,z⟩;have k:Value.int .i64 (((⟨(BK EE (AE s)).toArray⟩:ByteArray).size:Nat):Int)=.int .i64 ((BK EE (AE s)).length:Nat):=congrArg (λn:Nat=>Value.int .i64 (n:Int)) e;have hb:(BK EE (AE s)).length<=(⟨(BK EE (AE (s++moC))).toArray⟩:ByteArray).size:=by omega
   refine Hh k hb ?_;refine DL (λ_=>?_) (λh=>absurd ?_ h)
   case' refine_2=>rw[Na,Jf,JF,hd,List.take_left' rfl]
   refine Ks k hb ?_;refine DL (λ_=>⟨rfl,stp⟩) (λh=>absurd ?_ h);rw[Na,f,r,hd,List.drop_left' rfl,Nat.add_sub_cancel_left,Qg];rfl
end Go.W
namespace Go.Proofs.YtnanheiakfekdaaGreatDoor
open Go.W Go.ChangeShapes
set_option maxRecDepth 100000
set_option linter.unusedVariables false
theorem and_tt{a b:Bool}(h:a=true)(k:b=true):(a && b)=true:=by rw[h,k];rfl
theorem deskNone_lifted(os:Os)(b:os.Started)(H:Type)(d:TypeId×Value->H):
  ReturnsInHanded {} Tryz.checked os 6 .any (λw args=>(Rows.deskNoneSpec.pre d PP Tryz.f6 Rows.deskNoneRow.domain false w args/\laidMetH PP ED w)/\sizedMet d PP Tryz.f6 (OpenSpec.ofChange Rows.deskNoneSpec) false w args) (Rows.deskNoneSpec.post d PP Tryz.f6 false true false false):=by
 refine dX (C:=Tryz.checked) YG Sy b (by kernel_rfl) Tryz.func6
  (ChangeSpec.witness_shaped (enc:=d) (C:=Tryz.checked) (os:=os) (X:=λw _=>laidMetH PP ED w) false (World.laidAll PP os ED) #[.string ⟨#[]⟩] 8 (World.laidAll_os _ _ _)
   (bR os _) (by kernel_rfl) (by kernel_rfl) (by kernel_rfl) (dB os _)) Np (by kernel_rfl) rfl (tb:=4) (by kernel_rfl) (by kernel_rfl) ?_ ?_
 ·intro ds hd
  match ds,hd with
  |[_],_=>rfl
 ·intro W e args ds ps g i a f c;have a:∀(j:Nat) t v,Tryz.f6.params[j]? = some t->args[j]? = some v->Value.okWide PP W .any e t v:=a;have f:DataW.TrodAll d PP W 0 (λ_=>true) true Tryz.f6.params.toList args.toList ds ps:=f;rw[Tryz.params6]at f a;have c:(DataW.weightsEach PP Tryz.f6.params.toList ds).all (·<=reachBytes)=true:=c;rw[Tryz.params6]at c;have h:=trodAll_one f;obtain⟨k,l,rfl,rfl,h0⟩:=h;have h:=KM (a 0 _ _ rfl rfl) h0 (XX c).1;obtain⟨s,rfl,sb⟩:=h;exact cI (l28_DeskNone_sp (Lt g i))
theorem deskNone_k0:(λ(P:Program) (f:FuncId) (fn:Func) (s:ChangeSpec) (c:OpenClaim)=>(c.wf (OpenSpec.ofChange s):Bool)) PP 6 Tryz.f6 Rows.deskNoneSpec Rows.deskNoneRow=true:=by kernel_rfl
theorem deskNone_k1:(λ(P:Program) (f:FuncId) (fn:Func) (s:ChangeSpec) (c:OpenClaim)=>(laidOutB P:Bool)) PP 6 Tryz.f6 Rows.deskNoneSpec Rows.deskNoneRow=true:=by kernel_rfl
theorem deskNone_k2:(λ(P:Program) (f:FuncId) (fn:Func) (s:ChangeSpec) (c:OpenClaim)=>(mapsRowed P:Bool)) PP 6 Tryz.f6 Rows.deskNoneSpec Rows.deskNoneRow=true:=by kernel_rfl
theorem deskNone_k3:(λ(P:Program) (f:FuncId) (fn:Func) (s:ChangeSpec) (c:OpenClaim)=>(fn.params.all (P.readableRec ·):Bool)) PP 6 Tryz.f6 Rows.deskNoneSpec Rows.deskNoneRow=true:=by kernel_rfl
theorem deskNone_k4:(λ(P:Program) (f:FuncId) (fn:Func) (s:ChangeSpec) (c:OpenClaim)=>(namedTie P c.named s.vars:Bool)) PP 6 Tryz.f6 Rows.deskNoneSpec Rows.deskNoneRow=true:=by kernel_rfl
theorem deskNone_k5:(λ(P:Program) (f:FuncId) (fn:Func) (s:ChangeSpec) (c:OpenClaim)=>((c.stops==[]):Bool)) PP 6 Tryz.f6 Rows.deskNoneSpec Rows.deskNoneRow=true:=by kernel_rfl
theorem deskNone_k6:(λ(P:Program) (f:FuncId) (fn:Func) (s:ChangeSpec) (c:OpenClaim)=>((P.stops==[]):Bool)) PP 6 Tryz.f6 Rows.deskNoneSpec Rows.deskNoneRow=true:=by kernel_rfl
theorem deskNone_k7:(λ(P:Program) (f:FuncId) (fn:Func) (s:ChangeSpec) (c:OpenClaim)=>((c.knobs==[]):Bool)) PP 6 Tryz.f6 Rows.deskNoneSpec Rows.deskNoneRow=true:=by kernel_rfl
theorem deskNone_k8:(λ(P:Program) (f:FuncId) (fn:Func) (s:ChangeSpec) (c:OpenClaim)=>((P.stopKnobs==[]):Bool)) PP 6 Tryz.f6 Rows.deskNoneSpec Rows.deskNoneRow=true:=by kernel_rfl
theorem deskNone_k9:(λ(P:Program) (f:FuncId) (fn:Func) (s:ChangeSpec) (c:OpenClaim)=>((c.inPlace==P.inPlace f):Bool)) PP 6 Tryz.f6 Rows.deskNoneSpec Rows.deskNoneRow=true:=by kernel_rfl
theorem deskNone_k10:(λ(P:Program) (f:FuncId) (fn:Func) (s:ChangeSpec) (c:OpenClaim)=>((c.unfollowed==P.unfollowed f):Bool)) PP 6 Tryz.f6 Rows.deskNoneSpec Rows.deskNoneRow=true:=by kernel_rfl
theorem deskNone_k11:(λ(P:Program) (f:FuncId) (fn:Func) (s:ChangeSpec) (c:OpenClaim)=>((c.recurses==P.recurses f):Bool)) PP 6 Tryz.f6 Rows.deskNoneSpec Rows.deskNoneRow=true:=by kernel_rfl
theorem deskNone_k12:(λ(P:Program) (f:FuncId) (fn:Func) (s:ChangeSpec) (c:OpenClaim)=>((c.named==P.varsNamed f):Bool)) PP 6 Tryz.f6 Rows.deskNoneSpec Rows.deskNoneRow=true:=by kernel_rfl
theorem deskNone_k13:(λ(P:Program) (f:FuncId) (fn:Func) (s:ChangeSpec) (c:OpenClaim)=>((c.maps==(fn.params.toList++s.plain.varTypes P).any (P.mapsRec ·)):Bool)) PP 6 Tryz.f6 Rows.deskNoneSpec Rows.deskNoneRow=true:=by kernel_rfl
theorem deskNone_k14:(λ(P:Program) (f:FuncId) (fn:Func) (s:ChangeSpec) (c:OpenClaim)=>((c.ifaces==(fn.params.toList++s.plain.varTypes P).any (P.ifacesRec ·)):Bool)) PP 6 Tryz.f6 Rows.deskNoneSpec Rows.deskNoneRow=true:=by kernel_rfl
theorem deskNone_k15:(λ(P:Program) (f:FuncId) (fn:Func) (s:ChangeSpec) (c:OpenClaim)=>((c.mapsOut==P.mapsAmong fn.resultTypes.toList):Bool)) PP 6 Tryz.f6 Rows.deskNoneSpec Rows.deskNoneRow=true:=by kernel_rfl
theorem deskNone_k16:(λ(P:Program) (f:FuncId) (fn:Func) (s:ChangeSpec) (c:OpenClaim)=>((c.loops==(fn.params.toList++s.plain.varTypes P).any (P.loopsFrom ·)):Bool)) PP 6 Tryz.f6 Rows.deskNoneSpec Rows.deskNoneRow=true:=by kernel_rfl
theorem deskNone_k17:(λ(P:Program) (f:FuncId) (fn:Func) (s:ChangeSpec) (c:OpenClaim)=>((c.wideKeys==(fn.params.toList++s.plain.varTypes P++fn.resultTypes.toList).any (P.wideKeysFrom ·)):Bool)) PP 6 Tryz.f6 Rows.deskNoneSpec Rows.deskNoneRow=true:=by kernel_rfl
theorem deskNone_k18:(λ(P:Program) (f:FuncId) (fn:Func) (s:ChangeSpec) (c:OpenClaim)=>(s.vars.all (P.varReadable ·):Bool)) PP 6 Tryz.f6 Rows.deskNoneSpec Rows.deskNoneRow=true:=by kernel_rfl
theorem deskNone_k19:(λ(P:Program) (f:FuncId) (fn:Func) (s:ChangeSpec) (c:OpenClaim)=>(fn.resultTypes.all (λt=>P.readableRec t && decide (t<P.types.size)):Bool)) PP 6 Tryz.f6 Rows.deskNoneSpec Rows.deskNoneRow=true:=by kernel_rfl
theorem deskNone_k20:(λ(P:Program) (f:FuncId) (fn:Func) (s:ChangeSpec) (c:OpenClaim)=>((c.ifacesOut==fn.resultTypes.toList.any (P.ifacesRec ·)):Bool)) PP 6 Tryz.f6 Rows.deskNoneSpec Rows.deskNoneRow=true:=by kernel_rfl
theorem deskNone_k21:(λ(P:Program) (f:FuncId) (fn:Func) (s:ChangeSpec) (c:OpenClaim)=>((c.loopsOut==fn.resultTypes.toList.any (P.loopsFrom ·)):Bool)) PP 6 Tryz.f6 Rows.deskNoneSpec Rows.deskNoneRow=true:=by kernel_rfl
theorem deskNone_k22:(λ(P:Program) (f:FuncId) (fn:Func) (s:ChangeSpec) (c:OpenClaim)=>((c.plainKeys==P.plainKeys):Bool)) PP 6 Tryz.f6 Rows.deskNoneSpec Rows.deskNoneRow=true:=by kernel_rfl
theorem deskNone_k23:(λ(P:Program) (f:FuncId) (fn:Func) (s:ChangeSpec) (c:OpenClaim)=>(c.shortTexts.isNone:Bool)) PP 6 Tryz.f6 Rows.deskNoneSpec Rows.deskNoneRow=true:=by kernel_rfl
theorem deskNone_k24:(λ(P:Program) (f:FuncId) (fn:Func) (s:ChangeSpec) (c:OpenClaim)=>(P.stopsHeard:Bool)) PP 6 Tryz.f6 Rows.deskNoneSpec Rows.deskNoneRow=true:=by kernel_rfl
theorem deskNone_k25:(λ(P:Program) (f:FuncId) (fn:Func) (s:ChangeSpec) (c:OpenClaim)=>(P.mayEnter:Bool)) PP 6 Tryz.f6 Rows.deskNoneSpec Rows.deskNoneRow=true:=by kernel_rfl
theorem deskNone_k26:(λ(P:Program) (f:FuncId) (fn:Func) (s:ChangeSpec) (c:OpenClaim)=>((c.lifted==P.liftsFinal):Bool)) PP 6 Tryz.f6 Rows.deskNoneSpec Rows.deskNoneRow=true:=by kernel_rfl
theorem deskNone_k27:(λ(P:Program) (f:FuncId) (fn:Func) (s:ChangeSpec) (c:OpenClaim)=>((P.make==some c.make):Bool)) PP 6 Tryz.f6 Rows.deskNoneSpec Rows.deskNoneRow=true:=by kernel_rfl
theorem deskNone_k28:(λ(P:Program) (f:FuncId) (fn:Func) (s:ChangeSpec) (c:OpenClaim)=>((c.kinds==(if c.domain.isEmpty then[] else fn.params.toList.map λt=>match P.underlying t with|some (.int k)=>some k|_=>none)):Bool)) PP 6 Tryz.f6 Rows.deskNoneSpec Rows.deskNoneRow=true:=by kernel_rfl
theorem deskNone_k29:(λ(P:Program) (f:FuncId) (fn:Func) (s:ChangeSpec) (c:OpenClaim)=>((c.pinned==c.pinnedBy):Bool)) PP 6 Tryz.f6 Rows.deskNoneSpec Rows.deskNoneRow=true:=by kernel_rfl
theorem deskNone_k30:(λ(P:Program) (f:FuncId) (fn:Func) (s:ChangeSpec) (c:OpenClaim)=>((c.veiled==(fn.params.toList++s.plain.varTypes P++fn.resultTypes.toList).any (P.veiledRec ·)):Bool)) PP 6 Tryz.f6 Rows.deskNoneSpec Rows.deskNoneRow=true:=by kernel_rfl
theorem deskNone_k31:(λ(P:Program) (f:FuncId) (fn:Func) (s:ChangeSpec) (c:OpenClaim)=>(c.veiledFits P fn.params.toList (fn.params.toList++s.plain.varTypes P++fn.resultTypes.toList):Bool)) PP 6 Tryz.f6 Rows.deskNoneSpec Rows.deskNoneRow=true:=by kernel_rfl
theorem deskNone_closed:joinedFacts PP 6 Tryz.f6 Rows.deskNoneSpec Rows.deskNoneRow=true:=(and_tt (and_tt (and_tt (and_tt (and_tt (and_tt (and_tt (and_tt (and_tt (and_tt (and_tt (and_tt (and_tt (and_tt (and_tt (and_tt (and_tt (and_tt (and_tt (and_tt (and_tt (and_tt (and_tt (and_tt (and_tt (and_tt (and_tt (and_tt (and_tt (and_tt (and_tt deskNone_k0 deskNone_k1) deskNone_k2) deskNone_k3) deskNone_k4) deskNone_k5) deskNone_k6) deskNone_k7) deskNone_k8) deskNone_k9) deskNone_k10) deskNone_k11) deskNone_k12) deskNone_k13) deskNone_k14) deskNone_k15) deskNone_k16) deskNone_k17) deskNone_k18) deskNone_k19) deskNone_k20) deskNone_k21) deskNone_k22) deskNone_k23) deskNone_k24) deskNone_k25) deskNone_k26) deskNone_k27) deskNone_k28) deskNone_k29) deskNone_k30) deskNone_k31)
theorem deskNone_named:PP.funcNamed Rows.deskNoneRow.func=some 6:=by kernel_rfl
theorem deskNone_inst:Tryz.f6.isInstance PP Rows.deskNoneRow.origin Rows.deskNoneRow.targs:=of_decide_eq_true (by kernel_rfl)
theorem deskNone_wrap:Tryz.f6.isWrapper PP Rows.deskNoneRow.wrapper Rows.deskNoneRow.mainSum:=by unfold Func.isWrapper;first|(rw[if_pos (by decide +kernel)];kernel_rfl)|(rw[if_neg (by decide +kernel)];exact⟨rfl,rfl⟩)
theorem deskNone_holds:Rows.DeskNoneSaid:=
 OpenClaim.holds_of_wide (p:=Tryz.pinned) 6 Tryz.f6 rfl rfl rfl rfl rfl rfl rfl ⟨rfl,rfl,rfl,rfl,rfl⟩ rfl rfl rfl rfl rfl deskNone_named Tryz.func6 deskNone_closed deskNone_inst deskNone_wrap
  (λos a H enc _=>deskNone_lifted os a H enc)
#print axioms deskNone_holds
theorem deskNone_card:Rows.DeskNoneCardSaid:=
 Claim7.holds_tied_plain_at .later [] [.data, .data, .data, .data, .sentinel, .sentinel, .pinned] true (true, "b0dced846b3b3a43fa766eea3dc368acb4278f8c5c550bf406976ed2125d2229") true
  deskNone_holds (λ_ h=>by cases h) (by kernel_rfl) (λ_ h=>by cases h) deskNone_row_tie rfl ⟨rfl,rfl⟩ dC rfl
  (λf fn d a=>by
   have b:6=f:=QL (deskNone_named.symm.trans d);obtain rfl:=b;have b:Tryz.f6=fn:=QL (Tryz.func6.symm.trans a);obtain rfl:=b;refine⟨bQ,λj t c=>?_⟩;rw[Tryz.params6]at c;have g:t∈[9]:=by simpa using Array.mem_of_getElem? c
   have e:t=9:=by simpa using g
   rw[e];exact Sv)
  (bK TJ rfl)
#print axioms deskNone_card
end Go.Proofs.YtnanheiakfekdaaGreatDoor
