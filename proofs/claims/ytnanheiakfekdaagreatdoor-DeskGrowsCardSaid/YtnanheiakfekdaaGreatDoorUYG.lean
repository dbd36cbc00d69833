/-
  Proved here: the statement that the last theorem names: for every input the law returns true, and the input reads as it did.
  Conditions: none beyond the given rows.
-/
import Derived.Test.YtnanheiakfekdaaGreatDoorTie
import Derived.Test.YtnanheiakfekdaaGreatDoorCards
import Derived.Test.YtnanheiakfekdaaGreatDoorU7
set_option linter.unusedVariables false
set_option linter.unusedSimpArgs false
namespace Go.W
open Go Go.Proofs Go.RowKit
open AK (enc)
set_option maxRecDepth 20000
variable {w:World}

theorem l28_DeskGrows_sp{s m:Tx}(G:HY w)(z:s.length<=1000000000000000)(A:m.length<=1000000000000000):Sp PP 3 #[Ag s,Ag m] w λv w'=>v=.bool true/\AC w w':=by
 have o:=AM s;have p:=AM m;refine eN ?_;refine AA Zs ?_;rintro _ w1 ⟨⟨b,rfl⟩,B⟩
 cases b with
 |true =>
  refine AA (PE (G.up (w':=w1))) ?_;rintro _ a ⟨rfl,q⟩;exact⟨rfl,stp⟩
 |false =>
  refine FD (by omega) ?_;refine AA Zs ?_;rintro _ a ⟨⟨b,rfl⟩,q⟩
  cases b with
  |true =>
   refine AA (PE (G.up (w':=a))) ?_;rintro _ e ⟨rfl,g⟩;exact⟨rfl,stp⟩
  |false =>
   refine ite (λh0=>?_) (λh0=>?_)
   ·refine AA (PE (G.up (w':=a))) ?_;rintro _ e ⟨rfl,g⟩;exact⟨rfl,stp⟩
   have f:0<s.length:=by omega
   refine rF (s.length - 1) (FT (i:=s.length - 1) (c:=s[s.length - 1]) (by simp) (ite (λk=>?_) (λk=>?_)))
   ·refine AA (PE (G.up (w':=a))) ?_;rintro _ e ⟨rfl,g⟩;exact⟨rfl,stp⟩
   have r:s[s.length - 1]=10:=UInt8.toNat_inj.1 (by have h:¬((s[s.length - 1].toNat:Nat):Int)≠10:=k;have l:(10:UInt8).toNat=10:=rfl;omega);refine rF (s.length+m.length) (ite (λl=>?_) (λl=>?_))
   ·refine AA (PE (G.up (w':=a))) ?_;rintro _ e ⟨rfl,g⟩;exact⟨rfl,stp⟩
   refine AA (TI (G.up (w':=a)) (by omega)) ?_;rintro _ e ⟨rfl,g⟩;refine FD (by omega) ?_;refine AA (TI (G.up (w':=e)) (by rw[Qb];omega)) ?_;rintro _ t ⟨rfl,C⟩;have u:=jD (m:=m) (Or.inl (pV f r));obtain⟨d,hd⟩:=u;refine AA (PE (G.up (w':=t))) ?_;rintro _ D ⟨rfl,E⟩;refine iT rfl (iT rfl ?_);have j:=AM (BK EE (AE s));have x:=AM (BK EE (AE (s++m)));have F:(BK EE (AE s)).length<=(BK EE (AE (s++m))).length:=by rw[hd,Qb];omega
   refine iT (by omega) ?_;have y:Value.int .i64 (((⟨(BK EE (AE s)).toArray⟩:ByteArray).size:Nat):Int)=.int .i64 ((BK EE (AE s)).length:Nat):=congrArg (λn:Nat=>Value.int .i64 (n:Int)) j;have hb:(BK EE (AE s)).length<=(⟨(BK EE (AE (s++m))).toArray⟩:ByteArray).size:=by omega
   refine Hh y hb ?_;refine DL (λ_=>⟨rfl,stp⟩) (λh=>absurd ?_ h);rw[Na,Jf,JF,hd,List.take_left'];rfl
end Go.W
namespace Go.Proofs.YtnanheiakfekdaaGreatDoor
open Go.W Go.ChangeShapes
set_option maxRecDepth 100000
set_option linter.unusedVariables false
theorem and_tt{a b:Bool}(h:a=true)(k:b=true):(a && b)=true:=by rw[h,k];rfl
theorem deskGrows_lifted(os:Os)(b:os.Started)(H:Type)(d:TypeId×Value->H):
  ReturnsInHanded {} Tryz.checked os 3 .any (λw args=>(Rows.deskGrowsSpec.pre d PP Tryz.f3 Rows.deskGrowsRow.domain false w args/\laidMetH PP ED w)/\sizedMet d PP Tryz.f3 (OpenSpec.ofChange Rows.deskGrowsSpec) false w args) (Rows.deskGrowsSpec.post d PP Tryz.f3 false true false false):=by
 refine dX (C:=Tryz.checked) YG Sy b (by kernel_rfl) Tryz.func3
  (ChangeSpec.witness_shaped (enc:=d) (C:=Tryz.checked) (os:=os) (X:=λw _=>laidMetH PP ED w) false (World.laidAll PP os ED) #[.string ⟨#[]⟩,.string ⟨#[]⟩] 8 (World.laidAll_os _ _ _)
   (bR os _) (by kernel_rfl) (by kernel_rfl) (by kernel_rfl) (dB os _)) Np (by kernel_rfl) rfl (tb:=4) (by kernel_rfl) (by kernel_rfl) ?_ ?_
 ·intro ds hd
  match ds,hd with
  |[_,_],_=>rfl
 ·intro W e args ds ps h i a g c;have a:∀(j:Nat) t v,Tryz.f3.params[j]? = some t->args[j]? = some v->Value.okWide PP W .any e t v:=a;have g:DataW.TrodAll d PP W 0 (λ_=>true) true Tryz.f3.params.toList args.toList ds ps:=g;rw[Tryz.params3]at g a;have c:(DataW.weightsEach PP Tryz.f3.params.toList ds).all (·<=reachBytes)=true:=c;rw[Tryz.params3]at c;have f:=trodAll_two g;obtain⟨n,o,p,q,r,u,rfl,rfl,rfl,h0,k⟩:=f;have f:=KM (a 0 _ _ rfl rfl) h0 (XX c).1;obtain⟨s,rfl,sb⟩:=f;have f:=KM (a 1 _ _ rfl rfl) k (XX (XX c).2).1;obtain⟨m,rfl,l⟩:=f;exact cI (l28_DeskGrows_sp (Lt h i) sb l)
theorem deskGrows_k0:(λ(P:Program) (f:FuncId) (fn:Func) (s:ChangeSpec) (c:OpenClaim)=>(c.wf (OpenSpec.ofChange s):Bool)) PP 3 Tryz.f3 Rows.deskGrowsSpec Rows.deskGrowsRow=true:=by kernel_rfl
theorem deskGrows_k1:(λ(P:Program) (f:FuncId) (fn:Func) (s:ChangeSpec) (c:OpenClaim)=>(laidOutB P:Bool)) PP 3 Tryz.f3 Rows.deskGrowsSpec Rows.deskGrowsRow=true:=by kernel_rfl
theorem deskGrows_k2:(λ(P:Program) (f:FuncId) (fn:Func) (s:ChangeSpec) (c:OpenClaim)=>(mapsRowed P:Bool)) PP 3 Tryz.f3 Rows.deskGrowsSpec Rows.deskGrowsRow=true:=by kernel_rfl
theorem deskGrows_k3:(λ(P:Program) (f:FuncId) (fn:Func) (s:ChangeSpec) (c:OpenClaim)=>(fn.params.all (P.readableRec ·):Bool)) PP 3 Tryz.f3 Rows.deskGrowsSpec Rows.deskGrowsRow=true:=by kernel_rfl
theorem deskGrows_k4:(λ(P:Program) (f:FuncId) (fn:Func) (s:ChangeSpec) (c:OpenClaim)=>(namedTie P c.named s.vars:Bool)) PP 3 Tryz.f3 Rows.deskGrowsSpec Rows.deskGrowsRow=true:=by kernel_rfl
theorem deskGrows_k5:(λ(P:Program) (f:FuncId) (fn:Func) (s:ChangeSpec) (c:OpenClaim)=>((c.stops==[]):Bool)) PP 3 Tryz.f3 Rows.deskGrowsSpec Rows.deskGrowsRow=true:=by kernel_rfl
theorem deskGrows_k6:(λ(P:Program) (f:FuncId) (fn:Func) (s:ChangeSpec) (c:OpenClaim)=>((P.stops==[]):Bool)) PP 3 Tryz.f3 Rows.deskGrowsSpec Rows.deskGrowsRow=true:=by kernel_rfl
theorem deskGrows_k7:(λ(P:Program) (f:FuncId) (fn:Func) (s:ChangeSpec) (c:OpenClaim)=>((c.knobs==[]):Bool)) PP 3 Tryz.f3 Rows.deskGrowsSpec Rows.deskGrowsRow=true:=by kernel_rfl
theorem deskGrows_k8:(λ(P:Program) (f:FuncId) (fn:Func) (s:ChangeSpec) (c:OpenClaim)=>((P.stopKnobs==[]):Bool)) PP 3 Tryz.f3 Rows.deskGrowsSpec Rows.deskGrowsRow=true:=by kernel_rfl
theorem deskGrows_k9:(λ(P:Program) (f:FuncId) (fn:Func) (s:ChangeSpec) (c:OpenClaim)=>((c.inPlace==P.inPlace f):Bool)) PP 3 Tryz.f3 Rows.deskGrowsSpec Rows.deskGrowsRow=true:=by kernel_rfl
theorem deskGrows_k10:(λ(P:Program) (f:FuncId) (fn:Func) (s:ChangeSpec) (c:OpenClaim)=>((c.unfollowed==P.unfollowed f):Bool)) PP 3 Tryz.f3 Rows.deskGrowsSpec Rows.deskGrowsRow=true:=by kernel_rfl
theorem deskGrows_k11:(λ(P:Program) (f:FuncId) (fn:Func) (s:ChangeSpec) (c:OpenClaim)=>((c.recurses==P.recurses f):Bool)) PP 3 Tryz.f3 Rows.deskGrowsSpec Rows.deskGrowsRow=true:=by kernel_rfl
theorem deskGrows_k12:(λ(P:Program) (f:FuncId) (fn:Func) (s:ChangeSpec) (c:OpenClaim)=>((c.named==P.varsNamed f):Bool)) PP 3 Tryz.f3 Rows.deskGrowsSpec Rows.deskGrowsRow=true:=by kernel_rfl
theorem deskGrows_k13:(λ(P:Program) (f:FuncId) (fn:Func) (s:ChangeSpec) (c:OpenClaim)=>((c.maps==(fn.params.toList++s.plain.varTypes P).any (P.mapsRec ·)):Bool)) PP 3 Tryz.f3 Rows.deskGrowsSpec Rows.deskGrowsRow=true:=by kernel_rfl
theorem deskGrows_k14:(λ(P:Program) (f:FuncId) (fn:Func) (s:ChangeSpec) (c:OpenClaim)=>((c.ifaces==(fn.params.toList++s.plain.varTypes P).any (P.ifacesRec ·)):Bool)) PP 3 Tryz.f3 Rows.deskGrowsSpec Rows.deskGrowsRow=true:=by kernel_rfl
theorem deskGrows_k15:(λ(P:Program) (f:FuncId) (fn:Func) (s:ChangeSpec) (c:OpenClaim)=>((c.mapsOut==P.mapsAmong fn.resultTypes.toList):Bool)) PP 3 Tryz.f3 Rows.deskGrowsSpec Rows.deskGrowsRow=true:=by kernel_rfl
theorem deskGrows_k16:(λ(P:Program) (f:FuncId) (fn:Func) (s:ChangeSpec) (c:OpenClaim)=>((c.loops==(fn.params.toList++s.plain.varTypes P).any (P.loopsFrom ·)):Bool)) PP 3 Tryz.f3 Rows.deskGrowsSpec Rows.deskGrowsRow=true:=by kernel_rfl
theorem deskGrows_k17:(λ(P:Program) (f:FuncId) (fn:Func) (s:ChangeSpec) (c:OpenClaim)=>((c.wideKeys==(fn.params.toList++s.plain.varTypes P++fn.resultTypes.toList).any (P.wideKeysFrom ·)):Bool)) PP 3 Tryz.f3 Rows.deskGrowsSpec Rows.deskGrowsRow=true:=by kernel_rfl
theorem deskGrows_k18:(λ(P:Program) (f:FuncId) (fn:Func) (s:ChangeSpec) (c:OpenClaim)=>(s.vars.all (P.varReadable ·):Bool)) PP 3 Tryz.f3 Rows.deskGrowsSpec Rows.deskGrowsRow=true:=by kernel_rfl
theorem deskGrows_k19:(λ(P:Program) (f:FuncId) (fn:Func) (s:ChangeSpec) (c:OpenClaim)=>(fn.resultTypes.all (λt=>P.readableRec t && decide (t<P.types.size)):Bool)) PP 3 Tryz.f3 Rows.deskGrowsSpec Rows.deskGrowsRow=true:=by kernel_rfl
theorem deskGrows_k20:(λ(P:Program) (f:FuncId) (fn:Func) (s:ChangeSpec) (c:OpenClaim)=>((c.ifacesOut==fn.resultTypes.toList.any (P.ifacesRec ·)):Bool)) PP 3 Tryz.f3 Rows.deskGrowsSpec Rows.deskGrowsRow=true:=by kernel_rfl
theorem deskGrows_k21:(λ(P:Program) (f:FuncId) (fn:Func) (s:ChangeSpec) (c:OpenClaim)=>((c.loopsOut==fn.resultTypes.toList.any (P.loopsFrom ·)):Bool)) PP 3 Tryz.f3 Rows.deskGrowsSpec Rows.deskGrowsRow=true:=by kernel_rfl
theorem deskGrows_k22:(λ(P:Program) (f:FuncId) (fn:Func) (s:ChangeSpec) (c:OpenClaim)=>((c.plainKeys==P.plainKeys):Bool)) PP 3 Tryz.f3 Rows.deskGrowsSpec Rows.deskGrowsRow=true:=by kernel_rfl
theorem deskGrows_k23:(λ(P:Program) (f:FuncId) (fn:Func) (s:ChangeSpec) (c:OpenClaim)=>(c.shortTexts.isNone:Bool)) PP 3 Tryz.f3 Rows.deskGrowsSpec Rows.deskGrowsRow=true:=by kernel_rfl
theorem deskGrows_k24:(λ(P:Program) (f:FuncId) (fn:Func) (s:ChangeSpec) (c:OpenClaim)=>(P.stopsHeard:Bool)) PP 3 Tryz.f3 Rows.deskGrowsSpec Rows.deskGrowsRow=true:=by kernel_rfl
theorem deskGrows_k25:(λ(P:Program) (f:FuncId) (fn:Func) (s:ChangeSpec) (c:OpenClaim)=>(P.mayEnter:Bool)) PP 3 Tryz.f3 Rows.deskGrowsSpec Rows.deskGrowsRow=true:=by kernel_rfl
theorem deskGrows_k26:(λ(P:Program) (f:FuncId) (fn:Func) (s:ChangeSpec) (c:OpenClaim)=>((c.lifted==P.liftsFinal):Bool)) PP 3 Tryz.f3 Rows.deskGrowsSpec Rows.deskGrowsRow=true:=by kernel_rfl
theorem deskGrows_k27:(λ(P:Program) (f:FuncId) (fn:Func) (s:ChangeSpec) (c:OpenClaim)=>((P.make==some c.make):Bool)) PP 3 Tryz.f3 Rows.deskGrowsSpec Rows.deskGrowsRow=true:=by kernel_rfl
theorem deskGrows_k28:(λ(P:Program) (f:FuncId) (fn:Func) (s:ChangeSpec) (c:OpenClaim)=>((c.kinds==(if c.domain.isEmpty then[] else fn.params.toList.map λt=>match P.underlying t with|some (.int k)=>some k|_=>none)):Bool)) PP 3 Tryz.f3 Rows.deskGrowsSpec Rows.deskGrowsRow=true:=by kernel_rfl
theorem deskGrows_k29:(λ(P:Program) (f:FuncId) (fn:Func) (s:ChangeSpec) (c:OpenClaim)=>((c.pinned==c.pinnedBy):Bool)) PP 3 Tryz.f3 Rows.deskGrowsSpec Rows.deskGrowsRow=true:=by kernel_rfl
theorem deskGrows_k30:(λ(P:Program) (f:FuncId) (fn:Func) (s:ChangeSpec) (c:OpenClaim)=>((c.veiled==(fn.params.toList++s.plain.varTypes P++fn.resultTypes.toList).any (P.veiledRec ·)):Bool)) PP 3 Tryz.f3 Rows.deskGrowsSpec Rows.deskGrowsRow=true:=by kernel_rfl
theorem deskGrows_k31:(λ(P:Program) (f:FuncId) (fn:Func) (s:ChangeSpec) (c:OpenClaim)=>(c.veiledFits P fn.params.toList (fn.params.toList++s.plain.varTypes P++fn.resultTypes.toList):Bool)) PP 3 Tryz.f3 Rows.deskGrowsSpec Rows.deskGrowsRow=true:=by kernel_rfl
theorem deskGrows_closed:joinedFacts PP 3 Tryz.f3 Rows.deskGrowsSpec Rows.deskGrowsRow=true:=(and_tt (and_tt (and_tt (and_tt (and_tt (and_tt (and_tt (and_tt (and_tt (and_tt (and_tt (and_tt (and_tt (and_tt (and_tt (and_tt (and_tt (and_tt (and_tt (and_tt (and_tt (and_tt (and_tt (and_tt (and_tt (and_tt (and_tt (and_tt (and_tt (and_tt (and_tt deskGrows_k0 deskGrows_k1) deskGrows_k2) deskGrows_k3) deskGrows_k4) deskGrows_k5) deskGrows_k6) deskGrows_k7) deskGrows_k8) deskGrows_k9) deskGrows_k10) deskGrows_k11) deskGrows_k12) deskGrows_k13) deskGrows_k14) deskGrows_k15) deskGrows_k16) deskGrows_k17) deskGrows_k18) deskGrows_k19) deskGrows_k20) deskGrows_k21) deskGrows_k22) deskGrows_k23) deskGrows_k24) deskGrows_k25) deskGrows_k26) deskGrows_k27) deskGrows_k28) deskGrows_k29) deskGrows_k30) deskGrows_k31)
theorem deskGrows_named:PP.funcNamed Rows.deskGrowsRow.func=some 3:=by kernel_rfl
theorem deskGrows_inst:Tryz.f3.isInstance PP Rows.deskGrowsRow.origin Rows.deskGrowsRow.targs:=of_decide_eq_true (by kernel_rfl)
theorem deskGrows_wrap:Tryz.f3.isWrapper PP Rows.deskGrowsRow.wrapper Rows.deskGrowsRow.mainSum:=by unfold Func.isWrapper;first|(rw[if_pos (by decide +kernel)];kernel_rfl)|(rw[if_neg (by decide +kernel)];exact⟨rfl,rfl⟩)
theorem deskGrows_holds:Rows.DeskGrowsSaid:=
 OpenClaim.holds_of_wide (p:=Tryz.pinned) 3 Tryz.f3 rfl rfl rfl rfl rfl rfl rfl ⟨rfl,rfl,rfl,rfl,rfl⟩ rfl rfl rfl rfl rfl deskGrows_named Tryz.func3 deskGrows_closed deskGrows_inst deskGrows_wrap
  (λos a H enc _=>deskGrows_lifted os a H enc)
#print axioms deskGrows_holds
theorem deskGrows_card:Rows.DeskGrowsCardSaid:=
 Claim7.holds_tied_plain_at .later [] [.data, .data, .data, .data, .sentinel, .sentinel, .pinned] true (true, "b0dced846b3b3a43fa766eea3dc368acb4278f8c5c550bf406976ed2125d2229") true
  deskGrows_holds (λ_ h=>by cases h) (by kernel_rfl) (λ_ h=>by cases h) deskGrows_row_tie rfl ⟨rfl,rfl⟩ dC rfl
  (λf fn d a=>by
   have b:3=f:=QL (deskGrows_named.symm.trans d);obtain rfl:=b;have b:Tryz.f3=fn:=QL (Tryz.func3.symm.trans a);obtain rfl:=b;refine⟨bQ,λj t c=>?_⟩;rw[Tryz.params3]at c;have g:t∈[9,9]:=by simpa using Array.mem_of_getElem? c
   have e:t=9:=by simpa using g
   rw[e];exact Sv)
  (bK TJ rfl)
#print axioms deskGrows_card
end Go.Proofs.YtnanheiakfekdaaGreatDoor
