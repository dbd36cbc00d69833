/-
  Proved here: the statement that the last theorem names: for every input the law returns true, and the input reads as it did.
  Conditions: none beyond the given rows.
-/
import Derived.Test.YtnanheiakfekdaaGreatDoorTie
import Derived.Test.YtnanheiakfekdaaGreatDoorCards
import Derived.Test.YtnanheiakfekdaaGreatDoorU7
set_option maxHeartbeats 1000000
set_option linter.unusedVariables false
set_option linter.unusedSimpArgs false
namespace Go.W
open Go Go.Proofs Go.RowKit
open AK (enc)
set_option maxRecDepth 20000
variable {k:Nat} {w:World}

def OneL (t:Tx):Prop:=(10:UInt8)∉t/\t≠[]
theorem dgt_ne(h:k<10):UInt8.ofNat (48+k)≠10:=λe=>by
 have a:=congrArg UInt8.toNat e;have b:(10:UInt8).toNat=10:=rfl;rw[b,JZ]at a;omega
theorem dd_one:∀u:Nat,OneL (Lib.decDigits u)
 |u=>by
  rw[Lib.decDigits];split
  ·rename_i h;exact⟨λa=>dgt_ne h (Qc.1 a).symm,by simp⟩
  ·rename_i h;have:=dd_one (u / 10);refine⟨λa=>?_,by simp⟩;have b:=Qf.1 a;rcases b with a|a
   ·exact this.1 a
   ·exact dgt_ne (Nat.mod_lt _ (by decide)) (Qc.1 a).symm
termination_by u=>u
theorem itoa_one(n:Int):OneL (Lib.itoa n):=by
 unfold Lib.itoa;split
 ·refine⟨λa=>?_,by simp⟩;have b:=Ql.1 a;rcases b with a|a
  ·exact absurd a (by decide)
  ·exact(dd_one _).1 a
 ·exact dd_one _
theorem OneL.app{a b:Tx}(h:OneL a)(hb:(10:UInt8)∉b):OneL (a++b):=⟨λd=>by
 have e:=Qf.1 d;rcases e with d|d
 ·exact h.1 d
 ·exact hb d,by have:=h.2;cases a with|nil=>exact absurd rfl this|cons c r=>simp⟩
theorem join_one2{sep:Tx}(b:(10:UInt8)∉sep):∀{l:List Tx},l≠[]->(∀t∈l,OneL t)->OneL (Lib.join l sep)
 |[],h,_=>absurd rfl h
 |[x],_,h=>by rw[Lib.join_one];exact h x (by simp)
 |x::y::r,_,h=>by
  have c:=join_one2 b (l:=y::r) (by simp) λt d=>h t (QF _ d)
  have e:Lib.join (x::y::r) sep=x++(sep++Lib.join (y::r) sep):=by
   rw[Lib.join_cons,Lib.join_cons];simp[Lib.joinTail]
  rw[e];refine(h x (by simp)).app λa=>?_;have f:=Qf.1 a;rcases f with a|a
  ·exact b a
  ·exact c.1 a
theorem some_one{l:List Tx}{sep:Tx}(b:(10:UInt8)∉sep)(h:∀t∈l,OneL t):OneL (EO l sep):=by
 unfold EO;split
 ·exact⟨by decide,by simp⟩
 ·rename_i a;exact join_one2 b a h
theorem nums_one(l:List Int):OneL (EA l):=some_one (by decide) λt a=>by
 have b:=Qq.1 a;obtain⟨x,_,rfl⟩:=b;exact itoa_one x
theorem trep_one(p:Int×Int×Gk):OneL (Da p):=by
 unfold Da;split
 ·refine((itoa_one _).app (by decide)).app (itoa_one _).1
 ·refine join_one2 (by decide) (by simp) λt a=>?_;have b:=Qf.1 a;rcases b with a|a
  ·simp only[Ql,Xf,or_false]at a;rcases a with rfl|rfl|rfl
   ·exact itoa_one _
   ·split<;>exact⟨by decide,by simp⟩
   ·exact itoa_one _
  ·have b:=Qq.1 a;obtain⟨y,_,rfl⟩:=b;exact((itoa_one _).app (by decide)).app (itoa_one _).1
theorem err_one(e:Int):OneL (Ih e):=by
 unfold Ih;refine⟨λa=>?_,by simp⟩;have b:=Qf.1 a;rcases b with a|a
 ·exact absurd a (by decide)
 ·exact(itoa_one e).1 a
theorem ok_one:OneL Is:=⟨by decide,by decide⟩
theorem come_one{d:DF}{x:Bt}{t:Tx}{d':DF}(h:CY d x=.ok (t,d')):OneL t:=by
 unfold CY at h;split at h
 ·cases h
 ·split at h
  ·have:=Except.ok.inj h;have a:=congrArg Prod.fst this;dsimp only at a;rw[<-a];split
   ·exact ok_one
   ·exact trep_one _
  ·cases h
theorem do_one{d:DF}{k:Ln}{n:List Int}{ts:List Tx}{t:Tx}{d':DF}(h:EW d k n ts=.ok (t,d')):OneL t:=by
 have fin:∀{a:Tx} {b:DF},(Except.ok (a,b):Except Int (Tx×DF))=.ok (t,d')->OneL a->OneL t:=λh e=>by
  have c:=congrArg Prod.fst (Except.ok.inj h);dsimp only at c;rw[<-c];exact e
 cases k<;>unfold EW at h<;>dsimp only at h
 case graph=>split at h;cases h;exact fin h ok_one
 case edge=>split at h;exact fin h ok_one;cases h
 case word=>split at h;cases h;split at h;exact fin h ok_one;cases h
 case path=>split at h;cases h;exact fin h (nums_one _)
 case hubs=>exact fin h (itoa_one _)
 case server=>split at h;exact fin h ok_one;cases h
 case dist=>exact come_one h
 case reach=>exact come_one h
 case near=>exact come_one h
 case cancel=>exact come_one h
 case tick=>split at h;cases h;exact fin h (some_one (by decide) λt f=>by obtain⟨p,_,rfl⟩:=Qq.1 f;exact trep_one p)
 case live=>split at h;cases h;exact fin h (nums_one _)
 case held=>split at h;cases h;exact fin h (nums_one _)
 case waits=>split at h;cases h;exact fin h (nums_one _)
theorem told_one(d:DF)(s:Tx):OneL (AT d s).1:=by
 have a:OneL GA:=⟨by decide,by decide⟩;unfold AT;split
 ·exact a
 ·split
  ·exact a
  ·split
   ·exact a
   ·split
    ·exact(⟨by decide,by decide⟩:OneL KH)
    ·split
     ·rename_i r b;exact do_one (t:=r.1) (d':=r.2) b
     ·exact err_one _
noncomputable def FB:DF->List Tx->List Tx
 |_,[]=>[]
 |d,s::r=>(AT d s).1::FB (AT d s).2 r
theorem lines_run:∀(l:List Tx) (d:DF),AE (BK d l)=FB d l
 |[],_=>rfl
 |s::r,d=>by
  show AE ((AT d s).1++[10]++BK _ r)=_;rw[Qp];show AE ((AT d s).1++10::BK _ r)=_;rw[Zx (told_one d s).1,lines_run r];rfl
theorem tolds_len:∀(l:List Tx) (d:DF),(FB d l).length=l.length
 |[],_=>rfl
 |s::r,d=>by show(FB _ r).length+1=_;rw[tolds_len r];rfl
theorem tolds_at:∀(l:List Tx) (d:DF) (i:Nat) (h:i<l.length) (a:i<(FB d l).length),∃d',(FB d l)[i]=(AT d' l[i]).1
 |s::r,d,0,_,_=>⟨d,rfl⟩
 |s::r,d,i+1,h,a=>tolds_at r _ i (by simpa using h) (by simpa[FB]using a)
theorem told_empty(d:DF):(AT d []).1=GA:=rfl
theorem run_last:∀(l:List Tx) (d:DF),BK d l=[]\/(BK d l).getLast? = some 10
 |[],_=>.inl rfl
 |s::r,d=>by
  right;show((AT d s).1++[10]++BK _ r).getLast? = _;have a:=run_last r (AT d s).2;rcases a with h|h
  ·rw[h,QE];simp
  ·rw[List.getLast?_append,h];rfl
theorem l28_DeskLines_sp{s:Tx}(G:HY w):Sp PP 4 #[Ag s] w λv w'=>v=.bool true/\AC w w':=by
 have L:=AM s;refine eN ?_;refine AA Zs ?_;rintro _ w1 ⟨⟨b,rfl⟩,U⟩
 cases b with
 |true=>exact⟨rfl,stp⟩
 |false =>
  refine ite (λh0=>⟨rfl,stp⟩) (λh0=>?_);have p:s.length<=6000:=by omega
  refine AA (oI (G.up (w':=w1)) p) ?_;rintro _ V ⟨rfl,W,a⟩;refine AA (bG (s:=s) (by omega)) ?_;rintro X Y ⟨q,Z⟩;refine AA (bG a) ?_;rintro v2 M ⟨n,e4⟩;rw[lines_run]at n;have r:=tolds_len (AE s) EE;have d:=q.shape;obtain⟨N,O,rfl⟩:=d;have d:=n.shape;obtain⟨a2,c2,rfl⟩:=d;have y:(Ej (AE s)).length=(AE s).length:=Qr ..;have B:(Ej (FB EE (AE s))).length=(AE s).length:=(Qr ..).trans r;rw[y]at q ⊢;rw[B]at n ⊢
  have P:(AE s).length<=s.length+1:=by
   unfold AE;split
   ·simp
   ·refine Qw (Wr 10 _) ?_;split
    ·rw[List.length_dropLast];omega
    ·omega
  refine iF (· rfl) (iF (· rfl) (cN 33 [2] 7 (AE s).length (λi u=>AC M u) ?_ ?_))
  ·exact stp
  rintro i G2 u hi I;refine ite (λAY=>?_) (λQ=>?_)
  ·have f:i<(AE s).length:=by omega
   have d:∃t,t=(AE s)[i]:=⟨_,rfl⟩;obtain⟨t,J⟩:=d;have d:∃z,z=(FB EE (AE s))[i]'(by omega):=⟨_,rfl⟩;obtain⟨z,C⟩:=d;have d:=tolds_at (AE s) EE i f (by omega);obtain⟨R,g⟩:=d;have D:OneL z:=by rw[C,g];exact told_one _ _
   have E:t=[]->z=GA:=λh=>by rw[C,g,<-J,h];exact told_empty R
   have j:∀{k:KW} {F:PW},(∀b o,At u b o (enc (⟨t.toArray⟩:ByteArray))->k (.pointer (some ⟨b,o,none⟩)) u)->AI PP (Instr.indexAt 28 (.slice N (AE s).length O) (.int .i64 i)) k F u:=λH=>Bv (l:=Ej (AE s)) (q.sl.up (w':=u)) (i:=i) (x:=(⟨t.toArray⟩:ByteArray)) (by rw[QK,Qd f,J];rfl) H;have e:∀{k:KW} {F:PW},(∀b o,At u b o (enc (⟨z.toArray⟩:ByteArray))->k (.pointer (some ⟨b,o,none⟩)) u)->AI PP (Instr.indexAt 28 (.slice a2 (AE s).length c2) (.int .i64 i)) k F u:=λH=>Bv (l:=Ej (FB EE (AE s))) (n.sl.up (w':=u)) (i:=i) (x:=(⟨z.toArray⟩:ByteArray)) (by rw[QK,Qd (by omega),C];rfl) H;have fin:∀h:(⟨z.toArray⟩:ByteArray)=⟨#[]⟩,False:=λh=>D.2 (ST h);refine j λb o A=>AF (A.cell0 rfl) ?_;refine DL (λK=>?_) (λK=>?_)
   ·refine e λb o A=>AF (A.cell0 rfl) ?_;have S:z=GA:=E (ST K);subst S;refine Sd (λh=>absurd rfl h) (λ_=>?_);refine e λb o A=>AF (A.cell0 rfl) ?_;refine DL (λh=>(fin h).elim) (λ_=>?_);exact rA ⟨rfl,f,I⟩
   ·refine e λb o A=>AF (A.cell0 rfl) ?_;refine DL (λh=>(fin h).elim) (λ_=>?_);exact rA ⟨rfl,f,I⟩
  ·refine AA (PE (G.up (w':=u))) ?_;rintro _ w6 ⟨rfl,e6⟩;have T:=AM (BK EE (AE s));have d:=run_last (AE s) EE;refine ite (λ_=>⟨rfl,stp⟩) (λh0=>?_);have a:0<(BK EE (AE s)).length:=by omega
   have m:(BK EE (AE s)).getLast? = some 10:=d.resolve_left λh=>by rw[h]at a;exact absurd a (by decide)
   rw[List.getLast?_eq_getElem?]at m;refine rF ((BK EE (AE s)).length - 1) (FT (i:=(BK EE (AE s)).length - 1) (c:=10) (by simpa using m) ?_);exact ite (λ_=>⟨rfl,stp⟩) (λh=>absurd rfl h)
end Go.W
namespace Go.Proofs.YtnanheiakfekdaaGreatDoor
open Go.W Go.ChangeShapes
set_option maxRecDepth 100000
set_option linter.unusedVariables false
theorem and_tt{a b:Bool}(h:a=true)(k:b=true):(a && b)=true:=by rw[h,k];rfl
theorem deskLines_lifted(os:Os)(b:os.Started)(H:Type)(d:TypeId×Value->H):
  ReturnsInHanded {} Tryz.checked os 4 .any (λw args=>(Rows.deskLinesSpec.pre d PP Tryz.f4 Rows.deskLinesRow.domain false w args/\laidMetH PP ED w)/\sizedMet d PP Tryz.f4 (OpenSpec.ofChange Rows.deskLinesSpec) false w args) (Rows.deskLinesSpec.post d PP Tryz.f4 false true false false):=by
 refine dX (C:=Tryz.checked) YG Sy b (by kernel_rfl) Tryz.func4
  (ChangeSpec.witness_shaped (enc:=d) (C:=Tryz.checked) (os:=os) (X:=λw _=>laidMetH PP ED w) false (World.laidAll PP os ED) #[.string ⟨#[]⟩] 8 (World.laidAll_os _ _ _)
   (bR os _) (by kernel_rfl) (by kernel_rfl) (by kernel_rfl) (dB os _)) Np (by kernel_rfl) rfl (tb:=4) (by kernel_rfl) (by kernel_rfl) ?_ ?_
 ·intro ds hd
  match ds,hd with
  |[_],_=>rfl
 ·intro W e args ds ps g i a f c;have a:∀(j:Nat) t v,Tryz.f4.params[j]? = some t->args[j]? = some v->Value.okWide PP W .any e t v:=a;have f:DataW.TrodAll d PP W 0 (λ_=>true) true Tryz.f4.params.toList args.toList ds ps:=f;rw[Tryz.params4]at f a;have c:(DataW.weightsEach PP Tryz.f4.params.toList ds).all (·<=reachBytes)=true:=c;rw[Tryz.params4]at c;have h:=trodAll_one f;obtain⟨k,l,rfl,rfl,h0⟩:=h;have h:=KM (a 0 _ _ rfl rfl) h0 (XX c).1;obtain⟨s,rfl,sb⟩:=h;exact cI (l28_DeskLines_sp (Lt g i))
theorem deskLines_k0:(λ(P:Program) (f:FuncId) (fn:Func) (s:ChangeSpec) (c:OpenClaim)=>(c.wf (OpenSpec.ofChange s):Bool)) PP 4 Tryz.f4 Rows.deskLinesSpec Rows.deskLinesRow=true:=by kernel_rfl
theorem deskLines_k1:(λ(P:Program) (f:FuncId) (fn:Func) (s:ChangeSpec) (c:OpenClaim)=>(laidOutB P:Bool)) PP 4 Tryz.f4 Rows.deskLinesSpec Rows.deskLinesRow=true:=by kernel_rfl
theorem deskLines_k2:(λ(P:Program) (f:FuncId) (fn:Func) (s:ChangeSpec) (c:OpenClaim)=>(mapsRowed P:Bool)) PP 4 Tryz.f4 Rows.deskLinesSpec Rows.deskLinesRow=true:=by kernel_rfl
theorem deskLines_k3:(λ(P:Program) (f:FuncId) (fn:Func) (s:ChangeSpec) (c:OpenClaim)=>(fn.params.all (P.readableRec ·):Bool)) PP 4 Tryz.f4 Rows.deskLinesSpec Rows.deskLinesRow=true:=by kernel_rfl
theorem deskLines_k4:(λ(P:Program) (f:FuncId) (fn:Func) (s:ChangeSpec) (c:OpenClaim)=>(namedTie P c.named s.vars:Bool)) PP 4 Tryz.f4 Rows.deskLinesSpec Rows.deskLinesRow=true:=by kernel_rfl
theorem deskLines_k5:(λ(P:Program) (f:FuncId) (fn:Func) (s:ChangeSpec) (c:OpenClaim)=>((c.stops==[]):Bool)) PP 4 Tryz.f4 Rows.deskLinesSpec Rows.deskLinesRow=true:=by kernel_rfl
theorem deskLines_k6:(λ(P:Program) (f:FuncId) (fn:Func) (s:ChangeSpec) (c:OpenClaim)=>((P.stops==[]):Bool)) PP 4 Tryz.f4 Rows.deskLinesSpec Rows.deskLinesRow=true:=by kernel_rfl
theorem deskLines_k7:(λ(P:Program) (f:FuncId) (fn:Func) (s:ChangeSpec) (c:OpenClaim)=>((c.knobs==[]):Bool)) PP 4 Tryz.f4 Rows.deskLinesSpec Rows.deskLinesRow=true:=by kernel_rfl
theorem deskLines_k8:(λ(P:Program) (f:FuncId) (fn:Func) (s:ChangeSpec) (c:OpenClaim)=>((P.stopKnobs==[]):Bool)) PP 4 Tryz.f4 Rows.deskLinesSpec Rows.deskLinesRow=true:=by kernel_rfl
theorem deskLines_k9:(λ(P:Program) (f:FuncId) (fn:Func) (s:ChangeSpec) (c:OpenClaim)=>((c.inPlace==P.inPlace f):Bool)) PP 4 Tryz.f4 Rows.deskLinesSpec Rows.deskLinesRow=true:=by kernel_rfl
theorem deskLines_k10:(λ(P:Program) (f:FuncId) (fn:Func) (s:ChangeSpec) (c:OpenClaim)=>((c.unfollowed==P.unfollowed f):Bool)) PP 4 Tryz.f4 Rows.deskLinesSpec Rows.deskLinesRow=true:=by kernel_rfl
theorem deskLines_k11:(λ(P:Program) (f:FuncId) (fn:Func) (s:ChangeSpec) (c:OpenClaim)=>((c.recurses==P.recurses f):Bool)) PP 4 Tryz.f4 Rows.deskLinesSpec Rows.deskLinesRow=true:=by kernel_rfl
theorem deskLines_k12:(λ(P:Program) (f:FuncId) (fn:Func) (s:ChangeSpec) (c:OpenClaim)=>((c.named==P.varsNamed f):Bool)) PP 4 Tryz.f4 Rows.deskLinesSpec Rows.deskLinesRow=true:=by kernel_rfl
theorem deskLines_k13:(λ(P:Program) (f:FuncId) (fn:Func) (s:ChangeSpec) (c:OpenClaim)=>((c.maps==(fn.params.toList++s.plain.varTypes P).any (P.mapsRec ·)):Bool)) PP 4 Tryz.f4 Rows.deskLinesSpec Rows.deskLinesRow=true:=by kernel_rfl
theorem deskLines_k14:(λ(P:Program) (f:FuncId) (fn:Func) (s:ChangeSpec) (c:OpenClaim)=>((c.ifaces==(fn.params.toList++s.plain.varTypes P).any (P.ifacesRec ·)):Bool)) PP 4 Tryz.f4 Rows.deskLinesSpec Rows.deskLinesRow=true:=by kernel_rfl
theorem deskLines_k15:(λ(P:Program) (f:FuncId) (fn:Func) (s:ChangeSpec) (c:OpenClaim)=>((c.mapsOut==P.mapsAmong fn.resultTypes.toList):Bool)) PP 4 Tryz.f4 Rows.deskLinesSpec Rows.deskLinesRow=true:=by kernel_rfl
theorem deskLines_k16:(λ(P:Program) (f:FuncId) (fn:Func) (s:ChangeSpec) (c:OpenClaim)=>((c.loops==(fn.params.toList++s.plain.varTypes P).any (P.loopsFrom ·)):Bool)) PP 4 Tryz.f4 Rows.deskLinesSpec Rows.deskLinesRow=true:=by kernel_rfl
theorem deskLines_k17:(λ(P:Program) (f:FuncId) (fn:Func) (s:ChangeSpec) (c:OpenClaim)=>((c.wideKeys==(fn.params.toList++s.plain.varTypes P++fn.resultTypes.toList).any (P.wideKeysFrom ·)):Bool)) PP 4 Tryz.f4 Rows.deskLinesSpec Rows.deskLinesRow=true:=by kernel_rfl
theorem deskLines_k18:(λ(P:Program) (f:FuncId) (fn:Func) (s:ChangeSpec) (c:OpenClaim)=>(s.vars.all (P.varReadable ·):Bool)) PP 4 Tryz.f4 Rows.deskLinesSpec Rows.deskLinesRow=true:=by kernel_rfl
theorem deskLines_k19:(λ(P:Program) (f:FuncId) (fn:Func) (s:ChangeSpec) (c:OpenClaim)=>(fn.resultTypes.all (λt=>P.readableRec t && decide (t<P.types.size)):Bool)) PP 4 Tryz.f4 Rows.deskLinesSpec Rows.deskLinesRow=true:=by kernel_rfl
theorem deskLines_k20:(λ(P:Program) (f:FuncId) (fn:Func) (s:ChangeSpec) (c:OpenClaim)=>((c.ifacesOut==fn.resultTypes.toList.any (P.ifacesRec ·)):Bool)) PP 4 Tryz.f4 Rows.deskLinesSpec Rows.deskLinesRow=true:=by kernel_rfl
theorem deskLines_k21:(λ(P:Program) (f:FuncId) (fn:Func) (s:ChangeSpec) (c:OpenClaim)=>((c.loopsOut==fn.resultTypes.toList.any (P.loopsFrom ·)):Bool)) PP 4 Tryz.f4 Rows.deskLinesSpec Rows.deskLinesRow=true:=by kernel_rfl
theorem deskLines_k22:(λ(P:Program) (f:FuncId) (fn:Func) (s:ChangeSpec) (c:OpenClaim)=>((c.plainKeys==P.plainKeys):Bool)) PP 4 Tryz.f4 Rows.deskLinesSpec Rows.deskLinesRow=true:=by kernel_rfl
theorem deskLines_k23:(λ(P:Program) (f:FuncId) (fn:Func) (s:ChangeSpec) (c:OpenClaim)=>(c.shortTexts.isNone:Bool)) PP 4 Tryz.f4 Rows.deskLinesSpec Rows.deskLinesRow=true:=by kernel_rfl
theorem deskLines_k24:(λ(P:Program) (f:FuncId) (fn:Func) (s:ChangeSpec) (c:OpenClaim)=>(P.stopsHeard:Bool)) PP 4 Tryz.f4 Rows.deskLinesSpec Rows.deskLinesRow=true:=by kernel_rfl
theorem deskLines_k25:(λ(P:Program) (f:FuncId) (fn:Func) (s:ChangeSpec) (c:OpenClaim)=>(P.mayEnter:Bool)) PP 4 Tryz.f4 Rows.deskLinesSpec Rows.deskLinesRow=true:=by kernel_rfl
theorem deskLines_k26:(λ(P:Program) (f:FuncId) (fn:Func) (s:ChangeSpec) (c:OpenClaim)=>((c.lifted==P.liftsFinal):Bool)) PP 4 Tryz.f4 Rows.deskLinesSpec Rows.deskLinesRow=true:=by kernel_rfl
theorem deskLines_k27:(λ(P:Program) (f:FuncId) (fn:Func) (s:ChangeSpec) (c:OpenClaim)=>((P.make==some c.make):Bool)) PP 4 Tryz.f4 Rows.deskLinesSpec Rows.deskLinesRow=true:=by kernel_rfl
theorem deskLines_k28:(λ(P:Program) (f:FuncId) (fn:Func) (s:ChangeSpec) (c:OpenClaim)=>((c.kinds==(if c.domain.isEmpty then[] else fn.params.toList.map λt=>match P.underlying t with|some (.int k)=>some k|_=>none)):Bool)) PP 4 Tryz.f4 Rows.deskLinesSpec Rows.deskLinesRow=true:=by kernel_rfl
theorem deskLines_k29:(λ(P:Program) (f:FuncId) (fn:Func) (s:ChangeSpec) (c:OpenClaim)=>((c.pinned==c.pinnedBy):Bool)) PP 4 Tryz.f4 Rows.deskLinesSpec Rows.deskLinesRow=true:=by kernel_rfl
theorem deskLines_k30:(λ(P:Program) (f:FuncId) (fn:Func) (s:ChangeSpec) (c:OpenClaim)=>((c.veiled==(fn.params.toList++s.plain.varTypes P++fn.resultTypes.toList).any (P.veiledRec ·)):Bool)) PP 4 Tryz.f4 Rows.deskLinesSpec Rows.deskLinesRow=true:=by kernel_rfl
theorem deskLines_k31:(λ(P:Program) (f:FuncId) (fn:Func) (s:ChangeSpec) (c:OpenClaim)=>(c.veiledFits P fn.params.toList (fn.params.toList++s.plain.varTypes P++fn.resultTypes.toList):Bool)) PP 4 Tryz.f4 Rows.deskLinesSpec Rows.deskLinesRow=true:=by kernel_rfl
theorem deskLines_closed:joinedFacts PP 4 Tryz.f4 Rows.deskLinesSpec Rows.deskLinesRow=true:=(and_tt (and_tt (and_tt (and_tt (and_tt (and_tt (and_tt (and_tt (and_tt (and_tt (and_tt (and_tt (and_tt (and_tt (and_tt (and_tt (and_tt (and_tt (and_tt (and_tt (and_tt (and_tt (and_tt (and_tt (and_tt (and_tt (and_tt (and_tt (and_tt (and_tt (and_tt deskLines_k0 deskLines_k1) deskLines_k2) deskLines_k3) deskLines_k4) deskLines_k5) deskLines_k6) deskLines_k7) deskLines_k8) deskLines_k9) deskLines_k10) deskLines_k11) deskLines_k12) deskLines_k13) deskLines_k14) deskLines_k15) deskLines_k16) deskLines_k17) deskLines_k18) deskLines_k19) deskLines_k20) deskLines_k21) deskLines_k22) deskLines_k23) deskLines_k24) deskLines_k25) deskLines_k26) deskLines_k27) deskLines_k28) deskLines_k29) deskLines_k30) deskLines_k31)
theorem deskLines_named:PP.funcNamed Rows.deskLinesRow.func=some 4:=by kernel_rfl
theorem deskLines_inst:Tryz.f4.isInstance PP Rows.deskLinesRow.origin Rows.deskLinesRow.targs:=of_decide_eq_true (by kernel_rfl)
theorem deskLines_wrap:Tryz.f4.isWrapper PP Rows.deskLinesRow.wrapper Rows.deskLinesRow.mainSum:=by unfold Func.isWrapper;first|(rw[if_pos (by decide +kernel)];kernel_rfl)|(rw[if_neg (by decide +kernel)];exact⟨rfl,rfl⟩)
theorem deskLines_holds:Rows.DeskLinesSaid:=
 OpenClaim.holds_of_wide (p:=Tryz.pinned) 4 Tryz.f4 rfl rfl rfl rfl rfl rfl rfl ⟨rfl,rfl,rfl,rfl,rfl⟩ rfl rfl rfl rfl rfl deskLines_named Tryz.func4 deskLines_closed deskLines_inst deskLines_wrap
  (λos a H enc _=>deskLines_lifted os a H enc)
#print axioms deskLines_holds
theorem deskLines_card:Rows.DeskLinesCardSaid:=
 Claim7.holds_tied_plain_at .later [] [.data, .data, .data, .data, .sentinel, .sentinel, .pinned] true (true, "b0dced846b3b3a43fa766eea3dc368acb4278f8c5c550bf406976ed2125d2229") true
  deskLines_holds (λ_ h=>by cases h) (by kernel_rfl) (λ_ h=>by cases h) deskLines_row_tie rfl ⟨rfl,rfl⟩ dC rfl
  (λf fn d a=>by
   have b:4=f:=QL (deskLines_named.symm.trans d);obtain rfl:=b;have b:Tryz.f4=fn:=QL (Tryz.func4.symm.trans a);obtain rfl:=b;refine⟨bQ,λj t c=>?_⟩;rw[Tryz.params4]at c;have g:t∈[9]:=by simpa using Array.mem_of_getElem? c
   have e:t=9:=by simpa using g
   rw[e];exact Sv)
  (bK TJ rfl)
#print axioms deskLines_card
end Go.Proofs.YtnanheiakfekdaaGreatDoor
