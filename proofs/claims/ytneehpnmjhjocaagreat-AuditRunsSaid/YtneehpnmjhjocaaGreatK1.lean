/-
  Proved here: parts of this claim.
  Conditions: told at each.
-/
import Derived.MapKept
import Derived.Test.YtneehpnmjhjocaaGreatProg
import Derived.KernelRfl
import Derived.Maps.RangeRun
import Derived.Laws.BytesString
import Derived.RecoverIn
import Derived.Test.YtneehpnmjhjocaaGreatK0
set_option maxHeartbeats 2000000
set_option linter.unusedVariables false
set_option linter.unusedSimpArgs false
namespace Go.W
open Go
variable {B N hi i j k m n:Nat} {D:Nat -> Prop} {P:Program} {T:Tab} {a:Option Addr} {s:List UInt8} {w':World}
def methB (P:Program) (t:TypeId) (name:String) (f:FuncId) (ptr:Bool) (e:TypeId):Bool:=
 match P.info? t with
 |some i=>(match i.methods.find? (·.name==name) with
  |some m=>m.path.toList.isEmpty && (match m.func with|some (g,p)=>Nat.beq g f && (p==ptr)|none=>false)
  |none=>false) && (match P.underlying t with|some (.pointer e')=>Nat.beq e' e|_=>false)
 |none=>false
class MethP (P:Program) (t:TypeId) (name:String) (f:outParam FuncId):Prop where
 h:∃e,methB P t name f true e=true
section
variable {P:Program} {k:Value->World->Prop} {pn:List PanicEntry->World->Prop} {w:World}
theorem zNx{t:TypeId}{b:String}{f:FuncId}{c:Bool}{e:TypeId}(h:methB P t b f c e=true):
  ∃i m,P.info? t=some i/\i.methods.find? (·.name==b)=some m/\m.path.toList=[]/\m.func=some (f,c)/\P.underlying t=some (.pointer e):=by
 unfold methB at h;split at h
 ·rename_i i hi;rw [Qz] at h;obtain⟨l,o⟩:=h;split at l
  ·rename_i m q;rw [Qz] at l;obtain⟨r,d⟩:=l;split at d
   ·rename_i g p u;simp only [Qz,beq_iff_eq] at d;split at o
    ·rename_i x v;obtain rfl:=QD d.1;obtain rfl:=d.2;obtain rfl:=QD o;exact⟨i,m,hi,q,by simpa using r,u,v⟩
    ·cases o
   ·cases d
  ·cases l
 ·cases h
theorem zO2{t:TypeId}{i:TypeInfo}(_:P.info? t=some i):∃n,P.types.size+Made.depth=n+1:=by
 have:0<Made.depth:=by decide
 exact⟨P.types.size+Made.depth - 1,by omega⟩
theorem zOx{t:TypeId}{b:String}{f:FuncId}(c:MethP P t b f)(v:Value)(w:World):(method (P.types.size+Made.depth) t v b).run P w=.ok (f,v) w:=by
 obtain⟨e,h⟩:=c.h;obtain⟨i,m,hi,d,g,l,o⟩:=zNx h;obtain⟨n,p⟩:=zO2 hi;rw [p];unfold method;simp [typeInfo,hi,d,g,l,follow,receiverAt,underlying,o,Place.get]
theorem rinv{o:Oper}{F:Nat->Value}{c:Call}{r:Operand}{b:String}{t:TypeId}{v:Value}{f:FuncId}{vs:List Value}
  (g:o.op=.call c)(l:c.callee=.invoke r b)(p:ev F r=.iface t v)(q:evL F c.args.toList=vs)[u:MethP P t b f](h:CallS P f (v::vs).toArray k pn w):NextS P (execOp (ev F) o) k pn w:=by
 have d:c.args.map (ev F)=vs.toArray:=by rw [<-q,zBe]
 rw [zBQ] at h
 have e:(execOp (ev F) o).run P w=.ok (.enter f (v::vs).toArray) w:=by
  unfold execOp;simp only [g,resolve,l,p,d];simp only [pure_bind,invoke];have h0:(#[Value.iface t v]++vs.toArray)[0]? = some (Value.iface t v):=by simp
  simp only [h0]
  have x:(#[Value.iface t v]++vs.toArray).extract 1 (#[Value.iface t v]++vs.toArray).size=vs.toArray:=by
   apply Array.ext';simp
  rw [x];unfold callMethod;simp only [Qo,run_program,Qh,zOx u];rw [zAW h.1];simp
 rw [zBi,e];exact⟨h⟩
end
open Enc (enc)
def concB (P:Program) (t:TypeId):Bool:=match P.underlying t with|some (.interface _)=>false|some _=>true|none=>false
class Conc (P:Program) (t:TypeId):Prop where
 h:concB P t=true:=by kernel_rfl
section
variable {P:Program} {k:Value->World->Prop} {pn:List PanicEntry->World->Prop} {w:World}
theorem zMY{t:TypeId}(b:Conc P t)(x:Value)(w:World):(Instr.makeInterface t x).run P w=.ok (.iface t x) w:=by
 have h:=b.h;unfold concB at h;unfold Instr.makeInterface;simp only [Qo,underlying,run_program,Qh]
 cases hd:P.underlying t with
 |none=>rw [hd] at h;cases h
 |some d =>
  rw [hd] at h;cases d <;> first|rfl|cases h
theorem rmki{t:TypeId}[b:Conc P t]{x:Value}(c:k (.iface t x) w):SemV P (Instr.makeInterface t x) k pn w:=SemV.of (zMY b x w) c
theorem tmki{t:TypeId}[b:Conc P t]{x:Value}{k:Value->Prop}(c:k (.iface t x)):TakeS P (Instr.makeInterface t x) D k w:=by
 rw [zAe];exact⟨_,λw' _=>zMY b x w',c⟩
theorem run_ta{t:TypeId}(b:Conc P t)(v:Value)(u:TypeId)(w:World):(Instr.typeAssert (.iface t v) u t true).run P w=.ok (.tuple #[v,.bool true]) w:=by
 have h:=b.h;unfold concB at h;unfold Instr.typeAssert;simp only [Qo,underlying,run_program,Qh]
 cases hd:P.underlying t with
 |none=>rw [hd] at h;cases h
 |some d =>
  rw [hd] at h;cases d <;> first|(simp;done)|cases h
theorem rta{t u:TypeId}[b:Conc P t]{v:Value}(c:k (.tuple #[v,.bool true]) w):SemV P (Instr.typeAssert (.iface t v) u t true) k pn w:=SemV.of (run_ta b v u w) c
end
section
variable {α:Type} [Enc α] {P:Program} {k:Value->World->Prop} {pn:List PanicEntry->World->Prop} {w:World}
theorem Own.cut{e:TypeId}{c:Nat}{l:List α}(h:Own B e w (.slice a n c) l)(q:m<=n)(r:l≠[]):Own B e w (.slice a m c) (l.take m)/\∃g,a=some ⟨g,0,none⟩:=by
 obtain⟨g,d,rfl,rfl,t,u,v,f,o,b⟩:=h.blk r;have p:(l.take m).length=m:=by rw [Qm];omega
 refine⟨.inr ⟨zAl _,.inr ⟨g,c,d,by rw [p],t,u,by rw [p];omega,f,o,?_⟩⟩,g,rfl⟩;rw [p,zCt,<-b,Xz,VB (Ji _ q)]
theorem zMZ{t e:TypeId}{z:Value}{sz b:Nat}(d:SlT P t e)(f:Elem P e z sz b){g c:Nat}(h:m<=c)(w:World):
  (Instr.sliceAt t (.slice (some ⟨g,0,none⟩) n c) none (some (.int .i64 m)) none).run P w=.ok (.slice (some ⟨g,0,none⟩) m c) w:=by
 have:=zA0 d f (a:=some ⟨g,0,none⟩) (n:=n) (c:=c) none (some m) (by simp) (by simpa using h) w;simp only [JQ,QP,JF,Nat.zero_mul,JD,zAs,Xy] at this;rw [ite_self] at this;exact this
theorem rslP{t e:TypeId}{z:Value}{sz b:Nat}[d:SlT P t e][f:Elem P e z sz b]{g c:Nat}(h:m<=c)(l:k (.slice (some ⟨g,0,none⟩) m c) w):
  SemV P (Instr.sliceAt t (.slice (some ⟨g,0,none⟩) n c) none (some (.int .i64 m)) none) k pn w:=SemV.of (zMZ d f h w) l
theorem tslP{t e:TypeId}{z:Value}{sz b:Nat}[d:SlT P t e][f:Elem P e z sz b]{k:Value->Prop}{g c:Nat}(h:m<=c)(l:k (.slice (some ⟨g,0,none⟩) m c)):
  TakeS P (Instr.sliceAt t (.slice (some ⟨g,0,none⟩) n c) none (some (.int .i64 m)) none) D k w:=by rw [zAe];exact⟨_,λw' _=>zMZ d f h w',l⟩
end
theorem Fr.new{E:Nat->Prop}{a b c:World}(h:Fr D a b)(k:Fr E b c)(hd:∀i,E i->a.heap.size<=i):Fr D a c:=
 ⟨k.os.trans h.os,k.tape.trans h.tape,k.output.trans h.output,Qw h.size k.size,λi hi e=>(k.block i (QJ hi h.size) λf=>by have:=hd i f;omega).trans (h.block i hi e),λi o hi d=>k.nc i o (h.nc i o hi d) d⟩
abbrev mapK:TypeId:=4294967296
def kindO:Obj->Option TypeId
 |.cells _ e _=>some e
 |.map _ _=>some mapK
 |_=>none
def Ty (B:Nat) (es:List TypeId) (w:World):Nat->Prop:=λi=>B<=i/\∃o e,w.heap[i]? = some o/\kindO o=some e/\e∈es
theorem Ty.cells{b:List TypeId}{w:World}{cs:Array Value}{e:TypeId}{z:Nat×Nat}(h:Ty B b w i)(d:w.heap[i]? = some (.cells cs e z)):e∈b:=by
 obtain⟨_,o,l,c,f,g⟩:=h;rw [d] at c;cases c;cases f;exact g
theorem Ty.map{b:List TypeId}{w:World}{m:Array MapEntry}{c:Nat}(h:Ty B b w i)(e:w.heap[i]? = some (.map m c)):mapK∈b:=by
 obtain⟨_,o,l,d,f,g⟩:=h;rw [e] at d;cases d;cases f;exact g
theorem Ty.mk{b:List TypeId}{w:World}{cs:Array Value}{e:TypeId}{z:Nat×Nat}(c:B<=i)(d:w.heap[i]? = some (.cells cs e z))(f:e∈b):Ty B b w i:=⟨c,_,e,d,rfl,f⟩
theorem Ty.mkM{b:List TypeId}{w:World}{m:Array MapEntry}{c:Nat}(d:B<=i)(e:w.heap[i]? = some (.map m c))(f:mapK∈b):Ty B b w i:=⟨d,_,mapK,e,rfl,f⟩
abbrev FrT (B:Nat) (es:List TypeId) (w w':World):Prop:=Fr (Ty B es w) w w'
theorem FrT.refl(B:Nat)(b:List TypeId)(w:World):FrT B b w w:=Fr.refl _ w
theorem FrT.trans{d:List TypeId}{a b c:World}(h:FrT B d a b)(k:FrT B d b c):FrT B d a c:=by
 refine⟨k.os.trans h.os,k.tape.trans h.tape,k.output.trans h.output,Qw h.size k.size,λi hi hd=>?_,λi o hi f=>k.nc i o (h.nc i o hi f) f⟩;have e:=h.block i hi hd;rw [k.block i (QJ hi h.size) (λ⟨g,o,t,l,p⟩=>hd ⟨g,o,t,by rw [<-e];exact l,p⟩),e]
theorem FrT.mono{B':Nat}{d c:List TypeId}{a b:World}(h:FrT B d a b)(f:B'<=B)(g:∀e∈d,e∈c):FrT B' c a b:=
 Fr.mono h λ_ _ ⟨l,o,t,p,q,r⟩=>⟨Qw f l,o,t,p,q,g t r⟩
theorem FrT.ext{c:List TypeId}{a b:World}(h:Ext a b):FrT B c a b:=h.fr
theorem FrT.st{d:List TypeId}{a b c:World}(h:Ext a b)(k:FrT B d b c)(e:a.heap.size<=B):Ext a c:=Fr.st h k λ_ hi=>Qw e hi.1
theorem Bk.kept{c:List TypeId}{w:World}{b:Nat}{cs:List Value}{e:TypeId}(k:Bk w b cs e)(f:FrT B c w w')(d:e∉c):Bk w' b cs e:=by
 exact k.fr f λhd=>d (hd.cells k.h)
theorem Bk.wrote{c:List TypeId}{w:World}{b:Nat}{cs:List Value}{e:TypeId}(k:Bk w b cs e)(f:Fr (λi=>i=b) w w')(d:B<=b)(g:e∈c):FrT B c w w':=
 f.mono λi _ hi=>by subst hi;exact .mk d k.h g
section
variable {α:Type} [Enc α]
theorem Own.kept{C:Nat}{c:List TypeId}{w:World}{e:TypeId}{v:Value}{l:List α}(h:Own C e w v l)(f:FrT B c w w')(o:e∉c):Own C e w' v l:=by
 rcases h with h|h
 ·exact .inl h
 ·refine .inr ⟨h.1,?_⟩;rcases h.2 with p|⟨g,cap,b,rfl,q,d,rest⟩
  ·exact .inl p
  ·refine .inr ⟨g,cap,b,rfl,q,f.blk d λhd=>o (hd.cells d),rest⟩
theorem Own.wrote{C:Nat}{b:List TypeId}{w:World}{e:TypeId}{v:Value}{l:List α}(h:Own C e w v l)(f:Fr (ownD C v) w w')(d:B<=C)(o:e∈b):FrT B b w w':=by
 refine f.mono λi hi hd=>?_;rcases h with ⟨_,a,rfl⟩|h
 ·exact absurd rfl (hd.2.2 a)
 ·rcases h.2 with ⟨rfl,_⟩|⟨g,cap,p,rfl,q,r,_⟩
  ·cases hd.2.1
  ·have c:=hd.2.1;simp only [Value.blk] at c;cases c;exact .mk (Qw d q) r o
end
theorem FrT.ne{c:List TypeId}{w:World}{b:Nat}{cs:List Value}{e:TypeId}(f:FrT B c w w')(k:Bk w b cs e)(d:e∉c):Fr (λi=>i≠b) w w':=
 Fr.mono f λi _ hi=>by
  rintro rfl;exact d (hi.cells k.h)
section
variable {P:Program} {k:Value->World->Prop} {pn:List PanicEntry->World->Prop} {w:World}
end
section
variable {α:Type} [Enc α] {P:Program} {k:Value->World->Prop} {pn:List PanicEntry->World->Prop} {w:World}
theorem rappB{t ty e:TypeId}{z:Value}{sz b:Nat}[f:SlT P t e][g:Elem P e z sz b]{v x:Value}{l m:List α}(c:Enc.sz α=sz/\z.cells.size=sz)
  (h:Own B e w v l)(o:SlF w x m)(p:B<=w.heap.size)(q:(l.length+m.length)*b<=140737488355328/\l.length+m.length<=9223372036854775807)
  (r:∀d w',Own B e w' d (l++m)->Fr (ownD B v) w w'->k d w'):SemV P (Builtin.append_ #[t,t] ty #[v,x]) k pn w:=by
 obtain⟨d,w',u,y,A⟩:=zIG (ty:=ty) f g c.1 c.2 h o q.1 (by unfold maxLen;omega) p;exact SemV.of u (r _ _ y A)
end
section
variable {α:Type} [Enc α]
def SlY (e:TypeId) (w:World) (v:Value) (l:List α):Prop:=SlF w v l/\(l=[]\/∃b cs z,Value.blk v=some b/\w.heap[b]? = some (.cells cs e z))
theorem SlY.sl{e:TypeId}{w:World}{v:Value}{l:List α}(h:SlY e w v l):SlF w v l:=h.1
theorem SlY.fr{e:TypeId}{w:World}{v:Value}{l:List α}(h:SlY e w v l)(f:Fr D w w')(hd:∀b cs z,Value.blk v=some b->w.heap[b]? = some (.cells cs e z)->¬D b):SlY e w' v l:=by
 rcases h with ⟨h,rfl|⟨b,cs,z,o,g⟩⟩
 ·obtain⟨a,c,rfl,g,_⟩:=h;exact⟨⟨a,c,rfl,g,.inl rfl⟩,.inl rfl⟩
 ·have p:=hd b cs z o g;exact⟨h.fr f λq d=>by rw [o] at d;cases d;exact p,.inr ⟨b,cs,z,o,f.blk g p⟩⟩
theorem SlY.up{e:TypeId}{w:World}[L:Le w w']{v:Value}{l:List α}(h:SlY e w v l):SlY e w' v l:=h.fr L.e λ_ _ _ _ _ h=>h
theorem SlY.kept{e:TypeId}{b:List TypeId}{w:World}{v:Value}{l:List α}(h:SlY e w v l)(f:FrT B b w w')(c:e∉b):SlY e w' v l:=
 h.fr f λ_ _ _ _ d hd=>c (hd.cells d)
theorem SlY.nil(e:TypeId)(w:World):SlY e w (.slice none 0 0) ([]:List α):=⟨SlF.nil w,.inl rfl⟩
theorem Own.y{e:TypeId}{w:World}{v:Value}{l:List α}(h:Own B e w v l):SlY e w v l:=by
 refine⟨h.sl,?_⟩;by_cases d:l=[]
 ·exact .inl d
 ·right;obtain⟨a,c,rfl⟩:=h.shape;obtain⟨g,b,rfl,_,_,f,_⟩:=h.blk d;exact⟨g,b,_,rfl,f⟩
theorem SlY.part{e:TypeId}{w:World}{c:Nat}{l:List α}(h:SlY e w (.slice a n c) l)(lo hi:Nat)(f:lo<=hi)(g:hi<=n):
  SlY e w (.slice (if c=lo then a else a.map (·.add (lo*Enc.sz α))) (hi - lo) (c - lo)) ((l.drop lo).take (hi - lo)):=by
 refine⟨h.1.part lo hi f g,?_⟩;rcases h.2 with rfl|⟨b,cs,z,d,o⟩
 ·left;simp
 ·right;refine⟨b,cs,z,?_,o⟩
  cases a with
  |none=>cases d
  |some a =>
   simp only [Value.blk] at d;cases d;split
   ·rfl
   ·simp only [JD,Value.blk];congr 1;unfold Addr.add;split <;> rfl
theorem zOL(a:Option Addr)(n b c e lo d:Nat):Value.blk (.slice (if c=lo then a else a.map (·.add d)) b e)=Value.blk (.slice a n c):=by
 cases a with
 |none=>split <;> rfl
 |some a =>
  split
  ·rfl
  ·simp only [JD,Value.blk];congr 1;unfold Addr.add;split <;> rfl
section
variable {P:Program} {k:Value->World->Prop} {pn:List PanicEntry->World->Prop} {w:World}
theorem rslYp{t e:TypeId}{z:Value}{f:Nat}[r:SlT P t e][u:Elem P e z (Enc.sz α) f]{c:Nat}{l:List α}{q:TypeId}{x:Value}(m:Nat)(h:SlY q w (.slice a n c) l)(o:m<=n)(v:x=.int .i64 m)
  (y:∀b d,SlY q w (.slice b m d) (l.take m)->Value.blk (.slice b m d)=Value.blk (.slice a n c)->k (.slice b m d) w):SemV P (Instr.sliceAt t (.slice a n c) none (some x) none) k pn w:=by
 subst v;have g:n<=c:=by obtain⟨b,d,A,C,_⟩:=h.1;cases A;exact C
 have p:=h.part 0 m (XE _) o;rw [Jf,JF,JF] at p;exact SemV.of (zA0 r u none (some m) (XE _) (Qw o g) w) (y _ _ p (zOL ..))
end
theorem SlY.len{e:TypeId}{w:World}{c:Nat}{l:List α}(h:SlY e w (.slice a n c) l):n=l.length:=h.1.len
end
def findM {κ:Type} [DecidableEq κ] (k:κ):List (κ×Value)->Nat->Option (Nat×Value)
 |[],_=>none
 |(k',v)::r,i=>if k=k' then some (i,v) else findM k r (i+1)
def getM {κ:Type} [DecidableEq κ] (m:List (κ×Value)) (k:κ):Option Value:=(findM k m 0).map (·.2)
def EntM {κ:Type} (val:κ->Value) (es:List MapEntry) (m:List (κ×Value)):Prop:=es.map (λe=>(e.key,e.val))=m.map λp=>(val p.1,p.2)
class MKey (P:Program) (t:TypeId) (κ:Type) [DecidableEq κ] where
 val:κ->Value
 check:∀(e:Bool) (k:κ) (w:World),(Instr.checkKey e 10000 t (val k)).run P w=.ok () w
 find:∀(k:κ) (es:List MapEntry) (m:List (κ×Value)) (w:World),EntM val es m->(Instr.findKey t (val k) es).run P w=.ok (findM k m 0) w
 same:∀k,Instr.sameBits 10000 (val k) (val k)=true
class MapT (P:Program) (t:TypeId) (k e:outParam TypeId):Prop where
 h:P.underlying t=some (.map k e):=by kernel_rfl
theorem zDR{κ:Type}{val:κ->Value}{m:List (κ×Value)}(h:EntM val [] m):m=[]:=by
 cases m with
 |nil=>rfl
 |cons p r=>simp [EntM] at h
theorem zEm{κ:Type}{val:κ->Value}{e:MapEntry}{b:List MapEntry}{m:List (κ×Value)}(h:EntM val (e::b) m):∃k r,m=(k,e.val)::r/\e.key=val k/\EntM val b r:=by
 cases m with
 |nil=>simp [EntM] at h
 |cons p r =>
  obtain⟨k,v⟩:=p;simp only [EntM,QS,List.cons.injEq,Xm] at h;exact⟨k,r,by rw [h.1.2],h.1.1,h.2⟩
theorem zGs{kd:IntKind}(k:Int):∀(c:List MapEntry) (m:List (Int×Value)) (i:Nat),EntM (λx=>Value.int .i64 x) c m->Instr.findNow (.int kd) (.int .i64 k) c i=some (findM k m i)
 |[],m,i,h=>by rw [zDR h];rfl
 |e::c,m,i,h=>by
  obtain⟨d,r,rfl,f,g⟩:=zEm h;have l:=zGs (kd:=kd) k c r (i+1) g;unfold Instr.findNow findM;rw [f];simp only [Instr.sameNow,if_true];by_cases b:k=d
  ·rw [if_pos b];subst b;simp
  ·rw [if_neg b,show (k==d)=false by simpa using b];exact l
theorem zCm(a b:ByteArray):(a==b)=true↔a=b:=by
 show ByteArray.beq a b=true↔_;unfold ByteArray.beq;cases a;cases b;simp
theorem zGt(k:ByteArray):∀(d:List MapEntry) (m:List (ByteArray×Value)) (i:Nat),EntM (λx=>Value.string x) d m->Instr.findNow .string (.string k) d i=some (findM k m i)
 |[],m,i,h=>by rw [zDR h];rfl
 |e::d,m,i,h=>by
  obtain⟨c,r,rfl,f,g⟩:=zEm h;have l:=zGt k d r (i+1) g;unfold Instr.findNow findM;rw [f];simp only [Instr.sameNow];by_cases b:k=c
  ·rw [if_pos b,(zCm k c).2 b]
  ·have:(k==c)=false:=by
    cases o:(k==c) with
    |false=>rfl
    |true=>exact absurd ((zCm k c).1 o) b
   rw [if_neg b,this];exact l
section
variable {P:Program}
@[reducible] def mkInt {t:TypeId} {kd:IntKind} (ht:P.underlying t=some (.int kd)):MKey P t Int where
 val x:=.int .i64 x
 check e k w:=by
  unfold Instr.checkKey
  simp only [underlying,Sem.run_bind,run_program,Result.andThen_ok,ht]
  rfl
 find k es m w h:=by
  unfold Instr.findKey
  simp only [underlying,Sem.run_bind,run_program,Result.andThen_ok,ht,Sem.run_pure]
  rw [zGs (kd:=kd) k es m 0 h];rfl
 same k:=by simp [Instr.sameBits]
@[reducible] def mkStr {t:TypeId} (ht:P.underlying t=some .string):MKey P t ByteArray where
 val x:=.string x
 check e k w:=by
  unfold Instr.checkKey
  simp only [underlying,Sem.run_bind,run_program,Result.andThen_ok,ht]
  rfl
 find k es m w h:=by
  unfold Instr.findKey
  simp only [underlying,Sem.run_bind,run_program,Result.andThen_ok,ht,Sem.run_pure]
  rw [zGt k es m 0 h];rfl
 same k:=by unfold Instr.sameBits;exact(zCm k k).2 rfl
def MapL (P:Program) (t:TypeId) {κ:Type} [DecidableEq κ] [M:MKey P t κ] (w:World) (b:Nat) (m:List (κ×Value)):Prop:=(∃es c,w.heap[b]? = some (.map es c)/\EntM M.val es.toList m)/\(m.map (·.1)).Nodup
variable {t:TypeId} {κ:Type} [DecidableEq κ] [M:MKey P t κ]
theorem MapL.fr{w:World}{b:Nat}{m:List (κ×Value)}(h:MapL P t w b m)(f:Fr D w w')(hd:¬D b):MapL P t w' b m:=by
 obtain⟨⟨d,c,e,g⟩,l⟩:=h;exact⟨⟨d,c,f.blk e hd,g⟩,l⟩
theorem MapL.up{w:World}[L:Le w w']{b:Nat}{m:List (κ×Value)}(h:MapL P t w b m):MapL P t w' b m:=h.fr L.e id
theorem MapL.kept{d:List TypeId}{w:World}{b:Nat}{m:List (κ×Value)}(h:MapL P t w b m)(f:FrT B d w w')(e:mapK∉d):MapL P t w' b m:=by
 obtain⟨⟨g,c,l,_⟩,_⟩:=id h;exact h.fr f λhd=>e (hd.map l)
theorem MapL.lt{w:World}{b:Nat}{m:List (κ×Value)}(h:MapL P t w b m):b<w.heap.size:=by obtain⟨⟨e,c,d,_⟩,_⟩:=h;exact blk_lt d
theorem MapL.wrote{d:List TypeId}{w:World}{b:Nat}{m:List (κ×Value)}(h:MapL P t w b m)(f:Fr (λi=>i=b) w w')(e:B<=b)(g:mapK∈d):FrT B d w w':=by
 obtain⟨⟨l,c,o,_⟩,_⟩:=h;exact Fr.mono f λi _ hi=>by subst hi;exact .mkM e o g
theorem MapL.ne{w:World}{b d:Nat}{m:List (κ×Value)}{cs:List Value}{e:TypeId}(h:MapL P t w b m)(k:Bk w d cs e):d≠b:=by
 rintro rfl;obtain⟨⟨f,c,g,_⟩,_⟩:=h;have:=k.h;rw [g] at this;cases this
theorem zEn(k:κ):∀(m:List (κ×Value)) (i:Nat),(findM k m i).map (·.2)=(findM k m 0).map (·.2)
 |[],_=>rfl
 |(b,v)::r,i=>by
  unfold findM;split
  ·rfl
  ·rw [zEn k r (i+1),zEn k r (0+1)]
theorem zAL(k b:κ)(v:Value)(r:List (κ×Value)):getM ((b,v)::r) k=if k=b then some v else getM r k:=by
 unfold getM;rw [show findM k ((b,v)::r) 0=if k=b then some (0,v) else findM k r 1 from rfl];split
 ·rfl
 ·rw [zEn k r 1]
theorem zO3(k:κ):getM ([]:List (κ×Value)) k=none:=rfl
theorem zDq{k:κ}:∀{m:List (κ×Value)},getM m k=none↔k∉m.map (·.1)
 |[]=>by simp [zO3]
 |(b,v)::r=>by
  rw [zAL];by_cases h:k=b
  ·rw [if_pos h];subst h;simp
  ·rw [if_neg h,zDq (m:=r)];simp [h]
theorem zA1{k:κ}{v:Value}:∀{m:List (κ×Value)},getM m k=some v->(k,v)∈m
 |[],h=>by cases h
 |(b,c)::r,h=>by
  rw [zAL] at h;split at h
  ·rename_i e;subst e;cases h;exact Qs ..
  ·exact QF _ (zA1 h)
theorem zAK{k:κ}{v:Value}:∀{m:List (κ×Value)},(m.map (·.1)).Nodup->(k,v)∈m->getM m k=some v
 |(e,f)::r,c,h=>by
  rw [zAL];rw [QS,JC] at c;rcases Ql.1 h with b|b
  ·cases b;rw [if_pos rfl]
  ·have d:k≠e:=by
    rintro rfl;exact c.1 (Qq.2 ⟨_,b,rfl⟩)
   rw [if_neg d,zAK c.2 b]
def setM (k:κ) (v:Value):List (κ×Value)->List (κ×Value)
 |[]=>[(k,v)]
 |(k',v')::r=>if k=k' then (k,v)::r else (k',v')::setM k v r
def delM (k:κ):List (κ×Value)->List (κ×Value)
 |[]=>[]
 |(k',v')::r=>if k=k' then r else (k',v')::delM k r
theorem zGY(k b:κ)(v:Value):∀(m:List (κ×Value)),getM (setM k v m) b=if b=k then some v else getM m b
 |[]=>by unfold setM;rw [zAL]
 |(c,d)::r=>by
  unfold setM;split
  ·rename_i h;subst h;rw [zAL,zAL];split
   ·rfl
   ·rfl
  ·rename_i h;rw [zAL,zAL,zGY k b v r];by_cases e:b=c
   ·subst e;rw [if_pos rfl,if_neg (Jq h),if_pos rfl]
   ·rw [if_neg e,if_neg e]
theorem setM_keys(k:κ)(v:Value):∀(m:List (κ×Value)) (x:κ),x∈(setM k v m).map (·.1)↔x=k\/x∈m.map (·.1)
 |[],x=>by simp [setM]
 |(c,d)::r,x=>by
  unfold setM;split
  ·rename_i h;subst h;simp
  ·have b:=setM_keys k v r x;simp only [QS,Ql,b];constructor
   ·rintro(h|h|h) <;> simp [h]
   ·rintro(h|h|h) <;> simp [h]
theorem zBA(k:κ)(v:Value):∀(m:List (κ×Value)),(m.map (·.1)).Nodup->((setM k v m).map (·.1)).Nodup
 |[],_=>by simp [setM]
 |(c,d)::r,h=>by
  rw [QS,JC] at h;unfold setM;split
  ·rename_i e;subst e;rw [QS,JC];exact h
  ·rename_i e;rw [QS,JC];refine⟨λb=>?_,zBA k v r h.2⟩;rcases(setM_keys k v r c).1 b with rfl|b
   ·exact e rfl
   ·exact h.1 b
theorem zKd(k:κ):∀(m:List (κ×Value)),(delM k m).Sublist m
 |[]=>.slnil
 |(b,c)::r=>by
  unfold delM;split
  ·exact List.sublist_cons_self ..
  ·exact(zKd k r).cons_cons _
theorem zEk(k:κ){m:List (κ×Value)}(h:(m.map (·.1)).Nodup):((delM k m).map (·.1)).Nodup:=h.sublist ((zKd k m).map _)
theorem zKk(k b:κ):∀(m:List (κ×Value)),(m.map (·.1)).Nodup->getM (delM k m) b=if b=k then none else getM m b
 |[],_=>by unfold delM;split <;> rfl
 |(d,f)::r,h=>by
  rw [QS,JC] at h;unfold delM;split
  ·rename_i e;subst e;rw [zAL];split
   ·rename_i e;subst e;exact zDq.2 h.1
   ·rfl
  ·rename_i e;rw [zAL,zAL,zKk k b r h.2];by_cases c:b=d
   ·subst c;rw [if_pos rfl,if_neg (Jq e),if_pos rfl]
   ·rw [if_neg c,if_neg c]
theorem zCP(k:κ)(v:Value):∀(m:List (κ×Value)) (i:Nat),findM k m i=none->setM k v m=m++[(k,v)]/\delM k m=m
 |[],_,_=>⟨rfl,rfl⟩
 |(c,d)::r,i,h=>by
  unfold findM at h;split at h
  ·cases h
  ·rename_i e;have b:=zCP k v r (i+1) h;unfold setM delM;rw [if_neg e,if_neg e,b.1,b.2];exact⟨rfl,rfl⟩
theorem zCQ(k:κ)(v:Value):∀(m:List (κ×Value)) (i j:Nat) (b:Value),findM k m i=some (j,b)->i<=j/\m[j - i]? = some (k,b)/\setM k v m=m.set (j - i) (k,v)/\delM k m=m.eraseIdx (j - i)
 |[],_,_,_,h=>by cases h
 |(l,o)::r,i,j,b,h=>by
  unfold findM at h;split at h
  ·rename_i e;subst e;cases h;refine⟨Qe _,by simp,?_,?_⟩
   ·unfold setM;rw [if_pos rfl];simp
   ·unfold delM;rw [if_pos rfl];simp
  ·rename_i e;obtain⟨p,c,f,g⟩:=zCQ k v r (i+1) j b h;obtain⟨d,rfl⟩:∃d,j=i+1+d:=⟨j - (i+1),by omega⟩;rw [show i+1+d - (i+1)=d by omega] at c f g;rw [show i+1+d - i=d+1 by omega];unfold setM delM;rw [if_neg e,if_neg e,f,g];exact⟨by omega,by simpa using c,rfl,rfl⟩
end
section
variable {P:Program} {kt:TypeId} {κ:Type} [DecidableEq κ] [M:MKey P kt κ] {k:Value->World->Prop} {pn:List PanicEntry->World->Prop} {w:World}
theorem zEo{b:Nat}{d:Array MapEntry}{c:Nat}(e:w.heap[b]? = some (.map d c)):(getObj b).run P w=.ok (.map d c) w:=by simp [getObj,Sem.run,e]
theorem zCi{b:Nat}{d:Array MapEntry}{c:Nat}(o:Obj)(e:w.heap[b]? = some (.map d c)):(setObj b o).run P w=.ok () { w with heap:=w.heap.setIfInBounds b o }:=by simp [setObj,Sem.run,e]
theorem zAw{t:TypeId}{d:TypeDesc}(h:P.underlying t=some d)(w:World):(underlying t).run P w=.ok d w:=by
 simp only [underlying,Qo,run_program,Qh,h,Jd]
theorem zLg{e:TypeId}{z:Value}{sz b:Nat}(c:Elem P e z sz b)(w:World):(zeroValue e).run P w=.ok z w:=by
 obtain⟨i,hi,d,_,_⟩:=info_parts c.h;simp [zeroValue,typeInfo,hi,d]
theorem zHm{t e:TypeId}{z:Value}{sz d:Nat}(l:MapT P t kt e)(o:Elem P e z sz d){b:Nat}{m:List (κ×Value)}(h:MapL P kt w b m)(x:κ)(ok:Bool):
  (Instr.lookup t (.map (some b)) (M.val x) ok).run P w=.ok (bif ok then .tuple #[(getM m x).getD z,.bool (getM m x).isSome] else (getM m x).getD z) w:=by
 obtain⟨⟨u,c,q,r⟩,_⟩:=h;unfold Instr.lookup;simp only [Qo,zAw l.h,Qh,zEo q,Jd,M.check,M.find x _ m w r]
 cases g:findM x m 0 with
 |none =>
  have f:getM m x=none:=by unfold getM;rw [g];rfl
  rw [f];simp only [Qo,zLg o,Qh,Jd];cases ok <;> rfl
 |some p =>
  obtain⟨i,v⟩:=p;have f:getM m x=some v:=by unfold getM;rw [g];rfl
  rw [f];cases ok <;> rfl
theorem rlook{t e:TypeId}{z:Value}{sz c:Nat}[f:MapT P t kt e][g:Elem P e z sz c]{b:Nat}{m:List (κ×Value)}{d:Value}(h:MapL P kt w b m)(x:κ)(l:d=M.val x)(o:k ((getM m x).getD z) w):SemV P (Instr.lookup t (.map (some b)) d false) k pn w:=by
 subst l;exact SemV.of (zHm f g h x false) o
theorem rlook2{t e:TypeId}{z:Value}{sz c:Nat}[f:MapT P t kt e][g:Elem P e z sz c]{b:Nat}{m:List (κ×Value)}{d:Value}(h:MapL P kt w b m)(x:κ)(l:d=M.val x)(o:k (.tuple #[(getM m x).getD z,.bool (getM m x).isSome]) w):SemV P (Instr.lookup t (.map (some b)) d true) k pn w:=by
 subst l;exact SemV.of (zHm f g h x true) o
theorem tlook2{t e:TypeId}{z:Value}{sz c:Nat}[g:MapT P t kt e][l:Elem P e z sz c]{k:Value->Prop}{b:Nat}{m:List (κ×Value)}{d:Value}(h:MapL P kt w b m)(hd:¬D b)(x:κ)(o:d=M.val x)(p:k (.tuple #[(getM m x).getD z,.bool (getM m x).isSome])):TakeS P (Instr.lookup t (.map (some b)) d true) D k w:=by
 subst o;rw [zAe];exact⟨_,λw' f=>zHm g l (h.fr f hd) x true,p⟩
theorem put_fr{b:Nat}{e:Array MapEntry}{c:Nat}(f:w.heap[b]? = some (.map e c))(o:Obj):Fr (λi=>i=b) w { w with heap:=w.heap.setIfInBounds b o }:=
 ⟨rfl,rfl,rfl,by simp,λi _ hi=>Va (Jq hi),λi o' d g=>by
  rw [Va]
  ·exact d
  ·rintro rfl;rw [f] at d;cases d;cases g⟩
theorem put_at{b:Nat}(c:b<w.heap.size)(o:Obj):({ w with heap:=w.heap.setIfInBounds b o }:World).heap[b]? = some o:=by simp [c]
theorem zFs{α b:Type}(f:α->b):∀(l:List α) (i:Nat),(l.eraseIdx i).map f=(l.map f).eraseIdx i
 |[],_=>rfl
 |_::_,0=>rfl
 |x::r,i+1=>by simp [List.eraseIdx_cons_succ,zFs f r i]
theorem zMA{κ:Type}{val:κ->Value}{c:List MapEntry}{m:List (κ×Value)}(h:EntM val c m)(i:Nat)(x:κ)(v:Value)(f:MapEntry->MapEntry)(o:∀e,((f e).key,(f e).val)=(val x,v)):EntM val (c.modify i f) (m.set i (x,v)):=by
 unfold EntM at *;apply Vl;intro j;have b:=congrArg (λl=>l[j]?) h;simp only [QK,List.getElem?_modify,Vw] at b ⊢;by_cases e:i=j
 ·subst e;simp only [if_true]
  cases g:c[i]? with
  |none =>
   rw [g] at b
   have:m[i]? = none:=by cases q:m[i]? with
    |none=>rfl
    |some p=>rw [q] at b;cases b
   rw [List.getElem?_eq_none_iff] at this;simp [show ¬i<m.length by omega]
  |some r =>
   rw [g] at b
   have:i<m.length:=by
    rcases QH i m.length with d|d
    ·exact d
    ·rw [Jg d] at b;cases b
   simp [this,o]
 ·simp [e,b]
theorem zQt{t e:TypeId}(F:MapT P t kt e){b:Nat}{m:List (κ×Value)}(h:MapL P kt w b m)(x:κ)(v:Value):
  ∃w',(Instr.mapUpdate t (.map (some b)) (M.val x) v).run P w=.ok () w'/\MapL P kt w' b (setM x v m)/\Fr (λi=>i=b) w w'/\w'.heap.size=w.heap.size:=by
 obtain⟨⟨o,c,f,q⟩,z⟩:=h;have hlt:=blk_lt f;unfold Instr.mapUpdate;simp only [Qo,zAw F.h,Qh,zEo f,M.check,M.find x _ m w q]
 cases A:findM x m 0 with
 |none =>
  have u:=(zCP x v m 0 A).1;simp only [zCi _ f];refine⟨_,rfl,⟨⟨_,_,put_at hlt _,?_⟩,zBA x v m z⟩,put_fr f _,by simp⟩;rw [u];unfold EntM at *;simp [q]
 |some p =>
  obtain⟨i,G⟩:=p;have u:=zCQ x v m 0 i G A;obtain⟨_,C,E,_⟩:=u;rw [JF] at C E
  have g:((o[i]?).map (·.key)).getD (M.val x)=M.val x:=by
   have r:=congrArg (λl=>l[i]?) q;simp only [QK,C,JD] at r
   cases H:o[i]? with
   |none=>rfl
   |some I =>
    have y:o.toList[i]? = some I:=by simpa using H
    rw [y] at r;simp only [JD,JK,Xm] at r;simp [r.1]
  have d:(Instr.keyThatStays (((o[i]?).map (·.key)).getD (M.val x)) (M.val x)).run P w=.ok (M.val x) w:=by
   rw [g];unfold Instr.keyThatStays;rw [if_pos (M.same x)];rfl
  simp only [Qo,d,Qh,zCi _ f];refine⟨_,rfl,⟨⟨_,_,put_at hlt _,?_⟩,zBA x v m z⟩,put_fr f _,by simp⟩;rw [E,Xr];exact zMA q i x v _ λe=>rfl
theorem rupd{t e:TypeId}[d:MapT P t kt e]{b:Nat}{m:List (κ×Value)}{c v:Value}(h:MapL P kt w b m)(x:κ)(f:c=M.val x)
  (g:∀w',MapL P kt w' b (setM x v m)->Fr (λi=>i=b) w w'->w'.heap.size=w.heap.size->k undef w'):SemU P (Instr.mapUpdate t (.map (some b)) c v) k pn w:=by
 subst f;obtain⟨w',l,o,p,q⟩:=zQt d h x v;exact SemU.of l (g w' o p q)
theorem zQp{t e ty:TypeId}{ts:Array TypeId}(f:ts[0]? = some t)(v:MapT P t kt e){b:Nat}{m:List (κ×Value)}(h:MapL P kt w b m)(x:κ):
  ∃w',(Builtin.delete_ ts ty #[.map (some b),M.val x]).run P w=.ok (.tuple #[]) w'/\MapL P kt w' b (delM x m)/\Fr (λi=>i=b) w w'/\w'.heap.size=w.heap.size:=by
 obtain⟨⟨o,c,d,g⟩,q⟩:=h;have hlt:=blk_lt d;unfold Builtin.delete_;simp only [f,List.getElem?_toArray,List.getElem?_cons_zero,List.getElem?_cons_succ,Qo,zAw v.h,Qh,zEo d,M.check,M.find x _ m w g]
 cases r:findM x m 0 with
 |none =>
  have l:=(zCP x undef m 0 r).2;simp only [Qo,zCi _ d,Qh,Jd];exact⟨_,rfl,⟨⟨_,_,put_at hlt _,by rw [l];exact g⟩,zEk x q⟩,put_fr d _,by simp⟩
 |some p =>
  obtain⟨i,y⟩:=p;have l:=zCQ x undef m 0 i y r;obtain⟨_,_,_,u⟩:=l;rw [JF] at u;simp only [Qo,zCi _ d,Qh,Jd];refine⟨_,rfl,⟨⟨_,_,put_at hlt _,?_⟩,zEk x q⟩,put_fr d _,by simp⟩;rw [u];unfold EntM at *;rw [show (o.eraseIdxIfInBounds i).toList=o.toList.eraseIdx i by simp,zFs,zFs,g]
theorem rdel{t e ty:TypeId}{c:TypeId}[f:MapT P t kt e]{b:Nat}{m:List (κ×Value)}{d:Value}(h:MapL P kt w b m)(x:κ)(g:d=M.val x)
  (l:∀w',MapL P kt w' b (delM x m)->Fr (λi=>i=b) w w'->w'.heap.size=w.heap.size->k (.tuple #[]) w'):SemV P (Builtin.delete_ #[t,c] ty #[.map (some b),d]) k pn w:=by
 subst g;obtain⟨w',o,p,q,r⟩:=zQp (ts:=#[t,c]) (ty:=ty) rfl f h x;exact SemV.of o (l w' p q r)
end
set_option maxRecDepth 100000
open Go.Proofs
noncomputable abbrev PP:Program:=Tryz.prog
def TB:Tab:={ kinds:=[(9,2),(10,2),(11,2),(24,1),(34,1),(38,1),(60,1),(63,1),(70,1),(74,1),(75,1),(80,1),(83,1),(84,1),(85,1),(96,1),(110,1),(112,1),(201,1),(257,1),(271,1),(412,1)],offs:=[(7,[some 0,some 1,some 2,some 3]),(8,[some 0,some 1,some 2,some 3]),(13,[some 0,some 1]),(14,[some 0,some 1]),(18,[some 0]),(19,[some 0]),(22,[some 0,some 1,some 2,some 3,some 4]),(23,[some 0,some 1,some 2,some 3,some 4]),(35,[some 0,some 1,some 2]),(36,[some 0,some 1,some 2]),(52,[some 0,some 1,some 2,some 3,some 4,some 5]),(53,[some 0,some 1,some 2,some 3,some 4,some 5]),(54,[some 0,some 1,some 2]),(55,[some 0,some 1,some 2]),(64,[some 0,some 1,some 2]),(65,[some 0,some 1,some 2]),(66,[some 0,some 1,some 2]),(67,[some 0,some 1,some 2]),(76,[some 0,some 1,some 2]),(77,[some 0,some 1,some 2]),(81,[some 0,some 1,some 2,some 3]),(82,[some 0,some 1,some 2,some 3]),(86,[some 0,some 5,some 9,some 10,some 11,some 12,some 13]),(87,[some 0,some 5,some 9,some 10,some 11,some 12,some 13]),(97,[some 0,some 5,some 9,some 10,some 11,some 12]),(98,[some 0,some 5,some 9,some 10,some 11,some 12]),(113,[some 0,some 1,some 2]),(114,[some 0,some 1,some 2]),(120,[some 0]),(121,[some 0]),(129,[some 0,some 1]),(130,[some 0,some 1]),(134,[some 0,some 1,some 2]),(135,[some 0,some 1,some 2]),(155,[some 0,some 1]),(156,[some 0,some 1]),(158,[some 0,some 1]),(159,[some 0,some 1]),(169,[some 0,some 1]),(170,[some 0,some 1]),(171,[some 0,some 1]),(172,[some 0,some 1]),(179,[some 0,some 1,some 3,some 4]),(180,[some 0,some 1,some 3,some 4]),(187,[some 0,some 1]),(188,[some 0,some 1]),(191,[some 0,some 1]),(202,[some 0,some 1]),(203,[some 0,some 1]),(205,[some 0,some 1]),(206,[some 0,some 1]),(208,[some 0,some 1,some 2]),(209,[some 0,some 1,some 2]),(210,[some 0,some 3]),(211,[some 0,some 3]),(216,[some 0,some 1,some 2]),(217,[some 0,some 1,some 2]),(222,[some 0,some 3]),(227,[some 0,some 1]),(228,[some 0,some 1]),(243,[some 0]),(244,[some 0]),(249,[some 0]),(250,[some 0]),(258,[some 0,some 1,some 2]),(259,[some 0,some 1,some 2]),(281,[some 0,some 6,some 10,some 11]),(282,[some 0,some 6,some 10,some 11]),(347,[some 0,some 3]),(359,[some 0,some 3,some 4]),(360,[some 0,some 3,some 4]),(373,[some 0,some 1,some 2]),(374,[some 0,some 1,some 2]),(413,[some 0]),(414,[some 0]),(415,[some 0,some 1]),(416,[some 0,some 1]),(446,[some 0,some 1]),(497,[some 0,some 1,some 2,some 3]),(498,[some 0,some 1,some 2,some 3]),(500,[none]),(501,[none]),(507,[some 0,some 1,some 2,some 3,some 4,some 5,some 6,some 7,some 8,some 9,some 10]),(508,[some 0,some 1,some 2,some 3,some 4,some 5,some 6,some 7,some 8,some 9,some 10])],round:=false }
def TBR:Tab:={ TB with round:=true }
theorem ff {P:Program}{i:Nat}{a b:Func}(h:P.funcs[i]?=some a)(e:a=b:=by kernel_rfl):P.funcs[i]?=some b:=h.trans (congrArg some e)
theorem TBok:TB.ok PP=true:=by kernel_rfl
theorem TBRok:TBR.ok PP=true:=by kernel_rfl
theorem mixed:PP.follows .mixedOrders=true:=by kernel_rfl
section
open Enc (enc)
variable {k:Value->World->Prop} {pn:List PanicEntry->World->Prop} {w:World}
theorem rE{α:Type}[Enc α]{t n:Nat}[o:Size PP t n]{x:World}{b:Nat}{cs:List Value}{e:TypeId}(B:Bk x b cs e)[L:Le x w]{v:Value}(a:α)(c:∀w',Bk w' b (enc a) e->Fr (λi=>i=b) w w'->w'.heap.size=w.heap.size->k undef w')(d:v.cells.toList=enc a:=by exact rfl)(g:Enc.sz α=n:=by exact rfl)(l:cs.length=n:=by exact rfl):SemU PP (Instr.storeAt t (.pointer (some ⟨b,0,none⟩)) v) k pn w:=
 rsto (B:=B) (vs:=enc a) d ((Enc.len a).trans g) (Nat.ble_eq_true_of_le (by omega)) (Enc.one a) λw' h f z=>c w' (by
  have e:splice cs 0 (enc a)=enc a:=by unfold splice;rw [List.take_zero,List.nil_append,List.drop_eq_nil_of_le (by rw [Enc.len,l];omega),List.append_nil]
  rw [e] at h;exact h) f z
theorem rS{t n:Nat}[l:Size PP t n]{x:World}{b off:Nat}{cs:List Value}{e:TypeId}(B:Bk x b cs e)[L:Le x w]{v:Value}(vs:List Value)(c:∀u∈vs,u.oneCell'=true)(d:∀w',Bk w' b (splice cs off vs) e->Fr (λi=>i=b) w w'->w'.heap.size=w.heap.size->k undef w')(f:v.cells.toList=vs:=by exact rfl)(g:vs.length=n:=by exact rfl)(h:Nat.ble (off+n) cs.length=true:=by exact rfl):SemU PP (Instr.storeAt t (.pointer (some ⟨b,off,none⟩)) v) k pn w:=
 rsto (B:=B) f g h c d
theorem rX{t:Nat}[f:One PP t]{x:World}{b o:Nat}{cs:List Value}{e:TypeId}(B:Bk x b cs e)[L:Le x w]{v:Value}(c:nth cs o=some v)(d:k v w):SemV PP (Instr.loadAt t (.pointer (some ⟨b,o,none⟩))) k pn w:=rld (B:=B) c d
theorem tX{t:Nat}[f:One PP t]{x:World}{b o:Nat}{cs:List Value}{e:TypeId}(B:Bk x b cs e)[L:Le x w]{D:Nat->Prop}{k:Value->Prop}{v:Value}(c:nth cs o=some v)(hd:¬D b)(d:k v):TakeS PP (Instr.loadAt t (.pointer (some ⟨b,o,none⟩))) D k w:=tld (B:=B) c hd d
theorem rG{α:Type}[Enc α]{t n:Nat}[g:Agg PP t n]{x:World}{b o:Nat}{cs:List Value}{e:TypeId}(B:Bk x b cs e)[L:Le x w](a:α)(c:k (.agg (enc a).toArray) w)(d:(cs.drop o).take n=enc a:=by exact rfl)(f:Enc.sz α=n:=by exact rfl):SemV PP (Instr.loadAt t (.pointer (some ⟨b,o,none⟩))) k pn w:=rldG (B:=B) d ((Enc.len a).trans f) c
theorem tG{α:Type}[Enc α]{t n:Nat}[g:Agg PP t n]{x:World}{b o:Nat}{cs:List Value}{e:TypeId}(B:Bk x b cs e)[L:Le x w]{D:Nat->Prop}{k:Value->Prop}(a:α)(hd:¬D b)(c:k (.agg (enc a).toArray))(d:(cs.drop o).take n=enc a:=by exact rfl)(f:Enc.sz α=n:=by exact rfl):TakeS PP (Instr.loadAt t (.pointer (some ⟨b,o,none⟩))) D k w:=tldG (B:=B) d ((Enc.len a).trans f) hd c
theorem Nx.st{c d u w':World}{b:Nat}(n:Nx c d b)[A:Le u c][L:Le u w](f:Fr (λi=>i=b) w w'):Stp u w':=⟨Fr.st L.e f λi hi=>by subst hi;exact n.lo⟩
theorem bS{α:Type}[Enc α]{t e:TypeId}{z:Value}{sz c:Nat}[l:SlT PP t e][o:Elem PP e z sz c](x:α){v:Value}(f:∀b w',Stp w w'->w.heap.size<w'.heap.size->SlF w' (.slice (some ⟨b,0,none⟩) 1 1) [x]->k (.slice (some ⟨b,0,none⟩) 1 1) w')(d:Enc.sz α=sz:=by exact rfl)(g:v.cells.toList=enc x:=by exact rfl)(h:sz<=16777216:=by decide):SemV PP (Instr.buildSlice t 1 #[(0,v)]) k pn w:=rbs1 x d g h f
theorem lz(a b:World)[L:Le a b]:a.heap.size<=b.heap.size:=L.e.size
theorem lE(a b:World)[L:Le a b]:Ext a b:=L.e
theorem fE(a b:World)[L:Le a b]{D:Nat->Prop}:Fr D a b:=Fr.fr L.e
theorem eN{f n:Nat}{b:Func}[h:FnAt PP f b n]{args:Array Value}{R:Value->World->Prop}(c:S PP TB n (codeOf b) (retK PP b.results.toList R (λ_ _=>False)) (argF args.toList) w)(d:Nat.ble args.size n=true:=by exact rfl)(e:Nat.ble n 4294967296=true:=by exact rfl):Sp PP f args w R:=en TBok d c e
def oL:List Nat->OT->OT
 | [],t=>t
 | a::r,t=>.one a (oL r t)
section
variable {n i:Nat} {ops:Array Oper} {Q:KS} {F:Nat->Value}
theorem dD(D:Nat->Prop)(b:List Nat)(h:∀w',Stp w w'->drawS PP TB n D ops.toList b F Q.nrm (λc w=>∀d,agree (wr (.region i ops true)) F d->Q.pan d c w) w')(e:ordOK ops b=true:=by kernel_rfl):DeepS PP TB n (.region i ops true) Q F w:=drawR TBok mixed D b e λw' s _=>h w' s
theorem dQ(m:Nat)(h:∀w',Stp w w'->drawS PP TB n (λ_=>False) ops.toList (upF m 0) F Q.nrm (λc w=>∀b,agree (wr (.region i ops true)) F b->Q.pan b c w) w')(d:ordOK ops (upF m 0)=true:=by kernel_rfl):DeepS PP TB n (.region i ops true) Q F w:=drawR TBok mixed _ _ d λw' s _=>h w' s
theorem dT(D:Nat->Prop)(t:OT)(h:∀w',Stp w w'->drawT PP TB n D ops.toList t F Q.nrm (λc w=>∀b,agree (wr (.region i ops true)) F b->Q.pan b c w) w')(d:ordTOK ops t=true:=by kernel_rfl):DeepS PP TB n (.region i ops true) Q F w:=drawRT TBok mixed D t d λw' s _=>h w' s
section
variable {body:Code} (m:Nat) (ks:List Nat)
theorem cN(s N:Nat)(I:Nat->World->Prop)(h0:I 0 w)(c:∀(k:Nat) g w,k<=N->I k w->S PP TB n body { Q with nrm:=λd w'=>d s=.int .i64 ((k:Int)+1)/\k<N/\I (k+1) w' } (hdF m ks [(s,.int .i64 k)] g F) w)(b:okB m ks [s] body=true:=by exact rfl)(e:F s=.int .i64 0:=by exact rfl):DeepS PP TB n (.loop body) Q F w:=cnt TBok m ks s N I b e h0 c
theorem cO(b s N:Nat)(I:Nat->Value->World->Prop)(h0:I 0 (F b) w)(f:∀(k:Nat) d g w,k<=N->I k d w->S PP TB n body { Q with nrm:=λe w'=>e s=.int .i64 ((k:Int)+1)/\k<N/\I (k+1) (e b) w' } (hdF m ks [(b,d),(s,.int .i64 k)] g F) w)(c:okB m ks [b,s] body=true:=by exact rfl)(h:F s=.int .i64 0:=by exact rfl):DeepS PP TB n (.loop body) Q F w:=cnt1 TBok m ks b s N I c h h0 f
theorem cP(b c s N:Nat)(I:Nat->Value->Value->World->Prop)(h0:I 0 (F b) (F c) w)(l:∀(k:Nat) f h g w,k<=N->I k f h w->S PP TB n body { Q with nrm:=λd w'=>d s=.int .i64 ((k:Int)+1)/\k<N/\I (k+1) (d b) (d c) w' } (hdF m ks [(b,f),(c,h),(s,.int .i64 k)] g F) w)(e:okB m ks [b,c,s] body=true:=by exact rfl)(o:F s=.int .i64 0:=by exact rfl):DeepS PP TB n (.loop body) Q F w:=cnt2 TBok m ks b c s N I e o h0 l
end
end
end
instance:IntT PP 3:=⟨⟨IntKind.i64,by kernel_rfl⟩⟩
instance:One PP 3:={}
instance:Size PP 3 1:={}
instance:Elem PP 3 Zz 1 8:={}
instance:BoolT PP 4:=⟨by kernel_rfl⟩
instance:One PP 4:={}
instance:Size PP 4 1:={}
instance:Elem PP 4 (Value.bool false) 1 1:={}
instance:Elem PP 5 (Value.int IntKind.u8 0) 1 1:={}
instance:One PP 9:={}
instance:Elem PP 9 (Value.string ⟨#[]⟩) 1 16:={}
instance:Agg PP 23 5:={}
instance:Size PP 23 5:={}
instance:Elem PP 23 (Value.agg #[Zz,Zz,Zz,Zz,Zz]) 5 40:={}
instance:StructT PP 23 [(0,1),(1,1),(2,1),(3,1),(4,1)] [Zz,Zz,Zz,Zz,Zz]:={}
instance:SlT PP 24 36:={}
instance:PtrT PP 26:=⟨⟨87,by kernel_rfl⟩⟩
instance:One PP 26:={}
instance:Conc PP 27:={}
instance:One PP 27:={}
instance:Size PP 27 1:={}
instance:Elem PP 27 Zz 1 8:={}
instance:SlT PP 34 3:={}
instance:One PP 34:={}
instance:Size PP 34 1:={}
instance:Elem PP 34 (Value.slice none 0 0) 1 24:={}
instance:Agg PP 36 3:={}
instance:Size PP 36 3:={}
instance:Elem PP 36 (Value.agg #[(Value.bool false),(Value.string ⟨#[]⟩),(Value.slice none 0 0)]) 3 48:={}
instance:StructT PP 36 [(0,1),(1,1),(2,1)] [(Value.bool false),(Value.string ⟨#[]⟩),(Value.slice none 0 0)]:={}
instance:SlT PP 38 9:={}
instance:One PP 38:={}
instance:Size PP 38 1:={}
instance:Elem PP 38 (Value.slice none 0 0) 1 24:={}
instance:Agg PP 53 6:={}
instance:Size PP 53 6:={}
instance:Elem PP 53 (Value.agg #[Zz,Zz,Zz,(Value.slice none 0 0),Zz,Zz]) 6 64:={}
instance:StructT PP 53 [(0,1),(1,1),(2,1),(3,1),(4,1),(5,1)] [Zz,Zz,Zz,(Value.slice none 0 0),Zz,Zz]:={}
instance:Agg PP 55 8:={}
instance:Size PP 55 8:={}
instance:Elem PP 55 (Value.agg #[Zz,Zz,Zz,Zz,Zz,(Value.slice none 0 0),Zz,Zz]) 8 80:={}
instance:StructT PP 55 [(0,1),(1,1),(2,6)] [Zz,Zz,Zz,Zz,Zz,(Value.slice none 0 0),Zz,Zz]:={}
instance:SlT PP 63 206:={}
instance:One PP 63:={}
instance:Agg PP 65 3:={}
instance:Size PP 65 3:={}
instance:Elem PP 65 (Value.agg #[(Value.bool false),Zz,(Value.slice none 0 0)]) 3 40:={}
instance:StructT PP 65 [(0,1),(1,1),(2,1)] [(Value.bool false),Zz,(Value.slice none 0 0)]:={}
instance:Agg PP 67 5:={}
instance:Size PP 67 5:={}
instance:Elem PP 67 (Value.agg #[Zz,Zz,(Value.bool false),Zz,(Value.slice none 0 0)]) 5 56:={}
instance:StructT PP 67 [(0,1),(1,1),(2,3)] [Zz,Zz,(Value.bool false),Zz,(Value.slice none 0 0)]:={}
instance:SlT PP 70 130:={}
instance:One PP 70:={}
instance:Size PP 70 1:={}
instance:Elem PP 70 (Value.slice none 0 0) 1 24:={}
instance:SlT PP 74 159:={}
instance:One PP 74:={}
instance:Size PP 74 1:={}
instance:SlT PP 75 38:={}
instance:One PP 75:={}
instance:Size PP 75 1:={}
instance:Agg PP 77 3:={}
instance:Size PP 77 3:={}
instance:Elem PP 77 (Value.agg #[Zz,(Value.slice none 0 0),(Value.slice none 0 0)]) 3 56:={}
instance:StructT PP 77 [(0,1),(1,1),(2,1)] [Zz,(Value.slice none 0 0),(Value.slice none 0 0)]:={}
instance:SlT PP 80 188:={}
instance:One PP 80:={}
instance:Agg PP 82 4:={}
instance:Size PP 82 4:={}
instance:Elem PP 82 (Value.agg #[(Value.slice none 0 0),(Value.slice none 0 0),(Value.slice none 0 0),(Value.slice none 0 0)]) 4 96:={}
instance:SlT PP 83 170:={}
instance:One PP 83:={}
instance:Size PP 83 1:={}
instance:SlT PP 84 55:={}
instance:One PP 84:={}
instance:Size PP 84 1:={}
instance:SlT PP 85 92:={}
instance:One PP 85:={}
instance:Size PP 85 1:={}
instance:StructT PP 87 [(0,5),(5,4),(9,1),(10,1),(11,1),(12,1),(13,1)] [Zz,Zz,Zz,Zz,Zz,(Value.slice none 0 0),(Value.slice none 0 0),(Value.slice none 0 0),(Value.slice none 0 0),(Value.slice none 0 0),(Value.slice none 0 0),(Value.slice none 0 0),(Value.slice none 0 0),(Value.slice none 0 0)]:={}
instance:PtrT PP 92:=⟨⟨180,by kernel_rfl⟩⟩
instance:One PP 92:={}
instance:Elem PP 92 (Value.pointer none) 1 8:={}
instance:SlT PP 96 114:={}
instance:One PP 96:={}
instance:StructT PP 98 [(0,5),(5,4),(9,1),(10,1),(11,1),(12,1)] [Zz,Zz,Zz,Zz,Zz,(Value.slice none 0 0),(Value.slice none 0 0),(Value.slice none 0 0),(Value.slice none 0 0),(Value.slice none 0 0),(Value.slice none 0 0),(Value.slice none 0 0),(Value.slice none 0 0)]:={}
instance:SlT PP 110 211:={}
instance:One PP 110:={}
instance:Size PP 110 1:={}
instance:Elem PP 110 (Value.slice none 0 0) 1 24:={}
instance:SlT PP 112 222:={}
instance:One PP 112:={}
instance:Size PP 112 1:={}
instance:Elem PP 112 (Value.slice none 0 0) 1 24:={}
instance:Agg PP 114 3:={}
instance:Size PP 114 3:={}
instance:Elem PP 114 (Value.agg #[(Value.slice none 0 0),(Value.slice none 0 0),Zz]) 3 56:={}
instance:StructT PP 114 [(0,1),(1,1),(2,1)] [(Value.slice none 0 0),(Value.slice none 0 0),Zz]:={}
instance:One PP 119:={}
instance:Size PP 121 1:={}
instance:Elem PP 121 (Value.agg #[Value.nilFunc]) 1 8:={}
instance:StructT PP 121 [(0,1)] [Value.nilFunc]:={}
instance:Agg PP 130 9:={}
instance:Size PP 130 9:={}
instance:Elem PP 130 (Value.agg #[(Value.bool false),Zz,Zz,Zz,Zz,Zz,(Value.slice none 0 0),Zz,Zz]) 9 88:={}
instance:StructT PP 130 [(0,1),(1,8)] [(Value.bool false),Zz,Zz,Zz,Zz,Zz,(Value.slice none 0 0),Zz,Zz]:={}
instance:StructT PP 135 [(0,1),(1,1),(2,1)] [(Value.pointer none),(Value.slice none 0 0),(Value.slice none 0 0)]:={}
instance:MapT PP 147 3 3:={}
instance:StructT PP 156 [(0,1),(1,1)] [(Value.string ⟨#[]⟩),Zz]:={}
instance:Agg PP 159 2:={}
instance:Size PP 159 2:={}
instance:Elem PP 159 (Value.agg #[Zz,Zz]) 2 16:={}
instance:StructT PP 159 [(0,1),(1,1)] [Zz,Zz]:={}
instance:MapT PP 167 9 34:={}
instance:Agg PP 170 2:={}
instance:Size PP 170 2:={}
instance:Elem PP 170 (Value.agg #[(Value.string ⟨#[]⟩),(Value.slice none 0 0)]) 2 40:={}
instance:StructT PP 170 [(0,1),(1,1)] [(Value.string ⟨#[]⟩),(Value.slice none 0 0)]:={}
instance:Agg PP 172 2:={}
instance:Size PP 172 2:={}
instance:Elem PP 172 (Value.agg #[Zz,(Value.slice none 0 0)]) 2 32:={}
instance:StructT PP 172 [(0,1),(1,1)] [Zz,(Value.slice none 0 0)]:={}
instance:PtrT PP 175:=⟨⟨259,by kernel_rfl⟩⟩
instance:One PP 175:={}
instance:MapT PP 178 3 34:={}
instance:One PP 178:={}
instance:StructT PP 180 [(0,1),(1,2),(3,1),(4,1)] [(Value.pointer none),Zz,(Value.slice none 0 0),(Value.slice none 0 0),(Value.map none)]:={}
instance:Agg PP 188 2:={}
instance:Size PP 188 2:={}
instance:Elem PP 188 (Value.agg #[(Value.slice none 0 0),Zz]) 2 32:={}
instance:StructT PP 188 [(0,1),(1,1)] [(Value.slice none 0 0),Zz]:={}
instance:One PP 190:={}
instance:SlT PP 201 5:={}
instance:One PP 201:={}
instance:Size PP 201 1:={}
instance:Elem PP 201 (Value.slice none 0 0) 1 24:={}
instance:Elem PP 203 (Value.agg #[(Value.pointer none),(Value.slice none 0 0)]) 2 32:={}
instance:Agg PP 206 2:={}
instance:Size PP 206 2:={}
instance:Elem PP 206 (Value.agg #[Zz,Zz]) 2 16:={}
instance:StructT PP 206 [(0,1),(1,1)] [Zz,Zz]:={}
instance:Agg PP 209 3:={}
instance:Size PP 209 3:={}
instance:Elem PP 209 (Value.agg #[Zz,Zz,Zz]) 3 24:={}
instance:StructT PP 209 [(0,1),(1,1),(2,1)] [Zz,Zz,Zz]:={}
instance:Agg PP 211 4:={}
instance:Size PP 211 4:={}
instance:Elem PP 211 (Value.agg #[Zz,Zz,Zz,Zz]) 4 32:={}
instance:StructT PP 211 [(0,3),(3,1)] [Zz,Zz,Zz,Zz]:={}
instance:StructT PP 217 [(0,1),(1,1),(2,1)] [(Value.string ⟨#[]⟩),Zz,(Value.bool false)]:={}
instance:Agg PP 222 4:={}
instance:Size PP 222 4:={}
instance:Elem PP 222 (Value.agg #[Zz,Zz,Zz,Zz]) 4 32:={}
instance:StructT PP 222 [(0,3),(3,1)] [Zz,Zz,Zz,Zz]:={}
instance:One PP 224:={}
instance:Size PP 226 2:={}
instance:Elem PP 226 (Value.agg #[Value.nilFunc,Value.nilFunc]) 2 16:={}
instance:ArrT PP 226 2 224:=⟨by kernel_rfl⟩
instance:StructT PP 228 [(0,1),(1,1)] [(Value.string ⟨#[]⟩),Zz]:={}
instance:One PP 242:={}
instance:Agg PP 244 1:={}
instance:Size PP 244 1:={}
instance:Elem PP 244 (Value.agg #[Value.nilFunc]) 1 8:={}
instance:StructT PP 244 [(0,1)] [Value.nilFunc]:={}
instance:One PP 248:={}
instance:Agg PP 250 1:={}
instance:Size PP 250 1:={}
instance:Elem PP 250 (Value.agg #[Value.nilFunc]) 1 8:={}
instance:StructT PP 250 [(0,1)] [Value.nilFunc]:={}
instance:SlT PP 257 360:={}
instance:One PP 257:={}
instance:StructT PP 259 [(0,1),(1,1),(2,1)] [(Value.slice none 0 0),Zz,Zz]:={}
instance:SlT PP 271 110:={}
instance:One PP 279:={}
instance:StructT PP 282 [(0,6),(6,4),(10,1),(11,1)] [Zz,Zz,Zz,(Value.slice none 0 0),Zz,Zz,(Value.slice none 0 0),(Value.slice none 0 0),(Value.slice none 0 0),(Value.slice none 0 0),(Value.slice none 0 0),Zz]:={}
instance:MapT PP 344 209 4:={}
instance:One PP 344:={}
instance:Size PP 344 1:={}
instance:Elem PP 344 (Value.map none) 1 8:={}
instance:Agg PP 360 5:={}
instance:Size PP 360 5:={}
instance:Elem PP 360 (Value.agg #[Zz,Zz,Zz,Zz,(Value.bool false)]) 5 40:={}
instance:StructT PP 360 [(0,3),(3,1),(4,1)] [Zz,Zz,Zz,Zz,(Value.bool false)]:={}
instance:StructT PP 374 [(0,1),(1,1),(2,1)] [(Value.string ⟨#[]⟩),Zz,(Value.bool false)]:={}
instance:MapT PP 394 209 211:={}
instance:MapT PP 407 3 4:={}
instance:One PP 409:={}
instance:PtrT PP 411:=⟨⟨416,by kernel_rfl⟩⟩
instance:SlT PP 412 446:={}
instance:One PP 412:={}
instance:Size PP 412 1:={}
instance:StructT PP 416 [(0,1),(1,1)] [(Value.slice none 0 0),Zz]:={}
instance:ArrT PP 420 400 4:=⟨by kernel_rfl⟩
instance:Elem PP 420 (.agg (Array.replicate 400 (Value.bool false))) 400 400:={}
instance:Conc PP 445:={}
instance : MethP PP 445 "Len" 422 := ⟨⟨414, by kernel_rfl⟩⟩
instance : MethP PP 445 "Less" 470 := ⟨⟨414, by kernel_rfl⟩⟩
instance : MethP PP 445 "Pop" 471 := ⟨⟨414, by kernel_rfl⟩⟩
instance : MethP PP 445 "Push" 472 := ⟨⟨414, by kernel_rfl⟩⟩
instance : MethP PP 445 "Swap" 473 := ⟨⟨414, by kernel_rfl⟩⟩
instance:Conc PP 446:={}
instance:Agg PP 446 2:={}
instance:Size PP 446 2:={}
instance:Elem PP 446 (Value.agg #[Zz,Zz]) 2 16:={}
noncomputable instance:MKey PP 3 Int:=mkInt (kd:=IntKind.i64) (by kernel_rfl)
noncomputable instance:MKey PP 9 ByteArray:=mkStr (by kernel_rfl)
section
open Go.Proofs.Tryz
instance:FnAt PP 4 f4 84:={}
instance:FnAt PP 10 f10 105:={}
instance:FnAt PP 11 f11 43:={}
instance:FnAt PP 13 f13 26:={}
instance:FnAt PP 14 f14 49:={}
instance:FnAt PP 15 f15 98:={}
instance:FnAt PP 16 f16 49:={}
instance:FnAt PP 17 f17 92:={}
instance:FnAt PP 18 f18 26:={}
instance:FnAt PP 19 f19 24:={}
instance:FnAt PP 20 f20 59:={}
instance:FnAt PP 25 f25 39:={}
instance:FnAt PP 26 f26 30:={}
instance:FnAt PP 27 f27 60:={}
instance:FnAt PP 28 f28 24:={}
instance:FnAt PP 29 f29 72:={}
instance:FnAt PP 30 f30 70:={}
instance:FnAt PP 31 f31 55:={}
instance:FnAt PP 32 f32 22:={}
instance:FnAt PP 33 f33 26:={}
instance:FnAt PP 34 f34 8:={}
instance:FnAt PP 35 f35 18:={}
instance:FnAt PP 38 f38 64:={}
instance:FnAt PP 39 f39 34:={}
instance:FnAt PP 40 f40 12:={}
instance:FnAt PP 41 f41 12:={}
instance:FnAt PP 42 f42 74:={}
instance:FnAt PP 43 f43 38:={}
instance:FnAt PP 44 f44 68:={}
instance:FnAt PP 45 f45 30:={}
instance:FnAt PP 46 f46 51:={}
instance:FnAt PP 47 f47 94:={}
instance:FnAt PP 48 f48 79:={}
instance:FnAt PP 49 f49 81:={}
instance:FnAt PP 51 f51 52:={}
instance:FnAt PP 52 f52 6:={}
instance:FnAt PP 53 f53 106:={}
instance:FnAt PP 54 f54 43:={}
instance:FnAt PP 55 f55 50:={}
instance:FnAt PP 56 f56 21:={}
instance:FnAt PP 57 f57 18:={}
instance:FnAt PP 58 f58 30:={}
instance:FnAt PP 59 f59 32:={}
instance:FnAt PP 60 f60 110:={}
instance:FnAt PP 61 f61 15:={}
instance:FnAt PP 62 f62 15:={}
instance:FnAt PP 63 f63 55:={}
instance:FnAt PP 64 f64 38:={}
instance:FnAt PP 65 f65 97:={}
instance:FnAt PP 66 f66 15:={}
instance:FnAt PP 67 f67 15:={}
instance:FnAt PP 68 f68 36:={}
instance:FnAt PP 69 f69 80:={}
instance:FnAt PP 70 f70 29:={}
instance:FnAt PP 71 f71 31:={}
instance:FnAt PP 72 f72 10:={}
instance:FnAt PP 73 f73 48:={}
instance:FnAt PP 74 f74 50:={}
instance:FnAt PP 75 f75 17:={}
instance:FnAt PP 76 f76 22:={}
instance:FnAt PP 77 f77 26:={}
instance:FnAt PP 78 f78 13:={}
instance:FnAt PP 79 f79 35:={}
instance:FnAt PP 80 f80 5:={}
instance:FnAt PP 81 f81 36:={}
instance:FnAt PP 86 f86 12:={}
instance:FnAt PP 87 f87 11:={}
instance:FnAt PP 88 f88 24:={}
instance:FnAt PP 89 f89 24:={}
instance:FnAt PP 90 f90 25:={}
instance:FnAt PP 91 f91 24:={}
instance:FnAt PP 92 f92 19:={}
instance:FnAt PP 93 f93 32:={}
instance:FnAt PP 94 f94 50:={}
instance:FnAt PP 96 f96 30:={}
instance:FnAt PP 97 f97 16:={}
instance:FnAt PP 98 f98 67:={}
instance:FnAt PP 99 f99 65:={}
instance:FnAt PP 100 f100 80:={}
instance:FnAt PP 101 f101 63:={}
instance:FnAt PP 102 f102 64:={}
instance:FnAt PP 103 f103 15:={}
instance:FnAt PP 104 f104 21:={}
instance:FnAt PP 105 f105 29:={}
instance:FnAt PP 106 f106 5:={}
instance:FnAt PP 107 f107 6:={}
instance:FnAt PP 108 f108 5:={}
instance:FnAt PP 109 f109 120:={}
instance:FnAt PP 110 f110 29:={}
instance:FnAt PP 111 f111 40:={}
instance:FnAt PP 112 f112 63:={}
instance:FnAt PP 113 f113 30:={}
instance:FnAt PP 114 f114 60:={}
instance:FnAt PP 115 f115 83:={}
instance:FnAt PP 116 f116 23:={}
instance:FnAt PP 117 f117 14:={}
instance:FnAt PP 118 f118 8:={}
instance:FnAt PP 119 f119 91:={}
instance:FnAt PP 120 f120 23:={}
instance:FnAt PP 121 f121 26:={}
instance:FnAt PP 122 f122 63:={}
instance:FnAt PP 123 f123 59:={}
instance:FnAt PP 124 f124 13:={}
instance:FnAt PP 125 f125 70:={}
instance:FnAt PP 126 f126 19:={}
instance:FnAt PP 127 f127 26:={}
instance:FnAt PP 128 f128 26:={}
instance:FnAt PP 129 f129 36:={}
instance:FnAt PP 130 f130 36:={}
instance:FnAt PP 131 f131 71:={}
instance:FnAt PP 132 f132 38:={}
instance:FnAt PP 133 f133 12:={}
instance:FnAt PP 134 f134 28:={}
instance:FnAt PP 135 f135 21:={}
instance:FnAt PP 136 f136 9:={}
instance:FnAt PP 137 f137 16:={}
instance:FnAt PP 138 f138 26:={}
instance:FnAt PP 139 f139 48:={}
instance:FnAt PP 140 f140 19:={}
instance:FnAt PP 141 f141 13:={}
instance:FnAt PP 142 f142 13:={}
instance:FnAt PP 143 f143 26:={}
instance:FnAt PP 144 f144 58:={}
instance:FnAt PP 149 f149 15:={}
instance:FnAt PP 150 f150 17:={}
instance:FnAt PP 151 f151 13:={}
instance:FnAt PP 152 f152 17:={}
instance:FnAt PP 153 f153 13:={}
instance:FnAt PP 154 f154 17:={}
instance:FnAt PP 155 f155 7:={}
instance:FnAt PP 156 f156 25:={}
instance:FnAt PP 157 f157 2:={}
instance:FnAt PP 158 f158 64:={}
instance:FnAt PP 159 f159 25:={}
instance:FnAt PP 160 f160 2:={}
instance:FnAt PP 161 f161 9:={}
instance:FnAt PP 162 f162 8:={}
instance:FnAt PP 163 f163 35:={}
instance:FnAt PP 166 f166 29:={}
instance:FnAt PP 167 f167 49:={}
instance:FnAt PP 168 f168 40:={}
instance:FnAt PP 169 f169 39:={}
instance:FnAt PP 170 f170 32:={}
instance:FnAt PP 171 f171 18:={}
instance:FnAt PP 172 f172 96:={}
instance:FnAt PP 173 f173 24:={}
instance:FnAt PP 174 f174 22:={}
instance:FnAt PP 175 f175 6:={}
instance:FnAt PP 176 f176 8:={}
instance:FnAt PP 177 f177 14:={}
instance:FnAt PP 178 f178 13:={}
instance:FnAt PP 179 f179 23:={}
instance:FnAt PP 180 f180 9:={}
instance:FnAt PP 181 f181 67:={}
instance:FnAt PP 182 f182 30:={}
instance:FnAt PP 183 f183 55:={}
instance:FnAt PP 184 f184 23:={}
instance:FnAt PP 185 f185 41:={}
instance:FnAt PP 186 f186 15:={}
instance:FnAt PP 187 f187 9:={}
instance:FnAt PP 188 f188 8:={}
instance:FnAt PP 189 f189 9:={}
instance:FnAt PP 190 f190 4:={}
instance:FnAt PP 192 f192 10:={}
instance:FnAt PP 193 f193 22:={}
instance:FnAt PP 194 f194 35:={}
instance:FnAt PP 195 f195 21:={}
instance:FnAt PP 196 f196 18:={}
instance:FnAt PP 197 f197 20:={}
instance:FnAt PP 198 f198 26:={}
instance:FnAt PP 199 f199 85:={}
instance:FnAt PP 200 f200 7:={}
instance:FnAt PP 201 f201 9:={}
instance:FnAt PP 202 f202 44:={}
instance:FnAt PP 203 f203 48:={}
instance:FnAt PP 204 f204 58:={}
instance:FnAt PP 205 f205 107:={}
instance:FnAt PP 206 f206 36:={}
instance:FnAt PP 207 f207 21:={}
instance:FnAt PP 208 f208 9:={}
instance:FnAt PP 209 f209 27:={}
instance:FnAt PP 210 f210 19:={}
instance:FnAt PP 211 f211 70:={}
instance:FnAt PP 212 f212 35:={}
instance:FnAt PP 213 f213 16:={}
instance:FnAt PP 214 f214 37:={}
instance:FnAt PP 215 f215 32:={}
instance:FnAt PP 216 f216 103:={}
instance:FnAt PP 217 f217 38:={}
instance:FnAt PP 218 f218 28:={}
instance:FnAt PP 219 f219 85:={}
instance:FnAt PP 220 f220 60:={}
instance:FnAt PP 221 f221 102:={}
instance:FnAt PP 222 f222 25:={}
instance:FnAt PP 223 f223 29:={}
instance:FnAt PP 224 f224 5:={}
instance:FnAt PP 225 f225 94:={}
instance:FnAt PP 226 f226 11:={}
instance:FnAt PP 227 f227 6:={}
instance:FnAt PP 228 f228 27:={}
instance:FnAt PP 229 f229 9:={}
instance:FnAt PP 230 f230 17:={}
instance:FnAt PP 231 f231 46:={}
instance:FnAt PP 232 f232 31:={}
instance:FnAt PP 236 f236 18:={}
instance:FnAt PP 237 f237 29:={}
instance:FnAt PP 238 f238 5:={}
instance:FnAt PP 239 f239 35:={}
instance:FnAt PP 240 f240 29:={}
instance:FnAt PP 241 f241 5:={}
instance:FnAt PP 242 f242 54:={}
instance:FnAt PP 244 f244 13:={}
instance:FnAt PP 245 f245 6:={}
instance:FnAt PP 246 f246 17:={}
instance:FnAt PP 247 f247 19:={}
instance:FnAt PP 248 f248 14:={}
instance:FnAt PP 249 f249 14:={}
instance:FnAt PP 261 f261 67:={}
instance:FnAt PP 262 f262 6:={}
instance:FnAt PP 263 f263 54:={}
instance:FnAt PP 264 f264 42:={}
instance:FnAt PP 265 f265 5:={}
instance:FnAt PP 266 f266 42:={}
instance:FnAt PP 267 f267 53:={}
instance:FnAt PP 268 f268 8:={}
instance:FnAt PP 269 f269 10:={}
instance:FnAt PP 270 f270 44:={}
instance:FnAt PP 271 f271 19:={}
instance:FnAt PP 272 f272 42:={}
instance:FnAt PP 273 f273 46:={}
instance:FnAt PP 274 f274 90:={}
instance:FnAt PP 276 f276 21:={}
instance:FnAt PP 277 f277 6:={}
instance:FnAt PP 278 f278 27:={}
instance:FnAt PP 279 f279 11:={}
instance:FnAt PP 280 f280 24:={}
instance:FnAt PP 281 f281 22:={}
instance:FnAt PP 282 f282 52:={}
instance:FnAt PP 283 f283 11:={}
instance:FnAt PP 284 f284 9:={}
instance:FnAt PP 285 f285 25:={}
instance:FnAt PP 286 f286 31:={}
instance:FnAt PP 287 f287 33:={}
instance:FnAt PP 288 f288 13:={}
instance:FnAt PP 289 f289 22:={}
instance:FnAt PP 290 f290 41:={}
instance:FnAt PP 291 f291 8:={}
instance:FnAt PP 292 f292 19:={}
instance:FnAt PP 293 f293 4:={}
instance:FnAt PP 295 f295 109:={}
instance:FnAt PP 296 f296 19:={}
instance:FnAt PP 297 f297 18:={}
instance:FnAt PP 298 f298 38:={}
instance:FnAt PP 299 f299 16:={}
instance:FnAt PP 300 f300 18:={}
instance:FnAt PP 301 f301 19:={}
instance:FnAt PP 302 f302 27:={}
instance:FnAt PP 303 f303 27:={}
instance:FnAt PP 304 f304 20:={}
instance:FnAt PP 305 f305 32:={}
instance:FnAt PP 306 f306 27:={}
instance:FnAt PP 307 f307 9:={}
instance:FnAt PP 308 f308 24:={}
instance:FnAt PP 309 f309 19:={}
instance:FnAt PP 310 f310 9:={}
instance:FnAt PP 311 f311 19:={}
instance:FnAt PP 312 f312 45:={}
instance:FnAt PP 319 f319 17:={}
instance:FnAt PP 325 f325 61:={}
instance:FnAt PP 326 f326 8:={}
instance:FnAt PP 328 f328 61:={}
instance:FnAt PP 335 f335 21:={}
instance:FnAt PP 336 f336 21:={}
instance:FnAt PP 337 f337 36:={}
instance:FnAt PP 339 f339 23:={}
instance:FnAt PP 340 f340 18:={}
instance:FnAt PP 341 f341 10:={}
instance:FnAt PP 343 f343 28:={}
instance:FnAt PP 344 f344 15:={}
instance:FnAt PP 345 f345 15:={}
instance:FnAt PP 354 f354 49:={}
instance:FnAt PP 355 f355 24:={}
instance:FnAt PP 356 f356 5:={}
instance:FnAt PP 357 f357 25:={}
instance:FnAt PP 358 f358 19:={}
instance:FnAt PP 359 f359 28:={}
instance:FnAt PP 360 f360 29:={}
instance:FnAt PP 361 f361 18:={}
instance:FnAt PP 363 f363 8:={}
instance:FnAt PP 364 f364 68:={}
instance:FnAt PP 365 f365 25:={}
instance:FnAt PP 366 f366 28:={}
instance:FnAt PP 367 f367 37:={}
instance:FnAt PP 368 f368 26:={}
instance:FnAt PP 377 f377 34:={}
instance:FnAt PP 381 f381 4:={}
instance:FnAt PP 382 f382 21:={}
instance:FnAt PP 383 f383 17:={}
instance:FnAt PP 384 f384 21:={}
instance:FnAt PP 385 f385 15:={}
instance:FnAt PP 386 f386 21:={}
instance:FnAt PP 387 f387 12:={}
instance:FnAt PP 388 f388 9:={}
instance:FnAt PP 389 f389 15:={}
instance:FnAt PP 390 f390 8:={}
instance:FnAt PP 392 f392 29:={}
instance:FnAt PP 393 f393 24:={}
instance:FnAt PP 420 f420 19:={}
instance:FnAt PP 421 f421 23:={}
instance:FnAt PP 422 f422 8:={}
instance:FnAt PP 423 f423 15:={}
instance:FnAt PP 425 f425 4:={}
instance:FnAt PP 435 f435 48:={}
instance:FnAt PP 470 f470 23:={}
instance:FnAt PP 471 f471 32:={}
instance:FnAt PP 472 f472 22:={}
instance:FnAt PP 473 f473 32:={}
end
open Go Go.Proofs
set_option warn.classDefReducibility false
variable {B N hi i j k m n:Nat} {D:Nat -> Prop} {P:Program} {T:Tab} {a:Option Addr} {s:List UInt8} {w':World}
noncomputable instance:Rd PP 3 Int:=rdInt (by kernel_rfl) (by kernel_rfl)
theorem zQA{w:World}:∀{f:FuncId} {args:Array Value} {P:Program},Sp P f args w (λv w'=>v=.bool true/\Stp w w')->Sp P f args w (λv w'=>v=.bool true/\Ext w w'):=λh=>h.mono λ_ _ h=>⟨h.1,h.2.e⟩
end Go.W
namespace Go.Proofs.YtneehpnmjhjocaaGreat
open Go.W Go.ChangeShapes
theorem own0:ownKnob PP.godebug=none:=by kernel_rfl
theorem laid0:laidOutB PP=true:=by kernel_rfl
end Go.Proofs.YtneehpnmjhjocaaGreat
namespace Go.W
variable {B N hi i j k m n:Nat} {D:Nat -> Prop} {P:Program} {T:Tab} {a:Option Addr} {s:List UInt8} {w':World}
def numB (n:Nat):List UInt8:=if h:n<128 then [UInt8.ofNat n] else UInt8.ofNat (128+n % 128)::numB (n / 128)
termination_by n
decreasing_by omega
def valB:List UInt8->Nat
 |[]=>0
 |c::r=>c.toNat % 128+128*valB r
def OneB:List UInt8->Prop
 |[]=>False
 |[c]=>c.toNat<128
 |c::d::r=>128<=c.toNat/\OneB (d::r)/\(r=[]->d.toNat≠0)
theorem numB_lt(h:n<128):numB n=[UInt8.ofNat n]:=by unfold numB;rw [dif_pos h]
theorem zBz(h:¬n<128):numB n=UInt8.ofNat (128+n % 128)::numB (n / 128):=by rw [numB,dif_neg h]
theorem zIt(n:Nat):numB n≠[]:=by
 by_cases h:n<128
 ·rw [numB_lt h];simp
 ·rw [zBz h];simp
theorem zHb(n:Nat):valB (numB n)=n:=by
 induction n using Nat.strongRecOn with
 |ind n b =>
  by_cases h:n<128
  ·rw [numB_lt h];simp only [valB,JZ];omega
  ·rw [zBz h];simp only [valB,JZ];rw [b (n / 128) (by omega)];omega
theorem zDb(n:Nat):OneB (numB n):=by
 induction n using Nat.strongRecOn with
 |ind n c =>
  by_cases h:n<128
  ·rw [numB_lt h];simp only [OneB,JZ];omega
  ·have hi:=c (n / 128) (by omega);rw [zBz h];by_cases b:n / 128<128
   ·rw [numB_lt b] at hi ⊢;refine⟨by rw [JZ];omega,hi,λ_=>by rw [JZ];omega⟩
   ·rw [zBz b] at hi ⊢;refine⟨by rw [JZ];omega,hi,λe=>absurd e (zIt _)⟩
theorem zLw:∀{d:UInt8} {r:List UInt8},OneB (d::r)->(r=[]->d.toNat≠0)->0<valB (d::r)
 |d,[],h,h0=>by have:=h0 rfl;simp only [OneB] at h;simp only [valB];omega
 |d,e::r,h,_=>by
  obtain⟨_,b,c⟩:=h;have:=zLw b c;simp only [valB] at this ⊢;omega
theorem zMO:∀{l:List UInt8},OneB l->numB (valB l)=l
 |[],h=>h.elim
 |[c],h=>by
  simp only [OneB] at h;simp only [valB];rw [numB_lt (by omega)];congr 1;apply UInt8.toNat.inj;rw [JZ];omega
 |c::d::r,h=>by
  obtain⟨q,g,o⟩:=h;have t:=zLw g o;have p:=zMO g;have e:valB (c::d::r)=c.toNat % 128+128*valB (d::r):=rfl;rw [e,zBz (by omega)];have b:(c.toNat % 128+128*valB (d::r)) / 128=valB (d::r):=by omega
  have f:(c.toNat % 128+128*valB (d::r)) % 128=c.toNat % 128:=by omega
  rw [b,f,p];congr 1;apply UInt8.toNat.inj;have:=c.toNat_lt;rw [JZ];omega
theorem OneB.pre:∀{a b s t:List UInt8},OneB a->OneB b->a++s=b++t->a=b/\s=t
 |[],_,_,_,h,_,_=>h.elim
 |_,[],_,_,_,h,_=>h.elim
 |[c],[d],s,t,_,_,e=>by
  simp at e;exact⟨by rw [e.1],e.2⟩
 |[c],d::d2::r,s,t,h,f,e=>by
  simp at e;have g:=f.1;simp only [OneB] at h;rw [<-e.1] at g;omega
 |c::c2::r,[d],s,t,h,f,e=>by
  simp at e;have g:=h.1;simp only [OneB] at f;rw [e.1] at g;omega
 |c::c2::r,d::d2::q,s,t,h,f,e=>by
  have l:c=d/\(c2::r)++s=(d2::q)++t:=by simpa using e
  have o:=OneB.pre h.2.1 f.2.1 l.2;rw [l.1,o.1];exact⟨rfl,o.2⟩
theorem zHa{t:List UInt8}(e:numB n++s=numB m++t):n=m/\s=t:=by
 have h:=OneB.pre (zDb n) (zDb m) e;refine⟨?_,h.2⟩;have:=congrArg valB h.1
 rwa [zHb,zHb] at this
theorem zAm(h:n<=2147483647):(numB n).length<=5:=by
 have step:∀k m:Nat,m<128 ^ (k+1)->(numB m).length<=k+1:=λk=>by
  induction k with
  |zero=>intro m b;rw [numB_lt (by simpa using b)];simp
  |succ k d =>
   intro m b;by_cases c:m<128
   ·rw [numB_lt c];simp
   ·rw [zBz c,QA];have:=d (m / 128) (by rw [Nat.div_lt_iff_lt_mul (by decide)];rw [XS] at b;exact b);omega
 exact step 4 n (by omega)
section
variable {α:Type}
structure Ord (lt:α->α->Bool):Prop where
 irrefl:∀x,lt x x=false
 trans:∀x y z,lt x y=true->lt y z=true->lt x z=true
 ntrans:∀x y z,lt x y=false->lt y z=false->lt x z=false
theorem Ord.asymm{lt:α->α->Bool}(h:Ord lt){x y:α}(e:lt x y=true):lt y x=false:=by
 cases b:lt y x with
 |false=>rfl
 |true=>have:=h.trans x y x e b;rw [h.irrefl] at this;cases this
end
section
variable {α:Type} [Inhabited α]
abbrev atL (l:List α) (i:Nat):α:=l.getD i default
def swL (l:List α) (i j:Nat):List α:=(l.set i (atL l j)).set j (atL l i)
theorem zD8(l:List α)(i j:Nat):(swL l i j).length=l.length:=by simp [swL]
theorem zBx{l:List α}(h:i<l.length):atL l i=l[i]:=by simp [atL,h]
theorem zMt{l:List α}{p:Nat}(x:α)(h:i<l.length):atL (l.set i x) p=if p=i then x else atL l p:=by
 unfold atL;simp only [Qk,Vw];by_cases e:p=i
 ·subst e;simp [h]
 ·rw [if_neg e,if_neg (Jq e)]
theorem atL_sw{l:List α}{p:Nat}(hi:i<l.length)(b:j<l.length):atL (swL l i j) p=if p=j then atL l i else if p=i then atL l j else atL l p:=by
 unfold swL;rw [zMt _ (by simpa using b),zMt _ hi]
theorem zDg{l:List α}(hi:i<l.length)(b:j<l.length):(swL l i j).Perm l:=by
 unfold swL;rw [zBx hi,zBx b];exact List.set_set_perm hi b
variable {lt:α->α->Bool}
def HeapN (lt:α->α->Bool) (l:List α) (n:Nat):Prop:=∀c,0<c->c<n->lt (atL l c) (atL l ((c - 1) / 2))=false
def HeapX (lt:α->α->Bool) (l:List α) (n i:Nat):Prop:=
 (∀c,0<c->c<n->c≠i->(c - 1) / 2≠i->lt (atL l c) (atL l ((c - 1) / 2))=false) /\
 (∀c,0<c->c<n->(c - 1) / 2=i->0<i->lt (atL l c) (atL l ((i - 1) / 2))=false)
def TopOk (lt:α->α->Bool) (l:List α) (i:Nat):Prop:=0<i->lt (atL l i) (atL l ((i - 1) / 2))=false
def LowOk (lt:α->α->Bool) (l:List α) (n i:Nat):Prop:=∀c,0<c->c<n->(c - 1) / 2=i->lt (atL l c) (atL l i)=false
theorem HeapX.full{l:List α}(h:HeapX lt l n i)(t:TopOk lt l i)(b:LowOk lt l n i):HeapN lt l n:=by
 intro c h0 f;by_cases e:c=i
 ·subst e;exact t h0
 ·by_cases d:(c - 1) / 2=i
  ·rw [d];exact b c h0 f d
  ·exact h.1 c h0 f e d
theorem zQH(O:Ord lt){l:List α}(A:j<n)(C:n<=l.length)(h:HeapX lt l n j)(b:LowOk lt l n j)(h0:0<j)(v:lt (atL l j) (atL l ((j - 1) / 2))=true):
  HeapX lt (swL l ((j - 1) / 2) j) n ((j - 1) / 2)/\LowOk lt (swL l ((j - 1) / 2) j) n ((j - 1) / 2):=by
 have d:=λp=>atL_sw (l:=l) (i:=(j - 1) / 2) (j:=j) (p:=p) (by omega) (by omega);have x:∃i,(j - 1) / 2=i:=⟨_,rfl⟩;obtain⟨i,hi⟩:=x;rw [hi] at d v ⊢;have g:i≠j:=by omega
 refine⟨⟨λc c0 f o u=>?_,λc c0 f o u=>?_⟩,λc c0 f o=>?_⟩
 ·rw [d c,d];have q:c≠j:=by rintro rfl;exact u hi
  rw [if_neg q,if_neg o,if_neg u];by_cases e:(c - 1) / 2=j
  ·rw [if_pos e,<-hi];have:=h.2 c c0 f e h0;exact this
  ·rw [if_neg e];exact h.1 c c0 f q e
 ·rw [d c,d];have y:(i - 1) / 2≠i:=by omega
  have w:(i - 1) / 2≠j:=by omega
  rw [if_neg w,if_neg y];have r:=h.1 i u (by omega) g (by omega);by_cases e:c=j
  ·rw [if_pos e];exact r
  ·rw [if_neg e,if_neg (show c≠i by omega)];have t:=h.1 c c0 f e (by omega);rw [o] at t;exact O.ntrans _ _ _ t r
 ·rw [d c,d i];rw [if_neg g,if_pos rfl];by_cases e:c=j
  ·rw [if_pos e];exact O.asymm v
  ·rw [if_neg e,if_neg (show c≠i by omega)];have t:=h.1 c c0 f e (by omega);rw [o] at t
   cases z:lt (atL l c) (atL l j) with
   |false=>rfl
   |true=>have:=O.trans _ _ _ z v;rw [t] at this;cases this
theorem zFl(O:Ord lt){l:List α}(r:j<n)(x:n<=l.length)(h:HeapX lt l n i)(t:0<j)(f:(j - 1) / 2=i)(v:lt (atL l j) (atL l i)=true)
  (w:∀c,0<c->c<n->(c - 1) / 2=i->lt (atL l c) (atL l j)=false):HeapX lt (swL l i j) n j/\TopOk lt (swL l i j) j/\(TopOk lt (swL l i j) i):=by
 have b:=λp=>atL_sw (l:=l) (i:=i) (j:=j) (p:=p) (by omega) (by omega);have d:i≠j:=by omega
 refine⟨⟨λc c0 g q u=>?_,λc c0 g q u=>?_⟩,λ_=>?_,λh0=>?_⟩
 ·rw [b c,b,if_neg q,if_neg u];by_cases e:c=i
  ·subst e;rw [if_pos rfl,if_neg (show (c - 1) / 2≠c by omega)];exact h.2 j t r f c0
  ·rw [if_neg e];by_cases o:(c - 1) / 2=i
   ·rw [if_pos o];exact w c c0 g o
   ·rw [if_neg o];exact h.1 c c0 g e o
 ·rw [b c,b,f,if_neg (show c≠j by omega),if_neg (show c≠i by omega),if_neg d,if_pos rfl,<-q];exact h.1 c c0 g (by omega) (by omega)
 ·rw [b j,b,f,if_pos rfl,if_neg d,if_pos rfl];exact O.asymm v
 ·rw [b i,b,if_neg d,if_pos rfl,if_neg (show (i - 1) / 2≠j by omega),if_neg (show (i - 1) / 2≠i by omega)];exact h.2 j t r f h0
theorem zNq(O:Ord lt){l:List α}(h:HeapN lt l n):∀c,c<n->lt (atL l c) (atL l 0)=false:=by
 intro c
 induction c using Nat.strongRecOn with
 |_ c b =>
  intro d;have e:=X0 c;rcases e with rfl|h0
  ·exact O.irrefl _
  ·exact O.ntrans _ _ _ (h c h0 d) (b ((c - 1) / 2) (by omega) (by omega))
end
open Go Go.Proofs
open Enc (enc)
set_option maxRecDepth 10000
theorem rdivE{k:Value->World->Prop}{w:World}{x y q:Int}(b:y≠0)(c:x.tdiv y=q)(h:-9223372036854775808<=q/\q<=9223372036854775807)(d:k (.int .i64 q) w):DivS .i64 x y k w:=by
 rw [zEb];subst c;exact⟨b,by rw [zBZ h.1 h.2];exact d⟩
structure InvS (P:Program) (t:TypeId) (v:Value) (name:String) (vs:List Value) (w:World) (R:Value->World->Prop):Prop where
 out:∀{o:Oper} {F:Nat->Value} {c:Call} {r:Operand} {k:Value->World->Prop} {pn:List PanicEntry->World->Prop},o.op=.call c->c.callee=.invoke r name->ev F r=.iface t v->evL F c.args.toList=vs->(∀x w',R x w'->k x w')->NextS P (execOp (ev F) o) k pn w
theorem InvS.p{t:TypeId}{v:Value}{b:String}{vs:List Value}{w:World}{R:Value->World->Prop}{f:FuncId}[MethP P t b f](h:Sp P f (v::vs).toArray w R):InvS P t v b vs w R:=
 ⟨λc d e g l=>rinv c d e g (rcall h l)⟩
structure HeapI (P:Program) (t:TypeId) (v:Value) {α:Type} [Inhabited α] (lt:α->α->Bool) (St:List α->World->Prop) (B0:Nat) (es:List TypeId):Prop where
 ord:Ord lt
 size:∀l w,St l w->l.length<=100000
 len : ∀ l w, St l w -> InvS P t v "Len" [] w λx w' => x = .int .i64 (l.length : Nat) /\ St l w' /\ FrT B0 es w w'
 less : ∀ l w (i j : Nat), St l w -> i < l.length -> j < l.length -> InvS P t v "Less" [.int .i64 i, .int .i64 j] w λx w' => x = .bool (lt (atL l i) (atL l j)) /\ St l w' /\ FrT B0 es w w'
 swap : ∀ l w (i j : Nat), St l w -> i < l.length -> j < l.length -> InvS P t v "Swap" [.int .i64 i, .int .i64 j] w λ_ w' => St (swL l i j) w' /\ FrT B0 es w w'
section
variable {t:TypeId} {v:Value} {α:Type} [Inhabited α] {lt:α->α->Bool} {St:List α->World->Prop} {B0:Nat} {es:List TypeId}
theorem zDF{l:List α}{p:Nat}(hi:i<n)(b:j<n)(c:n<=l.length)(d:n<=p):atL (swL l i j) p=atL l p:=by
 rw [atL_sw (by omega) (by omega),if_neg (by omega),if_neg (by omega)]
theorem up_sp(H:HeapI PP t v lt St B0 es){l:List α}{w:World}(b:St l w)(r:j<n)(M:n<=l.length)(c:HeapX lt l n j)(d:LowOk lt l n j):
  Sp PP 421 #[.iface t v,.int .i64 j] w λ_ w'=>(∃l':List α,l'.Perm l/\(∀p,n<=p->atL l' p=atL l p)/\St l' w'/\HeapN lt l' n)/\FrT B0 es w w':=by
 have G:=H.size l w b;refine eN ?_
 refine loop1 TBok 5 [4] 1 (λx u=>∃(j:Nat) (l':List α),x=.int .i64 j/\j<n/\l'.Perm l/\(∀p,n<=p->atL l' p=atL l p)/\St l' u/\HeapX lt l' n j/\LowOk lt l' n j/\FrT B0 es w u) (λx _=>(Go.RowKit.intOf x).toNat) rfl
  ⟨j,l,rfl,r,List.Perm.refl _,λ_ _=>rfl,b,c,d,FrT.refl _ _ _⟩ ?_
 rintro _ g u ⟨j,l',rfl,r,y,A,b,c,d,f⟩;have I:=y.length_eq;refine rA ?_;by_cases h0:j=0
 ·subst h0;refine rdivE (q:=0) (by decide) (by decide) (by decide) ?_;refine iT rfl ?_;exact⟨⟨l',y,A,b,c.full (λh=>by omega) d⟩,f⟩
 ·have hd:((j:Int) - 1).tdiv 2=(((j - 1) / 2:Nat):Int):=by
   rw [Xp (by omega)];omega
  refine rdivE (by decide) hd (by omega) ?_;refine iF (by first|omega|decide|(dsimp only <;> omega)) ?_
  cases z:lt (atL l' j) (atL l' ((j - 1) / 2)) with
  |false =>
   have L:=H.less l' u j ((j - 1) / 2) b (by omega) (by omega);rw [z] at L;refine L.out rfl rfl rfl rfl ?_;rintro x F ⟨rfl,C,E⟩;exact⟨⟨l',y,A,C,c.full (λ_=>z) d⟩,f.trans E⟩
  |true =>
   have e:=zQH H.ord r (by omega) c d (by omega) z;have L:=H.less l' u j ((j - 1) / 2) b (by omega) (by omega);rw [z] at L;refine L.out rfl rfl rfl rfl ?_;rintro x F ⟨rfl,C,E⟩;refine(H.swap l' F ((j - 1) / 2) j C (by omega) (by omega)).out rfl rfl rfl rfl ?_;rintro x O ⟨J,K⟩;refine⟨⟨(j - 1) / 2,_,rfl,by omega,(zDg (by omega) (by omega)).trans y,λp o=>?_,J,e.1,e.2,(f.trans E).trans K⟩,?_⟩
   ·rw [zDF (n:=n) (by omega) r (by omega) o];exact A p o
   ·show (j - 1) / 2<j;omega
theorem zP4(H:HeapI PP t v lt St B0 es){l:List α}{i0:Nat}{w:World}(G:St l w)(hi:i0<=n)(hn:n<=l.length)(Q:HeapX lt l n i0):
  Sp PP 435 #[.iface t v,.int .i64 i0,.int .i64 n] w λx w'=>(∃(b:Bool) (l':List α),x=.bool b/\l'.Perm l/\(∀p,n<=p->atL l' p=atL l p)/\St l' w'/\(b=true->HeapN lt l' n)/\(b=false->l'=l/\LowOk lt l n i0))/\FrT B0 es w w':=by
 have a0:=H.size l w G;refine eN ?_
 refine loop1 TBok 11 [8,9,10] 7 (λx u=>∃(i:Nat) (l':List α),x=.int .i64 i/\i<=n/\l'.Perm l/\(∀p,n<=p->atL l' p=atL l p)/\St l' u/\HeapX lt l' n i/\(i=i0/\l'=l\/i0<i/\TopOk lt l' i)/\FrT B0 es w u) (λx _=>n - (Go.RowKit.intOf x).toNat) rfl
  ⟨i0,l,rfl,hi,List.Perm.refl _,λ_ _=>rfl,G,Q,.inl ⟨rfl,rfl⟩,FrT.refl _ _ _⟩ ?_
 rintro _ g u ⟨i,l',rfl,hi,S,ha,G,Q,U,f⟩;have a1:=S.length_eq
 have done:∀u',St l' u'->LowOk lt l' n i->FrT B0 es w u'->∀b,(b=true↔i0<i)->(∃(b':Bool) (F:List α),Value.bool b=.bool b'/\F.Perm l/\(∀p,n<=p->atL F p=atL l p)/\St F u'/\(b'=true->HeapN lt F n)/\(b'=false->F=l/\LowOk lt l n i0))/\FrT B0 es w u':=by
  intro u' S' q f' b V;refine⟨⟨b,l',rfl,S,ha,S',λe=>?_,λe=>?_⟩,f'⟩
  ·rcases U with ⟨R,_⟩|⟨_,E⟩
   ·have:=V.1 e;omega
   ·exact Q.full E q
  ·rcases U with ⟨R,E⟩|⟨R,_⟩
   ·subst R;subst E;exact⟨rfl,q⟩
   ·have:=V.2 R;rw [e] at this;cases this
 refine rA (rarE (y:=((2*i+1:Nat):Int)) (by omega) (by omega) ?_);refine ite (λR=>?_) (λR=>?_)
 ·have q:LowOk lt l' n i:=λc c0 I e=>by omega
  refine ite (λE=>done u G q f true ⟨λ_=>by omega,λ_=>rfl⟩) (λE=>done u G q f false ⟨λe=>(by cases e),λe=>by omega⟩)
 refine iF (by first|omega|decide|(dsimp only <;> omega)) ?_;have M:i<n:=by omega
 refine rarE (y:=((2*i+2:Nat):Int)) (by omega) (by omega) (ite (λE=>?_) (λE=>?_))
 ·cases J:lt (atL l' (2*i+2)) (atL l' (2*i+1)) with
  |true =>
   have L:=H.less l' u (2*i+2) (2*i+1) G (by omega) (by omega);rw [J] at L;refine L.out rfl rfl rfl rfl ?_;rintro x W ⟨rfl,X,O⟩;have Y:(2*i+2 - 1) / 2=i:=by omega
   have K:∀c,0<c->c<n->(c - 1) / 2=i->lt (atL l' c) (atL l' (2*i+2))=false:=λc c0 I e=>by
    have:c=2*i+1\/c=2*i+2:=by omega
    rcases this with rfl|rfl
    ·exact H.ord.asymm J
    ·exact H.ord.irrefl _
   cases r:lt (atL l' (2*i+2)) (atL l' i) with
   |false =>
    have L:=H.less l' W (2*i+2) i X (by omega) (by omega);rw [r] at L;refine L.out rfl rfl rfl rfl ?_;rintro x z ⟨rfl,A,C⟩;have q:LowOk lt l' n i:=λc c0 I e=>H.ord.ntrans _ _ _ (K c c0 I e) r;refine ite (λE=>done z A q ((f.trans O).trans C) true ⟨λ_=>by omega,λ_=>rfl⟩) (λE=>done z A q ((f.trans O).trans C) false ⟨λe=>(by cases e),λe=>by omega⟩)
   |true =>
    have d:=zFl H.ord (show 2*i+2<n by omega) (by omega) Q (by omega) Y r K;have L:=H.less l' W (2*i+2) i X (by omega) (by omega);rw [r] at L;refine L.out rfl rfl rfl rfl ?_;rintro x z ⟨rfl,A,C⟩;refine(H.swap l' z i (2*i+2) A (by omega) (by omega)).out rfl rfl rfl rfl ?_;rintro x u6 ⟨Z,f6⟩;refine⟨⟨2*i+2,_,rfl,by omega,(zDg (by omega) (by omega)).trans S,λp o=>?_,Z,d.1,.inr ⟨by rcases U with h|h <;> omega,d.2.1⟩,((f.trans O).trans C).trans f6⟩,?_⟩
    ·rw [zDF (n:=n) M (by omega) (by omega) o];exact ha p o
    ·show n - (2*i+2)<n - i;omega
  |false =>
   have L:=H.less l' u (2*i+2) (2*i+1) G (by omega) (by omega);rw [J] at L;refine L.out rfl rfl rfl rfl ?_;rintro x W ⟨rfl,X,O⟩;have Y:(2*i+1 - 1) / 2=i:=by omega
   have K:∀c,0<c->c<n->(c - 1) / 2=i->lt (atL l' c) (atL l' (2*i+1))=false:=λc c0 I e=>by
    have:c=2*i+1\/c=2*i+2:=by omega
    rcases this with rfl|rfl
    ·exact H.ord.irrefl _
    ·exact J
   cases r:lt (atL l' (2*i+1)) (atL l' i) with
   |false =>
    have L:=H.less l' W (2*i+1) i X (by omega) (by omega);rw [r] at L;refine L.out rfl rfl rfl rfl ?_;rintro x z ⟨rfl,A,C⟩;have q:LowOk lt l' n i:=λc c0 I e=>H.ord.ntrans _ _ _ (K c c0 I e) r;refine ite (λE=>done z A q ((f.trans O).trans C) true ⟨λ_=>by omega,λ_=>rfl⟩) (λE=>done z A q ((f.trans O).trans C) false ⟨λe=>(by cases e),λe=>by omega⟩)
   |true =>
    have d:=zFl H.ord (show 2*i+1<n by omega) (by omega) Q (by omega) Y r K;have L:=H.less l' W (2*i+1) i X (by omega) (by omega);rw [r] at L;refine L.out rfl rfl rfl rfl ?_;rintro x z ⟨rfl,A,C⟩;refine(H.swap l' z i (2*i+1) A (by omega) (by omega)).out rfl rfl rfl rfl ?_;rintro x u6 ⟨Z,f6⟩;refine⟨⟨2*i+1,_,rfl,by omega,(zDg (by omega) (by omega)).trans S,λp o=>?_,Z,d.1,.inr ⟨by rcases U with h|h <;> omega,d.2.1⟩,((f.trans O).trans C).trans f6⟩,?_⟩
    ·rw [zDF (n:=n) M (by omega) (by omega) o];exact ha p o
    ·show n - (2*i+1)<n - i;omega
 ·have Y:(2*i+1 - 1) / 2=i:=by omega
  have K:∀c,0<c->c<n->(c - 1) / 2=i->lt (atL l' c) (atL l' (2*i+1))=false:=λc c0 I e=>by
   have:c=2*i+1:=by omega
   subst this;exact H.ord.irrefl _
  cases r:lt (atL l' (2*i+1)) (atL l' i) with
  |false =>
   have L:=H.less l' u (2*i+1) i G (by omega) (by omega);rw [r] at L;refine L.out rfl rfl rfl rfl ?_;rintro x z ⟨rfl,A,C⟩;have q:LowOk lt l' n i:=λc c0 I e=>H.ord.ntrans _ _ _ (K c c0 I e) r;refine ite (λE=>done z A q (f.trans C) true ⟨λ_=>by omega,λ_=>rfl⟩) (λE=>done z A q (f.trans C) false ⟨λe=>(by cases e),λe=>by omega⟩)
  |true =>
   have d:=zFl H.ord (show 2*i+1<n by omega) (by omega) Q (by omega) Y r K;have L:=H.less l' u (2*i+1) i G (by omega) (by omega);rw [r] at L;refine L.out rfl rfl rfl rfl ?_;rintro x z ⟨rfl,A,C⟩;refine(H.swap l' z i (2*i+1) A (by omega) (by omega)).out rfl rfl rfl rfl ?_;rintro x u6 ⟨Z,f6⟩;refine⟨⟨2*i+1,_,rfl,by omega,(zDg (by omega) (by omega)).trans S,λp o=>?_,Z,d.1,.inr ⟨by rcases U with h|h <;> omega,d.2.1⟩,(f.trans C).trans f6⟩,?_⟩
   ·rw [zDF (n:=n) M (by omega) (by omega) o];exact ha p o
   ·show n - (2*i+1)<n - i;omega
end
open Go
section
variable {α:Type} [Enc α] {P:Program} {k:Value->World->Prop} {pn:List PanicEntry->World->Prop} {w:World}
theorem zPR{t ty e:TypeId}{z:Value}{sz q:Nat}(K:SlT P t e)(X:Elem P e z sz q)(L:Enc.sz α=sz){v x:Value}{l m:List α}
  (H:Own B e w v l)(Y:SlF w x m)(r:m≠[])(I:(l.length+m.length)*q<=140737488355328)(U:l.length+m.length<=maxLen){p:Value}(h:(Builtin.append_ #[t,t] ty #[v,x]).run P w=.ok p w'):
  Value.blk p=Value.blk v\/Value.blk p=some w.heap.size:=by
 obtain⟨i,hi,V,y,A⟩:=info_parts X.h;subst L;obtain⟨xa,C,rfl,Z,M⟩:=Y;rcases M with M|⟨b,o,rfl,O⟩
 ·exact absurd M r
 have c:∀j u,(flat m)[j]? = some u->w.cell? ((⟨b,o,none⟩:Addr).add j)=some u:=λj u Q=>by rw [zAs];exact O j u Q
 have J:(flat m).length=m.length*Enc.sz α:=zAl m;have W:0<m.length:=JI.2 r;have a0:m.length<=maxLen:=by omega
 have nil:(Builtin.append_ #[t,t] ty #[.slice none 0 0,.slice (some ⟨b,o,none⟩) m.length C]).run P w=.ok p w'->l.length=0->Value.blk p=some w.heap.size:=λh h0=>by
  have E:=run_append_nil (P:=P) w t ty e i z K.h hi V ⟨b,o,none⟩ m.length C (flat m) (by rw [J,y]) c (by omega) (by simp only [maxLen] at U;omega) (by rw [A];have I:=I;rw [h0,JO] at I;omega);rw [E] at h;cases h;rfl
 have f:∀(a:Addr) (n cap:Nat) (xs:List Value),xs.length=n*i.size->(∀j u,xs[j]? = some u->w.cell? (a.add j)=some u)->cap<n+m.length->n=l.length ->
   (Builtin.append_ #[t,t] ty #[.slice (some a) n cap,.slice (some ⟨b,o,none⟩) m.length C]).run P w=.ok p w'->Value.blk p=some w.heap.size:=λa n cap xs h1 h2 h3 h4 h=>by
  subst h4
  have E:=run_append_grow (P:=P) w t ty e i z K.h hi V a l.length cap xs h1 h2 ⟨b,o,none⟩ m.length C (flat m) (by rw [J,y]) c (by omega) (by simp only [maxLen] at U;omega)
   (by rw [A];exact growslice_fits (by omega) I)
  rw [E] at h;cases h;rfl
 rcases H with ⟨rfl,a,rfl⟩|H
 ·cases a with
  |none=>exact .inr (nil h rfl)
  |some a=>exact .inr (f a 0 0 [] (by simp) (by simp) (by omega) rfl h)
 ·rcases H.2 with ⟨rfl,hn⟩|⟨g,cap,F,rfl,a1,hg,a2,a3,R,S⟩
  ·exact .inr (nil h hn)
  ·by_cases d:l.length+m.length<=cap
   ·left;have G:l.length*i.size+(flat m).length<=F.size:=by rw [J,R,y,<-Jo];exact Ji _ d
    have E:=run_append_room (P:=P) w t ty e i K.h hi g l.length cap F hg ⟨b,o,none⟩ m.length C (flat m) (by rw [J,y]) c (zC7 m) d G;rw [E] at h;cases h;rfl
   ·exact .inr (f ⟨g,0,none⟩ l.length cap (flat l) (by rw [zAl,y]) (λj u Q=>(H.cells (g:=g) rfl) j u Q) (by omega) rfl h)
theorem rappD{t ty e:TypeId}{z:Value}{sz c:Nat}[g:SlT P t e][h:Elem P e z sz c]{v x:Value}{l m:List α}(b:Enc.sz α=sz/\z.cells.size=sz)
  (o:Own B e w v l)(p:SlF w x m)(f:m≠[])(u:B<=w.heap.size)(q:(l.length+m.length)*c<=140737488355328/\l.length+m.length<=9223372036854775807)
  (y:∀d w',Own B e w' d (l++m)->Fr (ownD B v) w w'->(Value.blk d=Value.blk v\/Value.blk d=some w.heap.size)->k d w'):SemV P (Builtin.append_ #[t,t] ty #[v,x]) k pn w:=by
 obtain⟨d,w',r,A,C⟩:=zIG (ty:=ty) g h b.1 b.2 o p q.1 (by unfold maxLen;omega) u;exact SemV.of r (y _ _ A C (zPR g h b.1 o p f q.1 (by unfold maxLen;omega) r))
end
abbrev FrX (X:Nat->Prop) (B:Nat) (es:List TypeId) (w w':World):Prop:=Fr (λi=>X i\/Ty B es w i) w w'
theorem FrX.refl(X:Nat->Prop)(B:Nat)(b:List TypeId)(w:World):FrX X B b w w:=Fr.refl _ w
theorem FrX.trans{X:Nat->Prop}{d:List TypeId}{a b c:World}(h:FrX X B d a b)(k:FrX X B d b c):FrX X B d a c:=by
 refine⟨k.os.trans h.os,k.tape.trans h.tape,k.output.trans h.output,Qw h.size k.size,λi hi hd=>?_,λi o hi f=>k.nc i o (h.nc i o hi f) f⟩;have e:=h.block i hi hd;rw [k.block i (QJ hi h.size) (λg=>hd (g.imp id λ⟨l,o,t,p,q⟩=>⟨l,o,t,by rw [<-e];exact p,q⟩)),e]
theorem FrT.x{X:Nat->Prop}{B':Nat}{d c:List TypeId}{a b:World}(h:FrT B d a b)(f:B'<=B)(g:∀e∈d,e∈c):FrX X B' c a b:=Fr.mono (FrT.mono h f g) λ_ _ h=>.inr h
theorem FrX.ext{X:Nat->Prop}{c:List TypeId}{a b:World}(h:Ext a b):FrX X B c a b:=h.fr
theorem FrX.st{X:Nat->Prop}{d:List TypeId}{a b c:World}(h:Ext a b)(k:FrX X B d b c)(e:a.heap.size<=B)(f:∀i,X i->a.heap.size<=i):Ext a c:=Fr.st h k λi hi=>hi.elim (f i) λhi=>Qw e hi.1
theorem Bk.keptX{X:Nat->Prop}{c:List TypeId}{w:World}{b:Nat}{cs:List Value}{e:TypeId}(k:Bk w b cs e)(f:FrX X B c w w')(d:¬X b)(g:e∉c):Bk w' b cs e:=
 k.fr f λhd=>hd.elim d λhd=>g (hd.cells k.h)
section
variable {α:Type} [Enc α]
theorem Own.wroteX{X:Nat->Prop}{C:Nat}{b:List TypeId}{w:World}{e:TypeId}{v:Value}{l:List α}(_:Own C e w v l)(f:Fr (ownD C v) w w')(c:∀g,Value.blk v=some g->X g):FrX X B b w w':=
 Fr.mono f λi _ hd=>.inl (c i hd.2.1)
theorem SlY.blkN{e:TypeId}{w:World}{v:Value}{l:List α}(h:SlY e w v l)(c:l≠[]):∃g,Value.blk v=some g/\g<w.heap.size:=by
 rcases h.2 with h|⟨b,cs,z,d,f⟩
 ·exact absurd h c
 ·exact⟨b,d,blk_lt f⟩
theorem SlY.frN{e:TypeId}{w:World}{v:Value}{l:List α}(h:SlY e w v l)(f:Fr D w w')(hd:∀g,l≠[]->Value.blk v=some g->¬D g):SlY e w' v l:=by
 by_cases b:l=[]
 ·subst b;obtain⟨a,c,rfl,d,_⟩:=h.1;exact⟨⟨a,c,rfl,d,.inl rfl⟩,.inl rfl⟩
 ·exact h.fr f λg _ _ o _=>hd g b o
end
section
variable {P:Program} {kt:TypeId} {κ:Type} [DecidableEq κ] [M:MKey P kt κ] {k:Value->World->Prop} {pn:List PanicEntry->World->Prop} {w:World}
theorem rmkN{o:Oper}{F:Nat->Value}{t:TypeId}(c:o.op=.makeMap t none)(d:∀b w',Nx w w' b->MapL P kt w' b ([]:List (κ×Value))->k (.map (some b)) w'):NextS P (execOp (ev F) o) k pn w:=by
 have e:(execOp (ev F) o).run P w=.ok (.value (.map (some w.heap.size))) (w.alloc (.map #[] 0)):=by
  unfold execOp;simp only [c];rfl
 rw [zBi,e];exact d _ _ (Nx.mk' w _) ⟨⟨#[],0,heap_alloc_new w _,rfl⟩,.nil⟩
end
structure EntZ {κ:Type} (val:κ->Value) (Z:List (MapEntry×(κ×Value))) (c:Nat):Prop where
 ent:∀z∈Z,z.1.key=val z.2.1/\z.1.val=z.2.2
 nd:(Z.map (·.1.born)).Nodup
 lt:∀z∈Z,z.1.born<c
theorem zMB{κ:Type}{val:κ->Value}:∀{b:List MapEntry} {m:List (κ×Value)},EntM val b m->∃Z:List (MapEntry×(κ×Value)),Z.map (·.1)=b/\Z.map (·.2)=m/\∀z∈Z,z.1.key=val z.2.1/\z.1.val=z.2.2
 |[],m,h=>by rw [zDR h];exact⟨[],rfl,rfl,by simp⟩
 |e::b,m,h=>by
  obtain⟨k,r,rfl,d,f⟩:=zEm h;obtain⟨Z,g,l,o⟩:=zMB f;refine⟨(e,(k,e.val))::Z,by simp [g],by simp [l],λz c=>?_⟩;rcases Ql.1 c with rfl|c
  ·exact⟨d,rfl⟩
  ·exact o z c
theorem zHy{κ:Type}(s:Array Nat):∀{Z:List (MapEntry×(κ×Value))} {z:MapEntry×(κ×Value)},(Z.map (·.1.born)).Nodup->z∈Z->s.contains z.1.born=false ->
  (z::Z.filter λy=>!(s.push z.1.born).contains y.1.born).Perm (Z.filter λy=>!s.contains y.1.born)
 |[],z,_,d,_=>by simp at d
 |y::T,z,h,d,l=>by
  rw [QS,JC] at h
  have b:∀q:Nat,(s.push z.1.born).contains q=(s.contains q || q==z.1.born):=λq=>by
   rw [Bool.eq_iff_iff];simp [Array.mem_push]
  rcases Ql.1 d with rfl|d
  ·have p:T.filter (λy=>!(s.push z.1.born).contains y.1.born)=T.filter λy=>!s.contains y.1.born:=by
    apply XC;intro y f;have c:y.1.born≠z.1.born:=λe=>h.1 (e ▸ Qq.2 ⟨y,f,rfl⟩);rw [b];simp [c]
   rw [Jw (by rw [b];simp),JL (by rw [l];rfl),p]
  ·have o:=zHy s h.2 d l;have c:y.1.born≠z.1.born:=λe=>h.1 (e ▸ Qq.2 ⟨z,d,rfl⟩);by_cases f:s.contains y.1.born=true
   ·rw [Jw (by rw [b,f];simp),Jw (by rw [f];simp)];exact o
   ·have g:s.contains y.1.born=false:=by simpa using f
    rw [JL (by rw [b,g];simp [c]),JL (by rw [g];rfl)];exact(List.Perm.swap y z _).trans (o.cons y)
section
variable {P:Program} {kt:TypeId} {κ:Type} [DecidableEq κ] [M:MKey P kt κ] {k:Value->World->Prop} {pn:List PanicEntry->World->Prop} {w:World}
def MapB (P:Program) (t:TypeId) {κ:Type} [DecidableEq κ] [M:MKey P t κ] (w:World) (b:Nat) (m:List (κ×Value)):Prop:=
 (∃es c,w.heap[b]? = some (.map es c)/\EntM M.val es.toList m/\(es.toList.map (·.born)).Nodup/\∀x∈es.toList,x.born<c)/\(m.map (·.1)).Nodup
theorem MapB.l{b:Nat}{m:List (κ×Value)}(h:MapB P kt w b m):MapL P kt w b m:=by
 obtain⟨⟨d,c,e,f,_⟩,g⟩:=h;exact⟨⟨d,c,e,f⟩,g⟩
theorem MapB.fr{w:World}{b:Nat}{m:List (κ×Value)}(h:MapB P kt w b m)(f:Fr D w w')(hd:¬D b):MapB P kt w' b m:=by
 obtain⟨⟨d,c,e,g⟩,l⟩:=h;exact⟨⟨d,c,f.blk e hd,g⟩,l⟩
theorem MapB.up{w:World}[L:Le w w']{b:Nat}{m:List (κ×Value)}(h:MapB P kt w b m):MapB P kt w' b m:=h.fr L.e id
theorem rmkNB{o:Oper}{F:Nat->Value}{t:TypeId}(c:o.op=.makeMap t none)(d:∀b w',Nx w w' b->MapB P kt w' b ([]:List (κ×Value))->k (.map (some b)) w'):NextS P (execOp (ev F) o) k pn w:=by
 have e:(execOp (ev F) o).run P w=.ok (.value (.map (some w.heap.size))) (w.alloc (.map #[] 0)):=by
  unfold execOp;simp only [c];rfl
 rw [zBi,e];exact d _ _ (Nx.mk' w _) ⟨⟨#[],0,heap_alloc_new w _,rfl,by simp,by simp⟩,.nil⟩
theorem zPz{t e:TypeId}(R:MapT P t kt e){b:Nat}{m:List (κ×Value)}(h:MapB P kt w b m)(x:κ)(v:Value):
  ∃w',(Instr.mapUpdate t (.map (some b)) (M.val x) v).run P w=.ok () w'/\MapB P kt w' b (setM x v m)/\Fr (λi=>i=b) w w'/\w'.heap.size=w.heap.size:=by
 obtain⟨⟨d,c,r,E,u,f⟩,J⟩:=h;have hlt:=blk_lt r;unfold Instr.mapUpdate;simp only [Qo,zAw R.h,Qh,zEo r,M.check,M.find x _ m w E]
 cases K:findM x m 0 with
 |none =>
  have G:=(zCP x v m 0 K).1;simp only [zCi _ r];refine⟨_,rfl,⟨⟨_,_,put_at hlt _,?_,?_,?_⟩,zBA x v m J⟩,put_fr r _,by simp⟩
  ·rw [G];unfold EntM at *;simp [E]
  ·rw [Array.toList_push,QB,JU];refine⟨u,by simp,λa S q U=>?_⟩;obtain⟨y,g,rfl⟩:=Qq.1 S;have:=f y g;simp at U;omega
  ·intro y g;rw [Array.toList_push] at g;rcases Qf.1 g with g|g
   ·have:=f y g;omega
   ·rw [Qc.1 g];exact Nat.lt_succ_self c
 |some p =>
  obtain⟨i,V⟩:=p;have G:=zCQ x v m 0 i V K;obtain⟨_,L,O,_⟩:=G;rw [JF] at L O
  have A:((d[i]?).map (·.key)).getD (M.val x)=M.val x:=by
   have F:=congrArg (λl=>l[i]?) E;simp only [QK,L,JD] at F
   cases W:d[i]? with
   |none=>rfl
   |some Q =>
    have H:d.toList[i]? = some Q:=by simpa using W
    rw [H] at F;simp only [JD,JK,Xm] at F;simp [F.1]
  have o:(Instr.keyThatStays (((d[i]?).map (·.key)).getD (M.val x)) (M.val x)).run P w=.ok (M.val x) w:=by
   rw [A];unfold Instr.keyThatStays;rw [if_pos (M.same x)];rfl
  simp only [Qo,o,Qh,zCi _ r]
  have C:∀(d:List MapEntry) (i:Nat),(d.modify i (λe=>{ e with key:=M.val x,val:=v })).map (·.born)=d.map (·.born):=λd i=>by
   apply Vl;intro j;simp only [QK,List.getElem?_modify]
   cases d[j]? with
   |none=>rfl
   |some Q=>by_cases I:i=j <;> simp [I]
  refine⟨_,rfl,⟨⟨_,_,put_at hlt _,?_,?_,?_⟩,zBA x v m J⟩,put_fr r _,by simp⟩
  ·rw [O,Xr];exact zMA E i x v _ λe=>rfl
  ·rw [Xr,C];exact u
  ·intro y g;rw [Xr] at g;have:y.born∈d.toList.map (·.born):=by rw [<-C d.toList i];exact Qq.2 ⟨y,g,rfl⟩
   obtain⟨z,X,Y⟩:=Qq.1 this;have:=f z X;omega
theorem rupdB{t e:TypeId}[d:MapT P t kt e]{b:Nat}{m:List (κ×Value)}{c v:Value}(h:MapB P kt w b m)(x:κ)(f:c=M.val x)
  (g:∀w',MapB P kt w' b (setM x v m)->Fr (λi=>i=b) w w'->w'.heap.size=w.heap.size->k undef w'):SemU P (Instr.mapUpdate t (.map (some b)) c v) k pn w:=by
 subst f;obtain⟨w',l,o,p,q⟩:=zPz d h x v;exact SemU.of l (g w' o p q)
def ItB (P:Program) (t:TypeId) {κ:Type} [DecidableEq κ] [M:MKey P t κ] (w:World) (r b:Nat) (rest:List (κ×Value)):Prop:=
 ∃(Z:List (MapEntry×(κ×Value))) (c:Nat) (s:Array Nat),EntZ M.val Z c/\w.heap[b]? = some (.map (Z.map (·.1)).toArray c)/\w.heap[r]? = some (.mapIter (some b) c s c)/\(Z.filter λz=>!s.contains z.1.born).map (·.2)=rest
def ItC (P:Program) (t:TypeId) {κ:Type} [DecidableEq κ] [M:MKey P t κ] (w:World) (r b:Nat) (rest:List (κ×Value)) (x:κ) (v:Value):Prop:=
 ∃(Z:List (MapEntry×(κ×Value))) (c:Nat) (s:Array Nat) (z:MapEntry×(κ×Value)),EntZ M.val Z c/\w.heap[b]? = some (.map (Z.map (·.1)).toArray c)/\w.heap[r]? = some (.mapIter (some b) c (s.push z.1.born) c)/\z∈Z/\z.2=(x,v)/\(Z.filter λy=>!(s.push z.1.born).contains y.1.born).map (·.2)=rest
theorem ItC.b{r b:Nat}{rest:List (κ×Value)}{x:κ}{v:Value}(h:ItC P kt w r b rest x v):ItB P kt w r b rest:=by
 obtain⟨Z,c,s,z,d,e,f,_,_,g⟩:=h;exact⟨Z,c,_,d,e,f,g⟩
theorem ItB.fr{w:World}{r b:Nat}{rest:List (κ×Value)}(h:ItB P kt w r b rest)(f:Fr D w w')(d:¬D r)(e:¬D b):ItB P kt w' r b rest:=by
 obtain⟨Z,c,s,g,l,o,p⟩:=h;exact⟨Z,c,s,g,f.blk l e,f.blk o d,p⟩
theorem ItB.up{w:World}[L:Le w w']{r b:Nat}{rest:List (κ×Value)}(h:ItB P kt w r b rest):ItB P kt w' r b rest:=h.fr L.e id id
theorem rrangeM{t e:TypeId}[p:MapT P t kt e]{b:Nat}{m:List (κ×Value)}(h:MapB P kt w b m)(q:∀r w',Nx w w' r->ItB P kt w' r b m->MapB P kt w' b m->k (.pointer (some ⟨r,0,none⟩)) w'):SemV P (Instr.range t (.map (some b))) k pn w:=by
 have u:=h;obtain⟨⟨d,c,o,v,f,hlt⟩,_⟩:=h;obtain⟨Z,g,x,y⟩:=zMB v;have n:=Nx.mk' w (.mapIter (some b) c #[] c);have l:(w.alloc (.mapIter (some b) c #[] c)).heap[b]? = some (.map d c):=Fr.blk n.e o nf;have A:(Z.map (·.1)).toArray=d:=by rw [g]
 refine SemV.of (run_range_map w t kt e b d c p.h o) (q _ _ n ⟨Z,c,#[],⟨y,?_,λz C=>hlt _ (g ▸ Qq.2 ⟨z,C,rfl⟩)⟩,by rw [A];exact l,heap_alloc_new w _,?_⟩ (u.fr n.e id))
 ·have:=f;rw [<-g,VM] at this;exact this
 ·rw [JH.2 (by simp)];exact x
theorem rnextM{ty:TypeId}{r b:Nat}{rest:List (κ×Value)}(h:ItB P kt w r b rest)(h0:rest=[]->k (.tuple #[.bool false]) w)
  (S:∀x v d w',((x,v)::d).Perm rest->ItC P kt w' r b d x v->Fr (λi=>i=r) w w'->w'.heap.size=w.heap.size->k (.tuple #[.bool true,M.val x,v]) w'):
  SemV P (Instr.next (.pointer (some ⟨r,0,none⟩)) false ty) k pn w:=by
 obtain⟨Z,c,s,C,E,q,g⟩:=h
 have Q:(leftOf (Z.map (·.1)).toArray s).toList=(Z.filter λz=>!s.contains z.1.born).map (·.1):=by
  unfold leftOf;rw [Array.toList_filter,List.filter_map];rfl
 rcases run_next_at (P:=P) w ty r b c c s (Z.map (·.1)).toArray c q E (λx U=>by
   have F:x∈Z.map (·.1):=by simpa using U
   obtain⟨z,G,rfl⟩:=Qq.1 F;exact C.lt z G) (Qe _) with ⟨hs,hrun⟩|⟨e,he,w1,hw1,hrun⟩
 ·refine SemV.of hrun (h0 ?_);have R:((Z.filter λz=>!s.contains z.1.born).map (·.1)).length=0:=by rw [<-Q];simpa using hs
  rw [<-g];rw [Qr] at R;rw [Qn R];rfl
 ·rw [Q] at he;obtain⟨z,G,rfl⟩:=Qq.1 he;have l:=QC.1 G;have H:s.contains z.1.born=false:=by simpa using l.2
  have p:=C.ent z l.1;have I:r<w1.heap.size:=by rcases hw1 with rfl|rfl <;> exact blk_lt q
  have J:b≠r:=by rintro rfl;rw [E] at q;cases q
  have K:w1.heap[b]? = some (.map (Z.map (·.1)).toArray c):=by rcases hw1 with rfl|rfl <;> exact E
  have V:w1.heap[r]? = some (.mapIter (some b) c s c):=by rcases hw1 with rfl|rfl <;> exact q
  have f:Fr (λi=>i=r) w (ChangeMaps.setBlock w1 r (.mapIter (some b) c (s.push z.1.born) c)):=by
   have t:w1.heap=w.heap:=by rcases hw1 with rfl|rfl <;> rfl
   have u:w1.os=w.os/\w1.tape=w.tape/\w1.output=w.output:=by rcases hw1 with rfl|rfl <;> exact⟨rfl,rfl,rfl⟩
   refine⟨u.1,u.2.1,u.2.2,by simp [ChangeMaps.setBlock,t],λi _ hi=>?_,λi o hi u=>?_⟩
   ·simp only [ChangeMaps.setBlock];rw [Va (Jq hi),t]
   ·simp only [ChangeMaps.setBlock];rw [Va,t]
    ·exact hi
    ·rintro rfl;rw [q] at hi;cases hi;cases u
  have L:(ChangeMaps.setBlock w1 r (.mapIter (some b) c (s.push z.1.born) c)).heap.size=w.heap.size:=by
   have t:w1.heap=w.heap:=by rcases hw1 with rfl|rfl <;> rfl
   simp [ChangeMaps.setBlock,t]
  have W:=zHy s C.nd l.1 H;have A:=W.map (·.2);rw [g] at A;have O:((z.2.1,z.2.2)::(Z.filter λy=>!(s.push z.1.born).contains y.1.born).map (·.2)).Perm rest:=A
  have:=S z.2.1 z.2.2 ((Z.filter λy=>!(s.push z.1.born).contains y.1.born).map (·.2)) _ O
   ⟨Z,c,s,z,C,by simp only [ChangeMaps.setBlock];rw [Va (Jq J)];exact K,by simp [ChangeMaps.setBlock,I],l.1,rfl,rfl⟩ f L
  rw [p.1,p.2] at hrun;exact SemV.of hrun this
theorem rentryM{r b:Nat}{rest:List (κ×Value)}{x:κ}{v:Value}(h:ItC P kt w r b rest x v)(o:k (.tuple #[M.val x,v]) w):SemV P (Instr.entry (.pointer (some ⟨r,0,none⟩))) k pn w:=by
 obtain⟨Z,c,s,z,g,p,q,l,f,_⟩:=h;have d:=g.ent z l
 have e:=run_entry_at (P:=P) w r b c s (Z.map (·.1)).toArray c z.1 q p (show z.1∈Z.map (·.1) from Qq.2 ⟨z,l,rfl⟩) (by
  have:=g.nd;rw [show (Z.map (·.1)).toArray.toList=Z.map (·.1) from rfl,VM];exact this)
 rw [d.1,d.2,f] at e;exact SemV.of e o
end
class StrT (P:Program) (t:TypeId):Prop where
 h:P.underlying t=some .string
class KindT (P:Program) (t:TypeId) (kd:outParam IntKind):Prop where
 h:P.underlying t=some (.int kd)
instance:Enc UInt8:=⟨1,λx=>[.int .u8 x.toNat],λ_=>rfl,by intro x u hu;simp at hu;subst hu;rfl,by decide⟩
section
variable {P:Program} {k:Value->World->Prop} {pn:List PanicEntry->World->Prop} {w:World}
theorem zLf{t:TypeId}(d:StrT P t){s:ByteArray}{c:UInt8}(hi:s.data.toList[i]? = some c)(w:World):(Instr.index t (.string s) (.int .i64 i)).run P w=.ok (.int .u8 c.toNat) w:=by
 have b:i<s.size:=by
  have:=(Qy.1 hi).1;simpa using this
 have e:s[i]? = some c:=by
  rw [getElem?_pos s i b];have f:=(Qy.1 hi).2;rw [<-f];rfl
 unfold Instr.index;simp only [asIntOf,Qo,Jd,Qh,zAw d.h];have h0:(0:Int)<=(i:Int):=by omega
 rw [if_pos h0,QW,e];rfl
theorem rsidx{t:TypeId}[b:StrT P t]{s:ByteArray}{c:UInt8}(hi:s.data.toList[i]? = some c)(d:k (.int .u8 c.toNat) w):SemV P (Instr.index t (.string s) (.int .i64 i)) k pn w:=SemV.of (zLf b hi w) d
theorem tsidx{t:TypeId}[b:StrT P t]{k:Value->Prop}{s:ByteArray}{c:UInt8}(hi:s.data.toList[i]? = some c)(d:k (.int .u8 c.toNat)):TakeS P (Instr.index t (.string s) (.int .i64 i)) D k w:=by
 rw [zAe];exact⟨_,λw' _=>zLf b hi w',d⟩
theorem zLb{s d:TypeId}{kd b c:IntKind}(e:KindT P s b)(hd:KindT P d kd)(n:Int)(w:World):(convert s d (.int c n)).run P w=.ok (.int kd (kd.wrap n)) w:=by
 unfold convert;simp only [Qo,zAw e.h,zAw hd.h,Qh,Conv.intToInt,Jd]
theorem rconv{s d:TypeId}{kd b c:IntKind}[e:KindT P s b][hd:KindT P d kd]{n:Int}(f:k (.int kd (kd.wrap n)) w):SemV P (convert s d (.int c n)) k pn w:=SemV.of (zLb e hd n w) f
theorem zPx{t:TypeId}{x y:Operand}(a b:ByteArray)(h:a.size+b.size<=9223372036854775807)(w:World):(do eqGuard .add t x y (.string a) (.string b);binOp .add t (.string a) (.string b):Sem Value).run P w=.ok (.string (a++b)) w:=by
 rw [Qo,zBF,Qh]
 have c:¬(((a.size+b.size:Nat):Int) > IntKind.i64.max):=by
  have:IntKind.i64.max=9223372036854775807:=by decide
  rw [this];omega
 unfold binOp;simp only [Op.stringOp,if_neg c];rfl
theorem rsadd{t:TypeId}{x y:Operand}{a b:ByteArray}(h:a.size+b.size<=9223372036854775807)(c:k (.string (a++b)) w):SemV P (do eqGuard .add t x y (.string a) (.string b);binOp .add t (.string a) (.string b)) k pn w:=SemV.of (zPx a b h w) c
theorem zM0{t:TypeId}(b:StrT P t){s:ByteArray}{lo:Nat}(c:lo<=hi)(d:hi<=s.size)(w:World):(Instr.sliceAt t (.string s) (some (.int .i64 lo)) (some (.int .i64 hi)) none).run P w=.ok (.string (s.extract lo hi)) w:=by
 have e:(0:Int)<=(lo:Int)/\(lo:Int)<=(hi:Int):=by omega
 have f:(0:Int)<=(hi:Int)/\(hi:Int)<=(s.size:Int):=by omega
 unfold Instr.sliceAt;simp only [Qo,zAw b.h,Qh];unfold Instr.slice;simp [Qo,zAw b.h,Qh,Instr.sliceBounds,Instr.sliceBound,asIntOf,e,f];rw [if_pos d,if_pos c]
theorem rssl{t:TypeId}[b:StrT P t]{s:ByteArray}{lo:Nat}{x y:Value}(c:x=.int .i64 lo)(d:y=.int .i64 hi)(e:lo<=hi)(f:hi<=s.size)(g:k (.string (s.extract lo hi)) w):SemV P (Instr.sliceAt t (.string s) (some x) (some y) none) k pn w:=by
 subst c d;exact SemV.of (zM0 b e f w) g
theorem tssl{t:TypeId}[b:StrT P t]{k:Value->Prop}{s:ByteArray}{lo:Nat}{x y:Value}(c:x=.int .i64 lo)(d:y=.int .i64 hi)(e:lo<=hi)(f:hi<=s.size)(g:k (.string (s.extract lo hi))):TakeS P (Instr.sliceAt t (.string s) (some x) (some y) none) D k w:=by
 subst c d;rw [zAe];exact⟨_,λw' _=>zM0 b e f w',g⟩
theorem zP8(l:List UInt8):flat l=(l.map λc=>(c.toNat:Int)).map (Value.int .u8):=by
 induction l with
 |nil=>rfl
 |cons x r b=>rw [flat_cons,b];rfl
theorem zMR:∀(l:List UInt8) (s:ByteArray),(l.map λc=>(c.toNat:Int)).foldl (λr n=>r.push (UInt8.ofNat n.toNat)) s=⟨s.data++l.toArray⟩
 |[],s=>by simp
 |c::r,s=>by
  rw [QS,JY,zMR r];simp [ByteArray.push]
theorem zPv{s d e:TypeId}(q:P.underlying s=some (.slice e))(r:P.underlying e=some (.int .u8))(hd:P.underlying d=some .string){c:Nat}{l:List UInt8}(h:SlF w (.slice a n c) l):
  (convert s d (.slice a n c)).run P w=.ok (.string ⟨l.toArray⟩) w:=by
 obtain rfl:=h.len;rw [run_convert_bytes_string w s d e a _ c q r hd]
 have go:∀f:Addr,(∀j u,(flat l)[j]? = some u->w.cell? (f.add j)=some u)->(Conv.bytesToString (.slice (some f) l.length c)).run P w=.ok (.string ⟨l.toArray⟩) w:=λf g=>by
  have t:(flat l).length=l.length:=by rw [zAl];exact Xq _
  have p:=run_loadCells_list (P:=P) (w:=w) f (flat l) g;rw [t,zP8] at p;rw [run_bytesToString w f l.length c _ p,zMR];have v:ByteArray.empty.data++l.toArray=l.toArray:=by show (#[]:Array UInt8)++l.toArray=_;simp
  rw [v]
 obtain⟨A,C,x,E,y⟩:=h;cases x;rcases y with rfl|⟨b,o,rfl,g⟩
 ·cases a with
  |none=>rfl
  |some f=>exact go f (by simp)
 ·exact go ⟨b,o,none⟩ λj u z=>by rw [zAs];exact g j u z
class BytT (P:Program) (s d:TypeId):Prop where
 e:∃e,P.underlying s=some (.slice e)/\P.underlying e=some (.int .u8)
 d:P.underlying d=some .string
theorem rbstr{s d:TypeId}[b:BytT P s d]{c:Nat}{l:List UInt8}(h:SlF w (.slice a n c) l)(f:k (.string ⟨l.toArray⟩) w):SemV P (convert s d (.slice a n c)) k pn w:=by
 obtain⟨e,g,o⟩:=b.e;exact SemV.of (zPv g o b.d h) f
theorem zQs{X Y:Operand}{t:TypeId}{x y:Int}(d:0<=y/\y<64)(w:World):(do eqGuard .shl t X Y (.int .i64 x) (.int .i64 y);binOp .shl t (.int .i64 x) (.int .i64 y):Sem Value).run P w=.ok (.int .i64 (IntKind.i64.wrap (x*2 ^ y.toNat))) w:=by
 have g:(eqGuard .shl t X Y (.int .i64 x) (.int .i64 y)).run P w=.ok () w:=rfl;rw [Qo,g,Qh];have b:¬y<0:=by omega
 have c:min y.toNat IntKind.i64.bits=y.toNat:=by
  have:IntKind.i64.bits=64:=rfl;rw [this];omega
 simp only [binOp,Op.shift,if_neg b,c];rfl
theorem rshl{X Y:Operand}{t:TypeId}{x y z:Int}(c:0<=y/\y<64)(d:x*2 ^ y.toNat=z)(b:-9223372036854775808<=z/\z<=9223372036854775807)(e:k (.int .i64 z) w):SemV P (do eqGuard .shl t X Y (.int .i64 x) (.int .i64 y);binOp .shl t (.int .i64 x) (.int .i64 y)) k pn w:=by
 have h:=zQs (P:=P) (X:=X) (Y:=Y) (t:=t) (x:=x) c w;rw [d,zBZ b.1 b.2] at h;exact SemV.of h e
theorem run_or{X Y:Operand}{t:TypeId}{x y:Nat}(b:x<2 ^ i)(e:x+y*2 ^ i<9223372036854775808)(w:World):(do eqGuard .or t X Y (.int .i64 (x:Int)) (.int .i64 ((y*2 ^ i:Nat):Int));binOp .or t (.int .i64 (x:Int)) (.int .i64 ((y*2 ^ i:Nat):Int)):Sem Value).run P w=.ok (.int .i64 ((x+y*2 ^ i:Nat):Int)) w:=by
 have g:(eqGuard .or t X Y (.int .i64 (x:Int)) (.int .i64 ((y*2 ^ i:Nat):Int))).run P w=.ok () w:=rfl;rw [Qo,g,Qh];have f:IntKind.i64.bits=64:=rfl
 have c:(BitVec.ofInt 64 (x:Int) ||| BitVec.ofInt 64 ((y*2 ^ i:Nat):Int)).toNat=x+y*2 ^ i:=by
  rw [BitVec.ofInt_natCast,BitVec.ofInt_natCast,BitVec.toNat_or,BitVec.toNat_ofNat,BitVec.toNat_ofNat,Yl (by omega),Yl (by omega),Nat.or_comm,<-Nat.shiftLeft_eq,<-Nat.shiftLeft_add_eq_or_of_lt b,Xv]
 have d:(binOp .or t (.int .i64 (x:Int)) (.int .i64 ((y*2 ^ i:Nat):Int))).run P w=.ok (.int .i64 (IntKind.i64.wrap ((BitVec.ofInt 64 (x:Int) ||| BitVec.ofInt 64 ((y*2 ^ i:Nat):Int)).toNat:Nat))) w:=rfl;rw [d,c,zBZ (by omega) (by omega)]
end
instance:KindT PP 3 .i64:=⟨by kernel_rfl⟩
instance:KindT PP 5 .u8:=⟨by kernel_rfl⟩
instance:StrT PP 9:=⟨by kernel_rfl⟩
instance:BytT PP 201 9:=⟨⟨5,by kernel_rfl,by kernel_rfl⟩,by kernel_rfl⟩
theorem rconvE{k:Value->World->Prop}{b:List PanicEntry->World->Prop}{w:World}{s d:TypeId}{kd c e:IntKind}[h:KindT P s c][hd:KindT P d kd]{n z:Int}(f:kd.wrap n=z)(g:k (.int kd z) w):SemV P (convert s d (.int e n)) k b w:=rconv (f ▸ g)
theorem zGb{x:Nat}(h:x<256):IntKind.u8.wrap (x:Int)=((UInt8.ofNat x).toNat:Int):=by
 have e:(UInt8.ofNat x).toNat=x:=by rw [JZ];omega
 rw [e];unfold IntKind.wrap;simp [IntKind.bits,IntKind.signed];omega
abbrev txt (l:List UInt8):Value:=.string ⟨l.toArray⟩
def numV (n:Int):Value:=if 0<=n/\n<=2147483647 then .tuple #[txt (numB n.toNat),.int .i64 0] else .tuple #[txt [],.int .i64 1]
theorem zBK{n:Int}{w:World}:Sp PP 166 #[.int .i64 n] w λv w'=>v=numV n/\Stp w w':=by
 have d:¬(0<=n/\n<=2147483647)->numV n=.tuple #[txt [],.int .i64 1]:=λh=>if_neg h;refine eN ?_;refine ite (λh=>⟨(d (by omega)).symm,stp⟩) (λK=>?_);refine ite (λh=>⟨(d (by omega)).symm,stp⟩) (λL=>?_);have ok:numV n=.tuple #[txt (numB n.toNat),.int .i64 0]:=if_pos (by omega);clear d;have f:∃N:Nat,n=(N:Int):=⟨n.toNat,by omega⟩;obtain⟨N,rfl⟩:=f;rw [QW] at ok;have t:=zAm (n:=N) (by omega)
 refine loop2 TBok 5 [] 0 4 (λv o u=>∃(m:Nat) (p:List UInt8),v=.int .i64 (m:Int)/\m<=N/\Own w.heap.size 5 u o p/\p++numB m=numB N/\Stp w u) (λv _ _=>(Go.RowKit.intOf v).toNat) rfl
  ⟨N,[],rfl,Qe _,Own.nil _ _ _,rfl,stp⟩ ?_
 rintro _ o g u ⟨m,p,rfl,M,O,l,e⟩;have z:p.length<=5:=by have:=congrArg List.length l;rw [Qb] at this;omega
 refine ite (λA=>?_) (λhlt=>?_)
 ·have b:=zBz (n:=m) (by omega);refine rrem (by omega) (by omega) ?_;refine rarE (y:=((128+m % 128:Nat):Int)) (by omega) (by omega) (rconvE (zGb (x:=128+m % 128) (by omega)) (bS (UInt8.ofNat (128+m % 128)) λC E F _ r=>rapp1 (u:=w) ⟨rfl,rfl⟩ O.up r (by omega) λG H c I J=>rdivE (q:=((m / 128:Nat):Int)) (by omega) (by rw [Xp (by omega)];omega) (by omega) ?_));refine⟨⟨m / 128,_,rfl,by omega,c,by rw [Qp,<-l,b];rfl,stp⟩,?_⟩;show ((m / 128:Nat):Int).toNat<((m:Nat):Int).toNat;omega
 ·have b:=numB_lt (n:=m) (by omega);refine rconvE (zGb (x:=m) (by omega)) (bS (UInt8.ofNat m) λC E F _ r=>rapp1 (u:=w) ⟨rfl,rfl⟩ O.up r (by omega) λG H c I J=>?_);rw [<-b,l] at c;have f:=c.shape;obtain⟨oa,oc,rfl⟩:=f;refine rbstr c.sl ?_;exact⟨ok.symm,stp⟩
def EndB:List UInt8->Prop
 |[]=>False
 |[c]=>c.toNat<128
 |c::d::r=>128<=c.toNat/\EndB (d::r)
theorem OneB.e:∀{l:List UInt8},OneB l->EndB l
 |[],h=>h.elim
 |[_],h=>h
 |_::_::_,h=>⟨h.1,OneB.e h.2.1⟩
theorem EndB.pre:∀{a b s t:List UInt8},EndB a->EndB b->a++s=b++t->a=b/\s=t
 |[],_,_,_,h,_,_=>h.elim
 |_,[],_,_,_,h,_=>h.elim
 |[c],[d],s,t,_,_,e=>by simp at e;exact⟨by rw [e.1],e.2⟩
 |[c],d::d2::r,s,t,h,f,e=>by
  simp at e;have g:=f.1;simp only [EndB] at h;rw [<-e.1] at g;omega
 |c::c2::r,[d],s,t,h,f,e=>by
  simp at e;have g:=h.1;simp only [EndB] at f;rw [e.1] at g;omega
 |c::c2::r,d::d2::q,s,t,h,f,e=>by
  have l:c=d/\(c2::r)++s=(d2::q)++t:=by simpa using e
  have o:=EndB.pre h.2 f.2 l.2;rw [l.1,o.1];exact⟨rfl,o.2⟩
theorem EndB.snoc:∀{l:List UInt8} {c:UInt8},(∀x∈l,128<=x.toNat)->c.toNat<128->EndB (l++[c])
 |[],_,_,h=>h
 |[d],_,h,b=>⟨h d Qs,b⟩
 |d::e::r,_,h,b=>⟨h d Qs,EndB.snoc (l:=e::r) (λx f=>h x (QF _ f)) b⟩
theorem EndB.last:∀{l:List UInt8},EndB l->∃p c,l=p++[c]/\c.toNat<128
 |[],h=>h.elim
 |[c],h=>⟨[],c,rfl,h⟩
 |c::d::r,h=>by
  have b:=EndB.last h.2;obtain⟨p,e,f,g⟩:=b;exact⟨c::p,e,by rw [f];rfl,g⟩
theorem zFU:∀(l:List UInt8) (c:UInt8),valB (l++[c])=valB l+128 ^ l.length*(c.toNat % 128)
 |[],c=>by simp [valB]
 |d::r,c=>by
  have b:=zFU r c;simp only [VO,valB,b,QA,XS,Nat.mul_add];rw [Nat.mul_comm (128 ^ r.length) 128,Nat.mul_assoc];omega
theorem zIP:∀(l:List UInt8),valB l<128 ^ l.length
 |[]=>by simp [valB]
 |d::r=>by
  have b:=zIP r;simp only [valB,QA,XS];omega
def RdAt (s:List UInt8) (a n:Nat):Prop:=n<=2147483647/\∃t,s.drop a=numB n++t
theorem zHf{l t:List UInt8}{a:Nat}(hd:s.drop a=l++t)(d:EndB l)(n:Nat):RdAt s a n↔n<=2147483647/\n=valB l/\numB n=l:=by
 constructor
 ·rintro⟨c,g,f⟩;have b:=EndB.pre (zDb n).e d (f.symm.trans hd);exact⟨c,by rw [<-b.1,zHb],b.1⟩
 ·rintro⟨c,_,b⟩;exact⟨c,t,by rw [b];exact hd⟩
theorem zFG{l t:List UInt8}{a:Nat}(hd:s.drop a=l++t)(o:∀x∈l,128<=x.toNat)(q:l.length=5\/t=[])(n:Nat):¬RdAt s a n:=by
 rintro⟨r,u,f⟩;have v:=(zDb n).e.last;obtain⟨p,c,w,z⟩:=v;have g:=zAm r
 have d:(numB n).length<=l.length:=by
  rcases q with h|h
  ·omega
  ·have:=congrArg List.length (f.symm.trans hd);rw [h,Qb,Qb] at this;simp at this;omega
 have b:numB n <+: l:=by
  have e:=f.symm.trans hd;exact List.prefix_of_prefix_length_le ⟨u,rfl⟩ ⟨t,e.symm⟩ d
 have y:c∈l:=b.subset (by rw [w];simp);have:=o c y;omega
def RdV (s:List UInt8) (a:Int) (v:Value):Prop:=
 (∃A n:Nat,a=(A:Int)/\RdAt s A n/\v=.tuple #[.int .i64 (n:Nat),.int .i64 ((A+(numB n).length:Nat):Int),.bool true]) \/
 ((∀A n:Nat,a=(A:Int)->¬RdAt s A n)/\v=.tuple #[.int .i64 0,.int .i64 0,.bool false])
theorem zMU{a:Nat}(h:RdAt s a n):a<s.length:=by
 obtain⟨_,t,b⟩:=h;have:=congrArg List.length b;have:=JI.2 (zIt n);simp at *;omega
theorem zBa(s:List UInt8)(a b:Nat):(⟨s.toArray⟩:ByteArray).extract a b=⟨((s.drop a).take (b - a)).toArray⟩:=by
 apply ByteArray.ext;rw [ByteArray.data_extract];simp
theorem zJK{w:World}(h:n<=2147483647):Sp PP 166 #[.int .i64 (n:Int)] w λv w'=>v=.tuple #[txt (numB n),.int .i64 0]/\Stp w w':=
 zBK.mono λ_ _ b=>⟨b.1.trans (if_pos (by omega)),b.2⟩
theorem zJJ{n:Int}{w:World}(h:¬(0<=n/\n<=2147483647)):Sp PP 166 #[.int .i64 n] w λv w'=>v=.tuple #[txt [],.int .i64 1]/\Stp w w':=
 zBK.mono λ_ _ b=>⟨b.1.trans (if_neg h),b.2⟩
theorem zCK{a:Int}{w:World}(hs:s.length<=4611686018427387904):Sp PP 98 #[txt s,.int .i64 a] w λv w'=>RdV s a v/\Stp w w':=by
 have O:(⟨s.toArray⟩:ByteArray).size=s.length:=rfl;have p:∀u:World,Stp w u->(∀A n:Nat,a=(A:Int)->¬RdAt s A n)->RdV s a (.tuple #[.int .i64 0,.int .i64 0,.bool false])/\Stp w u:=λu st h=>⟨.inr ⟨h,rfl⟩,st⟩;refine eN ?_;refine ite (λh=>p _ stp λA n e=>by omega) (λh1=>?_);refine ite (λh=>p _ stp λA n e H=>by have:=zMU H;omega) (λh2=>?_);have Q:∃A:Nat,a=(A:Int):=⟨a.toNat,by omega⟩;obtain⟨A,rfl⟩:=Q
 have d:∀u:World,Stp w u->(∀n:Nat,¬RdAt s A n)->RdV s A (.tuple #[.int .i64 0,.int .i64 0,.bool false])/\Stp w u:=λu st h=>p u st λA' n e=>by
  have:A'=A:=by omega
  subst this;exact h n
 clear p
 refine loop3 TBok 10 [4,5,6] 7 8 9 (λn q i u=>∃(j W:Nat) (l t:List UInt8),i=.int .i64 ((A+j:Nat):Int)/\j<=5/\s.drop A=l++t/\l.length=j/\(∀x∈l,128<=x.toNat)/\n=.int .i64 (valB l:Nat)/\q=.int .i64 (W:Nat)/\W=128 ^ j/\Stp w u) (λ_ _ i _=>s.length - (Go.RowKit.intOf i).toNat) rfl
  ⟨0,1,[],s.drop A,rfl,by omega,rfl,rfl,by simp,rfl,rfl,rfl,stp⟩ ?_
 rintro _ _ _ g u ⟨j,W,l,t,rfl,hj,hd,C,f,rfl,rfl,I,e⟩;have a0:W<=34359738368:=by rw [I];exact XR (by decide) hj
 have a1:valB l<W:=by rw [I,<-C];exact zIP l
 have J:s.length - A=l.length+t.length:=by have:=congrArg List.length hd;simpa using this
 refine ite (λhlt=>?_) (λa2=>?_)
 ·refine rA (ite (λh5=>?_) (λh5=>d _ stp λn=>zFG hd f (.inl (by omega)) n))
  obtain⟨c,G,rfl⟩:∃c G,t=c::G:=by
   cases t with
   |nil=>simp at J;omega
   |cons c G=>exact⟨c,G,rfl⟩
  have r:s[A+j]? = some c:=by
   rw [<-Vz,hd,<-C];simp
  have R:c.toNat % 128<=127:=by omega
  have S:W*(c.toNat % 128)<=W*127:=Nat.mul_le_mul_left _ R;have U:(W:Int)*((c.toNat:Int) % 128)=((W*(c.toNat % 128):Nat):Int):=by push_cast;rfl
  have V:=c.toNat_lt;have a3:valB (l++[c])=valB l+W*(c.toNat % 128):=by rw [zFU,C,I]
  have X:(128:Int)*(W:Int)=((128 ^ (j+1):Nat):Int):=by rw [XS,<-I];push_cast;omega
  have a4:128 ^ (j+1)=128*W:=by rw [XS,<-I];omega
  refine rsidx r (rconvE (z:=(c.toNat:Int)) (zBZ (by omega) (by omega)) (rrem (by omega) (by omega) ?_));refine rarE U (by omega) (rarE (y:=((valB (l++[c]):Nat):Int)) (by omega) (by omega) (rarE X (by omega) (rsidx r (ite (λhc=>?_) (λhc=>?_)))))
  ·have hE:EndB (l++[c]):=EndB.snoc f (by omega);have E:s.drop A=(l++[c])++G:=by rw [hd];simp
   have o:=zHf E hE;by_cases K:valB (l++[c])<=2147483647
   case neg =>
    refine rcall (zJJ (n:=((valB (l++[c]):Nat):Int)) (by omega)) ?_;rintro _ u1 ⟨rfl,e1⟩;refine ite (λ_=>d _ stp λn H=>?_) (λh=>absurd (by decide) h);have:=(o n).1 H;omega
   refine rcall (zJK (n:=valB (l++[c])) K) ?_;rintro _ u1 ⟨rfl,e1⟩;refine iF (· rfl) (rA (rssl (lo:=A) (hi:=A+j+1) rfl (by congr 1) (by omega) (by rw [O];omega) ?_));refine rsne (λY=>d _ stp λn H=>?_) (λF=>?_)
   ·have h3:=(o n).1 H;refine Y ?_;rw [zBa,E,<-h3.2.1,h3.2.2];congr 1;have:A+j+1 - A=(l++[c]).length:=by simp [C];omega
    rw [this,V6]
   ·rw [zBa,E] at F;have h4:A+j+1 - A=(l++[c]).length:=by simp [C];omega
    rw [h4,V6] at F
    have L:numB (valB (l++[c]))=l++[c]:=by
     have:=congrArg (λb:ByteArray=>b.data.toList) F;simpa using this
    have Z:(numB (valB (l++[c]))).length=j+1:=by rw [L];simp [C]
    refine rarE (y:=((A+(numB (valB (l++[c]))).length:Nat):Int)) (by rw [Z];omega) (by omega) ?_;exact⟨.inl ⟨A,valB (l++[c]),rfl,(o _).2 ⟨K,rfl,L⟩,rfl⟩,stp⟩
  ·have hm:s.length - (Go.RowKit.intOf (.int .i64 ((A+(j+1):Nat):Int))).toNat<s.length - (Go.RowKit.intOf (.int .i64 ((A+j:Nat):Int))).toNat:=by
    show s.length - ((A+(j+1):Nat):Int).toNat<s.length - ((A+j:Nat):Int).toNat;omega
   refine rarE (y:=((A+(j+1):Nat):Int)) (by omega) (by omega) ?_;refine⟨⟨j+1,128 ^ (j+1),l++[c],G,rfl,by omega,by rw [hd];simp,by simp [C],λx M=>?_,rfl,rfl,rfl,stp⟩,hm⟩;have Q:=Qf.1 M;rcases Q with M|M
   ·exact f x M
   ·rw [Qc.1 M];omega
 ·refine d _ stp λn=>zFG hd f (.inr ?_) n;exact Qn (by omega)
def numsB (l:List Int):List UInt8:=l.flatMap λn=>if 0<=n/\n<=2147483647 then numB n.toNat else []
theorem zNy(l:List Int)(n:Int):numsB (l++[n])=numsB l++if 0<=n/\n<=2147483647 then numB n.toNat else []:=by simp [numsB]
theorem zHM{l:List Int}(h:k<l.length):numsB (l.take (k+1))=numsB (l.take k)++if 0<=l[k]/\l[k]<=2147483647 then numB l[k].toNat else []:=by
 rw [take_add h,zNy]
theorem zAu(l:List Int):(numsB l).length<=5*l.length:=by
 induction l with
 |nil=>simp [numsB]
 |cons n r b =>
  have:numsB (n::r)=(if 0<=n/\n<=2147483647 then numB n.toNat else [])++numsB r:=by simp [numsB]
  rw [this,Qb,QA];split
  ·have:=zAm (n:=n.toNat) (by omega);omega
  ·simp;omega
theorem zAD(a b:List UInt8):(⟨a.toArray⟩:ByteArray)++⟨b.toArray⟩=⟨(a++b).toArray⟩:=by
 apply ByteArray.ext;rw [ByteArray.data_append];simp
theorem zKN{n:Int}{w:World}:Sp PP 166 #[.int .i64 n] w λv w'=>(∃e:Int,v=.tuple #[txt (if 0<=n/\n<=2147483647 then numB n.toNat else []),.int .i64 e])/\Stp w w':=
 zBK.mono λ_ _ b=>⟨by
  rw [b.1];unfold numV;split
  ·exact⟨0,rfl⟩
  ·exact⟨1,rfl⟩,b.2⟩
theorem zAV{c:Nat}{l:List Int}{w:World}(h:SlF w (.slice a n c) l)(y:l.length<=1000000):
  Sp PP 222 #[.slice a n c] w λv w'=>v=txt (numsB l)/\Stp w w':=by
 have d:=h.len;obtain rfl:=d;refine eN ?_;refine cO 5 [] 3 4 l.length (λk v u=>v=txt (numsB (l.take k))/\Stp w u) ⟨rfl,stp⟩ ?_;rintro k _ g u z ⟨rfl,e⟩;refine ite (λhlt=>?_) (λr=>?_)
 ·have b:k<l.length:=by omega
  have p:=zHM b;have q:=zAu (l.take (k+1));rw [Qm] at q;refine rix (h.up (w':=u)) (x:=l[k]) (by simp) λA C t=>rload1 (t.cell0 rfl) (rcall (zKN (n:=l[k])) ?_);rintro _ E ⟨⟨F,rfl⟩,G⟩
  have f:(numsB (l.take k)).length+(if 0<=l[k]/\l[k]<=2147483647 then numB l[k].toNat else []).length<=9223372036854775807:=by
   rw [p,Qb] at q;omega
  refine rsadd f ?_;have o:Value.string ((⟨(numsB (l.take k)).toArray⟩:ByteArray)++⟨(if 0<=l[k]/\l[k]<=2147483647 then numB l[k].toNat else []).toArray⟩)=txt (numsB (l.take (k+1))):=by rw [zAD,p]
  exact rA ⟨rfl,b,o,stp⟩
 ·have d:k=l.length:=by omega
  obtain rfl:=d;have o:txt (numsB (l.take l.length))=txt (numsB l):=by rw [Qj (Qe _)]
  exact⟨o,stp⟩
theorem zAj(b:Bool):∀u∈[Value.bool b],u.oneCell'=true:=by intro u c;simp at c;subst c;rfl
theorem zAa(x:Int):∀u∈[Value.int .i64 x],u.oneCell'=true:=by intro u b;simp at b;subst b;rfl
theorem zGl{a:Int}{c:Bool}{b:Nat}{w:World}(B:Bk w b [txt s,.int .i64 a,.bool c] 217)(q:s.length<=4611686018427387904):
  Sp PP 129 #[.pointer (some ⟨b,0,none⟩)] w λv w' =>
   ((∃A n:Nat,a=(A:Int)/\RdAt s A n/\v=.int .i64 (n:Int)/\Bk w' b [txt s,.int .i64 ((A+(numB n).length:Nat):Int),.bool c] 217) \/
   ((∀A n:Nat,a=(A:Int)->¬RdAt s A n)/\v=.int .i64 0/\Bk w' b [txt s,.int .i64 a,.bool true] 217))/\Fr (λi=>i=b) w w':=by
 refine eN ?_;refine dQ 16 λy z=>tX B rfl nf (tX B rfl nf (rcall (zCK (a:=a) q) ?_));rintro v d ⟨⟨A,n,rfl,r,rfl⟩|⟨g,rfl⟩,p⟩
 ·refine⟨p.e,?_⟩;have f:=B.mv (w:=d);have h:Fr (λi=>i=b) w d:=fE w d;refine rX f rfl ?_;cases c
  all_goals
   refine rS f [.bool _] (zAj _) λt l o _=>rS l [.int .i64 _] (zAa _) λC u x _=>?_;exact⟨.inl ⟨A,n,rfl,r,rfl,u⟩,(h.trans o).trans x⟩
 ·refine⟨p.e,?_⟩;have f:=B.mv (w:=d);have h:Fr (λi=>i=b) w d:=fE w d;refine rX f rfl ?_;cases c
  all_goals
   refine rS f [.bool _] (zAj _) λt l o _=>?_;exact⟨.inr ⟨g,rfl,l⟩,h.trans o⟩
structure HitD where
 v:Int
 d:Int
deriving DecidableEq,Inhabited
instance:Enc HitD:=⟨2,λx=>[.int .i64 x.v,.int .i64 x.d],λ_=>rfl,by intro x u hu;simp at hu;rcases hu with rfl|rfl <;> rfl,by decide⟩
instance:EqT PP 206 HitD:=⟨by kernel_rfl,λd x y w=>⟨_,by
  rw [zEF (l:=[(3,0),(3,1)]) (by kernel_rfl) (d+7)];exact zB9 rfl rfl (zB9 rfl rfl (zIi _ _ _ _)),by cases x;cases y;simp⟩⟩
theorem zLV{b:Option Addr}{q r u y:Nat}{la lb:List HitD}{w:World}(z:SlF w (.slice a q r) la)(A:SlF w (.slice b u y) lb)(H:la.length<=1000000):
  Sp PP 368 #[.slice a q r,.slice b u y] w λv w'=>Tells (la=lb) v/\Stp w w':=by
 have c:=z.len;obtain rfl:=c;have c:=A.len;obtain rfl:=c;refine eN ?_;refine ite (λh=>⟨.f (λe=>h (by rw [e])),stp⟩) (λh=>?_);have I:la.length=lb.length:=by omega
 refine cN 6 [4] 5 la.length (λk w'=>la.take k=lb.take k/\Stp w w') ⟨by simp,stp⟩ ?_;rintro k g w' J ⟨l,e⟩;refine ite (λhlt=>?_) (λC=>?_)
 ·have d:k<la.length:=by omega
  have o:k<lb.length:=by omega
  refine dQ 9 λw1 K=>tix z.up (x:=la[k]) (by simp) λL M E _=>tloadA E rfl nf (tix A.up (x:=lb[k]) (by simp) λO Q F _=>tloadA F rfl nf (tgne HitD la[k] lb[k] (λp=>⟨.f (by rintro rfl;exact p rfl),stp⟩) (λG=>?_)));refine rA ⟨rfl,d,?_,stp⟩;rw [take_add d,take_add o,l,G]
 ·have c:k=la.length:=by omega
  obtain rfl:=c;rw [Qj (Qe _),Qj (by omega)] at l;exact⟨.t l,e⟩
structure AnsD where
 found:Bool
 num:Int
 s:SV
structure RepD where
 id:Int
 code:Int
 a:AnsD
instance:Enc AnsD:=⟨3,λx=>[.bool x.found,.int .i64 x.num,.slice x.s.a x.s.n x.s.c],λ_=>rfl,by intro x u hu;simp at hu;rcases hu with rfl|rfl|rfl <;> rfl,by decide⟩
instance:Enc RepD:=⟨5,λx=>[.int .i64 x.id,.int .i64 x.code,.bool x.a.found,.int .i64 x.a.num,.slice x.a.s.a x.a.s.n x.a.s.c],λ_=>rfl,by intro x u hu;simp at hu;rcases hu with rfl|rfl|rfl|rfl|rfl <;> rfl,by decide⟩
theorem zLZ{x y:AnsD}{b ly:List HitD}{w:World}(q:SlF w (.slice x.s.a x.s.n x.s.c) b)(r:SlF w (.slice y.s.a y.s.n y.s.c) ly)(u:b.length<=1000000):
  Sp PP 308 #[agg x,agg y] w λv w'=>Tells (x.found=y.found/\x.num=y.num/\b=ly) v/\Stp w w':=by
 refine eN ?_;refine rbx λz w1 n1 d=>rbx λA p n2 g=>rX d rfl (rX g rfl (rbeq (λh=>?_) (λh=>⟨.f (λe=>h e.1),stp⟩)));refine rX d rfl (rX g rfl (ite (λl=>?_) (λl=>⟨.f (λe=>l e.2.1),stp⟩)));refine rX d rfl (rX g rfl (rcall (zLV (q.up (w':=p)) (r.up (w':=p)) u) ?_));rintro v C ⟨⟨rfl,o⟩|⟨rfl,o⟩,E⟩
 ·exact⟨.t ⟨h,l,o⟩,stp⟩
 ·exact⟨.f (λe=>o e.2.2),stp⟩
def HitOk (h:HitD):Prop:=0<=h.v/\h.v<200/\0<=h.d/\h.d<=200
def RepOk (x:RepD) (l:List HitD):Prop:=
 (0<=x.id/\x.id<=2147483647)/\(0<=x.code/\x.code<=1000)/\(0<=x.a.num/\x.a.num<=400)/\l.length<=100 /\
 (x.code≠0->x.a.found=false/\x.a.num=0/\l=[])/\(x.a.found=false->x.a.num=0/\l=[])/\(l=[]\/x.a.num=0)/\∀h∈l,HitOk h
theorem zE0{n:Int}{w:World}:Sp PP 307 #[.int .i64 n] w λv w'=>Tells (0<=n/\n<=2147483647) v/\w'=w:=by
 refine eN ?_;refine ite (λb=>?_) (λb=>⟨.f (λe=>b e.1),rfl⟩);refine ite (λc=>⟨.t ⟨b,c⟩,rfl⟩) (λc=>⟨.f (λe=>c e.2),rfl⟩)
theorem zKZ{x:RepD}{l:List HitD}{w:World}(h:SlF w (.slice x.a.s.a x.a.s.n x.a.s.c) l)(hn:l.length<=1000000):
  Sp PP 221 #[agg x] w λv w'=>Tells (RepOk x l) v/\Stp w w':=by
 obtain⟨id,o,M,b,W,sn,X⟩:=x;have H:sn=l.length:=h.len;have z:∀u:World,Stp w u->¬RepOk ⟨id,o,M,b,W,sn,X⟩ l->Tells (RepOk ⟨id,o,M,b,W,sn,X⟩ l) (.bool false)/\Stp w u:=λu s hf=>⟨.f hf,s⟩;have l0:l.length=0->l=[]:=Qn;refine eN ?_;refine rbx λb1 w1 n1 Y=>rG Y (⟨M,b,W,sn,X⟩:AnsD) (ral λb2 w2 n2 z2=>rE z2 (⟨M,b,W,sn,X⟩:AnsD) λw3 B3 f3 _=>?_);have s3:Stp w1 w3:=n2.st f3;have F:Bk w3 b2 [.bool M,.int .i64 b,.slice W sn X] 65:=B3;have Y:=Y.mv (w:=w3);clear B3 z2 f3;refine rX Y rfl (rcall (zE0 (n:=id)) ?_);rintro v w4 ⟨⟨rfl,h1⟩|⟨rfl,h1⟩,rfl⟩
 case' inr=>exact z _ stp λe=>h1 e.1
 refine rX Y rfl (ite (λh=>z _ stp λe=>by have G:o<0:=h;have a1:0<=o:=e.2.1.1;omega) (λh2=>?_));refine rX Y rfl (ite (λh=>z _ stp λe=>by have G:1000<o:=h;have a1:o<=1000:=e.2.1.2;omega) (λh3=>?_));have k2:0<=o:=by have G:¬o<0:=h2;omega
 have k3:o<=1000:=by have G:¬1000<o:=h3;omega
 refine rX F rfl (ite (λh=>z _ stp λe=>absurd h (by have:=e.2.2.1.1;dsimp only at this;omega)) (λh4=>?_));refine rX F rfl (ite (λh=>z _ stp λe=>absurd h (by have:=e.2.2.1.2;dsimp only at this;omega)) (λh5=>?_));refine rX F rfl (ite (λh=>z _ stp λe=>absurd h (by have:=e.2.2.2.1;omega)) (λh6=>?_));refine rX Y rfl (ite (λhc=>?pp) (λhc=>?qq))
 case' pp =>
  refine rG F (⟨M,b,W,sn,X⟩:AnsD) (rbuild (cs:=enc (⟨false,0,none,0,0⟩:AnsD)) rfl (rcall (zLZ (x:=⟨M,b,W,sn,X⟩) (y:=⟨false,0,none,0,0⟩) (ly:=[]) (h.up (w':=w4)) (SlF.nil _) hn) ?_));rintro v w5 ⟨⟨rfl,hz⟩|⟨rfl,hz⟩,e5⟩
  case' inr=>exact z _ stp λe=>hz (e.2.2.2.2.1 hc)
  have C:o≠0->M=false/\b=0/\l=[]:=λ_=>hz
 case' qq =>
  have C:o≠0->M=false/\b=0/\l=[]:=λh=>absurd h hc
 all_goals
  refine rX F rfl ?_;cases M
  ·refine rX F rfl (ite (λQ=>z _ stp λe=>Q (e.2.2.2.2.2.1 rfl).1) (λhz=>?_));have Z:b=0:=Q2.1 hz;refine rX F rfl (ite (λQ=>z _ stp λe=>by have G:=(e.2.2.2.2.2.1 rfl).2;rw [G] at H;simp at H;omega) (λa2=>?_));have O:l=[]:=l0 (by omega);refine rX F rfl (iF a2 (cN 5 [2] 4 l.length (λi u=>(∀y∈l.take i,HitOk y)/\Stp w4 u) ⟨by simp,stp⟩ ?_));rintro i g u hi ⟨p,e9⟩;refine rX F rfl (ite (λhlt=>?_) (λa0=>?_))
   ·have q:i<l.length:=by omega
    have E:∃y,l[i]? = some y:=⟨_,Qd q⟩;obtain⟨y,I⟩:=E;have r:y∈l:=Jy I
    have K:l.take (i+1)=l.take i++[y]:=by
     rw [take_add q];rw [Qd q] at I;cases I;rfl
    refine rX F rfl (rix (h.up (w':=u)) (x:=y) I λb7 o7 A7=>rloadA A7 rfl (ral λb8 w8 n8 R=>rE R y λS U V _=>?_));have s9:Stp u S:=n8.st V;have J:Bk S b8 [.int .i64 y.v,.int .i64 y.d] 206:=U;clear U R V;refine rX J rfl (ite (λL=>z _ stp λe=>by have:=(e.2.2.2.2.2.2.2 y r).1;omega) (λq1=>?_));refine rX J rfl (ite (λL=>z _ stp λe=>by have:=(e.2.2.2.2.2.2.2 y r).2.1;omega) (λq2=>?_));refine rX J rfl (ite (λL=>z _ stp λe=>by have:=(e.2.2.2.2.2.2.2 y r).2.2.1;omega) (λq3=>?_));refine rX J rfl (ite (λL=>z _ stp λe=>by have:=(e.2.2.2.2.2.2.2 y r).2.2.2;omega) (λq4=>?_));refine rA ⟨rfl,q,λt A=>?_,stp⟩;rw [K] at A;have E:=Qf.1 A;rcases E with A|A
    ·exact p t A
    ·rw [Qc.1 A];exact⟨by omega,by omega,by omega,by omega⟩
   ·have E:i=l.length:=by omega
    obtain rfl:=E;rw [Qj (Qe _)] at p;exact⟨.t ⟨h1,⟨k2,k3⟩,⟨by have G:¬b<0:=h4;show 0<=b;omega,by have G:¬400<b:=h5;show b<=400;omega⟩,by omega,C,λ_=>⟨Z,O⟩,.inl O,p⟩,stp⟩
  ·refine rX F rfl (ite (λa3=>?_) (λa3=>?_))
   ·refine rX F rfl (ite (λQ=>z _ stp λe=>?_) (λQ=>?_))
    ·have E:=e.2.2.2.2.2.2.1;rcases E with G|G
     ·rw [G] at H;simp at H;omega
     ·exact Q G
    have Z:b=0:=Q2.1 Q;refine cN 5 [2] 4 l.length (λi u=>(∀y∈l.take i,HitOk y)/\Stp w4 u) ⟨by simp,stp⟩ ?_;rintro i g u hi ⟨p,e9⟩;refine rX F rfl (ite (λhlt=>?_) (λa0=>?_))
    ·have q:i<l.length:=by omega
     have E:∃y,l[i]? = some y:=⟨_,Qd q⟩;obtain⟨y,I⟩:=E;have r:y∈l:=Jy I
     have K:l.take (i+1)=l.take i++[y]:=by
      rw [take_add q];rw [Qd q] at I;cases I;rfl
     refine rX F rfl (rix (h.up (w':=u)) (x:=y) I λb7 o7 A7=>rloadA A7 rfl (ral λb8 w8 n8 R=>rE R y λS U V _=>?_));have s9:Stp u S:=n8.st V;have J:Bk S b8 [.int .i64 y.v,.int .i64 y.d] 206:=U;clear U R V;refine rX J rfl (ite (λL=>z _ stp λe=>by have:=(e.2.2.2.2.2.2.2 y r).1;omega) (λq1=>?_));refine rX J rfl (ite (λL=>z _ stp λe=>by have:=(e.2.2.2.2.2.2.2 y r).2.1;omega) (λq2=>?_));refine rX J rfl (ite (λL=>z _ stp λe=>by have:=(e.2.2.2.2.2.2.2 y r).2.2.1;omega) (λq3=>?_));refine rX J rfl (ite (λL=>z _ stp λe=>by have:=(e.2.2.2.2.2.2.2 y r).2.2.2;omega) (λq4=>?_));refine rA ⟨rfl,q,λt A=>?_,stp⟩;rw [K] at A;have E:=Qf.1 A;rcases E with A|A
     ·exact p t A
     ·rw [Qc.1 A];exact⟨by omega,by omega,by omega,by omega⟩
    ·have E:i=l.length:=by omega
     obtain rfl:=E;rw [Qj (Qe _)] at p;exact⟨.t ⟨h1,⟨k2,k3⟩,⟨by have G:¬b<0:=h4;show 0<=b;omega,by have G:¬400<b:=h5;show b<=400;omega⟩,by omega,C,λh=>(nomatch h),.inr Z,p⟩,stp⟩
   ·have O:l=[]:=l0 (by omega);refine cN 5 [2] 4 l.length (λi u=>(∀y∈l.take i,HitOk y)/\Stp w4 u) ⟨by simp,stp⟩ ?_;rintro i g u hi ⟨p,e9⟩;refine rX F rfl (ite (λhlt=>?_) (λa0=>?_))
    ·have q:i<l.length:=by omega
     have E:∃y,l[i]? = some y:=⟨_,Qd q⟩;obtain⟨y,I⟩:=E;have r:y∈l:=Jy I
     have K:l.take (i+1)=l.take i++[y]:=by
      rw [take_add q];rw [Qd q] at I;cases I;rfl
     refine rX F rfl (rix (h.up (w':=u)) (x:=y) I λb7 o7 A7=>rloadA A7 rfl (ral λb8 w8 n8 R=>rE R y λS U V _=>?_));have s9:Stp u S:=n8.st V;have J:Bk S b8 [.int .i64 y.v,.int .i64 y.d] 206:=U;clear U R V;refine rX J rfl (ite (λL=>z _ stp λe=>by have:=(e.2.2.2.2.2.2.2 y r).1;omega) (λq1=>?_));refine rX J rfl (ite (λL=>z _ stp λe=>by have:=(e.2.2.2.2.2.2.2 y r).2.1;omega) (λq2=>?_));refine rX J rfl (ite (λL=>z _ stp λe=>by have:=(e.2.2.2.2.2.2.2 y r).2.2.1;omega) (λq3=>?_));refine rX J rfl (ite (λL=>z _ stp λe=>by have:=(e.2.2.2.2.2.2.2 y r).2.2.2;omega) (λq4=>?_));refine rA ⟨rfl,q,λt A=>?_,stp⟩;rw [K] at A;have E:=Qf.1 A;rcases E with A|A
     ·exact p t A
     ·rw [Qc.1 A];exact⟨by omega,by omega,by omega,by omega⟩
    ·have E:i=l.length:=by omega
     obtain rfl:=E;rw [Qj (Qe _)] at p;exact⟨.t ⟨h1,⟨k2,k3⟩,⟨by have G:¬b<0:=h4;show 0<=b;omega,by have G:¬400<b:=h5;show b<=400;omega⟩,by omega,C,λh=>(nomatch h),.inl O,p⟩,stp⟩
def hitsB (l:List HitD):List UInt8:=l.flatMap λh=>numsB [h.v,h.d]
def encR (x:RepD) (l:List HitD):List UInt8:=numsB [x.id,x.code]++if x.code≠0 then [] else numsB [if x.a.found then 1 else 0,x.a.num,(l.length:Int)]++hitsB l
theorem zEr{l:List HitD}{y:HitD}(h:l[k]? = some y):hitsB (l.take (k+1))=hitsB (l.take k)++numsB [y.v,y.d]:=by
 have b:=(Qy.1 h).1
 have:l.take (k+1)=l.take k++[y]:=by
  rw [take_add b];rw [Qd b] at h;cases h;rfl
 rw [this];simp [hitsB]
theorem zFo(l:List HitD):(hitsB l).length<=10*l.length:=by
 induction l with
 |nil=>simp [hitsB]
 |cons h r b =>
  have e:hitsB (h::r)=numsB [h.v,h.d]++hitsB r:=by simp [hitsB]
  have:=zAu [h.v,h.d];rw [e,Qb,QA];simp at this;omega
theorem zHZ{x:RepD}{l:List HitD}{w:World}(h:SlF w (.slice x.a.s.a x.a.s.n x.a.s.c) l)(hn:l.length<=1000000):
  Sp PP 123 #[agg x] w λv w'=>((RepOk x l/\v=.tuple #[txt (encR x l),.int .i64 0])\/(¬RepOk x l/\v=.tuple #[txt [],.int .i64 1]))/\Stp w w':=by
 obtain⟨id,e,K,f,I,sn,J⟩:=x;have t:sn=l.length:=h.len;refine eN ?_;refine rbx λb1 w1 n1 o=>rG o (⟨id,e,K,f,I,sn,J⟩:RepD) (rcall (zKZ (x:=⟨id,e,K,f,I,sn,J⟩) (h.up (w':=w1)) hn) ?_);rintro v w2 ⟨⟨rfl,p⟩|⟨rfl,p⟩,e2⟩
 case' inr=>exact⟨.inr ⟨p,rfl⟩,stp⟩
 refine rX o rfl (rX o rfl (rbs (α:=Int) [id,e] rfl (vs:=[.int .i64 id,.int .i64 e]) rfl rfl (by decide) λb3 w3 n3 S3=>?_));have s3:Stp w2 w3:=⟨n3.ext⟩;refine rcall (zAV S3 (by simp)) ?_;rintro v w4 ⟨rfl,e4⟩;refine rX o rfl (ite (λW=>?_) (λW=>?_))
 ·have L:txt (numsB [id,e])=txt (encR ⟨id,e,K,f,I,sn,J⟩ l):=by
   unfold encR;rw [if_pos W,QE]
  have q:Value.tuple #[txt (numsB [id,e]),.int .i64 0]=.tuple #[txt (encR ⟨id,e,K,f,I,sn,J⟩ l),.int .i64 0]:=by rw [L]
  exact⟨.inl ⟨p,q⟩,stp⟩
 refine rX o rfl ?_;cases K
 ·refine rX o rfl (rX o rfl (rbs (α:=Int) [0,f,(sn:Int)] rfl (vs:=[.int .i64 0,.int .i64 f,.int .i64 (sn:Int)]) rfl rfl (by decide) λb5 X Y Z=>?_));have s5:Stp w4 X:=⟨Y.ext⟩;refine rcall (zAV Z (by simp)) ?_;rintro v w6 ⟨rfl,e6⟩;have q1:=zAu [id,e];have q2:=zAu [0,f,(sn:Int)];simp only [QA,QZ] at q1 q2;refine rsadd (a:=⟨(numsB [id,e]).toArray⟩) (b:=⟨(numsB [0,f,(sn:Int)]).toArray⟩) (by show (numsB [id,e]).length+(numsB [0,f,(sn:Int)]).length<=_;omega) ?_;have z:Value.string ((⟨(numsB [id,e]).toArray⟩:ByteArray)++⟨(numsB [0,f,(sn:Int)]).toArray⟩)=txt (numsB [id,e]++numsB [0,f,(sn:Int)]++hitsB (l.take 0)):=by rw [zAD];simp [hitsB]
  refine cO 7 [] 4 6 l.length (λk v u=>v=txt (numsB [id,e]++numsB [0,f,(sn:Int)]++hitsB (l.take k))/\Stp w6 u) ⟨z,stp⟩ ?_;rintro k _ g u hk ⟨rfl,e7⟩;refine rX o rfl (ite (λhlt=>?_) (λA=>?_))
  ·have r:k<l.length:=by have M:(k:Int)<(sn:Int):=hlt;omega
   have C:∃y,l[k]? = some y:=⟨_,Qd r⟩;obtain⟨y,O⟩:=C;refine rX o rfl (rix (h.up (w':=u)) (x:=y) O λb7 o7 A7=>rloadA A7 rfl (ral λb8 w8 n8 Q=>rE Q y λE R S _=>?_));have s9:Stp u E:=n8.st S;have U:Bk E b8 [.int .i64 y.v,.int .i64 y.d] 206:=R;clear R Q S;refine rX U rfl (rX U rfl (rbs (α:=Int) [y.v,y.d] rfl (vs:=[.int .i64 y.v,.int .i64 y.d]) rfl rfl (by decide) λa0 F G H=>?_));have a1:Stp E F:=⟨G.ext⟩;refine rcall (zAV H (by simp)) ?_;rintro v a2 ⟨rfl,a3⟩;have q3:=zAu [y.v,y.d];have q4:=zFo (l.take k);simp only [QA,QZ,Qm] at q3 q4;refine rsadd (b:=⟨(numsB [y.v,y.d]).toArray⟩) (by show (numsB [id,e]++numsB [0,f,(sn:Int)]++hitsB (l.take k)).length+(numsB [y.v,y.d]).length<=_;rw [Qb,Qb];omega) ?_;have L:Value.string ((⟨(numsB [id,e]++numsB [0,f,(sn:Int)]++hitsB (l.take k)).toArray⟩:ByteArray)++⟨(numsB [y.v,y.d]).toArray⟩)=txt (numsB [id,e]++numsB [0,f,(sn:Int)]++hitsB (l.take (k+1))):=by rw [zAD,zEr O];simp only [Qp]
   exact rA ⟨rfl,r,L,stp⟩
  ·have V:¬(k:Int)<(sn:Int):=A;have C:k=l.length:=by omega
   obtain rfl:=C
   have q:Value.tuple #[txt (numsB [id,e]++numsB [0,f,(sn:Int)]++hitsB (l.take l.length)),.int .i64 0]=.tuple #[txt (encR ⟨id,e,false,f,I,sn,J⟩ l),.int .i64 0]:=by
    rw [Qj (Qe _)];unfold encR;rw [if_neg W,t,Qp];rfl
   exact⟨.inl ⟨p,q⟩,stp⟩
 ·refine rX o rfl (rX o rfl (rbs (α:=Int) [1,f,(sn:Int)] rfl (vs:=[.int .i64 1,.int .i64 f,.int .i64 (sn:Int)]) rfl rfl (by decide) λb5 X Y Z=>?_));have s5:Stp w4 X:=⟨Y.ext⟩;refine rcall (zAV Z (by simp)) ?_;rintro v w6 ⟨rfl,e6⟩;have q1:=zAu [id,e];have q2:=zAu [1,f,(sn:Int)];simp only [QA,QZ] at q1 q2;refine rsadd (a:=⟨(numsB [id,e]).toArray⟩) (b:=⟨(numsB [1,f,(sn:Int)]).toArray⟩) (by show (numsB [id,e]).length+(numsB [1,f,(sn:Int)]).length<=_;omega) ?_;have z:Value.string ((⟨(numsB [id,e]).toArray⟩:ByteArray)++⟨(numsB [1,f,(sn:Int)]).toArray⟩)=txt (numsB [id,e]++numsB [1,f,(sn:Int)]++hitsB (l.take 0)):=by rw [zAD];simp [hitsB]
  refine cO 7 [] 4 6 l.length (λk v u=>v=txt (numsB [id,e]++numsB [1,f,(sn:Int)]++hitsB (l.take k))/\Stp w6 u) ⟨z,stp⟩ ?_;rintro k _ g u hk ⟨rfl,e7⟩;refine rX o rfl (ite (λhlt=>?_) (λA=>?_))
  ·have r:k<l.length:=by have M:(k:Int)<(sn:Int):=hlt;omega
   have C:∃y,l[k]? = some y:=⟨_,Qd r⟩;obtain⟨y,O⟩:=C;refine rX o rfl (rix (h.up (w':=u)) (x:=y) O λb7 o7 A7=>rloadA A7 rfl (ral λb8 w8 n8 Q=>rE Q y λE R S _=>?_));have s9:Stp u E:=n8.st S;have U:Bk E b8 [.int .i64 y.v,.int .i64 y.d] 206:=R;clear R Q S;refine rX U rfl (rX U rfl (rbs (α:=Int) [y.v,y.d] rfl (vs:=[.int .i64 y.v,.int .i64 y.d]) rfl rfl (by decide) λa0 F G H=>?_));have a1:Stp E F:=⟨G.ext⟩;refine rcall (zAV H (by simp)) ?_;rintro v a2 ⟨rfl,a3⟩;have q3:=zAu [y.v,y.d];have q4:=zFo (l.take k);simp only [QA,QZ,Qm] at q3 q4;refine rsadd (b:=⟨(numsB [y.v,y.d]).toArray⟩) (by show (numsB [id,e]++numsB [1,f,(sn:Int)]++hitsB (l.take k)).length+(numsB [y.v,y.d]).length<=_;rw [Qb,Qb];omega) ?_;have L:Value.string ((⟨(numsB [id,e]++numsB [1,f,(sn:Int)]++hitsB (l.take k)).toArray⟩:ByteArray)++⟨(numsB [y.v,y.d]).toArray⟩)=txt (numsB [id,e]++numsB [1,f,(sn:Int)]++hitsB (l.take (k+1))):=by rw [zAD,zEr O];simp only [Qp]
   exact rA ⟨rfl,r,L,stp⟩
  ·have V:¬(k:Int)<(sn:Int):=A;have C:k=l.length:=by omega
   obtain rfl:=C
   have q:Value.tuple #[txt (numsB [id,e]++numsB [1,f,(sn:Int)]++hitsB (l.take l.length)),.int .i64 0]=.tuple #[txt (encR ⟨id,e,true,f,I,sn,J⟩ l),.int .i64 0]:=by
    rw [Qj (Qe _)];unfold encR;rw [if_neg W,t,Qp];rfl
   exact⟨.inl ⟨p,q⟩,stp⟩
end Go.W
set_option linter.unusedSimpArgs false
namespace Go.W
open Go
open Enc (enc)
variable {B N hi i j k m n:Nat} {D:Nat -> Prop} {P:Program} {T:Tab} {a:Option Addr} {s:List UInt8} {w':World}
section
variable {P:Program}
structure SpP (P:Program) (f:FuncId) (args:Array Value) (w:World) (R:Value->World->Prop) (Rp:List PanicEntry->World->Prop):Prop where
 can:callable P f
 calls:Calls P f args w (RetP R Rp)
theorem SpP.mono{f:FuncId}{args:Array Value}{w:World}{R R':Value->World->Prop}{g b:List PanicEntry->World->Prop}(h:SpP P f args w R g)(l:∀v w',R v w'->R' v w')(o:∀c w',g c w'->b c w'):SpP P f args w R' b:=
 ⟨h.can,h.calls.mono λe w' d=>by cases e <;> first|exact l _ _ d|exact o _ _ d|exact d⟩
theorem rcallP{f:FuncId}{args:Array Value}{k:Value->World->Prop}{d:List PanicEntry->World->Prop}{w:World}{R:Value->World->Prop}{g:List PanicEntry->World->Prop}
  (h:SpP P f args w R g)(l:∀v w',R v w'->k v w')(o:∀c w',g c w'->d c w'):CallS P f args k d w:=by
 rw [zBQ];exact⟨h.can,h.calls.mono λe w' b=>by cases e <;> first|exact l _ _ b|exact o _ _ b|exact b.elim⟩
theorem enP(d:T.ok P=true){f:FuncId}{b:Func}[h:FnAt P f b n]{args:Array Value}{w:World}{R:Value->World->Prop}{c:List PanicEntry->World->Prop}(e:Nat.ble args.size n=true)
  (g:S P T n (codeOf b) (retK P b.results.toList R c) (argF args.toList) w)(l:Nat.ble n 4294967296=true:=by rfl)(o:T.round=false:=by rfl):SpP P f args w R c:=
 ⟨⟨b,h.hf,h.hb,h.hm⟩,zGo d o h.hf h.hn h.hb e l g⟩
theorem rpanic{t:TypeId}{v:Value}{k:Value->World->Prop}{b:List PanicEntry->World->Prop}{w:World}(h:b [{ v:=.iface t v,recovered:=false }] w):SemV P (Instr.panic (.iface t v)) k b w:=by
 rw [zC1];exact h
theorem panR{e:List ResultVar}{F:Nat->Value}{c:List PanicEntry}{R:Value->World->Prop}{d:List PanicEntry->World->Prop}{w:World}{f:Nat->Bool}(h0:f 4294967296=false)(hd:decD (F 4294967296)=[])(h:d c w):
  ∀b,agree f F b->(retK P e R d).pan b c w:=λb g=>by
 show panS P e R d b c w;unfold panS;rw [g _ h0,hd];exact h
theorem tmin{b:Array TypeId}{ty:TypeId}{x y:Int}{k:Value->Prop}{w:World}(c:k (.int .i64 (min x y))):TakeS P (Builtin.min_ b ty #[.int .i64 x,.int .i64 y]) D k w:=by
 rw [zAe];exact⟨.int .i64 (min x y),λw' _=>by simp [Builtin.min_,Builtin.min2];split <;> omega,c⟩
theorem tconvE{s d:TypeId}{kd b c:IntKind}[e:KindT P s b][hd:KindT P d kd]{n z:Int}{k:Value->Prop}{w:World}(f:kd.wrap n=z)(g:k (.int kd z)):TakeS P (convert s d (.int c n)) D k w:=by
 rw [zAe];exact⟨.int kd z,λw' _=>by rw [zLb e hd n w',f],g⟩
theorem rtaN{t u:TypeId}{z:Value}{sz b:Nat}[c:Conc P t][e:Elem P t z sz b]{k:Value->World->Prop}{f:List PanicEntry->World->Prop}{w:World}(g:k (.tuple #[z,.bool false]) w):SemV P (Instr.typeAssert .nilIface u t true) k f w:=by
 obtain⟨i,hi,l,_,_⟩:=info_parts e.h;have h:=c.h;unfold concB at h;refine SemV.of (w':=w) ?_ g;unfold Instr.typeAssert;simp only [Qo,underlying,run_program,Qh]
 cases hd:P.underlying t with
 |none=>rw [hd] at h;cases h
 |some d =>
  rw [hd] at h;cases d <;> first|(simp [zeroValue,typeInfo,hi,l];done)|cases h
def recM:FrameMode->Value×FrameMode
 |.panicking ({ v,recovered:=false,goexit:=false }::older)=>(v,.panicking ({ v,recovered:=true }::older))
 |u=>(.nilIface,u)
structure SpD (P:Program) (g:FuncId) (args:Array Value) (u:FrameMode) (w:World) (R:FrameMode->World->Prop):Prop where
 can:callable P g
 calls:CallsDIn Fence.wide 0 P g args u w λe u' w'=>match e with | .returned _=>R u' w'|_=>False
theorem zBb{F:Fence}{f:FuncId}{args:Array Value}{u:FrameMode}{w:World}{R R':Ending->FrameMode->World->Prop}(h:CallsDIn F n P f args u w R)(d:∀e u' w',R e u' w'->R' e u' w'):CallsDIn F n P f args u w R':=
 ⟨h.1,λc cs g b=>let ⟨e,u',w',fr,r,rest⟩:=h.2 c cs g b;⟨e,u',w',fr,d _ _ _ r,rest⟩⟩
theorem zCS{d:List ResultVar}{F:Nat->Value}{g:FuncId}{first cap:Array Value}{ds:List Deferred}{u:FrameMode}{R:Value->World->Prop}{f:List PanicEntry->World->Prop}{w:World}(l:u≠.run)
  (h:SpD P g (first++cap) u w λu' w'=>LeaveS P d F ds (settle u') R f w'):LeaveS P d F ({ target:=.fn (.func g) cap,args:=first }::ds) u R f w:=by
 refine⟨λo tmps p q=>⟨l,.inr ⟨(λhd=>by cases hd),.func g,cap,g,first++cap,rfl,zAW h.can w,λ_ _=>trivial,zBb h.calls ?_⟩⟩⟩;intro e u' w' b
 cases e with
 |returned v=>exact b.out o tmps p q
 |panicked c=>exact b.elim
 |outgrown=>exact b.elim
def retKD (R:World->Prop):KS where
 nrm:=λF w=>decD (F 4294967296)=[]/\R w
 ext:=λ_ _ _=>False
 ret:=λF w=>decD (F 4294967296)=[]/\R w
 pan:=λ_ _ _=>False
theorem zOG(hT:T.ok P=true)(Y:T.round=false){ops:Array Oper}{rest:Code}{o:Oper}{os:List Oper}{d:Nat}{K:KS}{F:Nat->Value}{a:Act}{g:Frame}{cs:List Frame}{u:FrameMode}{w:World}
  (ho:ops.toList=o::os)(hg:o.guard=none)(hd:o.dst=some d)(hdn:d<n)(hx:∀(ρ:Operand->Value) (w:World),(execOp ρ o).run P w=.ok .recover w)(hu:g.mode=u)(ha:Rel n F a)
  (h:opsS P T n ops.toList os (upd F d (recM u).1) (λx w'=>S P T n rest K x w') (λx c w'=>K.pan x c w') w):
  (Code.seq (.region i ops false) rest).wpSIn Fence.wide 0 P (λe a' J w'=>K.lift n F (λ_=>true) e a' w'/\J = { g with mode:=(recM u).2 }::cs) a (g::cs) w:=by
 intro b k hb A hF q;have i0:(lone (b.atR a (.code (.seq (.region i ops false) rest)::k)) (g::cs) w).fenced P Fence.wide:=fenced_calm hF q rfl;have i1:(lone (b.atR a (.code (.region i ops false)::.code rest::k)) (g::cs) w).fenced P Fence.wide:=fenced_calm hF q rfl;have y:ops[0]? = some o:=by rw [<-Jj,ho];rfl
 have a4:ops.size=os.length+1:=by rw [<-Vc,ho];rfl
 have C:List.range ops.size=0::List.range' 1 os.length:=by rw [a4,List.range_eq_range',List.range'_succ]
 have hw:Region.wanted o (yielded ops a.tmps)=true:=by simp [Region.wanted,hg]
 have E:∀f,o.about P w a.eval=some f->Fence.wide.fn f:=λ_ _=>trivial;have i2:(lone (b.atR a (.inRegion ops (0::List.range' 1 os.length)::.code rest::k)) (g::cs) w).fenced P Fence.wide:=fenced_oper hF q y E;have Z:=stepGR_op (P:=P) (b:=b) (k:=.code rest::k) (cs:=g::cs) (w:=w) (rest:=List.range' 1 os.length) y hw;rw [A,Oper.semAt_none] at Z
 have a0:∀v,(b.atR a (.inRegion ops (0::List.range' 1 os.length)::.code rest::k)).finish v=b.atR (a.put o.dst v) (.inRegion ops (List.range' 1 os.length)::.code rest::k):=by
  intro v;rw [Frame.finish_atR,y];rfl
 have hk:(b.atR a (.inRegion ops (0::List.range' 1 os.length)::.code rest::k)).kind=.deferred:=hb;have L:=tryRecover_deferred hk (g::cs)
 have M:step P (lone (b.atR a (.inRegion ops (0::List.range' 1 os.length)::.code rest::k)) (g::cs) w) =
   .next (lone (b.atR (a.put o.dst (recM u).1) (.inRegion ops (List.range' 1 os.length)::.code rest::k)) ({ g with mode:=(recM u).2 }::cs) w):=by
  refine step_lone_go ?_;rw [Z,<-a0];simp only [Frame.atR,A] at L ⊢
  cases l:recoverD (g::cs) with
  |none =>
   have e1:(recM u)=(.nilIface,u):=by
    unfold recM;split
    ·exfalso;rename_i v older;rw [recoverD,hu] at l;cases l
    ·rfl
   have O:({ g with mode:=u }:Frame)=g:=by subst hu;rfl
   rw [e1];simp [stepG.apply,hx,L,l,O]
  |some p =>
   obtain⟨v,J⟩:=p
   have e1:(recM u).1=v/\{ g with mode:=(recM u).2 }::cs=J:=by
    simp only [recoverD] at l;split at l
    ·rename_i v' older hm;simp only [JK,Xm] at l;have a5:u=.panicking ({ v:=v',recovered:=false,goexit:=false }::older):=by rw [<-hu,hm]
     subst a5;exact⟨l.1,l.2⟩
    ·cases l
   obtain⟨e1,O⟩:=e1;rw [e1,O];simp [stepG.apply,hx,L,l]
 have a6:Rel n (upd F d (recM u).1) (a.put o.dst (recM u).1):=by
  obtain⟨x,h1,_,h3⟩:=ha.put (d:=o.dst) (v:=(recM u).1) (k:=λG=>G=upd F d (recM u).1) (by
   rw [hd];show (match Nat.blt d n with|true=>_|false=>False);have:Nat.blt d n=true:=by rw [Xe];exact hdn
   rw [this])
  exact h3 ▸ h1
 have z:=zMP hT (md:=none) (by rw [Y];rfl) ops (upd F d (recM u).1) _ _ os (λ_=>false) _ w _ a6 (λ_ _=>rfl) h
 have a1:=(wpOpsIn_eq_wpListIn (F:=fw none) (n:=0) (P:=P) (ops:=ops) (Q:=LQ n (upd F d (recM u).1) (λt=>false || wrL os t) (λx w'=>S P T n rest K x w') (λx c w'=>K.pan x c w')) os 1 (λj=>by
  rw [<-Jj,ho,Xv];rfl))
 rw [<-a1] at z;have r:(fw none).room (({ g with mode:=(recM u).2 }::cs).length+1+0):=zQm none _;obtain⟨e,a',w',X,H⟩:=wp_opsIn _ _ _ z b (.code rest::k) ({ g with mode:=(recM u).2 }::cs) A trivial r
 have I:StepsIn (Machine.fenced P Fence.wide) P (lone (b.atR a (.code (.seq (.region i ops false) rest)::k)) (g::cs) w) (lone (b.atR (a.put o.dst (recM u).1) (.inRegion ops (List.range' 1 os.length)::.code rest::k)) ({ g with mode:=(recM u).2 }::cs) w):=by
  refine .head i0 stepR_seq (.head i1 ?_ (.one i2 M));rw [<-C];exact stepR_region
 cases e with
 |normal =>
  obtain⟨x,h1,_,h3⟩:=X;obtain⟨O,a2,w2,R,U⟩:=zBR hT rest K x w' h3 none (by rw [Y];rfl) a' h1 b k ({ g with mode:=(recM u).2 }::cs) A trivial r;have V:StepsIn (Machine.fenced P Fence.wide) P _ _:=H;have W:ArrivesIn (Machine.fenced P Fence.wide) P _ b k _ O a2 w2:=U;refine⟨O,a2,{ g with mode:=(recM u).2 }::cs,w2,rfl,⟨?_,rfl⟩,Ya I (Ya V W)⟩;cases O <;> simp only [KS.lift] at R ⊢ <;> first|exact R.elim|(obtain⟨G,g1,_,g3⟩:=R;exact⟨G,g1,(λ_ ht=>by cases ht),g3⟩)
 |panic c =>
  obtain⟨x,h1,_,h3⟩:=X;obtain⟨a3,hs⟩:=H;exact⟨.panic c,a',{ g with mode:=(recM u).2 }::cs,w',rfl,⟨⟨x,h1,(λ_ ht=>by cases ht),h3⟩,rfl⟩,Ya I ⟨a3,hs⟩⟩
 |exit i=>exact X.elim
 |goto i=>exact X.elim
 |ret=>exact X.elim
 |outgrown=>exact X.elim
theorem SpD.enter(J:T.ok P=true)(E:T.round=false){g:FuncId}{l:Func}[r:FnAt P g l n]{args:Array Value}{u:FrameMode}{w:World}{R:FrameMode->World->Prop}{ops:Array Oper}{rest:Code}{o:Oper}{os:List Oper}{d:Nat}
  (L:codeOf l=.seq (.region i ops false) rest)(t:l.results.toList=[])(M:ops.toList=o::os)(O:o.guard=none)(hd:o.dst=some d)(hdn:Nat.blt d n=true)(Q:∀(ρ:Operand->Value) (w:World),(execOp ρ o).run P w=.ok .recover w)
  (U:Nat.ble args.size n=true)(V:Nat.ble n 4294967296=true)
  (h:opsS P T n ops.toList os (upd (argF args.toList) d (recM u).1) (λW w'=>S P T n rest (retKD (R (recM u).2)) W w') (λ_ _ _=>False) w):SpD P g args u w R:=by
 have X:=r.hn;subst X;obtain⟨c,v⟩:=Xx.1 r.hb;have x:codeOf l=c:=by simp [codeOf,v]
 rw [L] at x;refine⟨⟨l,r.hf,r.hb,r.hm⟩,callsDIn_of_wpSIn r.hf v trivial λI cs Y=>?_⟩;rw [<-x];have y:d<l.ntmps:=by rw [Xe] at hdn;exact hdn
 have Z:=zOG J E (i:=i) (K:=retKD (R (recM u).2)) (cs:=cs) (u:=u) M O hd y Q Y (zI1 args l.ntmps (Vf U) (Vf V)) h;intro b k h1 h2 h3 h4;obtain⟨e,a',F,w',hl,⟨f,z⟩,A⟩:=Z b k h1 h2 h3 h4;refine⟨e,a',F,w',hl,?_,A⟩
 have p:∀tmps:Array Value,(results l tmps).run P w'=.ok (.tuple #[]) w':=by
  intro tmps;have:l.results=#[]:=by apply Array.toList_inj.1;rw [t]
  simp [results,this]
 cases e <;> simp only [KS.lift,retKD] at f <;> simp only [bodyPostS]
 ·obtain⟨G,C,_,q,H⟩:=f;exact⟨by rw [C.defers];exact q,_,z,_,p _,H⟩
 ·obtain⟨G,_,_,q⟩:=f;exact q.elim
 ·obtain⟨G,C,_,q,H⟩:=f;exact⟨by rw [C.defers];exact q,_,z,_,p _,H⟩
 ·obtain⟨G,C,_,q⟩:=f;exact q.elim
end
open Go Go.Proofs
set_option maxRecDepth 10000
theorem zJh:∀{l:List UInt8} {c:UInt8},(∀x∈l,128<=x.toNat)->c.toNat<128->(OneB (l++[c])↔(l=[]\/c.toNat≠0))
 |[],c,_,b=>by simp [OneB,b]
 |[d],c,h,b=>by
  have hd:=h d Qs;simp [OneB,b,hd]
 |d::e::r,c,h,b=>by
  have f:=zJh (l:=e::r) (λx g=>h x (QF _ g)) b;have hd:=h d Qs;show (128<=d.toNat/\OneB (e::(r++[c]))/\(r++[c]=[]->e.toNat≠0))↔_;rw [show e::(r++[c])=(e::r)++[c] from rfl,f];simp [hd]
theorem zOo{l t:List UInt8}{a:Nat}{c:UInt8}(hd:s.drop a=l++c::t)(g:∀x∈l,128<=x.toNat)(h:c.toNat<128)(n:Nat):RdAt s a n↔(n=valB (l++[c])/\n<=2147483647/\(l=[]\/c.toNat≠0)):=by
 have d:s.drop a=(l++[c])++t:=by rw [hd];simp
 rw [zHf d (EndB.snoc g h) n,<-zJh g h];constructor
 ·rintro⟨b,e,f⟩;exact⟨e,b,by rw [<-f];exact zDb n⟩
 ·rintro⟨b,e,f⟩;exact⟨e,b,by rw [b];exact zMO f⟩
theorem pow7(k:Nat):(2:Nat) ^ (7*k)=128 ^ k:=by rw [Nat.pow_mul]
theorem zBY{a:Int}{b:Nat}{w:World}(B:Bk w b [txt s,.int .i64 a,.bool false] 374)(hs:s.length<=4611686018427387904):
  Sp PP 225 #[.pointer (some ⟨b,0,none⟩)] w λv w' =>
   ((∃A n:Nat,a=(A:Int)/\RdAt s A n/\v=.int .i64 (n:Int)/\Bk w' b [txt s,.int .i64 ((A+(numB n).length:Nat):Int),.bool false] 374) \/
   ((∀A n:Nat,a=(A:Int)->¬RdAt s A n)/\∃x a':Int,v=.int .i64 x/\Bk w' b [txt s,.int .i64 a',.bool true] 374))/\Fr (λi=>i=b) w w':=by
 have p:(⟨s.toArray⟩:ByteArray).size=s.length:=rfl;refine eN ?_;refine dQ 23 λO e1=>tX B rfl nf (tX B rfl nf (ite (λh0=>?_) (λh0=>?_)))
 ·have R:=B.mv (w:=O);refine rS R [.bool true] (zAj _) λu2 S U _=>?_;exact⟨.inr ⟨λA n e=>by omega,0,a,rfl,S⟩,(fE w O).trans U⟩
 refine tX B rfl nf (tX B rfl nf (ite (λV=>?_) (λV=>?_)))
 ·have R:=B.mv (w:=O);refine rS R [.bool true] (zAj _) λu2 S U _=>?_;refine⟨.inr ⟨λA n e q=>?_,0,a,rfl,S⟩,(fE w O).trans U⟩;have:=zMU q;rw [p] at V;omega
 rw [p] at V;have E:∃A:Nat,a=(A:Int):=⟨a.toNat,by omega⟩;obtain⟨A,rfl⟩:=E;refine dQ 12 λu2 e2=>tX B rfl nf (tX B rfl nf (rar (by rw [p];omega) (tmin ?_)));refine cO 44 [2,4,5] 3 43 5 (λk v u=>∃l t:List UInt8,v=.int .i64 (valB l:Nat)/\s.drop A=l++t/\l.length=k/\(∀x∈l,128<=x.toNat)/\Stp w u) ⟨[],s.drop A,rfl,rfl,rfl,by simp,stp⟩ ?_;rintro k _ g u hk ⟨l,t,rfl,hd,F,d,e⟩;have G:s.length - A=l.length+t.length:=by have:=congrArg List.length hd;simpa using this
 have W:valB l<128 ^ k:=by rw [<-F];exact zIP l
 have hW:128 ^ k<=34359738368:=XR (by decide) hk;refine ite (λhlt=>?_) (λX=>?_)
 ·rw [p] at hlt
  obtain⟨c,C,rfl⟩:∃c C,t=c::C:=by
   cases t with
   |nil=>simp at G;omega
   |cons c C=>exact⟨c,C,rfl⟩
  have H:s[A+k]? = some c:=by
   rw [<-Vz,hd,<-F];simp
  have Y:k<=4:=by omega
  have a2:128 ^ k<=268435456:=XR (by decide) Y;have Z:=c.toNat_lt;have a0:c.toNat % 128<=127:=by omega
  have a1:c.toNat % 128*128 ^ k<=127*128 ^ k:=Ji _ a0;have I:valB (l++[c])=valB l+c.toNat % 128*2 ^ (7*k):=by rw [zFU,F,pow7,Nat.mul_comm]
  refine dQ 13 λu3 e3=>tX B rfl nf (tX B rfl nf (rarE (y:=((A+k:Nat):Int)) (by omega) (by omega) (tsidx H (tconvE (z:=(c.toNat:Int)) (zBZ (by omega) (by omega)) ?_))));refine rrem (by omega) (by omega) ?_;refine rarE (y:=((7*k:Nat):Int)) (by omega) (by omega) (rshl (z:=((c.toNat % 128*2 ^ (7*k):Nat):Int)) (by omega) (by rw [QW];push_cast;rfl) (by rw [pow7];omega) ?_);refine SemV.of (v:=.int .i64 ((valB (l++[c]):Nat):Int)) (by rw [I];exact run_or (by rw [pow7];exact W) (by rw [pow7];omega) _) ?_;clear I;refine ite (λhc=>?_) (λhc=>?_)
  ·have f:=zOo hd d (by omega:c.toNat<128);have Q:=B.mv (w:=u3);have F3:Fr (λi=>i=b) w u3:=fE w u3;refine ite (λJ=>?pp) (λJ=>?tt)
   case' pp =>
    have K:∀n:Nat,¬RdAt s A n:=λn q=>by have:=(f n).1 q;omega
   case' tt=>refine ite (λhz=>?uu) (λhz=>?rr)
   case' uu=>refine ite (λhi=>?qq) (λhi=>?ss)
   case' qq =>
    have K:∀n:Nat,¬RdAt s A n:=λn q=>by
     have h3:=(f n).1 q;have E:=h3.2.2;rcases E with h|h
     ·subst h;simp at F;omega
     ·omega
   case' rr =>
    have o:RdAt s A (valB (l++[c])):=(f _).2 ⟨rfl,by omega,.inr (by omega)⟩
   case' ss =>
    have o:RdAt s A (valB (l++[c])):=(f _).2 ⟨rfl,by omega,.inl (Qn (by omega))⟩
   case' pp|qq =>
    refine rS Q [.bool true] (zAj _) λu4 r L _=>rX r rfl (rA (rA (rS r [.int .i64 _] (zAa _) λu5 B5 f5 _=>?_)));exact⟨.inr ⟨λA' n e q=>K n (Int.ofNat_inj.1 e ▸ q),_,_,rfl,B5⟩,(F3.trans L).trans f5⟩
   case' rr|ss =>
    refine rS Q [.bool false] (zAj _) λu4 r L _=>rX r rfl (rA ?_)
    refine rarE (y:=((A+(numB (valB (l++[c]))).length:Nat):Int)) (by
     have h5:numB (valB (l++[c]))=l++[c]:=((zHf (by rw [hd];simp:s.drop A=(l++[c])++C) (EndB.snoc d (by omega)) _).1 o).2.2
     rw [h5];simp;omega) (by
     have:=zAm (n:=valB (l++[c])) o.1;omega) ?_
    refine rS r [.int .i64 _] (zAa _) λu5 B5 f5 _=>?_;exact⟨.inl ⟨A,_,rfl,o,rfl,B5⟩,(F3.trans L).trans f5⟩
  ·refine rA ⟨rfl,by omega,l++[c],C,rfl,by rw [hd];simp,by simp [F],λx M=>?_,stp⟩;have E:=Qf.1 M;rcases E with M|M
   ·exact d x M
   ·rw [Qc.1 M];omega
 ·rw [p] at X;have Q:=B.mv (w:=u);refine rS Q [.bool true] (zAj _) λu4 r L _=>?_;refine⟨.inr ⟨λA' n e q=>?_,0,_,rfl,r⟩,(fE w u).trans L⟩;have hA:A'=A:=by omega
  subst hA;refine zFG hd d ?_ n q;by_cases h5:l.length=5
  ·exact .inl h5
  ·right;exact Qn (by omega)
theorem zEQ{v:Value}{w:World}:Sp PP 224 #[v] w λr w'=>r=.func (.func 225) #[v] #[]/\w'=w:=by
 refine eN ?_;exact⟨rfl,rfl⟩
theorem zHq{a:Int}{w:World}(g:s.length<=4611686018427387904):Sp PP 223 #[txt s,.int .i64 a,.func (.func 224) #[] #[]] w λv w'=>RdV s a v/\Stp w w':=by
 refine eN ?_;refine rbuild (cs:=[txt s,.int .i64 a,.bool false]) rfl (rbx λb w1 n1 h=>rcall (zEQ) ?_);rintro _ _ ⟨rfl,rfl⟩;refine rcall (zBY h g) ?_;rintro v e ⟨⟨A,n,rfl,l,rfl,c⟩|⟨d,x,p,rfl,c⟩,f⟩
 ·have o:Stp w e:=n1.st f;refine rX c rfl (dQ 8 λq r=>tX c rfl nf ?_);exact⟨.inl ⟨A,n,rfl,l,rfl⟩,stp⟩
 ·have o:Stp w e:=n1.st f;refine rX c rfl ?_;exact⟨.inr ⟨d,rfl⟩,stp⟩
theorem zCB{a:Int}{w:World}(c:s.length<=4611686018427387904):Sp PP 124 #[txt s,.int .i64 a] w λv w'=>RdV s a v/\Stp w w':=by
 refine eN ?_;refine rcall (zHq c) ?_;rintro v e ⟨⟨A,n,rfl,d,rfl⟩|⟨b,rfl⟩,f⟩
 ·exact⟨.inl ⟨A,n,rfl,d,rfl⟩,stp⟩
 ·exact⟨.inr ⟨b,rfl⟩,stp⟩
abbrev PanF:List PanicEntry:=[{ v:=.iface 27 (.int .i64 220),recovered:=false }]
theorem zAh{b:Bool}{w:World}:SpP PP 80 #[.bool b] w (λv w'=>b=true/\v=.tuple #[]/\w'=w) (λc w'=>b=false/\c=PanF/\w'=w):=by
 refine enP TBok rfl ?_;cases b
 ·refine rmki ?_;exact rpanic ⟨rfl,rfl,rfl⟩
 ·exact⟨rfl,rfl,rfl⟩
theorem zDI{A b:Nat}{w:World}(B:Bk w b [txt s,.int .i64 (A:Int)] 228)(l:s.length<=4611686018427387904):
  SpP PP 77 #[.pointer (some ⟨b,0,none⟩)] w (λv w'=>∃n:Nat,RdAt s A n/\v=.int .i64 (n:Int)/\Bk w' b [txt s,.int .i64 ((A+(numB n).length:Nat):Int)] 228/\Fr (λi=>i=b) w w')
   (λc w'=>c=PanF/\(∀n:Nat,¬RdAt s A n)/\Fr (λi=>i=b) w w'):=by
 refine enP TBok rfl ?_;refine dQ 16 λx y=>tX B rfl nf (tX B rfl nf (rcall (zCB (a:=(A:Int)) l) ?_));rintro v z ⟨⟨o,n,e,p,rfl⟩|⟨f,rfl⟩,g⟩
 ·have q:A=o:=Int.ofNat_inj.1 e;obtain rfl:=q;refine⟨g.e,?_⟩;refine rcallP zAh ?_ ?_
  ·rintro _ d ⟨_,rfl,rfl⟩;have r:=B.mv (w:=d);refine rS r [.int .i64 _] (zAa _) λC t u _=>?_;exact⟨n,p,rfl,t,(fE w d).trans u⟩
  ·rintro _ d ⟨h,_⟩;cases h
 ·refine⟨g.e,?_⟩;refine rcallP zAh ?_ ?_
  ·rintro _ d ⟨h,_⟩;cases h
  ·rintro _ d ⟨_,rfl,rfl⟩;exact⟨rfl,λn=>f A n rfl,fE w d⟩
theorem zE8{A b:Nat}{w:World}(B:Bk w b [txt s,.int .i64 (A:Int)] 228):
  SpP PP 142 #[.pointer (some ⟨b,0,none⟩)] w (λv w'=>v=.tuple #[]/\A=s.length/\Stp w w') (λc w'=>c=PanF/\A≠s.length/\Stp w w'):=by
 have d:(⟨s.toArray⟩:ByteArray).size=s.length:=rfl;refine enP TBok rfl ?_;refine dQ 11 λg l=>tX B rfl nf (tX B rfl nf (ite (λh=>?_) (λh=>?_)))
 ·refine rcallP zAh ?_ ?_
  ·rintro _ e ⟨_,rfl,rfl⟩;exact⟨Fr.refl _ _,rfl,by rw [d] at h;omega,stp⟩
  ·rintro _ f ⟨h,_⟩;cases h
 ·refine rcallP zAh ?_ ?_
  ·rintro _ f ⟨h,_⟩;cases h
  ·rintro _ e ⟨_,rfl,rfl⟩;exact panR rfl rfl ⟨rfl,by rw [d] at h;omega,stp⟩
theorem zAq{α:Type}{l:List α}(h:k<l.length)(z:α):l.getD k z=l[k]:=by simp [h]
theorem below{p:Nat->Prop}(h:∀j,j<k->p j)(d:p k):∀j,j<k+1->p j:=λj e=>by
 have b:=QH j k;rcases b with c|c
 ·exact h j c
 ·have b:j=k:=by omega
  obtain rfl:=b;exact d
theorem below2{p:(i:Nat)->i<n->Prop}(h:∀i,i<j->∀b:i<n,p i b)(e:∀b:j<n,p j b):∀i,i<j+1->∀b:i<n,p i b:=λi hi b=>by
 have c:=QH i j;rcases c with d|d
 ·exact h i d b
 ·have c:i=j:=by omega
  obtain rfl:=c;exact e b
theorem zBI{b:Option Addr}{q r u y:Nat}{la lb:List Int}{w:World}(z:SlF w (.slice a q r) la)(A:SlF w (.slice b u y) lb)(H:la.length<=1000000):
  Sp PP 18 #[.slice a q r,.slice b u y] w λv w'=>Tells (la=lb) v/\Stp w w':=by
 have c:=z.len;obtain rfl:=c;have c:=A.len;obtain rfl:=c;refine eN ?_;refine ite (λh=>⟨.f (λe=>h (by rw [e])),stp⟩) (λh=>?_);have I:la.length=lb.length:=by omega
 refine cN 6 [4] 5 la.length (λk w'=>la.take k=lb.take k/\Stp w w') ⟨by simp,stp⟩ ?_;rintro k g w' J ⟨l,e⟩;refine ite (λhlt=>?_) (λC=>?_)
 ·have d:k<la.length:=by omega
  have o:k<lb.length:=by omega
  refine dQ 9 λw1 K=>tix z.up (x:=la[k]) (by simp) λL M E _=>tload1 (E.cell0 rfl) id (tix A.up (x:=lb[k]) (by simp) λO Q F _=>tload1 (F.cell0 rfl) id (ite (λp=>⟨.f (by rintro rfl;exact p rfl),stp⟩) (λG=>?_)));refine rA ⟨rfl,d,?_,stp⟩;rw [take_add d,take_add o,l,Q2.1 G]
 ·have c:k=la.length:=by omega
  obtain rfl:=c;rw [Qj (Qe _),Qj (by omega)] at l;exact⟨.t l,e⟩
theorem zHT{c:Nat}{l:List Int}{w:World}(h:SlF w (.slice a n c) l)(e:l.length<=1000000):Sp PP 363 #[.slice a n c] w λv w'=>Own w.heap.size 3 w' v l/\Stp w w':=by
 have d:=h.len;obtain rfl:=d;refine eN ?_;refine rapp (u:=w) ⟨rfl,rfl⟩ (Own.nil _ 3 _) h (by simp;omega) λf g b o p=>?_;rw [Je] at b;exact⟨b,stp⟩
theorem zJm{c:Nat}{l:List Int}{x:Int}{w:World}(h:SlF w (.slice a n c) l)(A:l.length<=1000000):Sp PP 35 #[.slice a n c,.int .i64 x] w λv w'=>Tells (x∈l) v/\Stp w w':=by
 have d:=h.len;obtain rfl:=d;refine eN ?_;refine cN 6 [4] 5 l.length (λk w'=>(∀j,j<k->¬l[j]? = some x)/\Stp w w') ⟨by omega,stp⟩ ?_;rintro k g w' C ⟨p,e⟩;refine ite (λhlt=>?_) (λq=>?_)
 ·have b:k<l.length:=by omega
  refine rix h.up (x:=l[k]) (by simp) λE F r=>rload1 (r.cell0 rfl) (ite (λu=>?_) (λo=>?_))
  ·exact⟨.t (by rw [<-u];exact Qa b),stp⟩
  ·exact rA ⟨rfl,b,below p (by simpa [b] using o),stp⟩
 ·have d:k=l.length:=by omega
  obtain rfl:=d;refine⟨.f λy=>?_,stp⟩;have d:=QI.1 y;obtain⟨j,z,rfl⟩:=d;exact p j z (by simp)
def insR (x:Int) (l:List Int):List Int:=if (l.dropWhile (· < x)).head? = some x then l else l.takeWhile (· < x)++x::l.dropWhile (· < x)
def risingL (l:List Int):List Int:=l.foldl (λo x=>insR x o) []
def ltN (x:Int) (l:List Int):Nat:=(l.takeWhile (· < x)).length
theorem ltN_of{x:Int}{l:List Int}(d:k<=l.length)(e:∀j,j<k->(b:j<l.length)->l[j]<x)(c:(b:k<l.length)->¬l[k]<x):ltN x l=k:=by
 induction l generalizing k with
 |nil=>simp at d;simp [ltN,d]
 |cons y r f =>
  unfold ltN at *
  cases k with
  |zero =>
   have c:¬y<x:=c (by simp);rw [XW];simp [c]
  |succ k =>
   have g:y<x:=e 0 (by omega) (by simp);rw [XW];simp only [g,decide_true,if_true,QA];rw [f (k:=k) (by simpa using d) (λj h b=>e (j+1) (by omega) (by simpa using b)) (λb=>c (by simpa using b))]
theorem zLr(x:Int)(l:List Int):l.takeWhile (· < x)=l.take (ltN x l):=by
 unfold ltN;exact(List.prefix_iff_eq_take.1 (List.takeWhile_prefix _))
theorem zKg(x:Int)(l:List Int):l.dropWhile (· < x)=l.drop (ltN x l):=by
 unfold ltN;have h:=Vq (p:=λy=>decide (y<x)) (l:=l);have b:=congrArg (List.drop (l.takeWhile λy=>decide (y<x)).length) h;rw [V0] at b;exact b
theorem zMI(x:Int)(l:List Int):insR x l=if l[ltN x l]? = some x then l else l.take (ltN x l)++x::l.drop (ltN x l):=by
 unfold insR;rw [zLr,zKg,List.head?_drop]
theorem zO6(x:Int)(l:List Int):(insR x l).length<=l.length+1:=by
 rw [zMI];split
 ·omega
 ·simp;omega
theorem zMf{l:List Int}(h:k<l.length):risingL (l.take (k+1))=insR l[k] (risingL (l.take k)):=by
 unfold risingL;rw [take_add h,VF];rfl
theorem zED(l:List Int):(risingL l).length<=l.length:=by
 have:∀(l o:List Int),(l.foldl (λo x=>insR x o) o).length<=o.length+l.length:=by
  intro l
  induction l with
  |nil=>intro o;simp
  |cons x r b=>intro o;have:=b (insR x o);have:=zO6 x o;simp only [JY,QA];omega
 have:=this l [];unfold risingL;simpa using this
theorem zOu(l:List Int)(h:k<=l.length):(risingL (l.take k)).length<=k:=by
 have:=zED (l.take k);rw [Qm] at this;omega
theorem zEZ{c:Nat}{l:List Int}{w:World}(h:SlF w (.slice a n c) l)(hn:l.length<=1000000):Sp PP 38 #[.slice a n c] w λv w'=>Own w.heap.size 3 w' v (risingL l)/\Stp w w':=by
 have r:=h.len;obtain rfl:=r;refine eN ?_;refine cO 7 [5,6] 3 4 l.length (λk v u=>Own w.heap.size 3 u v (risingL (l.take k))/\Stp w u) ⟨Own.nil _ _ _,stp⟩ ?_;rintro k v g u J ⟨O,e⟩;have r:=O.shape;obtain⟨oa,oc,rfl⟩:=r;have K:=zOu l J;refine ite (λhlt=>?_) (λL=>?_)
 ·have p:k<l.length:=by omega
  have t:=zMf p;refine cntJ TBok 2 7 [] 5 (risingL (l.take k)).length (λj u'=>(∀i,i<j->(hl:i<(risingL (l.take k)).length)->(risingL (l.take k))[i]<l[k])/\Stp u u') (λj u'=>j<=(risingL (l.take k)).length/\ltN l[k] (risingL (l.take k))=j/\Stp u u') rfl rfl ⟨by omega,stp⟩ ?_ ?_
  ·rintro j g u' q ⟨C,M⟩;refine dQ 15 λH e1=>ite (λQ=>?_) (λQ=>⟨j,rfl,q,ltN_of q C λh=>absurd h (by omega),stp⟩);have b:j<(risingL (l.take k)).length:=by omega
   refine tix (O.sl.up (w':=H)) (x:=(risingL (l.take k))[j]) (by simp) λz A d _=>tload1 (d.cell0 rfl) nf (tix (h.up (w':=H)) (x:=l[k]) (by simp) λz A d _=>tload1 (d.cell0 rfl) nf (ite (λE=>?_) (λE=>⟨j,rfl,q,ltN_of q C λ_=>E,stp⟩)));exact rA ⟨rfl,b,below2 C λ_=>E,stp⟩
  rintro j g u' ⟨q,R,M⟩;have f:=zMI l[k] (risingL (l.take k));rw [R] at f;refine dQ 15 λo e2=>ite (λS=>?pos2) (λS=>?neg2)
  case' pos2 =>
   have b:j<(risingL (l.take k)).length:=by omega
   refine tix (O.sl.up (w':=o)) (x:=(risingL (l.take k))[j]) (by simp) λz A d _=>tload1 (d.cell0 rfl) nf (tix (h.up (w':=o)) (x:=l[k]) (by simp) λz A d _=>tload1 (d.cell0 rfl) nf (ite (λF=>?same) (λF=>?new)))
   case same =>
    have G:Own w.heap.size 3 o (.slice oa (risingL (l.take k)).length oc) (risingL (l.take (k+1))):=by
     rw [t,f,if_pos (by simp [b,F])];exact O.up
    exact rA ⟨rfl,p,G,stp⟩
   have y:¬(risingL (l.take k))[j]? = some l[k]:=by simpa [b] using F
  case' neg2 =>
   have y:¬(risingL (l.take k))[j]? = some l[k]:=by rw [Jg (by omega)];simp
  all_goals
   rw [if_neg y] at f;refine rsl none (some j) (O.sl.up (w':=o)) (by simp) (by simpa using q) λU V W=>?_;refine rapp (u:=o) ⟨rfl,rfl⟩ (Own.nil _ 3 _) W (by simp;omega) λv3 X Y f3 s3=>rix (h.up (w':=X)) (x:=l[k]) (by simp) λz A d=>rload1 (d.cell0 rfl) (rbs1 l[k] rfl rfl (by decide) λb4 w4 e4 _ Z=>rapp1 (u:=o) ⟨rfl,rfl⟩ Y.up Z (by simp;omega) λv5 w5 O5 f5 s5=>rsl (some j) none (O.sl.up (w':=w5)) (by simpa using q) (by simp) λU V S6=>?_);refine rapp (u:=o) ⟨rfl,rfl⟩ O5 S6 (by simp;omega) λv7 w7 I f7 s7=>?_
   have O8:Own o.heap.size 3 w7 v7 (risingL (l.take (k+1))):=by
    rw [t,f];rw [zCX,zBB] at I;simpa using I
   exact rA ⟨rfl,p,O8.older,stp⟩
 ·have r:k=l.length:=by omega
  obtain rfl:=r;have G:Own w.heap.size 3 u (.slice oa (risingL (l.take l.length)).length oc) (risingL l):=by rw [Qg] at O ⊢;exact O
  exact⟨G,stp⟩
structure KeyD where
 slot:Int
 dir:Int
 v:Int
deriving DecidableEq
structure PlD where
 key:KeyD
 n:Int
 used:Bool
def zKey:KeyD:=⟨0,0,0⟩
def zPl:PlD:=⟨zKey,0,false⟩
def mayK (k:KeyD):Prop:=0<=k.slot/\k.slot<=1000/\(k.dir=0\/k.dir=1)/\0<=k.v/\k.v<200
instance (k:KeyD):Decidable (mayK k):=by unfold mayK;exact inferInstance
def homeI (S:Nat) (k:KeyD):Int:=(k.slot*31+k.dir*17+k.v*7) % S
def homeN (S:Nat) (k:KeyD):Nat:=(homeI S k).toNat
theorem zKn{S:Nat}(b:0<S)(k:KeyD):homeN S k<S:=by
 unfold homeN homeI;have c:=VT (k.slot*31+k.dir*17+k.v*7) (show (0:Int)<S by omega);have d:=Vs (k.slot*31+k.dir*17+k.v*7) (show (S:Int)≠0 by omega);omega
abbrev RowF:=Nat->PlD
def upR1 (f:RowF) (i:Nat) (x:PlD):RowF:=λp=>if p=i then x else f p
theorem upR1_same(f:RowF)(i:Nat)(x:PlD):upR1 f i x i=x:=if_pos rfl
theorem zAb(f:RowF){p:Nat}(x:PlD)(h:p≠i):upR1 f i x p=f p:=if_neg h
def On (S a d p:Nat):Prop:=p<S/\(a+d=p\/a+d=p+S)
structure TabF (S:Nat) (f:RowF):Prop where
 path:∀i,i<S->(f i).used=true->∃d,d<S/\On S (homeN S (f i).key) d i/\∀e p,e<d->On S (homeN S (f i).key) e p->(f p).used=true
 uniq:∀i j,i<S->j<S->(f i).used=true->(f j).used=true->(f i).key=(f j).key->i=j
def FindAt (S:Nat) (f:RowF) (k:KeyD) (i:Nat):Prop:=
 ∃d,d<S/\On S (homeN S k) d i/\(∀e p,e<d->On S (homeN S k) e p->(f p).used=true/\(f p).key≠k)/\((f i).used=true->(f i).key=k)
def Has (S:Nat) (f:RowF) (k:KeyD) (n:Int):Prop:=∃i,i<S/\(f i).used=true/\(f i).key=k/\(f i).n=n
theorem Has.uniq{S:Nat}{f:RowF}(T:TabF S f){k:KeyD}{m n:Int}(h:Has S f k m)(b:Has S f k n):m=n:=by
 obtain⟨i,hi,u,e,rfl⟩:=h;obtain⟨j,c,u',d,rfl⟩:=b;rw [T.uniq i j hi c u u' (e.trans d.symm)]
theorem FindAt.lt{S:Nat}{f:RowF}{k:KeyD}(h:FindAt S f k i):i<S:=by obtain⟨d,_,h,_⟩:=h;exact h.1
theorem FindAt.has{S:Nat}{f:RowF}(T:TabF S f){k:KeyD}(h:FindAt S f k i){n:Int}:Has S f k n↔(f i).used=true/\(f i).n=n:=by
 obtain⟨d,hd,hi,r,g⟩:=h;constructor
 ·rintro⟨j,l,u,e,rfl⟩;have c:=T.path j l u;obtain⟨o,t,b,p⟩:=c;rw [e] at b p;have c:=VG o d;rcases c with hlt|rfl|hlt
  ·exact absurd e (r o j hlt b).2
  ·have:i=j:=by unfold On at hi b;omega
   subst this;exact⟨u,rfl⟩
  ·have q:=p d i hlt hi;have:i=j:=T.uniq i j hi.1 l q u ((g q).trans e.symm);subst this;exact⟨u,rfl⟩
 ·rintro⟨u,rfl⟩;exact⟨i,hi.1,u,g u,rfl⟩
theorem TabF.put{S:Nat}{f:RowF}(T:TabF S f){k:KeyD}(h:FindAt S f k i)(n:Int):TabF S (upR1 f i ⟨k,n,true⟩):=by
 have z:=h;obtain⟨d,hd,hi,A,C⟩:=h
 have mono:∀p,(f p).used=true->(upR1 f i ⟨k,n,true⟩ p).used=true:=λp o=>by
  by_cases e:p=i
  ·subst e;rw [upR1_same]
  ·rw [zAb _ _ e];exact o
 have c:∀j,j<S->j≠i->(f j).used=true->(f j).key≠k:=λj r w u e=>by
  have:=(z.has T (n:=(f j).n)).1 ⟨j,r,u,e,rfl⟩;exact w (T.uniq j i r hi.1 u this.1 (e.trans (C this.1).symm))
 constructor
 ·intro j r u;by_cases e:j=i
  ·subst e;rw [upR1_same];exact⟨d,hd,hi,λe p x o=>mono p (A e p x o).1⟩
  ·rw [zAb _ _ e] at u ⊢;have E:=T.path j r u;obtain⟨F,G,H,I⟩:=E;exact⟨F,G,H,λe p x o=>mono p (I e p x o)⟩
 ·intro a b y q t v e;by_cases g:a=i <;> by_cases l:b=i
  ·rw [g,l]
  ·subst g;rw [upR1_same] at e;rw [zAb _ _ l] at e v;exact absurd e.symm (c b q l v)
  ·subst l;rw [upR1_same] at e;rw [zAb _ _ g] at e t;exact absurd e (c a y g t)
  ·rw [zAb _ _ g,zAb _ _ l] at e;rw [zAb _ _ g] at t;rw [zAb _ _ l] at v;exact T.uniq a b y q t v e
theorem Has.put{S:Nat}{f:RowF}(T:TabF S f){k:KeyD}(h:FindAt S f k i)(n:Int){d:KeyD}{m:Int}:Has S (upR1 f i ⟨k,n,true⟩) d m↔if d=k then m=n else Has S f d m:=by
 have hi:=h.lt;by_cases e:d=k
 ·subst e;rw [if_pos rfl];have l:=T.put h n;constructor
  ·intro o;exact o.uniq l ⟨i,hi,by rw [upR1_same],by rw [upR1_same],by rw [upR1_same]⟩
  ·rintro rfl;exact⟨i,hi,by rw [upR1_same],by rw [upR1_same],by rw [upR1_same]⟩
 ·rw [if_neg e];constructor
  ·rintro⟨j,g,u,c,en⟩;have b:j≠i:=by rintro rfl;rw [upR1_same] at c;exact e c.symm
   rw [zAb _ _ b] at u c en;exact⟨j,g,u,c,en⟩
  ·rintro⟨j,g,u,c,en⟩
   have b:j≠i:=by
    rintro rfl;obtain⟨_,_,_,_,p⟩:=h;exact e (c.symm.trans (p u))
   exact⟨j,g,by rw [zAb _ _ b];exact u,by rw [zAb _ _ b];exact c,by rw [zAb _ _ b];exact en⟩
structure GapF (S:Nat) (f:RowF) (g t:Nat):Prop where
 lt:g<S
 pos:1<=t
 gap:(f g).used=false
 path:∀i,i<S->(f i).used=true->∃d,d<S/\On S (homeN S (f i).key) d i/\(∀e p,e<d->On S (homeN S (f i).key) e p->p=g\/(f p).used=true)/\((∃s,1<=s/\s<t/\On S g s i)->∀e,e<d->¬On S (homeN S (f i).key) e g)
 run:∀s p,1<=s->s<t->On S g s p->(f p).used=true
 uniq:∀i j,i<S->j<S->(f i).used=true->(f j).used=true->(f i).key=(f j).key->i=j
theorem GapF.start{S:Nat}{f:RowF}(T:TabF S f){g:Nat}(w:g<S):GapF S (upR1 f g zPl) g 1:=by
 refine⟨w,Qe _,by rw [upR1_same];rfl,λi hi u=>?_,λs p r t=>by omega,λi j hi x l o e=>?_⟩
 ·have q:i≠g:=by rintro rfl;rw [upR1_same] at u;cases u
  rw [zAb _ _ q] at u ⊢;have y:=T.path i hi u;obtain⟨d,r,t,z⟩:=y;refine⟨d,r,t,λe p A C=>?_,λ⟨s,a,b,_⟩=>by omega⟩;by_cases v:p=g
  ·exact .inl v
  ·rw [zAb _ _ v];exact .inr (z e p A C)
 ·have c:i≠g:=by rintro rfl;rw [upR1_same] at l;cases l
  have h:j≠g:=by rintro rfl;rw [upR1_same] at o;cases o
  rw [zAb _ _ c,zAb _ _ h] at e;rw [zAb _ _ c] at l;rw [zAb _ _ h] at o;exact T.uniq i j hi x l o e
theorem GapF.keep{S:Nat}{f:RowF}{g t d:Nat}(G:GapF S f g t)(hi:On S g t i)(F:t<S)(w:(f i).used=true)(hd:d<S)(x:On S (homeN S (f i).key) d i)(hlt:d<t):GapF S f g (t+1):=by
 refine⟨G.lt,by omega,G.gap,λj y u=>?_,λs p o q r=>?_,G.uniq⟩
 ·have l:=G.path j y u;obtain⟨z,o,q,A,C⟩:=l;refine⟨z,o,q,A,?_⟩;rintro⟨s,a,b,c⟩ e E v;have l:=QH s t;rcases l with h|h
  ·exact C ⟨s,a,h,c⟩ e E v
  ·have l:s=t:=by omega
   obtain rfl:=l;have:j=i:=by unfold On at c hi;omega
   subst this;unfold On at q x v hi;omega
 ·have l:=QH s t;rcases l with h|h
  ·exact G.run s p o h r
  ·have l:s=t:=by omega
   obtain rfl:=l;have:p=i:=by unfold On at r hi;omega
   subst this;exact w
theorem GapF.move{S:Nat}{f:RowF}{g t d:Nat}(G:GapF S f g t)(hi:On S g t i)(X:t<S)(F:(f i).used=true)(hd:d<S)(U:On S (homeN S (f i).key) d i)(V:t<=d):GapF S (upR1 (upR1 f g (f i)) i zPl) i 1:=by
 have I:g≠i:=by have:=G.lt;unfold On at hi;have:=G.pos;omega
 have q:upR1 (upR1 f g (f i)) i zPl i=zPl:=upR1_same _ _ _;have r:upR1 (upR1 f g (f i)) i zPl g=f i:=by rw [zAb _ _ I,upR1_same]
 have c:∀p,p≠g->p≠i->upR1 (upR1 f g (f i)) i zPl p=f p:=λp C y=>by rw [zAb _ _ y,zAb _ _ C]
 have hlt:=G.lt;refine⟨hi.1,Qe _,by rw [q];rfl,λj W u=>?_,λs p C y=>by omega,λa b O Q z A e=>?_⟩
 ·have J:j≠i:=by rintro rfl;rw [q] at u;cases u
  by_cases E:j=g
  ·subst E;rw [r];have K:=G.path i hi.1 F;obtain⟨H,C,y,L,_⟩:=K;obtain rfl:H=d:=by unfold On at y U;omega
   refine⟨H - t,by omega,?_,λe p R M=>?_,λ⟨s,a,b,_⟩=>by omega⟩
   ·unfold On at *;omega
   ·right;have h:p≠j:=by unfold On at *;omega
    have v:p≠i:=by unfold On at *;omega
    rw [c p h v];exact(L e p (by omega) M).resolve_left h
  ·rw [c j E J] at u ⊢;have K:=G.path j W u;obtain⟨H,C,y,L,_⟩:=K;refine⟨H,C,y,λe p R M=>?_,λ⟨s,a,b,_⟩=>by omega⟩;by_cases v:p=i
   ·exact .inl v
   ·right;by_cases h:p=g
    ·subst h;rw [r];exact F
    ·rw [c p h v];exact(L e p R M).resolve_left h
 ·have w:a≠i:=by rintro rfl;rw [q] at z;cases z
  have x:b≠i:=by rintro rfl;rw [q] at A;cases A
  by_cases l:a=g <;> by_cases o:b=g
  ·rw [l,o]
  ·subst l;rw [r] at e;rw [c b o x] at e A;exact absurd (G.uniq i b hi.1 Q F A e).symm x
  ·subst o;rw [r] at e;rw [c a l w] at e z;exact absurd (G.uniq a i O hi.1 z F e) w
  ·rw [c a l w,c b o x] at e;rw [c a l w] at z;rw [c b o x] at A;exact G.uniq a b O Q z A e
theorem GapF.done{S:Nat}{f:RowF}{g t:Nat}(G:GapF S f g t)(hi:On S g t i)(M:t<S)(r:(f i).used=false):TabF S f:=by
 have hlt:=G.lt;have v:=G.pos;have l:g≠i:=by unfold On at hi;omega
 refine⟨λj o u=>?_,G.uniq⟩;have b:=G.path j o u;obtain⟨d,z,A,w,C⟩:=b;refine⟨d,z,A,λe p x y=>?_⟩;have b:=w e p x y;rcases b with rfl|h
 ·-- the way goes over the gap
  have E:j≠p:=by rintro rfl;rw [G.gap] at u;cases u
  have F:j≠i:=by rintro rfl;rw [r] at u;cases u
  obtain⟨s,q,H,I⟩:∃s,1<=s/\s<S/\On S p s j:=by
   have b:=QH p j;rcases b with h|h
   ·exact⟨j - p,by omega,by omega,o,by omega⟩
   ·exact⟨j+S - p,by omega,by omega,o,by omega⟩
  have b:=QH s t;rcases b with c|c
  ·exact absurd y (C ⟨s,q,c,I⟩ e x)
  ·have J:d=e+s:=by unfold On at *;omega
   have K:t≠s:=by rintro rfl;unfold On at *;omega
   have L:=w (e+t) i (by omega) (by unfold On at *;omega);rcases L with h|h
   ·exact absurd h.symm l
   ·rw [r] at h;cases h
 ·exact h
abbrev rowF (R:List PlD):RowF:=λp=>R.getD p zPl
theorem zA3{R:List PlD}(h:i<R.length)(x:PlD):rowF (R.set i x)=upR1 (rowF R) i x:=by
 funext p;unfold rowF upR1;simp only [Qk,Vw];by_cases e:p=i
 ·subst e;simp [h]
 ·rw [if_neg e,if_neg (Jq e)]
theorem zA8{R:List PlD}(h:i<R.length):rowF R i=R[i]:=by unfold rowF;simp [h]
def usedN (R:List PlD):Nat:=R.countP (·.used)
theorem zDG{R:List PlD}(h:i<R.length)(x:PlD):usedN (R.set i x)+(if (rowF R i).used then 1 else 0)=usedN R+(if x.used then 1 else 0):=by
 unfold usedN;rw [zA8 h,List.countP_set h];have b:R[i].used=true->0<R.countP (·.used):=λc=>List.countP_pos_iff.2 ⟨R[i],Qa h,c⟩;cases c:R[i].used <;> simp only [c,if_true,Jt,if_false] <;> first|omega|(have:=b c;omega)
theorem zHD{R:List PlD}(h:usedN R<R.length):∃p,p<R.length/\(rowF R p).used=false:=by
 have b:=Xw (∃p,p<R.length/\(rowF R p).used=false);rcases b with c|c
 ·exact c
 ·exfalso
  have:usedN R=R.length:=by
   unfold usedN;rw [List.countP_eq_length];intro x d;have b:=QI.1 d;obtain⟨i,hi,rfl⟩:=b
   cases e:R[i].used with
   |true=>rfl
   |false=>exact absurd ⟨i,hi,by rw [zA8 hi];exact e⟩ c
  omega
theorem zLJ{R:List PlD}{g:Nat}(o:g<R.length)(h:usedN R<R.length)(e:(rowF R g).used=true):∃s,1<=s/\s<R.length/\∃p,On R.length g s p/\(rowF R p).used=false:=by
 have c:=zHD h;obtain⟨p,d,b⟩:=c;have f:p≠g:=by rintro rfl;rw [e] at b;cases b
 have c:=QH g p;rcases c with l|l
 ·exact⟨p - g,by omega,by omega,p,⟨d,by omega⟩,b⟩
 ·exact⟨p+R.length - g,by omega,by omega,p,⟨d,by omega⟩,b⟩
open Classical in
noncomputable def getT (R:List PlD) (k:KeyD):Option Int:=if h:∃n,Has R.length (rowF R) k n then some h.choose else none
abbrev TabL (R:List PlD):Prop:=TabF R.length (rowF R)
theorem zBO{R:List PlD}(T:TabL R){k:KeyD}{n:Int}:getT R k=some n↔Has R.length (rowF R) k n:=by
 unfold getT;split
 ·rename_i h;constructor
  ·intro e;injection e with e;rw [<-e];exact h.choose_spec
  ·intro e;rw [e.uniq T h.choose_spec]
 ·rename_i h;exact⟨λe=>(by cases e),λe=>absurd ⟨n,e⟩ h⟩
theorem zGZ{R:List PlD}(T:TabL R){M:KeyD->Option Int}(h:∀k n,Has R.length (rowF R) k n↔M k=some n):getT R=M:=by
 funext k
 cases b:M k with
 |some n=>exact(zBO T).2 ((h k n).2 b)
 |none =>
  cases c:getT R k with
  |none=>rfl
  |some n=>have:=(h k n).1 ((zBO T).1 c);rw [b] at this;cases this
theorem zDr{R:List PlD}(T:TabL R){k:KeyD}(h:FindAt R.length (rowF R) k i):getT R k=if (rowF R i).used then some (rowF R i).n else none:=by
 cases b:(rowF R i).used with
 |true=>rw [if_pos rfl];exact(zBO T).2 ((h.has T).2 ⟨b,rfl⟩)
 |false =>
  rw [if_neg (by simp)]
  cases c:getT R k with
  |none=>rfl
  |some n=>have:=(h.has T).1 ((zBO T).1 c);rw [b] at this;cases this.1
theorem zPm{R:List PlD}(T:TabL R){k:KeyD}(h:FindAt R.length (rowF R) k i)(n:Int):
  TabL (R.set i ⟨k,n,true⟩)/\getT (R.set i ⟨k,n,true⟩)=(λb=>if b=k then some n else getT R b)/\usedN (R.set i ⟨k,n,true⟩)=usedN R+(if getT R k=none then 1 else 0):=by
 have hi:=h.lt
 have c:TabL (R.set i ⟨k,n,true⟩):=by
  unfold TabL;rw [Jc,zA3 hi];exact T.put h n
 refine⟨c,zGZ c λb m=>?_,?_⟩
 ·rw [Jc,zA3 hi,Has.put T h n];by_cases e:b=k
  ·rw [if_pos e,if_pos e];exact⟨λh=>by rw [h],λh=>by injection h with h;exact h.symm⟩
  ·rw [if_neg e,if_neg e];exact(zBO T).symm
 ·have:=zDG hi ⟨k,n,true⟩;rw [zDr T h];cases d:(rowF R i).used
  ·rw [d] at this;simp at this ⊢;omega
  ·rw [d] at this;simp at this ⊢;omega
theorem Has.start{S:Nat}{f:RowF}(T:TabF S f){g:Nat}(d:g<S)(h:(f g).used=true){k:KeyD}{m:Int}:Has S (upR1 f g zPl) k m↔k≠(f g).key/\Has S f k m:=by
 constructor
 ·rintro⟨j,c,u,e,en⟩;have b:j≠g:=by rintro rfl;rw [upR1_same] at u;cases u
  rw [zAb _ _ b] at u e en;exact⟨λl=>b (T.uniq j g c d u h (e.trans l)),j,c,u,e,en⟩
 ·rintro⟨o,j,c,u,e,en⟩;have b:j≠g:=by rintro rfl;exact o e.symm
  exact⟨j,c,by rw [zAb _ _ b];exact u,by rw [zAb _ _ b];exact e,by rw [zAb _ _ b];exact en⟩
theorem Has.move{S:Nat}{f:RowF}{g t:Nat}(G:GapF S f g t)(hi:i<S)(l:g≠i)(w:(f i).used=true){k:KeyD}{m:Int}:Has S (upR1 (upR1 f g (f i)) i zPl) k m↔Has S f k m:=by
 have o:upR1 (upR1 f g (f i)) i zPl i=zPl:=upR1_same _ _ _;have d:upR1 (upR1 f g (f i)) i zPl g=f i:=by rw [zAb _ _ l,upR1_same]
 have h:∀p,p≠g->p≠i->upR1 (upR1 f g (f i)) i zPl p=f p:=λp r v=>by rw [zAb _ _ v,zAb _ _ r]
 constructor
 ·rintro⟨j,q,u,e,en⟩;have b:j≠i:=by rintro rfl;rw [o] at u;cases u
  by_cases c:j=g
  ·subst c;rw [d] at u e en;exact⟨i,hi,u,e,en⟩
  ·rw [h j c b] at u e en;exact⟨j,q,u,e,en⟩
 ·rintro⟨j,q,u,e,en⟩;have c:j≠g:=by rintro rfl;rw [G.gap] at u;cases u
  by_cases b:j=i
  ·subst b;exact⟨g,G.lt,by rw [d];exact u,by rw [d];exact e,by rw [d];exact en⟩
  ·exact⟨j,q,by rw [h j c b];exact u,by rw [h j c b];exact e,by rw [h j c b];exact en⟩
structure GapL (R:List PlD) (S:Nat) (M:KeyD->Option Int) (N g t:Nat):Prop where
 len:R.length=S
 gap:GapF S (rowF R) g t
 has:∀k m,Has S (rowF R) k m↔M k=some m
 n:usedN R=N
theorem GapL.start{R:List PlD}(T:TabL R){g:Nat}(b:g<R.length)(c:(rowF R g).used=true):
  GapL (R.set g zPl) R.length (λk=>if k=(rowF R g).key then none else getT R k) (usedN R - 1) g 1:=by
 refine⟨by simp,by rw [zA3 b];exact GapF.start T b,λk m=>?_,?_⟩
 ·rw [zA3 b,Has.start T b c];by_cases e:k=(rowF R g).key
  ·rw [if_pos e];exact⟨λh=>absurd e h.1,λh=>by cases h⟩
  ·rw [if_neg e,zBO T];exact⟨λh=>h.2,λh=>⟨e,h⟩⟩
 ·have:=zDG b zPl;rw [c] at this;simp only [if_true,show zPl.used=false from rfl,Jt,if_false] at this;omega
theorem GapL.move{R:List PlD}{S:Nat}{M:KeyD->Option Int}{g t d:Nat}(G:GapL R S M N g t)(hi:On S g t i)(r:t<S)(h:(rowF R i).used=true)(hd:d<S)(u:On S (homeN S (rowF R i).key) d i)(l:t<=d):
  GapL ((R.set g (rowF R i)).set i zPl) S M N i 1:=by
 have o:=G.gap.lt;have c:=hi.1;have f:g≠i:=by unfold On at hi;have:=G.gap.pos;omega
 have p:g<R.length:=by rw [G.len];exact o
 have q:i<(R.set g (rowF R i)).length:=by rw [Jc,G.len];exact c
 have e:rowF ((R.set g (rowF R i)).set i zPl)=upR1 (upR1 (rowF R) g (rowF R i)) i zPl:=by rw [zA3 q,zA3 p]
 refine⟨by simp [G.len],by rw [e];exact G.gap.move hi r h hd u l,λk m=>?_,?_⟩
 ·rw [e,Has.move G.gap c f h];exact G.has k m
 ·have a:=zDG p (rowF R i);have b:=zDG q zPl;rw [zA3 p,zAb _ _ (Jq f),h] at b;rw [G.gap.gap,h] at a;simp only [if_true,show zPl.used=false from rfl,Jt,if_false] at a b;have:=G.n;omega
theorem GapL.keep{R:List PlD}{S:Nat}{M:KeyD->Option Int}{g t d:Nat}(G:GapL R S M N g t)(hi:On S g t i)(b:t<S)(c:(rowF R i).used=true)(hd:d<S)(e:On S (homeN S (rowF R i).key) d i)(hlt:d<t):GapL R S M N g (t+1):=
 ⟨G.len,G.gap.keep hi b c hd e hlt,G.has,G.n⟩
theorem GapL.done{R:List PlD}{S:Nat}{M:KeyD->Option Int}{g t:Nat}(G:GapL R S M N g t)(hi:On S g t i)(c:t<S)(d:(rowF R i).used=false):TabL R/\getT R=M/\usedN R=N:=by
 have b:TabL R:=by unfold TabL;rw [G.len];exact G.gap.done hi c d
 exact⟨b,zGZ b λk n=>by rw [G.len];exact G.has k n,G.n⟩
instance:Enc KeyD:=⟨3,λx=>[.int .i64 x.slot,.int .i64 x.dir,.int .i64 x.v],λ_=>rfl,by intro x u hu;simp at hu;rcases hu with rfl|rfl|rfl <;> rfl,by decide⟩
instance:Enc PlD:=⟨5,λx=>[.int .i64 x.key.slot,.int .i64 x.key.dir,.int .i64 x.key.v,.int .i64 x.n,.bool x.used],λ_=>rfl,by intro x u hu;simp at hu;rcases hu with rfl|rfl|rfl|rfl|rfl <;> rfl,by decide⟩
instance:EqT PP 209 KeyD:=⟨by kernel_rfl,λd x y w=>⟨_,by
  rw [zEF (l:=[(3,0),(3,1),(3,2)]) (by kernel_rfl) (d+7)];exact zB9 rfl rfl (zB9 rfl rfl (zB9 rfl rfl (zIi _ _ _ _))),by cases x;cases y;simp⟩⟩
theorem may_sp{k:KeyD}{w:World}:Sp PP 286 #[agg k] w λv w'=>Tells (mayK k) v/\Stp w w':=by
 refine eN ?_;refine rbx λb w1 n1 o=>rld rfl ?_;refine ite (λc=>?_) (λc=>⟨.f λm=>c m.1,stp⟩);refine rld rfl ?_;refine ite (λd=>?_) (λd=>⟨.f λm=>d m.2.1,stp⟩);refine rld rfl ?_;refine ite (λh=>?pos) (λh=>?neg)
 case' neg =>
  refine rld rfl ?_;refine ite (λl=>?one) (λl=>⟨.f λm=>by have:=m.2.2.1;omega,stp⟩)
 all_goals
  refine rld rfl ?_;refine ite (λe=>?_) (λe=>⟨.f λm=>e m.2.2.2.1,stp⟩);refine rld rfl ?_;refine ite (λg=>?_) (λg=>⟨.f λm=>g m.2.2.2.2,stp⟩);exact⟨.t ⟨c,d,by omega,e,g⟩,stp⟩
theorem zO4(b:0<n)(k:KeyD):((homeN n k:Nat):Int)=(k.slot*31+k.dir*17+k.v*7) % n:=Jh (Vs _ (by omega))
theorem zMG{b c:Nat}{m u:Int}{k:KeyD}{w:World}(B:Bk w b [.slice a n c,.int .i64 m,.int .i64 u] 259)(f:0<n/\n<=1000)(g:mayK k):
  Sp PP 289 #[.pointer (some ⟨b,0,none⟩),agg k] w λv w'=>v=.int .i64 ((homeN n k:Nat):Int)/\Stp w w':=by
 have e:=zO4 f.1 k;obtain⟨h,l,o,p,q⟩:=g;refine eN ?_;refine rbx λbk w1 n1 d=>dQ 18 λr t=>tX d rfl nf (rA ?_);refine tX d rfl nf (rA (rA ?_));refine tX d rfl nf (rA (rA ?_));refine tX B rfl nf (rrem (by omega) (by omega) ?_);exact⟨congrArg (Value.int .i64) e.symm,stp⟩
def aftN (n i:Nat):Nat:=if i+1=n then 0 else i+1
theorem zIb(h:i<n):On n i 1 (aftN n i):=by unfold aftN On;split <;> omega
theorem zEd{b c:Nat}{m u:Int}{w:World}(B:Bk w b [.slice a n c,.int .i64 m,.int .i64 u] 259)(d:0<n/\n<=1000)(hi:i<n):
  Sp PP 288 #[.pointer (some ⟨b,0,none⟩),.int .i64 i] w λv w'=>v=.int .i64 ((aftN n i:Nat):Int)/\Stp w w':=by
 have e:((i:Int)+1) % (n:Int)=((aftN n i:Nat):Int):=by
  unfold aftN;split
  ·rename_i h;rw [show (i:Int)+1=(n:Int) by omega];simp
  ·rw [Yg (by omega) (by omega)];rfl
 refine eN ?_;refine rA (rld rfl ?_);refine rrem (by omega) (by omega) ?_;exact⟨congrArg (Value.int .i64) e,stp⟩
structure TabH (B:Nat) (w:World) (b:Nat) (a:Option Addr) (c most:Nat) (R:List PlD):Prop where
 cell:Bk w b [.slice a (2*most) c,.int .i64 most,.int .i64 (usedN R:Nat)] 259
 row:Own B 360 w (.slice a (2*most) c) R
 len:R.length=2*most
 tab:TabL R
 bnd:1<=most/\most<=400/\usedN R<=most
 may:∀x∈R,x.used=true->mayK x.key
 zero:∀x∈R,x.used=false->x=zPl
theorem TabH.up{w:World}[L:Le w w']{b:Nat}{c most:Nat}{R:List PlD}(h:TabH B w b a c most R):TabH B w' b a c most R:=⟨h.cell.mv,h.row.up,h.len,h.tab,h.bnd,h.may,h.zero⟩
def distN (S a p:Nat):Nat:=if a<=p then p - a else p+S - a
theorem zC5{S a d p:Nat}(hd:d<S)(h:On S a d p):distN S a p=d:=by unfold distN;unfold On at h;split <;> omega
theorem zKx{S a p:Nat}(b:a<S)(c:p<S):distN S a p<S/\On S a (distN S a p) p:=by unfold distN On;split <;> omega
theorem zF2{b c most:Nat}{R:List PlD}{k:KeyD}{w:World}(T:TabH B w b a c most R)(W:mayK k):
  Sp PP 287 #[.pointer (some ⟨b,0,none⟩),agg k] w λv w'=>(∃i:Nat,v=.int .i64 i/\FindAt R.length (rowF R) k i)/\Stp w w':=by
 have l:=T.bnd;obtain⟨X,Y,Z⟩:=l;have q:=T.len;have r:=zHD (R:=R) (by omega);obtain⟨H,I,t⟩:=r;have M:=zKn (S:=R.length) (by omega) k;refine eN ?_;refine rbx λbk w1 n1 Q=>?_;have C1:=T.cell.mv (w:=w1);refine rldG (B:=Q) rfl rfl ?_;refine rcall (zMG (k:=k) C1 (by omega) W) ?_;rintro v w2 ⟨rfl,e2⟩;rw [<-q]
 refine loop1 TBok 6 [] 5 (λv u=>∃i d:Nat,v=.int .i64 i/\d<R.length/\On R.length (homeN R.length k) d i/\(∀e p,e<d->On R.length (homeN R.length k) e p->(rowF R p).used=true/\(rowF R p).key≠k)/\Stp w1 u)
  (λv _=>R.length - distN R.length (homeN R.length k) (Go.RowKit.intOf v).toNat) rfl ⟨homeN R.length k,0,rfl,by omega,⟨M,by omega⟩,λe p J=>by omega,stp⟩ ?_
 rintro v g u ⟨i,d,rfl,hd,hi,F,e⟩;have A:=hi.1;have o:rowF R i=R[i]:=zA8 A;have C:=T.cell.mv (w:=u);have O:=T.row.sl.up (w':=u);refine dQ 20 λG e1=>?_;by_cases y:R[i].used=true
 ·refine tX C rfl nf (tix (O.up (w':=G)) (x:=R[i]) (by simp) λb4 o4 K _=>tload1 (v:=.bool true) (K.cell 4 (by simp [enc,y])) nf (tX C rfl nf (tix (O.up (w':=G)) (x:=R[i]) (by simp) λb5 o5 A5 _=>tloadA (cs:=enc R[i].key) (A5.sub 0 3) rfl nf (tldG (B:=Q) rfl rfl nf ?_))));refine tgne KeyD R[i].key k (λL=>?_) (λJ=>?_)
  ·refine rcall (zEd (n:=2*most) (i:=i) (C.mv (w:=G)) (by omega) (by omega)) ?_;rintro v u2 ⟨rfl,a0⟩;have ha:=zIb (n:=R.length) A;rw [<-q]
   have f:d+1<R.length:=by
    have l:=QH (d+1) R.length;rcases l with h|h
    ·exact h
    ·exfalso;have z:=zKx M I;have l:=QH (distN R.length (homeN R.length k) H) d;rcases l with E|E
     ·have:=(F _ H E z.2).1;rw [t] at this;cases this
     ·have:H=i:=by have:=z.1;have:=z.2;unfold On at *;omega
      subst this;rw [o,y] at t;cases t
   have U:On R.length (homeN R.length k) (d+1) (aftN R.length i):=by unfold On at *;omega
   refine⟨⟨aftN R.length i,d+1,rfl,f,U,λe p J V=>?_,stp⟩,?_⟩
   ·have l:=QH e d;rcases l with E|E
    ·exact F e p E V
    ·have l:e=d:=by omega
     obtain rfl:=l;obtain rfl:p=i:=by unfold On at V hi;omega
     rw [o];exact⟨y,L⟩
   ·show R.length - distN R.length (homeN R.length k) (aftN R.length i)<R.length - distN R.length (homeN R.length k) i;rw [zC5 f U,zC5 hd hi];omega
  ·exact⟨⟨i,rfl,d,hd,hi,F,λ_=>by rw [o];exact J⟩,stp⟩
 ·have y:R[i].used=false:=by simpa using y
  refine tX C rfl nf (tix (O.up (w':=G)) (x:=R[i]) (by simp) λb4 o4 K _=>tload1 (v:=.bool false) (K.cell 4 (by simp [enc,y])) nf ?_);exact⟨⟨i,rfl,d,hd,hi,F,λh=>by rw [o,y] at h;cases h⟩,stp⟩
structure TS where
 M:KeyD->Option Int
 u:Nat
def putTS (most:Nat) (s:TS) (k:KeyD) (n:Int):TS×Int:=
 if mayK k then (match s.M k with
  |some _=>(⟨λk'=>if k'=k then some n else s.M k',s.u⟩,0)
  |none=>if s.u=most then (s,140) else (⟨λk'=>if k'=k then some n else s.M k',s.u+1⟩,0))
 else (s,1)
def getTS (s:TS) (k:KeyD):Int×Bool:=match s.M k with|some n=>(n,true)|none=>(0,false)
def dropTS (s:TS) (k:KeyD):TS×Bool:=match s.M k with|some _=>(⟨λk'=>if k'=k then none else s.M k',s.u - 1⟩,true)|none=>(s,false)
def zTS:TS:=⟨λ_=>none,0⟩
def TabS (B:Nat) (w:World) (b:Nat) (a:Option Addr) (c most:Nat) (s:TS):Prop:=B<=b/\∃R,TabH B w b a c most R/\getT R=s.M/\usedN R=s.u
def tabD (B b:Nat) (a:Option Addr) (c most:Nat):Nat->Prop:=λi=>i=b\/ownD B (.slice a (2*most) c) i
theorem TabS.up{w:World}[L:Le w w']{b:Nat}{c most:Nat}{s:TS}(h:TabS B w b a c most s):TabS B w' b a c most s:=by
 obtain⟨h0,R,d,e⟩:=h;exact⟨h0,R,d.up,e⟩
theorem zEP(n:Nat):usedN (List.replicate n zPl)=0:=by
 unfold usedN;rw [List.countP_eq_zero];intro x b;rw [(VW.1 b).2];simp [zPl]
theorem rowF_zero(n p:Nat):rowF (List.replicate n zPl) p=zPl:=by
 unfold rowF;rw [Qk,Vk];split <;> rfl
theorem zLq(n:Nat):TabL (List.replicate n zPl)/\getT (List.replicate n zPl)=λ_=>none:=by
 have b:TabL (List.replicate n zPl):=by
  constructor
  ·intro i hi u;rw [rowF_zero] at u;cases u
  ·intro i j hi c u;rw [rowF_zero] at u;cases u
 refine⟨b,zGZ b λk m=>⟨?_,λh=>by cases h⟩⟩;rintro⟨i,_,u,_⟩;rw [rowF_zero] at u;cases u
theorem zFQ{most:Int}{w:World}:Sp PP 97 #[.int .i64 most] w λv w' =>
  ((most<1\/400<most)/\v=.tuple #[.pointer none,.int .i64 1]\/∃(N b:Nat) (a:Option Addr) (c:Nat),most=(N:Int)/\1<=N/\N<=400/\v=.tuple #[.pointer (some ⟨b,0,none⟩),.int .i64 0]/\TabS w.heap.size w' b a c N zTS)/\Stp w w':=by
 refine eN ?_;refine ite (λe=>⟨.inl ⟨.inl e,rfl⟩,stp⟩) (λe=>?_);refine ite (λf=>⟨.inl ⟨.inr f,rfl⟩,stp⟩) (λf=>?_);have h:=QU (show (0:Int)<=most by omega);obtain⟨N,rfl⟩:=h;refine rarE (y:=((2*N:Nat):Int)) (by omega) (by omega) (rmk zPl rfl rfl (by omega) λg w1 l p q=>rbuild (cs:=[.slice (some ⟨g,0,none⟩) (2*N) (2*N),.int .i64 (N:Nat),.int .i64 0]) rfl (rbx λb r n2 o=>?_));refine⟨.inr ⟨N,b,some ⟨g,0,none⟩,2*N,rfl,by omega,by omega,rfl,n2.lo,_,⟨?_,l.up,by simp,(zLq _).1,⟨by omega,by omega,by rw [zEP];omega⟩,λx d u=>?_,λx d _=>(VW.1 d).2⟩,(zLq _).2,zEP _⟩,stp⟩
 ·rw [zEP];exact o
 ·rw [(VW.1 d).2] at u;cases u
theorem Len_sp{b c most:Nat}{s:TS}{w:World}(T:TabS B w b a c most s):Sp PP 136 #[.pointer (some ⟨b,0,none⟩)] w λv w'=>v=.int .i64 (s.u:Nat)/\Stp w w':=by
 obtain⟨_,R,T,_,d⟩:=T;refine eN ?_;refine rpnil (rX T.cell rfl ?_);rw [<-d];exact⟨rfl,stp⟩
theorem zKl{b c most:Nat}{R:List PlD}{w:World}(T:TabH B w b a c most R){k:KeyD}(h:¬mayK k):getT R k=none:=by
 cases f:getT R k with
 |none=>rfl
 |some n =>
  have g:=(zBO T.tab).1 f;obtain⟨i,hi,d,e,_⟩:=g;rw [zA8 hi] at d e;exact absurd (e ▸ T.may _ (Qa hi) d) h
theorem Get_sp{b c most:Nat}{s:TS}{k:KeyD}{w:World}(T:TabS B w b a c most s):
  Sp PP 278 #[.pointer (some ⟨b,0,none⟩),agg k] w λv w'=>v=.tuple #[.int .i64 (getTS s k).1,.bool (getTS s k).2]/\Stp w w':=by
 obtain⟨_,R,T,Q,hu⟩:=T;refine eN ?_;refine rbx λbk w1 n1 H=>rpnil (rldG (B:=H) rfl rfl ?_);refine rcall may_sp ?_;rintro v E ⟨⟨rfl,F⟩|⟨rfl,F⟩,e2⟩
 ·have S:=T.up (w':=E);have U:=T.len
  have h:∀i:Nat,FindAt R.length (rowF R) k i->∃hi:i<R.length,getTS s k=(R[i].n,R[i].used):=by
   intro i f;refine⟨f.lt,?_⟩;have r:=zDr T.tab f;rw [zA8 f.lt,Q] at r;unfold getTS;rw [r]
   cases I:(R[i]'(f.lt)).used with
   |true=>simp only [if_true]
   |false =>
    have X:=T.zero _ (Qa f.lt) I;simp only [Jt,if_false];rw [X];rfl
  have C:=S.cell;have O:=S.row;refine dT (λi=>E.heap.size<=i) (oL [0,1,2,3,4,5] (.two 6 (oL [7,8,9,10] .nil) 9 (oL [6,7,8,10] .nil))) λV e1=>?_;have zC:=C.lt;refine tX C rfl (by omega) (tldG (B:=H) rfl rfl (by have:=H.lt;have:=lz w1 E;omega) ?_)
  have l:∀g,Value.blk (.slice a (2*most) c)=some g->R≠[]->g<E.heap.size:=λg G J=>by
   obtain⟨g',r,_,Y⟩:=O.lt J;rw [G] at r;cases r;exact Y
  refine⟨?_,?_⟩
  ·refine rcall (zF2 (T.up (w':=V)) F) ?_;rintro v t ⟨⟨i,rfl,f⟩,o⟩;have K:=h i f;obtain⟨hi,d⟩:=K;refine⟨o.e.fr,?_⟩;refine tix (O.sl.up (w':=t)) (x:=R[i]) (by simp) λZ o4 L p=>tloadA L rfl (by have:=l _ p (by rintro rfl;simp at hi);omega) (ral λb5 W q u=>⟨q.e.fr,?_⟩);refine rE u (R[i]) λM y z _=>?_;have s5:Stp t M:=q.st z;refine⟨z.mono λi _ hi=>by subst hi;exact q.lo,?_⟩;clear u;refine dQ 6 λu5 e5=>tX y rfl nf (tX y rfl nf ?_);rw [d];exact⟨rfl,stp⟩
  ·refine ral λb5 W q u=>⟨q.e.fr,?_⟩;refine rcall (zF2 (T.up (w':=W)) F) ?_;rintro v t ⟨⟨i,rfl,f⟩,o⟩;have K:=h i f;obtain⟨hi,d⟩:=K;refine⟨o.e.fr,?_⟩;refine tix (O.sl.up (w':=t)) (x:=R[i]) (by simp) λZ o4 L p=>tloadA L rfl (by have:=l _ p (by rintro rfl;simp at hi);omega) ?_;have A:=u.mv (w:=t);refine rE A (R[i]) λM y z _=>?_;have s5:Stp V M:=q.st z;refine⟨z.mono λi _ hi=>by subst hi;exact q.lo,?_⟩;clear u A;refine dQ 6 λu5 e5=>tX y rfl nf (tX y rfl nf ?_);rw [d];exact⟨rfl,stp⟩
 ·have G:=zKl T F;rw [Q] at G;unfold getTS;rw [G];exact⟨rfl,stp⟩
theorem zAG{R:List PlD}{y x:PlD}(h:x∈R.set i y):x∈R\/x=y:=List.mem_or_eq_of_mem_set h
theorem Put_sp{b c most:Nat}{s:TS}{k:KeyD}{n:Int}{w:World}(T:TabS B w b a c most s):
  Sp PP 282 #[.pointer (some ⟨b,0,none⟩),agg k,.int .i64 n] w λv w'=>v=.int .i64 (putTS most s k n).2/\TabS B w' b a c most (putTS most s k n).1/\Fr (tabD B b a c most) w w':=by
 have TT:=T;obtain⟨hB,R,T,H,hu⟩:=T;refine eN ?_;refine rbx λbk w1 n1 I=>rpnil (rldG (B:=I) rfl rfl ?_);refine rcall may_sp ?_;rintro v w2 ⟨⟨rfl,q⟩|⟨rfl,q⟩,e2⟩
 ·refine rldG (B:=I) rfl rfl ?_;refine rcall (zF2 (T.up (w':=w2)) q) ?_;rintro v J ⟨⟨i,rfl,Z⟩,e3⟩;have hi:=Z.lt;have K:=T.len;have a0:=zPm T.tab Z n;obtain⟨a1,L,r⟩:=a0;have d:=zDr T.tab Z;rw [zA8 hi] at d;have C:=T.cell.mv (w:=J);have O:=T.row.up (w':=J)
  have t:∀x∈R.set i ⟨k,n,true⟩,x.used=true->mayK x.key:=λx hx o=>by
   have q_:=zAG hx;rcases q_ with h|rfl
   ·exact T.may x h o
   ·exact q
  have p:∀x∈R.set i ⟨k,n,true⟩,x.used=false->x=zPl:=λx hx o=>by
   have q_:=zAG hx;rcases q_ with h|rfl
   ·exact T.zero x h o
   ·cases o
  refine rX C rfl (rix O.sl (x:=R[i]) (by simp) λb4 o4 A4=>?_);have D3:Fr (tabD B b a c most) w J:=Fr.fr Le.e;by_cases f:R[i].used=true
  case' neg =>
   have f:R[i].used=false:=by simpa using f
   rw [f,if_neg (by simp)] at d;rw [d,if_pos rfl] at r;refine rload1 (v:=.bool false) (A4.cell 4 (by simp [enc,f])) (dQ 9 λW e1=>tX C rfl nf (tX C rfl nf ?_));refine ite (λz=>?_) (λz=>?_)
   ·have E:putTS most s k n=(s,140):=by
     unfold putTS;rw [if_pos q,<-H,d];simp only;rw [if_pos (by omega)]
    rw [E];exact⟨rfl,TT.up,Fr.fr Le.e⟩
   have E:putTS most s k n=(⟨λl=>if l=k then some n else s.M l,s.u+1⟩,0):=by
    unfold putTS;rw [if_pos q,<-H,d];simp only;rw [if_neg (by omega)]
   rw [E];have Q:=T.bnd;refine rX C rfl (rarE (y:=((usedN (R.set i ⟨k,n,true⟩):Nat):Int)) (by omega) (by omega) ?_);have C2:=C.mv (w:=W);refine rS C2 [.int .i64 ((usedN (R.set i ⟨k,n,true⟩):Nat):Int)] (by simp;rfl) λu2 X f2 _=>?_;have G:=(O.up (w':=W)).frc f2 C2;have D9:Fr (tabD B b a c most) w u2:=(Fr.fr Le.e:Fr (tabD B b a c most) w W).trans (f2.mono λj _ hj=>.inl hj);have B9:=(I.mv (w:=W)).fr f2 (by have h1:=I.h;have h2:=(T.cell.mv (w:=w1)).h;intro e;subst e;rw [h1] at h2;cases h2);have S:1<=most/\most<=400/\usedN (R.set i ⟨k,n,true⟩)<=most:=⟨Q.1,Q.2.1,by omega⟩;have U:usedN (R.set i ⟨k,n,true⟩)=s.u+1:=by omega
   have V:getT (R.set i ⟨k,n,true⟩)=λl=>if l=k then some n else s.M l:=by rw [L,H]
   clear C2
  case' pos =>
   rw [f,if_pos rfl] at d;rw [d,if_neg (by simp)] at r;refine rload1 (v:=.bool true) (A4.cell 4 (by simp [enc,f])) ?_
   have E:putTS most s k n=(⟨λl=>if l=k then some n else s.M l,s.u⟩,0):=by
    unfold putTS;rw [if_pos q,<-H,d]
   rw [E];have Q:=T.bnd;have X:Bk J b [.slice a (2*most) c,.int .i64 most,.int .i64 ((usedN (R.set i ⟨k,n,true⟩):Nat):Int)] 259:=by rw [r];exact C
   have G:=O;have D9:=D3;have B9:=I.mv (w:=J);have S:1<=most/\most<=400/\usedN (R.set i ⟨k,n,true⟩)<=most:=⟨Q.1,Q.2.1,by omega⟩;have U:usedN (R.set i ⟨k,n,true⟩)=s.u:=by omega
   have V:getT (R.set i ⟨k,n,true⟩)=λl=>if l=k then some n else s.M l:=by rw [L,H]
  all_goals
   clear C;refine dD (ownD B (.slice a (2*most) c)) (upF 10 0) λY e9=>tX X rfl (X.notOwn G) (tldG (B:=B9) rfl rfl (B9.notOwn G) ?_);refine tbuild (cs:=enc (⟨k,n,true⟩:PlD)) rfl (tixO rfl (G.up (w':=Y)) (x:=R[i]) (by simp) λg hg _ A=>rstO' rfl (⟨k,n,true⟩:PlD) (G.up (w':=Y)) hg hi rfl λa4 a2 F _=>⟨F,?_⟩);have a3:=(X.mv (w:=Y)).fro (G.up (w':=Y)) F;refine⟨rfl,⟨hB,_,⟨a3,a2,by rw [Jc];exact K,a1,S,t,p⟩,V,U⟩,?_⟩;exact(D9.trans (Fr.fr e9.e)).trans (F.mono λj _ hj=>.inr hj)
 ·have E:putTS most s k n=(s,1):=by unfold putTS;rw [if_neg q]
  rw [E];exact⟨rfl,TT.up,Fr.fr Le.e⟩
end Go.W
