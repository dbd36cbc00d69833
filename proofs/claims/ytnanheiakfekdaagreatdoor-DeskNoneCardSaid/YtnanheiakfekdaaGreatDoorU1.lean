/-
  Proved here: parts of this claim.
  Conditions: told at each.
-/
import Derived.MapKept
import Derived.Test.YtnanheiakfekdaaGreatDoorProg
import Derived.KernelRfl
import Derived.Maps.RangeRun
import Derived.Laws.BytesString
import Derived.Shelf.SlSortCmp.NoneTotal
import Derived.Test.YtnanheiakfekdaaGreatDoorU0
set_option maxHeartbeats 800000
set_option linter.unusedVariables false
set_option linter.unusedSimpArgs false
namespace Go.W
open Go
open AK (enc)
variable {B N hi i j k m n:Nat} {D:Nat -> Prop} {P:Program} {a:OA} {s:U8} {u u' w w':World}
section
variable {α:Type} [AK α]
def Bh (e:TypeId) (w:World) (v:Value) (l:List α):Prop:=AQ w v l/\(l=[]\/∃b cs z,Value.blk v=some b/\w.heap[b]? = some (.cells cs e z))
theorem Bh.sl{e:TypeId}{v:Value}{l:List α}(h:Bh e w v l):AQ w v l:=h.1
theorem Bh.fr{e:TypeId}{v:Value}{l:List α}(h:Bh e w v l)(f:Fr D w w')(hd:∀b cs z,Value.blk v=some b->w.heap[b]? = some (.cells cs e z)->¬D b):Bh e w' v l:=by
 rcases h with⟨h,rfl|⟨b,cs,z,hb,g⟩⟩
 ·obtain⟨a,c,rfl,g,_⟩:=h;exact⟨⟨a,c,rfl,g,.inl rfl⟩,.inl rfl⟩
 ·have o:=hd b cs z hb g;exact⟨h.fr f λp d=>by rw[hb]at d;cases d;exact o,.inr ⟨b,cs,z,hb,f.blk g o⟩⟩
theorem Bh.up{e:TypeId}[L:Le w w']{v:Value}{l:List α}(h:Bh e w v l):Bh e w' v l:=h.fr L.e λ_ _ _ _ _ h=>h
theorem Bh.kept{e:TypeId}{es:List TypeId}{v:Value}{l:List α}(h:Bh e w v l)(f:BQ B es w w')(b:e∉es):Bh e w' v l:=
 h.fr f λ_ _ _ _ c hd=>b (hd.cells c)
theorem AD.y{e:TypeId}{v:Value}{l:List α}(h:AD B e w v l):Bh e w v l:=by
 refine⟨h.sl,?_⟩;by_cases d:l=[]
 ·exact .inl d
 ·right;obtain⟨a,c,rfl⟩:=h.shape;obtain⟨g,b,rfl,_,_,f,_⟩:=h.blk d;exact⟨g,b,_,rfl,f⟩
theorem Bh.part{e:TypeId}{c:Nat}{l:List α}(h:Bh e w (.slice a n c) l)(lo hi:Nat)(d:lo<=hi)(f:hi<=n):
  Bh e w (.slice (if c=lo then a else a.map (·.add (lo*AK.sz α))) (hi - lo) (c - lo)) ((l.drop lo).take (hi - lo)):=by
 refine⟨h.1.part lo hi d f,?_⟩;rcases h.2 with rfl|⟨b,cs,z,hb,g⟩
 ·left;simp
 ·right;refine⟨b,cs,z,?_,g⟩
  cases a with
  |none=>cases hb
  |some a =>
   simp only[Value.blk]at hb;cases hb;split
   ·rfl
   ·simp only[JD,Value.blk];congr 1;unfold Addr.add;split<;>rfl
theorem ZP(a:OA)(n b c e lo d:Nat):Value.blk (.slice (if c=lo then a else a.map (·.add d)) b e)=Value.blk (.slice a n c):=by
 cases a with
 |none=>split<;>rfl
 |some a =>
  split
  ·rfl
  ·simp only[JD,Value.blk];congr 1;unfold Addr.add;split<;>rfl
section
variable {P:Program} {k:KW} {pn:PW} {w:World}
theorem ZJ{t e:TypeId}{z:Value}{f:Nat}[r:DQ P t e][v:AX P e z (AK.sz α) f]{k:Value->Prop}{c:Nat}{l:List α}{q:TypeId}{x:Value}(m:Nat)(h:Bh q w (.slice a n c) l)(o:m<=n)(y:x=.int .i64 m)
  (A:∀b d,Bh q w (.slice b (n - m) d) (l.drop m)->Value.blk (.slice b (n - m) d)=Value.blk (.slice a n c)->k (.slice b (n - m) d)):Ar P (Instr.sliceAt t (.slice a n c) (some x) none none) D k w:=by
 subst y;have g:n<=c:=by obtain⟨b,d,C,E,_⟩:=h.1;cases C;exact E
 have F:n=l.length:=h.1.len;have p:=h.part m n o (Qe _);rw[Qj (by simp_all)]at p;rw[Iv];exact⟨_,λw' _=>Sf r v (some m) none o g w',A _ _ p (ZP ..)⟩
end
theorem Bh.len{e:TypeId}{c:Nat}{l:List α}(h:Bh e w (.slice a n c) l):n=l.length:=h.1.len
end
def DE {κ:Type} [DecidableEq κ] (k:κ):List (κ×Value)->Nat->Option (Nat×Value)
 |[],_=>none
 |(k',v)::r,i=>if k=k' then some (i,v) else DE k r (i+1)
def Au {κ:Type} [DecidableEq κ] (m:List (κ×Value)) (k:κ):Option Value:=(DE k m 0).map (·.2)
def Fp {κ:Type} (val:κ->Value) (es:List MapEntry) (m:List (κ×Value)):Prop:=es.map (λe=>(e.key,e.val))=m.map λp=>(val p.1,p.2)
class Em (P:Program) (t:TypeId) (κ:Type) [DecidableEq κ] where
 val:κ->Value
 check:∀(e:Bool) (k:κ) (w:World),(Instr.checkKey e 10000 t (val k)).run P w=.ok () w
 find:∀(k:κ) (es:List MapEntry) (m:List (κ×Value)) (w:World),Fp val es m->(Instr.findKey t (val k) es).run P w=.ok (DE k m 0) w
 same:∀k,Instr.sameBits 10000 (val k) (val k)=true
class EL (P:Program) (t:TypeId) (k e:outParam TypeId):Prop where
 h:P.underlying t=some (.map k e):=by kernel_rfl
theorem Xt{κ:Type}{val:κ->Value}{m:List (κ×Value)}(h:Fp val [] m):m=[]:=by simp_all[Fp]
theorem bV{κ:Type}{val:κ->Value}{e:MapEntry}{es:List MapEntry}{m:List (κ×Value)}(h:Fp val (e::es) m):∃k r,m=(k,e.val)::r/\e.key=val k/\Fp val es r:=by
 cases m with
 |nil=>simp[Fp]at h
 |cons p r =>
  obtain⟨k,v⟩:=p;simp only[Fp,QS,List.cons.injEq,Xm]at h;exact⟨k,r,by rw[h.1.2],h.1.1,h.2⟩
theorem uL{kd:IntKind}(k:Int):∀(es:List MapEntry) (m:List (Int×Value)) (i:Nat),Fp (λx=>Value.int .i64 x) es m->Instr.findNow (.int kd) (.int .i64 k) es i=some (DE k m i)
 |[],m,i,h=>by rw[Xt h];rfl
 |e::es,m,i,h=>by
  obtain⟨c,r,rfl,d,f⟩:=bV h;have g:=uL (kd:=kd) k es r (i+1) f;unfold Instr.findNow DE;rw[d];simp only[Instr.sameNow,if_true];by_cases b:k=c
  ·rw[if_pos b];subst b;simp
  ·rw[if_neg b,show(k==c)=false by simpa using b];exact g
theorem Zi(a b:ByteArray):(a==b)=true↔a=b:=by
 show ByteArray.beq a b=true↔_;unfold ByteArray.beq;cases a;cases b;simp
theorem vX(k:ByteArray):∀(es:List MapEntry) (m:List (ByteArray×Value)) (i:Nat),Fp (λx=>Value.string x) es m->Instr.findNow .string (.string k) es i=some (DE k m i)
 |[],m,i,h=>by rw[Xt h];rfl
 |e::es,m,i,h=>by
  obtain⟨c,r,rfl,d,f⟩:=bV h;have g:=vX k es r (i+1) f;unfold Instr.findNow DE;rw[d];simp only[Instr.sameNow];by_cases b:k=c
  ·rw[if_pos b,(Zi k c).2 b]
  ·have:(k==c)=false:=by
    cases l:(k==c) with
    |false=>rfl
    |true=>exact absurd ((Zi k c).1 l) b
   rw[if_neg b,this];exact g
section
variable {P:Program}
@[reducible] def Zg {t:TypeId} {kd:IntKind} (ht:P.underlying t=some (.int kd)):Em P t Int where
 val x:=.int .i64 x
 check e k w:=by
  unfold Instr.checkKey
  simp only[underlying,Sem.run_bind,run_program,Result.andThen_ok,ht]
  rfl
 find k es m w h:=by
  unfold Instr.findKey
  simp only[underlying,Sem.run_bind,run_program,Result.andThen_ok,ht,Sem.run_pure]
  rw[uL (kd:=kd) k es m 0 h];rfl
 same k:=by simp[Instr.sameBits]
@[reducible] def YP {t:TypeId} (ht:P.underlying t=some .string):Em P t ByteArray where
 val x:=.string x
 check e k w:=by
  unfold Instr.checkKey
  simp only[underlying,Sem.run_bind,run_program,Result.andThen_ok,ht]
  rfl
 find k es m w h:=by
  unfold Instr.findKey
  simp only[underlying,Sem.run_bind,run_program,Result.andThen_ok,ht,Sem.run_pure]
  rw[vX k es m 0 h];rfl
 same k:=by unfold Instr.sameBits;exact(Zi k k).2 rfl
def BO (P:Program) (t:TypeId) {κ:Type} [DecidableEq κ] [M:Em P t κ] (w:World) (b:Nat) (m:List (κ×Value)):Prop:=(∃es c,w.heap[b]? = some (.map es c)/\Fp M.val es.toList m)/\(m.map (·.1)).Nodup
variable {t:TypeId} {κ:Type} [DecidableEq κ] [M:Em P t κ]
theorem BO.fr{b:Nat}{m:List (κ×Value)}(h:BO P t w b m)(f:Fr D w w')(hd:¬D b):BO P t w' b m:=by
 obtain⟨⟨es,c,d,e⟩,g⟩:=h;exact⟨⟨es,c,f.blk d hd,e⟩,g⟩
theorem BO.up[L:Le w w']{b:Nat}{m:List (κ×Value)}(h:BO P t w b m):BO P t w' b m:=h.fr L.e id
theorem BO.kept{es:List TypeId}{b:Nat}{m:List (κ×Value)}(h:BO P t w b m)(f:BQ B es w w')(d:Fh∉es):BO P t w' b m:=by
 obtain⟨⟨e,c,g,_⟩,_⟩:=id h;exact h.fr f λhd=>d (hd.map g)
theorem BO.lt{b:Nat}{m:List (κ×Value)}(h:BO P t w b m):b<w.heap.size:=by obtain⟨⟨es,c,d,_⟩,_⟩:=h;exact Ad d
theorem BO.wrote{es:List TypeId}{b:Nat}{m:List (κ×Value)}(h:BO P t w b m)(f:Fr (λi=>i=b) w w')(d:B<=b)(e:Fh∈es):BQ B es w w':=by
 obtain⟨⟨g,c,l,_⟩,_⟩:=h;exact Fr.mono f λi _ hi=>by subst hi;exact .mkM d l e
theorem BO.ne{b d:Nat}{m:List (κ×Value)}{cs:List Value}{e:TypeId}(h:BO P t w b m)(k:Bk w d cs e):d≠b:=by
 rintro rfl;obtain⟨⟨f,c,g,_⟩,_⟩:=h;have:=k.h;rw[g]at this;cases this
theorem kG(k:κ):∀(m:List (κ×Value)) (i:Nat),(DE k m i).map (·.2)=(DE k m 0).map (·.2)
 |[],_=>rfl
 |(b,v)::r,i=>by
  unfold DE;split
  ·rfl
  ·rw[kG k r (i+1),kG k r (0+1)]
theorem PJ(k b:κ)(v:Value)(r:List (κ×Value)):Au ((b,v)::r) k=if k=b then some v else Au r k:=by
 unfold Au;rw[show DE k ((b,v)::r) 0=if k=b then some (0,v) else DE k r 1 from rfl];split
 ·rfl
 ·rw[kG k r 1]
theorem pS(k:κ):Au ([]:List (κ×Value)) k=none:=rfl
theorem dY{k:κ}:∀{m:List (κ×Value)},Au m k=none↔k∉m.map (·.1)
 |[]=>by simp[pS]
 |(b,v)::r=>by
  rw[PJ];by_cases h:k=b
  ·rw[if_pos h];subst h;simp
  ·rw[if_neg h,dY (m:=r)];simp[h]
theorem SJ{k:κ}{v:Value}:∀{m:List (κ×Value)},Au m k=some v->(k,v)∈m
 |[],h=>by cases h
 |(b,c)::r,h=>by
  rw[PJ]at h;split at h
  ·rename_i e;subst e;cases h;exact Qs ..
  ·exact QF _ (SJ h)
theorem TQ{k:κ}{v:Value}:∀{m:List (κ×Value)},(m.map (·.1)).Nodup->(k,v)∈m->Au m k=some v
 |(e,f)::r,c,h=>by
  rw[PJ];rw[QS,JC]at c;rcases Ql.1 h with b|b
  ·cases b;rw[if_pos rfl]
  ·have d:k≠e:=by
    rintro rfl;exact c.1 (Qq.2 ⟨_,b,rfl⟩)
   rw[if_neg d,TQ c.2 b]
def CW (k:κ) (v:Value):List (κ×Value)->List (κ×Value)
 |[]=>[(k,v)]
 |(k',v')::r=>if k=k' then(k,v)::r else(k',v')::CW k v r
def GL (k:κ):List (κ×Value)->List (κ×Value)
 |[]=>[]
 |(k',v')::r=>if k=k' then r else(k',v')::GL k r
theorem bA(k b:κ)(v:Value):∀(m:List (κ×Value)),Au (CW k v m) b=if b=k then some v else Au m b
 |[]=>by unfold CW;rw[PJ]
 |(c,d)::r=>by
  unfold CW;split
  ·rename_i h;subst h;rw[PJ,PJ];split
   ·rfl
   ·rfl
  ·rename_i h;rw[PJ,PJ,bA k b v r];by_cases e:b=c
   ·subst e;rw[if_pos rfl,if_neg (Jq h),if_pos rfl]
   ·rw[if_neg e,if_neg e]
theorem EY(k:κ)(v:Value):∀(m:List (κ×Value)) (x:κ),x∈(CW k v m).map (·.1)↔x=k\/x∈m.map (·.1)
 |[],x=>by simp[CW]
 |(c,d)::r,x=>by
  unfold CW;split
  ·rename_i h;subst h;simp
  ·have b:=EY k v r x;simp only[QS,Ql,b];constructor
   ·rintro(h|h|h)<;>simp[h]
   ·rintro(h|h|h)<;>simp[h]
theorem Wl(k:κ)(v:Value):∀(m:List (κ×Value)),(m.map (·.1)).Nodup->((CW k v m).map (·.1)).Nodup
 |[],_=>by simp[CW]
 |(c,d)::r,h=>by
  rw[QS,JC]at h;unfold CW;split
  ·rename_i e;subst e;rw[QS,JC];exact h
  ·rename_i e;rw[QS,JC];refine⟨λb=>?_,Wl k v r h.2⟩;rcases(EY k v r c).1 b with rfl|b
   ·exact e rfl
   ·exact h.1 b
theorem oJ(k:κ):∀(m:List (κ×Value)),(GL k m).Sublist m
 |[]=>.slnil
 |(b,c)::r=>by
  unfold GL;split
  ·exact List.sublist_cons_self ..
  ·exact(oJ k r).cons_cons _
theorem kL(k:κ){m:List (κ×Value)}(h:(m.map (·.1)).Nodup):((GL k m).map (·.1)).Nodup:=h.sublist ((oJ k m).map _)
theorem rM(k b:κ):∀(m:List (κ×Value)),(m.map (·.1)).Nodup->Au (GL k m) b=if b=k then none else Au m b
 |[],_=>by unfold GL;split<;>rfl
 |(d,f)::r,h=>by
  rw[QS,JC]at h;unfold GL;split
  ·rename_i e;subst e;rw[PJ];split
   ·rename_i e;subst e;exact dY.2 h.1
   ·rfl
  ·rename_i e;rw[PJ,PJ,rM k b r h.2];by_cases c:b=d
   ·subst c;rw[if_pos rfl,if_neg (Jq e),if_pos rfl]
   ·rw[if_neg c,if_neg c]
theorem aZ(k:κ)(v:Value):∀(m:List (κ×Value)) (i:Nat),DE k m i=none->CW k v m=m++[(k,v)]/\GL k m=m
 |[],_,_=>⟨rfl,rfl⟩
 |(c,d)::r,i,h=>by
  unfold DE at h;split at h
  ·cases h
  ·rename_i e;have b:=aZ k v r (i+1) h;unfold CW GL;rw[if_neg e,if_neg e,b.1,b.2];exact⟨rfl,rfl⟩
theorem cS(k:κ)(v:Value):∀(m:List (κ×Value)) (i j:Nat) (b:Value),DE k m i=some (j,b)->i<=j/\m[j - i]? = some (k,b)/\CW k v m=m.set (j - i) (k,v)/\GL k m=m.eraseIdx (j - i)
 |[],_,_,_,h=>by cases h
 |(l,o)::r,i,j,b,h=>by
  unfold DE at h;split at h
  ·rename_i e;subst e;cases h;refine⟨Qe _,by simp,?_,?_⟩
   ·unfold CW;rw[if_pos rfl];simp
   ·unfold GL;rw[if_pos rfl];simp
  ·rename_i e;obtain⟨p,g,c,f⟩:=cS k v r (i+1) j b h;obtain⟨d,rfl⟩:∃d,j=i+1+d:=⟨j - (i+1),by omega⟩;rw[show i+1+d - (i+1)=d by omega]at g c f;rw[show i+1+d - i=d+1 by omega];unfold CW GL;rw[if_neg e,if_neg e,c,f];exact⟨by omega,by simp_all⟩
end
section
variable {P:Program} {kt:TypeId} {κ:Type} [DecidableEq κ] [M:Em P kt κ] {k:KW} {pn:PW} {w:World}
theorem dV{b:Nat}{es:Array MapEntry}{c:Nat}(hb:w.heap[b]? = some (.map es c)):(getObj b).run P w=.ok (.map es c) w:=by simp[getObj,Sem.run,hb]
theorem Ws{b:Nat}{es:Array MapEntry}{c:Nat}(o:Obj)(hb:w.heap[b]? = some (.map es c)):(setObj b o).run P w=.ok () { w with heap:=w.heap.setIfInBounds b o }:=by simp[setObj,Sem.run,hb]
theorem Om{t:TypeId}{d:TypeDesc}(h:P.underlying t=some d)(w:World):(underlying t).run P w=.ok d w:=by
 simp only[underlying,Qo,run_program,Qh,h,Jd]
theorem pX{e:TypeId}{z:Value}{sz b:Nat}(c:AX P e z sz b)(w:World):(zeroValue e).run P w=.ok z w:=by
 obtain⟨i,hi,d,_,_⟩:=info_parts c.h;simp[zeroValue,typeInfo,hi,d]
theorem jF{t e:TypeId}{z:Value}{sz d:Nat}(l:EL P t kt e)(o:AX P e z sz d){b:Nat}{m:List (κ×Value)}(h:BO P kt w b m)(x:κ)(ok:Bool):
  (Instr.lookup t (.map (some b)) (M.val x) ok).run P w=.ok (bif ok then .tuple #[(Au m x).getD z,.bool (Au m x).isSome] else(Au m x).getD z) w:=by
 obtain⟨⟨es,c,hb,hE⟩,_⟩:=h;unfold Instr.lookup;simp only[Qo,Om l.h,Qh,dV hb,Jd,M.check,M.find x _ m w hE]
 cases g:DE x m 0 with
 |none =>
  have f:Au m x=none:=by unfold Au;rw[g];rfl
  rw[f];simp only[Qo,pX o,Qh,Jd];cases ok<;>rfl
 |some p =>
  obtain⟨i,v⟩:=p;have f:Au m x=some v:=by unfold Au;rw[g];rfl
  rw[f];cases ok<;>rfl
theorem Hk{t e:TypeId}{z:Value}{sz c:Nat}[f:EL P t kt e][g:AX P e z sz c]{b:Nat}{m:List (κ×Value)}{d:Value}(h:BO P kt w b m)(x:κ)(l:d=M.val x)(o:k ((Au m x).getD z) w):AI P (Instr.lookup t (.map (some b)) d false) k pn w:=by
 subst l;exact AI.of (jF f g h x false) o
theorem Mn{t e:TypeId}{z:Value}{sz c:Nat}[f:EL P t kt e][g:AX P e z sz c]{b:Nat}{m:List (κ×Value)}{d:Value}(h:BO P kt w b m)(x:κ)(l:d=M.val x)(o:k (.tuple #[(Au m x).getD z,.bool (Au m x).isSome]) w):AI P (Instr.lookup t (.map (some b)) d true) k pn w:=by
 subst l;exact AI.of (jF f g h x true) o
theorem Ri{t e:TypeId}{z:Value}{sz c:Nat}[g:EL P t kt e][l:AX P e z sz c]{k:Value->Prop}{b:Nat}{m:List (κ×Value)}{d:Value}(h:BO P kt w b m)(hd:¬D b)(x:κ)(o:d=M.val x)(p:k (.tuple #[(Au m x).getD z,.bool (Au m x).isSome])):Ar P (Instr.lookup t (.map (some b)) d true) D k w:=by
 subst o;rw[Iv];exact⟨_,λw' f=>jF g l (h.fr f hd) x true,p⟩
theorem II{b:Nat}{es:Array MapEntry}{c:Nat}(hb:w.heap[b]? = some (.map es c))(o:Obj):Fr (λi=>i=b) w { w with heap:=w.heap.setIfInBounds b o }:=
 ⟨rfl,rfl,rfl,by simp,λi _ hi=>Va (Jq hi),λi o' d e=>by
  rw[Va]
  ·exact d
  ·rintro rfl;rw[hb]at d;cases d;cases e⟩
theorem IN{b:Nat}(hb:b<w.heap.size)(o:Obj):({ w with heap:=w.heap.setIfInBounds b o }:World).heap[b]? = some o:=by simp[hb]
theorem eX{α b:Type}(f:α->b):∀(l:List α) (i:Nat),(l.eraseIdx i).map f=(l.map f).eraseIdx i
 |[],_=>rfl
 |_::_,0=>rfl
 |x::r,i+1=>by simp[List.eraseIdx_cons_succ,eX f r i]
theorem tE{κ:Type}{val:κ->Value}{es:List MapEntry}{m:List (κ×Value)}(h:Fp val es m)(i:Nat)(x:κ)(v:Value)(f:MapEntry->MapEntry)(g:∀e,((f e).key,(f e).val)=(val x,v)):Fp val (es.modify i f) (m.set i (x,v)):=by
 unfold Fp at *;apply Vl;intro j;have b:=congrArg (λl=>l[j]?) h;simp only[QK,List.getElem?_modify,Vw]at b ⊢;by_cases e:i=j
 ·subst e;simp only[if_true]
  cases d:es[i]? with
  |none =>
   rw[d]at b
   have:m[i]? = none:=by cases o:m[i]? with
    |none=>rfl
    |some p=>rw[o]at b;cases b
   rw[List.getElem?_eq_none_iff]at this;simp[show ¬i<m.length by omega]
  |some q =>
   rw[d]at b
   have:i<m.length:=by
    rcases QH i m.length with c|c
    ·exact c
    ·rw[Jg c]at b;cases b
   simp[this,g]
 ·simp[e,b]
theorem zQE{t e:TypeId}(C:EL P t kt e){b:Nat}{m:List (κ×Value)}(h:BO P kt w b m)(x:κ)(v:Value):
  ∃w',(Instr.mapUpdate t (.map (some b)) (M.val x) v).run P w=.ok () w'/\BO P kt w' b (CW x v m)/\Fr (λi=>i=b) w w'/\w'.heap.size=w.heap.size:=by
 obtain⟨⟨es,c,hb,hE⟩,r⟩:=h;have AY:=Ad hb;unfold Instr.mapUpdate;simp only[Qo,Om C.h,Qh,dV hb,M.check,M.find x _ m w hE]
 cases y:DE x m 0 with
 |none =>
  have o:=(aZ x v m 0 y).1;simp only[Ws _ hb];refine⟨_,rfl,⟨⟨_,_,IN AY _,?_⟩,Wl x v m r⟩,II hb _,by simp⟩;rw[o];unfold Fp at *;simp[hE]
 |some p =>
  obtain⟨i,E⟩:=p;have o:=cS x v m 0 i E y;obtain⟨_,z,A,_⟩:=o;rw[JF]at z A
  have f:((es[i]?).map (·.key)).getD (M.val x)=M.val x:=by
   have g:=congrArg (λl=>l[i]?) hE;simp only[QK,z,JD]at g
   cases F:es[i]? with
   |none=>rfl
   |some G =>
    have q:es.toList[i]? = some G:=by simpa using F
    rw[q]at g;simp only[JD,JK,Xm]at g;simp[g.1]
  have d:(Instr.keyThatStays (((es[i]?).map (·.key)).getD (M.val x)) (M.val x)).run P w=.ok (M.val x) w:=by
   rw[f];unfold Instr.keyThatStays;rw[if_pos (M.same x)];rfl
  simp only[Qo,d,Qh,Ws _ hb];refine⟨_,rfl,⟨⟨_,_,IN AY _,?_⟩,Wl x v m r⟩,II hb _,by simp⟩;rw[A,Xr];exact tE hE i x v _ λe=>rfl
theorem Pt{t e:TypeId}[d:EL P t kt e]{b:Nat}{m:List (κ×Value)}{c v:Value}(h:BO P kt w b m)(x:κ)(f:c=M.val x)
  (g:∀w',BO P kt w' b (CW x v m)->Fr (λi=>i=b) w w'->w'.heap.size=w.heap.size->k undef w'):Ed P (Instr.mapUpdate t (.map (some b)) c v) k pn w:=by
 subst f;obtain⟨w',l,o,p,q⟩:=zQE d h x v;exact Ed.of l (g w' o p q)
theorem zQA{t e ty:TypeId}{ts:Array TypeId}(d:ts[0]? = some t)(q:EL P t kt e){b:Nat}{m:List (κ×Value)}(h:BO P kt w b m)(x:κ):
  ∃w',(Builtin.delete_ ts ty #[.map (some b),M.val x]).run P w=.ok (.tuple #[]) w'/\BO P kt w' b (GL x m)/\Fr (λi=>i=b) w w'/\w'.heap.size=w.heap.size:=by
 obtain⟨⟨es,c,hb,hE⟩,g⟩:=h;have AY:=Ad hb;unfold Builtin.delete_;simp only[d,List.getElem?_toArray,List.getElem?_cons_zero,List.getElem?_cons_succ,Qo,Om q.h,Qh,dV hb,M.check,M.find x _ m w hE]
 cases l:DE x m 0 with
 |none =>
  have f:=(aZ x undef m 0 l).2;simp only[Qo,Ws _ hb,Qh,Jd];exact⟨_,rfl,⟨⟨_,_,IN AY _,by rw[f];exact hE⟩,kL x g⟩,II hb _,by simp⟩
 |some p =>
  obtain⟨i,r⟩:=p;have f:=cS x undef m 0 i r l;obtain⟨_,_,_,o⟩:=f;rw[JF]at o;simp only[Qo,Ws _ hb,Qh,Jd];refine⟨_,rfl,⟨⟨_,_,IN AY _,?_⟩,kL x g⟩,II hb _,by simp⟩;rw[o];unfold Fp at *;rw[show(es.eraseIdxIfInBounds i).toList=es.toList.eraseIdx i by simp,eX,eX,hE]
theorem jP{t e ty:TypeId}{c:TypeId}[f:EL P t kt e]{b:Nat}{m:List (κ×Value)}{d:Value}(h:BO P kt w b m)(x:κ)(g:d=M.val x)
  (l:∀w',BO P kt w' b (GL x m)->Fr (λi=>i=b) w w'->w'.heap.size=w.heap.size->k (.tuple #[]) w'):AI P (Builtin.delete_ #[t,c] ty #[.map (some b),d]) k pn w:=by
 subst g;obtain⟨w',o,p,q,r⟩:=zQA (ts:=#[t,c]) (ty:=ty) rfl f h x;exact AI.of o (l w' p q r)
end
set_option maxRecDepth 100000
open Go.Proofs
noncomputable abbrev PP:Program:=Tryz.prog
def TB:Ce:={ kinds:=[(9,2),(10,2),(11,2),(28,1),(32,1),(33,1),(42,1),(63,1),(86,1),(137,1),(149,1),(153,1),(154,1),(155,1),(156,1),(164,1),(206,1),(207,1),(215,1),(233,1),(255,1),(310,1),(333,1),(469,1)],offs:=[(7,[some 0,some 1,some 2,some 3]),(8,[some 0,some 1,some 2,some 3]),(13,[some 0,some 1]),(14,[some 0,some 1]),(18,[some 0]),(19,[some 0]),(34,[some 0,some 1,some 2]),(35,[some 0,some 1,some 2]),(37,[some 0,some 3]),(38,[some 0,some 3]),(43,[some 0,some 1]),(44,[some 0,some 1]),(57,[some 0,some 1,some 2]),(58,[some 0,some 1,some 2]),(73,[some 0,some 1]),(74,[some 0,some 1]),(81,[some 0,some 1,some 2,some 3]),(82,[some 0,some 1,some 2,some 3]),(87,[some 0,some 1]),(88,[some 0,some 1]),(92,[some 0,some 1,some 2,some 3,some 4]),(93,[some 0,some 1,some 2,some 3,some 4]),(100,[some 0,some 1,some 2,some 3,some 4,some 5]),(101,[some 0,some 1,some 2,some 3,some 4,some 5]),(102,[some 0,some 1,some 2]),(103,[some 0,some 1,some 2]),(115,[some 0]),(116,[some 0]),(119,[some 0]),(120,[some 0]),(125,[some 0,some 1]),(126,[some 0,some 1]),(131,[some 0,some 1,some 2]),(132,[some 0,some 1,some 2]),(141,[some 0,some 1]),(142,[some 0,some 1]),(144,[some 0,some 1]),(145,[some 0,some 1]),(157,[some 0,some 5,some 9,some 10,some 11,some 12,some 13]),(158,[some 0,some 5,some 9,some 10,some 11,some 12,some 13]),(170,[some 0,some 1,some 2]),(171,[some 0,some 1,some 2]),(172,[some 0,some 1,some 2]),(173,[some 0,some 1,some 2]),(182,[some 0,some 1]),(183,[some 0,some 1]),(211,[some 0,some 1]),(212,[some 0,some 1]),(217,[some 0,some 1]),(218,[some 0,some 1]),(224,[some 0,some 1]),(225,[some 0,some 1]),(226,[some 0,some 1]),(227,[some 0,some 1]),(235,[some 0,some 1,some 3,some 4]),(236,[some 0,some 1,some 3,some 4]),(247,[some 0]),(248,[some 0]),(257,[some 0,some 1]),(258,[some 0,some 1]),(264,[some 0,some 1]),(311,[some 0,some 1,some 2]),(312,[some 0,some 1,some 2]),(326,[some 0,some 1,some 2]),(327,[some 0,some 1,some 2]),(328,[some 0,some 3]),(329,[some 0,some 3]),(341,[some 0,some 3]),(344,[some 0,some 6,some 10,some 11]),(345,[some 0,some 6,some 10,some 11]),(362,[some 0,some 1]),(363,[some 0,some 1]),(406,[some 0,some 3]),(421,[some 0,some 3,some 4]),(422,[some 0,some 3,some 4]),(428,[some 0,some 1]),(429,[some 0,some 1]),(433,[some 0,some 1,some 2]),(434,[some 0,some 1,some 2]),(444,[some 0,some 1,some 2]),(445,[some 0,some 1,some 2]),(470,[some 0]),(471,[some 0]),(472,[some 0,some 1]),(473,[some 0,some 1]),(482,[some 0]),(483,[some 0]),(499,[some 0,some 1]),(533,[some 0,some 1,some 2,some 3]),(534,[some 0,some 1,some 2,some 3]),(536,[none]),(537,[none]),(543,[some 0,some 1,some 2,some 3,some 4,some 5,some 6,some 7,some 8,some 9,some 10]),(544,[some 0,some 1,some 2,some 3,some 4,some 5,some 6,some 7,some 8,some 9,some 10])],round:=false }
def yU:Ce:={ TB with round:=true }
theorem ff {P:Program}{i:Nat}{a b:Func}(h:P.funcs[i]?=some a)(e:a=b:=by kernel_rfl):P.funcs[i]?=some b:=h.trans (congrArg some e)
theorem Aa:TB.ok PP=true:=by kernel_rfl
theorem TW:yU.ok PP=true:=by kernel_rfl
theorem mixed:PP.follows .mixedOrders=true:=by kernel_rfl
section
open AK (enc)
variable {k:KW} {pn:PW} {w:World}
theorem rE{α:Type}[AK α]{t n:Nat}[o:BZ PP t n]{x:World}{b:Nat}{cs:List Value}{e:TypeId}(B:Bk x b cs e)[L:Le x w]{v:Value}(a:α)(c:∀w',Bk w' b (enc a) e->Fr (λi=>i=b) w w'->w'.heap.size=w.heap.size->k undef w')(d:v.cells.toList=enc a:=by exact rfl)(g:AK.sz α=n:=by exact rfl)(l:cs.length=n:=by exact rfl):Ed PP (Instr.storeAt t (.pointer (some ⟨b,0,none⟩)) v) k pn w:=
 DI (B:=B) (vs:=enc a) d ((AK.len a).trans g) (Nat.ble_eq_true_of_le (by omega)) (AK.one a) λw' h f z=>c w' (by
  have e:splice cs 0 (enc a)=enc a:=by unfold splice;rw[List.take_zero,List.nil_append,List.drop_eq_nil_of_le (by rw[AK.len,l];omega),List.append_nil]
  rw[e]at h;exact h) f z
theorem rS{t n:Nat}[l:BZ PP t n]{x:World}{b off:Nat}{cs:List Value}{e:TypeId}(B:Bk x b cs e)[L:Le x w]{v:Value}(vs:List Value)(c:∀u∈vs,u.oneCell'=true)(d:∀w',Bk w' b (splice cs off vs) e->Fr (λi=>i=b) w w'->w'.heap.size=w.heap.size->k undef w')(f:v.cells.toList=vs:=by exact rfl)(g:vs.length=n:=by exact rfl)(h:Nat.ble (off+n) cs.length=true:=by exact rfl):Ed PP (Instr.storeAt t (.pointer (some ⟨b,off,none⟩)) v) k pn w:=
 DI (B:=B) f g h c d
theorem rX{t:Nat}[f:One PP t]{x:World}{b o:Nat}{cs:List Value}{e:TypeId}(B:Bk x b cs e)[L:Le x w]{v:Value}(c:Ij cs o=some v)(d:k v w):AI PP (Instr.loadAt t (.pointer (some ⟨b,o,none⟩))) k pn w:=Cx (B:=B) c d
theorem tX{t:Nat}[f:One PP t]{x:World}{b o:Nat}{cs:List Value}{e:TypeId}(B:Bk x b cs e)[L:Le x w]{D:Nat->Prop}{k:Value->Prop}{v:Value}(c:Ij cs o=some v)(hd:¬D b)(d:k v):Ar PP (Instr.loadAt t (.pointer (some ⟨b,o,none⟩))) D k w:=Nf (B:=B) c hd d
theorem rG{α:Type}[AK α]{t n:Nat}[g:FZ PP t n]{x:World}{b o:Nat}{cs:List Value}{e:TypeId}(B:Bk x b cs e)[L:Le x w](a:α)(c:k (.agg (enc a).toArray) w)(d:(cs.drop o).take n=enc a:=by exact rfl)(f:AK.sz α=n:=by exact rfl):AI PP (Instr.loadAt t (.pointer (some ⟨b,o,none⟩))) k pn w:=Cq (B:=B) d ((AK.len a).trans f) c
theorem tG{α:Type}[AK α]{t n:Nat}[g:FZ PP t n]{x:World}{b o:Nat}{cs:List Value}{e:TypeId}(B:Bk x b cs e)[L:Le x w]{D:Nat->Prop}{k:Value->Prop}(a:α)(hd:¬D b)(c:k (.agg (enc a).toArray))(d:(cs.drop o).take n=enc a:=by exact rfl)(f:AK.sz α=n:=by exact rfl):Ar PP (Instr.loadAt t (.pointer (some ⟨b,o,none⟩))) D k w:=MG (B:=B) d ((AK.len a).trans f) hd c
theorem rF(y:Nat){x:Int}(b:k (.int .i64 y) w)(e:x=y:=by omega)(h:-9223372036854775808<=(y:Int)/\(y:Int)<=9223372036854775807:=by omega):Ob .i64 x k w:=IV e h b
theorem rI(y:Int){x:Int}(b:k (.int .i64 y) w)(e:x=y:=by omega)(h:-9223372036854775808<=y/\y<=9223372036854775807:=by omega):Ob .i64 x k w:=IV e h b
theorem Nx.st{c d u w':World}{b:Nat}(n:Nx c d b)[A:Le u c][L:Le u w](f:Fr (λi=>i=b) w w'):AC u w':=⟨Fr.st L.e f λi hi=>by subst hi;exact n.lo⟩
theorem bS{α:Type}[AK α]{t e:TypeId}{z:Value}{sz c:Nat}[h:DQ PP t e][l:AX PP e z sz c](x:α){v:Value}(f:∀b w',AC w w'->w.heap.size<w'.heap.size->AQ w' (.slice (some ⟨b,0,none⟩) 1 1) [x]->k (.slice (some ⟨b,0,none⟩) 1 1) w')(d:AK.sz α=sz:=by exact rfl)(g:v.cells.toList=enc x:=by exact rfl)(hb:sz<=16777216:=by decide):AI PP (Instr.buildSlice t 1 #[(0,v)]) k pn w:=HS x d g hb f
theorem lz(a b:World)[L:Le a b]:a.heap.size<=b.heap.size:=L.e.size
theorem lE(a b:World)[L:Le a b]:Bp a b:=L.e
theorem fE(a b:World)[L:Le a b]{D:Nat->Prop}:Fr D a b:=Fr.fr L.e
theorem eN{f n:Nat}{fn:Func}[h:AB PP f fn n]{args:Array Value}{R:KW}(b:S PP TB n (FC fn) (MI PP fn.results.toList R (λ_ _=>False)) (KN args.toList) w)(c:Nat.ble args.size n=true:=by exact rfl)(d:Nat.ble n 4294967296=true:=by exact rfl):Sp PP f args w R:=en Aa c b d
def oL:List Nat->OT->OT
 | [],t=>t
 | a::r,t=>.one a (oL r t)
section
variable {n i:Nat} {ops:Array Oper} {Q:KS} {F:Nat->Value}
theorem dD(D:Nat->Prop)(b:List Nat)(h:∀w',AC w w'->HH PP TB n D ops.toList b F Q.nrm (λc w=>∀d,agree (wr (.region i ops true)) F d->Q.pan d c w) w')(e:OK ops b=true:=by kernel_rfl):BI PP TB n (.region i ops true) Q F w:=Nw Aa mixed D b e λw' s _=>h w' s
theorem dQ(m:Nat)(h:∀w',AC w w'->HH PP TB n (λ_=>False) ops.toList (Hn m 0) F Q.nrm (λc w=>∀b,agree (wr (.region i ops true)) F b->Q.pan b c w) w')(d:OK ops (Hn m 0)=true:=by kernel_rfl):BI PP TB n (.region i ops true) Q F w:=Nw Aa mixed _ _ d λw' s _=>h w' s
theorem dT(D:Nat->Prop)(t:OT)(h:∀w',AC w w'->EC PP TB n D ops.toList t F Q.nrm (λc w=>∀b,agree (wr (.region i ops true)) F b->Q.pan b c w) w')(d:KV ops t=true:=by kernel_rfl):BI PP TB n (.region i ops true) Q F w:=WE Aa mixed D t d λw' s _=>h w' s
section
variable {body:Code} (m:Nat) (ks:List Nat)
theorem cN(s N:Nat)(I:Nat->World->Prop)(h0:I 0 w)(c:∀(k:Nat) g w,k<=N->I k w->S PP TB n body { Q with nrm:=λd w'=>d s=.int .i64 ((k:Int)+1)/\k<N/\I (k+1) w' } (IH m ks [(s,.int .i64 k)] g F) w)(b:Kb m ks [s] body=true:=by exact rfl)(e:F s=.int .i64 0:=by exact rfl):BI PP TB n (.loop body) Q F w:=cnt Aa m ks s N I b e h0 c
theorem cO(b s N:Nat)(I:Nat->KW)(h0:I 0 (F b) w)(f:∀(k:Nat) d g w,k<=N->I k d w->S PP TB n body { Q with nrm:=λe w'=>e s=.int .i64 ((k:Int)+1)/\k<N/\I (k+1) (e b) w' } (IH m ks [(b,d),(s,.int .i64 k)] g F) w)(c:Kb m ks [b,s] body=true:=by exact rfl)(h:F s=.int .i64 0:=by exact rfl):BI PP TB n (.loop body) Q F w:=jX Aa m ks b s N I c h h0 f
theorem cP(b c s N:Nat)(I:Nat->Value->KW)(h0:I 0 (F b) (F c) w)(l:∀(k:Nat) f h g w,k<=N->I k f h w->S PP TB n body { Q with nrm:=λd w'=>d s=.int .i64 ((k:Int)+1)/\k<N/\I (k+1) (d b) (d c) w' } (IH m ks [(b,f),(c,h),(s,.int .i64 k)] g F) w)(e:Kb m ks [b,c,s] body=true:=by exact rfl)(o:F s=.int .i64 0:=by exact rfl):BI PP TB n (.loop body) Q F w:=fX Aa m ks b c s N I e o h0 l
end
end
end
instance:YL PP 3:=⟨⟨IntKind.i64,by kernel_rfl⟩⟩
instance:One PP 3:={}
instance:BZ PP 3 1:={}
instance:AX PP 3 Zz 1 8:={}
instance:One PP 4:={}
instance:BZ PP 4 1:={}
instance:AX PP 4 (Value.bool false) 1 1:={}
instance:AX PP 5 (Value.int IntKind.u8 0) 1 1:={}
instance:One PP 9:={}
instance:BZ PP 9 1:={}
instance:AX PP 9 (Value.string ⟨#[]⟩) 1 16:={}
instance:Ik PP 24:={}
instance:One PP 24:={}
instance:BZ PP 24 1:={}
instance:AX PP 24 Zz 1 8:={}
instance:DQ PP 28 9:={}
instance:One PP 28:={}
instance:BZ PP 28 1:={}
instance:AX PP 28 (Value.slice none 0 0) 1 24:={}
instance:DQ PP 32 28:={}
instance:One PP 32:={}
instance:BZ PP 32 1:={}
instance:DQ PP 33 74:={}
instance:One PP 33:={}
instance:BZ PP 33 1:={}
instance:FZ PP 35 3:={}
instance:BZ PP 35 3:={}
instance:AX PP 35 (Value.agg #[Zz,(Value.slice none 0 0),(Value.slice none 0 0)]) 3 56:={}
instance:Ab PP 35 [(0,1),(1,1),(2,1)] [Zz,(Value.slice none 0 0),(Value.slice none 0 0)]:={}
instance:Od PP 36:=⟨⟨158,by kernel_rfl⟩⟩
instance:One PP 36:={}
instance:BZ PP 36 1:={}
instance:Ab PP 38 [(0,3),(3,1)] [Zz,(Value.slice none 0 0),(Value.slice none 0 0),(Value.pointer none)]:={}
instance:EL PP 39 9 58:={}
instance:DQ PP 42 5:={}
instance:One PP 42:={}
instance:BZ PP 42 1:={}
instance:AX PP 42 (Value.slice none 0 0) 1 24:={}
instance:AX PP 44 (Value.agg #[(Value.pointer none),(Value.slice none 0 0)]) 2 32:={}
instance:One PP 55:={}
instance:BZ PP 58 3:={}
instance:AX PP 58 (Value.agg #[Value.nilFunc,(Value.string ⟨#[]⟩),(Value.bool false)]) 3 32:={}
instance:Ab PP 58 [(0,1),(1,1),(2,1)] [Value.nilFunc,(Value.string ⟨#[]⟩),(Value.bool false)]:={}
instance:DQ PP 63 3:={}
instance:One PP 63:={}
instance:BZ PP 63 1:={}
instance:AX PP 63 (Value.slice none 0 0) 1 24:={}
instance:FZ PP 74 2:={}
instance:BZ PP 74 2:={}
instance:AX PP 74 (Value.agg #[Zz,Zz]) 2 16:={}
instance:Ab PP 74 [(0,1),(1,1)] [Zz,Zz]:={}
instance:FZ PP 82 4:={}
instance:BZ PP 82 4:={}
instance:AX PP 82 (Value.agg #[(Value.slice none 0 0),(Value.slice none 0 0),(Value.slice none 0 0),(Value.slice none 0 0)]) 4 96:={}
instance:DQ PP 86 137:={}
instance:One PP 86:={}
instance:AX PP 86 (Value.slice none 0 0) 1 24:={}
instance:FZ PP 88 2:={}
instance:BZ PP 88 2:={}
instance:AX PP 88 (Value.agg #[(Value.slice none 0 0),(Value.slice none 0 0)]) 2 48:={}
instance:Ab PP 88 [(0,1),(1,1)] [(Value.slice none 0 0),(Value.slice none 0 0)]:={}
instance:FZ PP 93 5:={}
instance:BZ PP 93 5:={}
instance:AX PP 93 (Value.agg #[Zz,Zz,Zz,Zz,Zz]) 5 40:={}
instance:Ab PP 93 [(0,1),(1,1),(2,1),(3,1),(4,1)] [Zz,Zz,Zz,Zz,Zz]:={}
instance:FZ PP 101 6:={}
instance:BZ PP 101 6:={}
instance:AX PP 101 (Value.agg #[Zz,Zz,Zz,(Value.slice none 0 0),Zz,Zz]) 6 64:={}
instance:Ab PP 101 [(0,1),(1,1),(2,1),(3,1),(4,1),(5,1)] [Zz,Zz,Zz,(Value.slice none 0 0),Zz,Zz]:={}
instance:FZ PP 103 8:={}
instance:BZ PP 103 8:={}
instance:AX PP 103 (Value.agg #[Zz,Zz,Zz,Zz,Zz,(Value.slice none 0 0),Zz,Zz]) 8 80:={}
instance:Ab PP 103 [(0,1),(1,1),(2,6)] [Zz,Zz,Zz,Zz,Zz,(Value.slice none 0 0),Zz,Zz]:={}
instance:One PP 107:={}
instance:One PP 114:={}
instance:FZ PP 116 1:={}
instance:BZ PP 116 1:={}
instance:AX PP 116 (Value.agg #[Value.nilFunc]) 1 8:={}
instance:Ab PP 116 [(0,1)] [Value.nilFunc]:={}
instance:FZ PP 120 1:={}
instance:BZ PP 120 1:={}
instance:AX PP 120 (Value.agg #[Value.nilFunc]) 1 8:={}
instance:Ab PP 120 [(0,1)] [Value.nilFunc]:={}
instance:One PP 124:={}
instance:FZ PP 126 2:={}
instance:BZ PP 126 2:={}
instance:AX PP 126 (Value.agg #[(Value.pointer none),(Value.pointer none)]) 2 16:={}
instance:Ab PP 126 [(0,1),(1,1)] [(Value.pointer none),(Value.pointer none)]:={}
instance:One PP 130:={}
instance:Ab PP 132 [(0,1),(1,1),(2,1)] [Value.nilFunc,(Value.slice none 0 0),(Value.slice none 0 0)]:={}
instance:MR PP 136 2 86:=⟨by kernel_rfl⟩
instance:DQ PP 137 142:={}
instance:One PP 137:={}
instance:BZ PP 137 1:={}
instance:AX PP 137 (Value.slice none 0 0) 1 24:={}
instance:FZ PP 142 2:={}
instance:BZ PP 142 2:={}
instance:AX PP 142 (Value.agg #[Zz,Zz]) 2 16:={}
instance:Ab PP 142 [(0,1),(1,1)] [Zz,Zz]:={}
instance:One PP 143:={}
instance:FZ PP 145 2:={}
instance:BZ PP 145 2:={}
instance:AX PP 145 (Value.agg #[Value.nilFunc,Value.nilFunc]) 2 16:={}
instance:Ab PP 145 [(0,1),(1,1)] [Value.nilFunc,Value.nilFunc]:={}
instance:DQ PP 149 183:={}
instance:One PP 149:={}
instance:BZ PP 149 1:={}
instance:AX PP 149 (Value.slice none 0 0) 1 24:={}
instance:DQ PP 153 258:={}
instance:One PP 153:={}
instance:DQ PP 154 225:={}
instance:One PP 154:={}
instance:BZ PP 154 1:={}
instance:DQ PP 155 103:={}
instance:One PP 155:={}
instance:BZ PP 155 1:={}
instance:DQ PP 156 161:={}
instance:One PP 156:={}
instance:BZ PP 156 1:={}
instance:Ab PP 158 [(0,5),(5,4),(9,1),(10,1),(11,1),(12,1),(13,1)] [Zz,Zz,Zz,Zz,Zz,(Value.slice none 0 0),(Value.slice none 0 0),(Value.slice none 0 0),(Value.slice none 0 0),(Value.slice none 0 0),(Value.slice none 0 0),(Value.slice none 0 0),(Value.slice none 0 0),(Value.slice none 0 0)]:={}
instance:Od PP 161:=⟨⟨236,by kernel_rfl⟩⟩
instance:One PP 161:={}
instance:AX PP 161 (Value.pointer none) 1 8:={}
instance:DQ PP 164 63:={}
instance:FZ PP 171 3:={}
instance:BZ PP 171 3:={}
instance:AX PP 171 (Value.agg #[(Value.bool false),Zz,(Value.slice none 0 0)]) 3 40:={}
instance:Ab PP 171 [(0,1),(1,1),(2,1)] [(Value.bool false),Zz,(Value.slice none 0 0)]:={}
instance:FZ PP 173 5:={}
instance:BZ PP 173 5:={}
instance:AX PP 173 (Value.agg #[Zz,Zz,(Value.bool false),Zz,(Value.slice none 0 0)]) 5 56:={}
instance:Ab PP 173 [(0,1),(1,1),(2,3)] [Zz,Zz,(Value.bool false),Zz,(Value.slice none 0 0)]:={}
instance:FZ PP 183 9:={}
instance:BZ PP 183 9:={}
instance:AX PP 183 (Value.agg #[(Value.bool false),Zz,Zz,Zz,Zz,Zz,(Value.slice none 0 0),Zz,Zz]) 9 88:={}
instance:Ab PP 183 [(0,1),(1,8)] [(Value.bool false),Zz,Zz,Zz,Zz,Zz,(Value.slice none 0 0),Zz,Zz]:={}
instance:EL PP 197 3 4:={}
instance:Ik PP 205:={}
instance : Ky PP 205 "Len" 471 207 := ⟨by kernel_rfl⟩
instance : Ky PP 205 "Less" 472 207 := ⟨by kernel_rfl⟩
instance : HK PP 205 "Pop" 473 := ⟨⟨207, by kernel_rfl⟩⟩
instance : HK PP 205 "Push" 474 := ⟨⟨207, by kernel_rfl⟩⟩
instance : Ky PP 205 "Swap" 475 207 := ⟨by kernel_rfl⟩
instance:DQ PP 207 212:={}
instance:One PP 207:={}
instance:BZ PP 207 1:={}
instance:Ik PP 212:={}
instance:FZ PP 212 2:={}
instance:BZ PP 212 2:={}
instance:AX PP 212 (Value.agg #[Zz,Zz]) 2 16:={}
instance:Ab PP 212 [(0,1),(1,1)] [Zz,Zz]:={}
instance:DQ PP 215 4:={}
instance:Ab PP 218 [(0,1),(1,1)] [(Value.string ⟨#[]⟩),Zz]:={}
instance:EL PP 222 9 63:={}
instance:FZ PP 225 2:={}
instance:BZ PP 225 2:={}
instance:AX PP 225 (Value.agg #[(Value.string ⟨#[]⟩),(Value.slice none 0 0)]) 2 40:={}
instance:Ab PP 225 [(0,1),(1,1)] [(Value.string ⟨#[]⟩),(Value.slice none 0 0)]:={}
instance:FZ PP 227 2:={}
instance:BZ PP 227 2:={}
instance:AX PP 227 (Value.agg #[Zz,(Value.slice none 0 0)]) 2 32:={}
instance:Ab PP 227 [(0,1),(1,1)] [Zz,(Value.slice none 0 0)]:={}
instance:Od PP 230:=⟨⟨312,by kernel_rfl⟩⟩
instance:One PP 230:={}
instance:DQ PP 233 341:={}
instance:One PP 233:={}
instance:BZ PP 233 1:={}
instance:AX PP 233 (Value.slice none 0 0) 1 24:={}
instance:EL PP 234 3 63:={}
instance:One PP 234:={}
instance:Ab PP 236 [(0,1),(1,2),(3,1),(4,1)] [(Value.pointer none),Zz,(Value.slice none 0 0),(Value.slice none 0 0),(Value.map none)]:={}
instance:One PP 246:={}
instance:BZ PP 248 1:={}
instance:AX PP 248 (Value.agg #[Value.nilFunc]) 1 8:={}
instance:Ab PP 248 [(0,1)] [Value.nilFunc]:={}
instance:DQ PP 255 329:={}
instance:One PP 255:={}
instance:BZ PP 255 1:={}
instance:AX PP 255 (Value.slice none 0 0) 1 24:={}
instance:FZ PP 258 2:={}
instance:BZ PP 258 2:={}
instance:AX PP 258 (Value.agg #[(Value.slice none 0 0),Zz]) 2 32:={}
instance:Ab PP 258 [(0,1),(1,1)] [(Value.slice none 0 0),Zz]:={}
instance:One PP 263:={}
instance:DQ PP 310 422:={}
instance:One PP 310:={}
instance:Ab PP 312 [(0,1),(1,1),(2,1)] [(Value.slice none 0 0),Zz,Zz]:={}
instance:FZ PP 327 3:={}
instance:BZ PP 327 3:={}
instance:AX PP 327 (Value.agg #[Zz,Zz,Zz]) 3 24:={}
instance:Ab PP 327 [(0,1),(1,1),(2,1)] [Zz,Zz,Zz]:={}
instance:FZ PP 329 4:={}
instance:BZ PP 329 4:={}
instance:AX PP 329 (Value.agg #[Zz,Zz,Zz,Zz]) 4 32:={}
instance:Ab PP 329 [(0,3),(3,1)] [Zz,Zz,Zz,Zz]:={}
instance:DQ PP 333 255:={}
instance:FZ PP 341 4:={}
instance:BZ PP 341 4:={}
instance:AX PP 341 (Value.agg #[Zz,Zz,Zz,Zz]) 4 32:={}
instance:Ab PP 341 [(0,3),(3,1)] [Zz,Zz,Zz,Zz]:={}
instance:One PP 342:={}
instance:Ab PP 345 [(0,6),(6,4),(10,1),(11,1)] [Zz,Zz,Zz,(Value.slice none 0 0),Zz,Zz,(Value.slice none 0 0),(Value.slice none 0 0),(Value.slice none 0 0),(Value.slice none 0 0),(Value.slice none 0 0),Zz]:={}
instance:EL PP 355 3 3:={}
instance:Ab PP 363 [(0,1),(1,1)] [(Value.string ⟨#[]⟩),Zz]:={}
instance:EL PP 402 327 4:={}
instance:One PP 402:={}
instance:BZ PP 402 1:={}
instance:AX PP 402 (Value.map none) 1 8:={}
instance:FZ PP 422 5:={}
instance:BZ PP 422 5:={}
instance:AX PP 422 (Value.agg #[Zz,Zz,Zz,Zz,(Value.bool false)]) 5 40:={}
instance:Ab PP 422 [(0,3),(3,1),(4,1)] [Zz,Zz,Zz,Zz,(Value.bool false)]:={}
instance:Ab PP 445 [(0,1),(1,1),(2,1)] [(Value.string ⟨#[]⟩),Zz,(Value.bool false)]:={}
instance:EL PP 450 327 329:={}
instance:EL PP 464 3 4:={}
instance:One PP 466:={}
instance:Od PP 468:=⟨⟨473,by kernel_rfl⟩⟩
instance:DQ PP 469 499:={}
instance:One PP 469:={}
instance:BZ PP 469 1:={}
instance:Ab PP 473 [(0,1),(1,1)] [(Value.slice none 0 0),Zz]:={}
instance:MR PP 477 400 4:=⟨by kernel_rfl⟩
instance:AX PP 477 (.agg (Array.replicate 400 (Value.bool false))) 400 400:={}
instance:Ik PP 498:={}
instance : HK PP 498 "Len" 419 := ⟨⟨471, by kernel_rfl⟩⟩
instance : HK PP 498 "Less" 478 := ⟨⟨471, by kernel_rfl⟩⟩
instance : HK PP 498 "Pop" 479 := ⟨⟨471, by kernel_rfl⟩⟩
instance : HK PP 498 "Push" 480 := ⟨⟨471, by kernel_rfl⟩⟩
instance : HK PP 498 "Swap" 481 := ⟨⟨471, by kernel_rfl⟩⟩
instance:Ik PP 499:={}
instance:FZ PP 499 2:={}
instance:BZ PP 499 2:={}
instance:AX PP 499 (Value.agg #[Zz,Zz]) 2 16:={}
noncomputable instance:Em PP 3 Int:=Zg (kd:=IntKind.i64) (by kernel_rfl)
noncomputable instance:Em PP 9 ByteArray:=YP (by kernel_rfl)
section
open Go.Proofs.Tryz
instance:AB PP 3 f3 75:={}
instance:AB PP 4 f4 72:={}
instance:AB PP 5 f5 39:={}
instance:AB PP 6 f6 70:={}
instance:AB PP 7 f7 86:={}
instance:AB PP 8 f8 13:={}
instance:AB PP 9 f9 34:={}
instance:AB PP 10 f10 18:={}
instance:AB PP 11 f11 38:={}
instance:AB PP 12 f12 17:={}
instance:AB PP 13 f13 13:={}
instance:AB PP 14 f14 19:={}
instance:AB PP 15 f15 53:={}
instance:AB PP 16 f16 14:={}
instance:AB PP 17 f17 35:={}
instance:AB PP 18 f18 84:={}
instance:AB PP 19 f19 29:={}
instance:AB PP 20 f20 33:={}
instance:AB PP 21 f21 60:={}
instance:AB PP 22 f22 27:={}
instance:AB PP 23 f23 15:={}
instance:AB PP 24 f24 44:={}
instance:AB PP 25 f25 20:={}
instance:AB PP 26 f26 20:={}
instance:AB PP 27 f27 24:={}
instance:AB PP 28 f28 13:={}
instance:AB PP 29 f29 29:={}
instance:AB PP 30 f30 13:={}
instance:AB PP 31 f31 13:={}
instance:AB PP 32 f32 13:={}
instance:AB PP 34 f34 20:={}
instance:AB PP 35 f35 12:={}
instance:AB PP 36 f36 5:={}
instance:AB PP 37 f37 8:={}
instance:AB PP 38 f38 96:={}
instance:AB PP 39 f39 31:={}
instance:AB PP 40 f40 46:={}
instance:AB PP 41 f41 26:={}
instance:AB PP 42 f42 6:={}
instance:AB PP 43 f43 8:={}
instance:AB PP 44 f44 35:={}
instance:AB PP 45 f45 64:={}
instance:AB PP 46 f46 87:={}
instance:AB PP 47 f47 15:={}
instance:AB PP 48 f48 20:={}
instance:AB PP 49 f49 29:={}
instance:AB PP 50 f50 8:={}
instance:AB PP 51 f51 68:={}
instance:AB PP 52 f52 8:={}
instance:AB PP 53 f53 105:={}
instance:AB PP 54 f54 8:={}
instance:AB PP 55 f55 86:={}
instance:AB PP 56 f56 33:={}
instance:AB PP 57 f57 49:={}
instance:AB PP 58 f58 58:={}
instance:AB PP 59 f59 11:={}
instance:AB PP 60 f60 24:={}
instance:AB PP 61 f61 32:={}
instance:AB PP 62 f62 24:={}
instance:AB PP 67 f67 11:={}
instance:AB PP 68 f68 33:={}
instance:AB PP 69 f69 28:={}
instance:AB PP 70 f70 23:={}
instance:AB PP 71 f71 14:={}
instance:AB PP 72 f72 2:={}
instance:AB PP 73 f73 14:={}
instance:AB PP 74 f74 2:={}
instance:AB PP 75 f75 13:={}
instance:AB PP 76 f76 9:={}
instance:AB PP 77 f77 6:={}
instance:AB PP 78 f78 27:={}
instance:AB PP 79 f79 49:={}
instance:AB PP 80 f80 53:={}
instance:AB PP 81 f81 36:={}
instance:AB PP 82 f82 8:={}
instance:AB PP 83 f83 38:={}
instance:AB PP 84 f84 67:={}
instance:AB PP 85 f85 69:={}
instance:AB PP 86 f86 18:={}
instance:AB PP 87 f87 17:={}
instance:AB PP 88 f88 18:={}
instance:AB PP 89 f89 17:={}
instance:AB PP 90 f90 69:={}
instance:AB PP 91 f91 25:={}
instance:AB PP 92 f92 51:={}
instance:AB PP 93 f93 25:={}
instance:AB PP 94 f94 12:={}
instance:AB PP 95 f95 12:={}
instance:AB PP 96 f96 74:={}
instance:AB PP 97 f97 68:={}
instance:AB PP 98 f98 30:={}
instance:AB PP 99 f99 19:={}
instance:AB PP 100 f100 10:={}
instance:AB PP 101 f101 27:={}
instance:AB PP 102 f102 37:={}
instance:AB PP 103 f103 19:={}
instance:AB PP 104 f104 49:={}
instance:AB PP 105 f105 64:={}
instance:AB PP 106 f106 52:={}
instance:AB PP 107 f107 6:={}
instance:AB PP 108 f108 106:={}
instance:AB PP 109 f109 43:={}
instance:AB PP 110 f110 50:={}
instance:AB PP 111 f111 8:={}
instance:AB PP 112 f112 8:={}
instance:AB PP 113 f113 75:={}
instance:AB PP 114 f114 10:={}
instance:AB PP 123 f123 18:={}
instance:AB PP 124 f124 18:={}
instance:AB PP 125 f125 11:={}
instance:AB PP 126 f126 8:={}
instance:AB PP 128 f128 61:={}
instance:AB PP 129 f129 17:={}
instance:AB PP 130 f130 18:={}
instance:AB PP 131 f131 20:={}
instance:AB PP 132 f132 8:={}
instance:AB PP 134 f134 61:={}
instance:AB PP 136 f136 19:={}
instance:AB PP 137 f137 18:={}
instance:AB PP 138 f138 18:={}
instance:AB PP 139 f139 38:={}
instance:AB PP 140 f140 32:={}
instance:AB PP 141 f141 50:={}
instance:AB PP 142 f142 67:={}
instance:AB PP 143 f143 6:={}
instance:AB PP 144 f144 54:={}
instance:AB PP 145 f145 12:={}
instance:AB PP 146 f146 15:={}
instance:AB PP 147 f147 12:={}
instance:AB PP 148 f148 24:={}
instance:AB PP 149 f149 24:={}
instance:AB PP 150 f150 25:={}
instance:AB PP 151 f151 24:={}
instance:AB PP 153 f153 30:={}
instance:AB PP 154 f154 16:={}
instance:AB PP 155 f155 7:={}
instance:AB PP 156 f156 25:={}
instance:AB PP 157 f157 25:={}
instance:AB PP 158 f158 9:={}
instance:AB PP 159 f159 4:={}
instance:AB PP 160 f160 8:={}
instance:AB PP 161 f161 15:={}
instance:AB PP 162 f162 15:={}
instance:AB PP 163 f163 55:={}
instance:AB PP 164 f164 38:={}
instance:AB PP 165 f165 36:={}
instance:AB PP 166 f166 23:={}
instance:AB PP 167 f167 15:={}
instance:AB PP 168 f168 21:={}
instance:AB PP 169 f169 29:={}
instance:AB PP 170 f170 5:={}
instance:AB PP 171 f171 6:={}
instance:AB PP 172 f172 5:={}
instance:AB PP 173 f173 120:={}
instance:AB PP 174 f174 29:={}
instance:AB PP 175 f175 40:={}
instance:AB PP 176 f176 63:={}
instance:AB PP 177 f177 30:={}
instance:AB PP 178 f178 60:={}
instance:AB PP 179 f179 83:={}
instance:AB PP 180 f180 17:={}
instance:AB PP 181 f181 45:={}
instance:AB PP 182 f182 26:={}
instance:AB PP 183 f183 13:={}
instance:AB PP 184 f184 5:={}
instance:AB PP 186 f186 9:={}
instance:AB PP 196 f196 21:={}
instance:AB PP 199 f199 15:={}
instance:AB PP 202 f202 6:={}
instance:AB PP 205 f205 21:={}
instance:AB PP 206 f206 21:={}
instance:AB PP 207 f207 36:={}
instance:AB PP 208 f208 17:={}
instance:AB PP 210 f210 23:={}
instance:AB PP 211 f211 48:={}
instance:AB PP 212 f212 13:={}
instance:AB PP 213 f213 17:={}
instance:AB PP 214 f214 13:={}
instance:AB PP 215 f215 17:={}
instance:AB PP 216 f216 13:={}
instance:AB PP 217 f217 17:={}
instance:AB PP 219 f219 19:={}
instance:AB PP 220 f220 18:={}
instance:AB PP 221 f221 17:={}
instance:AB PP 222 f222 22:={}
instance:AB PP 223 f223 35:={}
instance:AB PP 224 f224 70:={}
instance:AB PP 225 f225 19:={}
instance:AB PP 226 f226 26:={}
instance:AB PP 227 f227 26:={}
instance:AB PP 228 f228 58:={}
instance:AB PP 229 f229 22:={}
instance:AB PP 230 f230 6:={}
instance:AB PP 231 f231 8:={}
instance:AB PP 232 f232 14:={}
instance:AB PP 233 f233 13:={}
instance:AB PP 234 f234 23:={}
instance:AB PP 235 f235 9:={}
instance:AB PP 236 f236 30:={}
instance:AB PP 237 f237 55:={}
instance:AB PP 238 f238 23:={}
instance:AB PP 239 f239 41:={}
instance:AB PP 240 f240 15:={}
instance:AB PP 241 f241 9:={}
instance:AB PP 242 f242 8:={}
instance:AB PP 243 f243 9:={}
instance:AB PP 244 f244 4:={}
instance:AB PP 246 f246 10:={}
instance:AB PP 247 f247 22:={}
instance:AB PP 248 f248 35:={}
instance:AB PP 249 f249 21:={}
instance:AB PP 250 f250 26:={}
instance:AB PP 251 f251 85:={}
instance:AB PP 252 f252 7:={}
instance:AB PP 253 f253 9:={}
instance:AB PP 254 f254 44:={}
instance:AB PP 255 f255 48:={}
instance:AB PP 256 f256 58:={}
instance:AB PP 257 f257 107:={}
instance:AB PP 258 f258 36:={}
instance:AB PP 259 f259 21:={}
instance:AB PP 260 f260 9:={}
instance:AB PP 261 f261 13:={}
instance:AB PP 262 f262 13:={}
instance:AB PP 275 f275 18:={}
instance:AB PP 294 f294 29:={}
instance:AB PP 295 f295 5:={}
instance:AB PP 296 f296 94:={}
instance:AB PP 297 f297 29:={}
instance:AB PP 298 f298 5:={}
instance:AB PP 299 f299 35:={}
instance:AB PP 300 f300 29:={}
instance:AB PP 301 f301 5:={}
instance:AB PP 302 f302 54:={}
instance:AB PP 312 f312 13:={}
instance:AB PP 313 f313 26:={}
instance:AB PP 314 f314 11:={}
instance:AB PP 315 f315 6:={}
instance:AB PP 316 f316 17:={}
instance:AB PP 317 f317 42:={}
instance:AB PP 318 f318 5:={}
instance:AB PP 319 f319 42:={}
instance:AB PP 320 f320 53:={}
instance:AB PP 321 f321 8:={}
instance:AB PP 322 f322 10:={}
instance:AB PP 323 f323 44:={}
instance:AB PP 324 f324 19:={}
instance:AB PP 325 f325 42:={}
instance:AB PP 326 f326 46:={}
instance:AB PP 327 f327 90:={}
instance:AB PP 329 f329 21:={}
instance:AB PP 330 f330 27:={}
instance:AB PP 331 f331 11:={}
instance:AB PP 332 f332 24:={}
instance:AB PP 333 f333 22:={}
instance:AB PP 334 f334 52:={}
instance:AB PP 335 f335 11:={}
instance:AB PP 336 f336 9:={}
instance:AB PP 337 f337 25:={}
instance:AB PP 338 f338 31:={}
instance:AB PP 339 f339 33:={}
instance:AB PP 340 f340 13:={}
instance:AB PP 341 f341 22:={}
instance:AB PP 342 f342 41:={}
instance:AB PP 343 f343 8:={}
instance:AB PP 344 f344 19:={}
instance:AB PP 363 f363 9:={}
instance:AB PP 364 f364 19:={}
instance:AB PP 365 f365 23:={}
instance:AB PP 366 f366 18:={}
instance:AB PP 367 f367 10:={}
instance:AB PP 369 f369 28:={}
instance:AB PP 370 f370 15:={}
instance:AB PP 371 f371 15:={}
instance:AB PP 380 f380 49:={}
instance:AB PP 381 f381 24:={}
instance:AB PP 382 f382 5:={}
instance:AB PP 383 f383 25:={}
instance:AB PP 384 f384 19:={}
instance:AB PP 385 f385 28:={}
instance:AB PP 386 f386 29:={}
instance:AB PP 393 f393 34:={}
instance:AB PP 397 f397 4:={}
instance:AB PP 398 f398 21:={}
instance:AB PP 399 f399 17:={}
instance:AB PP 400 f400 21:={}
instance:AB PP 401 f401 15:={}
instance:AB PP 402 f402 21:={}
instance:AB PP 403 f403 9:={}
instance:AB PP 404 f404 15:={}
instance:AB PP 405 f405 8:={}
instance:AB PP 407 f407 29:={}
instance:AB PP 417 f417 19:={}
instance:AB PP 419 f419 8:={}
instance:AB PP 421 f421 4:={}
instance:AB PP 471 f471 5:={}
instance:AB PP 472 f472 44:={}
instance:AB PP 473 f473 23:={}
instance:AB PP 474 f474 20:={}
instance:AB PP 475 f475 20:={}
instance:AB PP 478 f478 23:={}
instance:AB PP 479 f479 32:={}
instance:AB PP 480 f480 22:={}
instance:AB PP 481 f481 32:={}
end
section
variable {α:Type}
structure Ord (lt:α->α->Bool):Prop where
 irrefl:∀x,lt x x=false
 trans:∀x y z,lt x y=true->lt y z=true->lt x z=true
 ntrans:∀x y z,lt x y=false->lt y z=false->lt x z=false
theorem Ord.asymm{lt:α->α->Bool}(h:Ord lt){x y:α}(e:lt x y=true):lt y x=false:=by
 cases b:lt y x with
 |false=>rfl
 |true=>have:=h.trans x y x e b;rw[h.irrefl]at this;cases this
end
section
variable {α:Type} [Inhabited α]
abbrev CA (l:List α) (i:Nat):α:=l.getD i default
def Kz (l:List α) (i j:Nat):List α:=(l.set i (CA l j)).set j (CA l i)
theorem TX(l:List α)(i j:Nat):(Kz l i j).length=l.length:=by simp[Kz]
theorem N2{l:List α}(h:i<l.length):CA l i=l[i]:=by simp[CA,h]
theorem oD{l:List α}{p:Nat}(x:α)(h:i<l.length):CA (l.set i x) p=if p=i then x else CA l p:=by
 unfold CA;simp only[Qk,Vw];by_cases e:p=i
 ·subst e;simp[h]
 ·rw[if_neg e,if_neg (Jq e)]
theorem LG{l:List α}{p:Nat}(hi:i<l.length)(b:j<l.length):CA (Kz l i j) p=if p=j then CA l i else if p=i then CA l j else CA l p:=by
 unfold Kz;rw[oD _ (by simpa using b),oD _ hi]
theorem Zf{l:List α}(hi:i<l.length)(b:j<l.length):(Kz l i j).Perm l:=by simp_all[Kz,N2,List.set_set_perm]
variable {lt:α->α->Bool}
def Dq (lt:α->α->Bool) (l:List α) (n:Nat):Prop:=∀c,0<c->c<n->lt (CA l c) (CA l ((c - 1) / 2))=false
def GZ (lt:α->α->Bool) (l:List α) (n i:Nat):Prop:=
 (∀c,0<c->c<n->c≠i->(c - 1) / 2≠i->lt (CA l c) (CA l ((c - 1) / 2))=false) /\
 (∀c,0<c->c<n->(c - 1) / 2=i->0<i->lt (CA l c) (CA l ((i - 1) / 2))=false)
def OC (lt:α->α->Bool) (l:List α) (i:Nat):Prop:=0<i->lt (CA l i) (CA l ((i - 1) / 2))=false
def Fx (lt:α->α->Bool) (l:List α) (n i:Nat):Prop:=∀c,0<c->c<n->(c - 1) / 2=i->lt (CA l c) (CA l i)=false
theorem GZ.full{l:List α}(h:GZ lt l n i)(t:OC lt l i)(b:Fx lt l n i):Dq lt l n:=by
 intro c h0 f;by_cases e:c=i
 ·subst e;exact t h0
 ·by_cases d:(c - 1) / 2=i
  ·rw[d];exact b c h0 f d
  ·exact h.1 c h0 f e d
theorem zQ(O:Ord lt){l:List α}(E:j<n)(F:n<=l.length)(h:GZ lt l n j)(b:Fx lt l n j)(h0:0<j)(v:lt (CA l j) (CA l ((j - 1) / 2))=true):
  GZ lt (Kz l ((j - 1) / 2) j) n ((j - 1) / 2)/\Fx lt (Kz l ((j - 1) / 2) j) n ((j - 1) / 2):=by
 have d:=λp=>LG (l:=l) (i:=(j - 1) / 2) (j:=j) (p:=p) (by omega) (by omega);have z:∃i,(j - 1) / 2=i:=⟨_,rfl⟩;obtain⟨i,hi⟩:=z;rw[hi]at d v ⊢;have g:i≠j:=by omega
 refine⟨⟨λc c0 f o x=>?_,λc c0 f o x=>?_⟩,λc c0 f o=>?_⟩
 ·rw[d c,d];have q:c≠j:=by omega
  rw[if_neg q,if_neg o,if_neg x];by_cases e:(c - 1) / 2=j
  ·rw[if_pos e,<-hi];have:=h.2 c c0 f e h0;exact this
  ·rw[if_neg e];exact h.1 c c0 f q e
 ·rw[d c,d];have A:(i - 1) / 2≠i:=by omega
  have y:(i - 1) / 2≠j:=by omega
  rw[if_neg y,if_neg A];have r:=h.1 i x (by omega) g (by omega);by_cases e:c=j
  ·rw[if_pos e];exact r
  ·rw[if_neg e,if_neg (show c≠i by omega)];have t:=h.1 c c0 f e (by omega);rw[o]at t;exact O.ntrans _ _ _ t r
 ·rw[d c,d i];rw[if_neg g,if_pos rfl];by_cases e:c=j
  ·rw[if_pos e];exact O.asymm v
  ·rw[if_neg e,if_neg (show c≠i by omega)];have t:=h.1 c c0 f e (by omega);rw[o]at t
   cases C:lt (CA l c) (CA l j) with
   |false=>rfl
   |true=>have:=O.trans _ _ _ C v;rw[t]at this;cases this
theorem iW(O:Ord lt){l:List α}(r:j<n)(z:n<=l.length)(h:GZ lt l n i)(t:0<j)(f:(j - 1) / 2=i)(x:lt (CA l j) (CA l i)=true)
  (y:∀c,0<c->c<n->(c - 1) / 2=i->lt (CA l c) (CA l j)=false):GZ lt (Kz l i j) n j/\OC lt (Kz l i j) j/\(OC lt (Kz l i j) i):=by
 have b:=λp=>LG (l:=l) (i:=i) (j:=j) (p:=p) (by omega) (by omega);have d:i≠j:=by omega
 refine⟨⟨λc c0 g q v=>?_,λc c0 g q v=>?_⟩,λ_=>?_,λh0=>?_⟩
 ·rw[b c,b,if_neg q,if_neg v];by_cases e:c=i
  ·subst e;rw[if_pos rfl,if_neg (show(c - 1) / 2≠c by omega)];exact h.2 j t r f c0
  ·rw[if_neg e];by_cases o:(c - 1) / 2=i
   ·rw[if_pos o];exact y c c0 g o
   ·rw[if_neg o];exact h.1 c c0 g e o
 ·rw[b c,b,f,if_neg (show c≠j by omega),if_neg (show c≠i by omega),if_neg d,if_pos rfl,<-q];exact h.1 c c0 g (by omega) (by omega)
 ·rw[b j,b,f,if_pos rfl,if_neg d,if_pos rfl];exact O.asymm x
 ·rw[b i,b,if_neg d,if_pos rfl,if_neg (show(i - 1) / 2≠j by omega),if_neg (show(i - 1) / 2≠i by omega)];exact h.2 j t r f h0
theorem tI(O:Ord lt){l:List α}(h:Dq lt l n):∀c,c<n->lt (CA l c) (CA l 0)=false:=by
 intro c
 induction c using Nat.strongRecOn with
 |_ c b =>
  intro d;have e:=X0 c;rcases e with rfl|h0
  ·exact O.irrefl _
  ·exact O.ntrans _ _ _ (h c h0 d) (b ((c - 1) / 2) (by omega) (by omega))
end
open Go Go.Proofs
set_option maxRecDepth 10000
theorem Nr{k:KW}{x y q:Int}(b:y≠0)(c:x.tdiv y=q)(h:-9223372036854775808<=q/\q<=9223372036854775807)(d:k (.int .i64 q) w):Sj .i64 x y k w:=by simp_all[bY,TR]
structure Hq (P:Program) (t:TypeId) (v:Value) (name:String) (vs:List Value) (w:World) (R:KW):Prop where
 out:∀{o:Oper} {F:Nat->Value} {c:Call} {r:Operand} {k:KW} {pn:PW},o.op=.call c->c.callee=.invoke r name->ev F r=.iface t v->IE F c.args.toList=vs->(∀x w',R x w'->k x w')->DT P (execOp (ev F) o) k pn w
theorem Hq.p{t:TypeId}{v:Value}{name:String}{vs:List Value}{R:KW}{f:FuncId}[HK P t name f](h:Sp P f (v::vs).toArray w R):Hq P t v name vs w R:=
 ⟨λb c d e g=>eL b c d e (AA h g)⟩
theorem Hq.v{t e:TypeId}{a:Addr}{u:Value}{name:String}{vs:List Value}{R:KW}{f:FuncId}[Ky P t name f e](b:(loadVar e a).run P w=.ok u w)(h:Sp P f (u::vs).toArray w R):Hq P t (.pointer (some a)) name vs w R:=
 ⟨λc d g l o=>YN c d g l ⟨_,b,AA h o⟩⟩
structure LD (P:Program) (t:TypeId) (v:Value) {α:Type} [Inhabited α] (lt:α->α->Bool) (St:List α->World->Prop) (B0:Nat) (es:List TypeId):Prop where
 ord:Ord lt
 size:∀l w,St l w->l.length<=100000
 len : ∀ l w, St l w -> Hq P t v "Len" [] w λx w' => x = .int .i64 (l.length : Nat) /\ St l w' /\ BQ B0 es w w'
 less : ∀ l w (i j : Nat), St l w -> i < l.length -> j < l.length -> Hq P t v "Less" [.int .i64 i, .int .i64 j] w λx w' => x = .bool (lt (CA l i) (CA l j)) /\ St l w' /\ BQ B0 es w w'
 swap : ∀ l w (i j : Nat), St l w -> i < l.length -> j < l.length -> Hq P t v "Swap" [.int .i64 i, .int .i64 j] w λ_ w' => St (Kz l i j) w' /\ BQ B0 es w w'
section
variable {t:TypeId} {v:Value} {α:Type} [Inhabited α] {lt:α->α->Bool} {St:List α->World->Prop} {B0:Nat} {es:List TypeId}
theorem aS{l:List α}{p:Nat}(hi:i<n)(b:j<n)(c:n<=l.length)(d:n<=p):CA (Kz l i j) p=CA l p:=by
 rw[LG (by omega) (by omega),if_neg (by omega),if_neg (by omega)]
theorem YD(H:LD PP t v lt St B0 es){l:List α}(b:St l w)(o:j<n)(K:n<=l.length)(c:GZ lt l n j)(hb:Fx lt l n j):
  Sp PP 210 #[.iface t v,.int .i64 j] w λ_ w'=>(∃l':List α,l'.Perm l/\(∀p,n<=p->CA l' p=CA l p)/\St l' w'/\Dq lt l' n)/\BQ B0 es w w':=by
 have F:=H.size l w b;refine eN ?_
 refine GV Aa 5 [4] 1 (λx u=>∃(j:Nat) (l':List α),x=.int .i64 j/\j<n/\l'.Perm l/\(∀p,n<=p->CA l' p=CA l p)/\St l' u/\GZ lt l' n j/\Fx lt l' n j/\BQ B0 es w u) (λx _=>(Go.RowKit.intOf x).toNat) rfl
  ⟨j,l,rfl,o,List.Perm.refl _,λ_ _=>rfl,b,c,hb,BQ.refl _ _ _⟩ ?_
 rintro _ g u ⟨j,l',rfl,o,r,z,b,c,hb,f⟩;have G:=r.length_eq;refine rA ?_;by_cases h0:j=0
 ·subst h0;refine Nr (q:=0) (by decide) (by decide) (by decide) ?_;refine iT rfl ?_;exact⟨⟨l',r,z,b,c.full (λh=>by omega) hb⟩,f⟩
 ·have hd:((j:Int) - 1).tdiv 2=(((j - 1) / 2:Nat):Int):=by
   rw[Xp (by omega)];omega
  refine Nr (by decide) hd (by omega) ?_;refine iF (by omega) ?_
  cases y:lt (CA l' j) (CA l' ((j - 1) / 2)) with
  |false =>
   have L:=H.less l' u j ((j - 1) / 2) b (by omega) (by omega);rw[y]at L;refine L.out rfl rfl rfl rfl ?_;rintro x E ⟨rfl,A,C⟩;exact⟨⟨l',r,z,A,c.full (λ_=>y) hb⟩,f.trans C⟩
  |true =>
   have d:=zQ H.ord o (by omega) c hb (by omega) y;have L:=H.less l' u j ((j - 1) / 2) b (by omega) (by omega);rw[y]at L;refine L.out rfl rfl rfl rfl ?_;rintro x E ⟨rfl,A,C⟩;refine(H.swap l' E ((j - 1) / 2) j A (by omega) (by omega)).out rfl rfl rfl rfl ?_;rintro x M ⟨I,J⟩;refine⟨⟨(j - 1) / 2,_,rfl,by omega,(Zf (by omega) (by omega)).trans r,λp e=>?_,I,d.1,d.2,(f.trans C).trans J⟩,?_⟩
   ·rw[aS (n:=n) (by omega) o (by omega) e];exact z p e
   ·show(j - 1) / 2<j;omega
theorem zQa(H:LD PP t v lt St B0 es){l:List α}{i0:Nat}(E:St l w)(hi:i0<=n)(hn:n<=l.length)(M:GZ lt l n i0):
  Sp PP 211 #[.iface t v,.int .i64 i0,.int .i64 n] w λx w'=>(∃(b:Bool) (l':List α),x=.bool b/\l'.Perm l/\(∀p,n<=p->CA l' p=CA l p)/\St l' w'/\(b=true->Dq lt l' n)/\(b=false->l'=l/\Fx lt l n i0))/\BQ B0 es w w':=by
 have a0:=H.size l w E;refine eN ?_
 refine GV Aa 11 [8,9,10] 7 (λx u=>∃(i:Nat) (l':List α),x=.int .i64 i/\i<=n/\l'.Perm l/\(∀p,n<=p->CA l' p=CA l p)/\St l' u/\GZ lt l' n i/\(i=i0/\l'=l\/i0<i/\OC lt l' i)/\BQ B0 es w u) (λx _=>n - (Go.RowKit.intOf x).toNat) rfl
  ⟨i0,l,rfl,hi,List.Perm.refl _,λ_ _=>rfl,E,M,.inl ⟨rfl,rfl⟩,BQ.refl _ _ _⟩ ?_
 rintro _ g u ⟨i,l',rfl,hi,Q,Y,E,M,R,f⟩;have a1:=Q.length_eq
 have done:∀u',St l' u'->Fx lt l' n i->BQ B0 es w u'->∀b,(b=true↔i0<i)->(∃(Z:Bool) (C:List α),Value.bool b=.bool Z/\C.Perm l/\(∀p,n<=p->CA C p=CA l p)/\St C u'/\(Z=true->Dq lt C n)/\(Z=false->C=l/\Fx lt l n i0))/\BQ B0 es w u':=by
  intro u' S' hb f' b S;refine⟨⟨b,l',rfl,Q,Y,S',λe=>?_,λe=>?_⟩,f'⟩
  ·rcases R with⟨O,_⟩|⟨_,A⟩
   ·have:=S.1 e;omega
   ·exact M.full A hb
  ·rcases R with⟨O,A⟩|⟨O,_⟩
   ·subst O;subst A;exact⟨rfl,hb⟩
   ·have:=S.2 O;rw[e]at this;cases this
 refine rA (rF (2*i+1) ?_);refine ite (λO=>?_) (λO=>?_)
 ·have hb:Fx lt l' n i:=λc c0 F e=>by omega
  refine ite (λA=>done u E hb f true ⟨λ_=>by omega,λ_=>rfl⟩) (λA=>done u E hb f false ⟨λe=>(by cases e),λe=>by omega⟩)
 refine iF (by first|omega|decide|(dsimp only<;>omega)) ?_;have J:i<n:=by omega
 refine rF (2*i+2) (ite (λA=>?_) (λA=>?_))
 ·cases G:lt (CA l' (2*i+2)) (CA l' (2*i+1)) with
  |true =>
   have L:=H.less l' u (2*i+2) (2*i+1) E (by omega) (by omega);rw[G]at L;refine L.out rfl rfl rfl rfl ?_;rintro x T ⟨rfl,U,K⟩;have V:(2*i+2 - 1) / 2=i:=by omega
   have I:∀c,0<c->c<n->(c - 1) / 2=i->lt (CA l' c) (CA l' (2*i+2))=false:=λc c0 F e=>by
    have:c=2*i+1\/c=2*i+2:=by omega
    rcases this with rfl|rfl
    ·exact H.ord.asymm G
    ·exact H.ord.irrefl _
   cases q:lt (CA l' (2*i+2)) (CA l' i) with
   |false =>
    have L:=H.less l' T (2*i+2) i U (by omega) (by omega);rw[q]at L;refine L.out rfl rfl rfl rfl ?_;rintro x r ⟨rfl,y,z⟩;have hb:Fx lt l' n i:=λc c0 F e=>H.ord.ntrans _ _ _ (I c c0 F e) q;refine ite (λA=>done r y hb ((f.trans K).trans z) true ⟨λ_=>by omega,λ_=>rfl⟩) (λA=>done r y hb ((f.trans K).trans z) false ⟨λe=>(by cases e),λe=>by omega⟩)
   |true =>
    have d:=iW H.ord (show 2*i+2<n by omega) (by omega) M (by omega) V q I;have L:=H.less l' T (2*i+2) i U (by omega) (by omega);rw[q]at L;refine L.out rfl rfl rfl rfl ?_;rintro x r ⟨rfl,y,z⟩;refine(H.swap l' r i (2*i+2) y (by omega) (by omega)).out rfl rfl rfl rfl ?_;rintro x u6 ⟨W,X⟩;refine⟨⟨2*i+2,_,rfl,by omega,(Zf (by omega) (by omega)).trans Q,λp o=>?_,W,d.1,.inr ⟨by rcases R with h|h<;>omega,d.2.1⟩,((f.trans K).trans z).trans X⟩,?_⟩
    ·rw[aS (n:=n) J (by omega) (by omega) o];exact Y p o
    ·show n - (2*i+2)<n - i;omega
  |false =>
   have L:=H.less l' u (2*i+2) (2*i+1) E (by omega) (by omega);rw[G]at L;refine L.out rfl rfl rfl rfl ?_;rintro x T ⟨rfl,U,K⟩;have V:(2*i+1 - 1) / 2=i:=by omega
   have I:∀c,0<c->c<n->(c - 1) / 2=i->lt (CA l' c) (CA l' (2*i+1))=false:=λc c0 F e=>by
    have:c=2*i+1\/c=2*i+2:=by omega
    rcases this with rfl|rfl
    ·exact H.ord.irrefl _
    ·exact G
   cases q:lt (CA l' (2*i+1)) (CA l' i) with
   |false =>
    have L:=H.less l' T (2*i+1) i U (by omega) (by omega);rw[q]at L;refine L.out rfl rfl rfl rfl ?_;rintro x r ⟨rfl,y,z⟩;have hb:Fx lt l' n i:=λc c0 F e=>H.ord.ntrans _ _ _ (I c c0 F e) q;refine ite (λA=>done r y hb ((f.trans K).trans z) true ⟨λ_=>by omega,λ_=>rfl⟩) (λA=>done r y hb ((f.trans K).trans z) false ⟨λe=>(by cases e),λe=>by omega⟩)
   |true =>
    have d:=iW H.ord (show 2*i+1<n by omega) (by omega) M (by omega) V q I;have L:=H.less l' T (2*i+1) i U (by omega) (by omega);rw[q]at L;refine L.out rfl rfl rfl rfl ?_;rintro x r ⟨rfl,y,z⟩;refine(H.swap l' r i (2*i+1) y (by omega) (by omega)).out rfl rfl rfl rfl ?_;rintro x u6 ⟨W,X⟩;refine⟨⟨2*i+1,_,rfl,by omega,(Zf (by omega) (by omega)).trans Q,λp o=>?_,W,d.1,.inr ⟨by rcases R with h|h<;>omega,d.2.1⟩,((f.trans K).trans z).trans X⟩,?_⟩
    ·rw[aS (n:=n) J (by omega) (by omega) o];exact Y p o
    ·show n - (2*i+1)<n - i;omega
 ·have V:(2*i+1 - 1) / 2=i:=by omega
  have I:∀c,0<c->c<n->(c - 1) / 2=i->lt (CA l' c) (CA l' (2*i+1))=false:=λc c0 F e=>by
   have:c=2*i+1:=by omega
   subst this;exact H.ord.irrefl _
  cases q:lt (CA l' (2*i+1)) (CA l' i) with
  |false =>
   have L:=H.less l' u (2*i+1) i E (by omega) (by omega);rw[q]at L;refine L.out rfl rfl rfl rfl ?_;rintro x r ⟨rfl,y,z⟩;have hb:Fx lt l' n i:=λc c0 F e=>H.ord.ntrans _ _ _ (I c c0 F e) q;refine ite (λA=>done r y hb (f.trans z) true ⟨λ_=>by omega,λ_=>rfl⟩) (λA=>done r y hb (f.trans z) false ⟨λe=>(by cases e),λe=>by omega⟩)
  |true =>
   have d:=iW H.ord (show 2*i+1<n by omega) (by omega) M (by omega) V q I;have L:=H.less l' u (2*i+1) i E (by omega) (by omega);rw[q]at L;refine L.out rfl rfl rfl rfl ?_;rintro x r ⟨rfl,y,z⟩;refine(H.swap l' r i (2*i+1) y (by omega) (by omega)).out rfl rfl rfl rfl ?_;rintro x u6 ⟨W,X⟩;refine⟨⟨2*i+1,_,rfl,by omega,(Zf (by omega) (by omega)).trans Q,λp o=>?_,W,d.1,.inr ⟨by rcases R with h|h<;>omega,d.2.1⟩,(f.trans z).trans X⟩,?_⟩
   ·rw[aS (n:=n) J (by omega) (by omega) o];exact Y p o
   ·show n - (2*i+1)<n - i;omega
end
section
variable {α:Type} [AK α] {P:Program} {k:KW} {pn:PW} {w:World}
theorem zPU{t ty e:TypeId}{z:Value}{sz q:Nat}(J:DQ P t e)(V:AX P e z sz q)(K:AK.sz α=sz){v x:Value}{l m:List α}
  (H:AD B e w v l)(W:AQ w x m)(r:m≠[])(hb:(l.length+m.length)*q<=140737488355328)(S:l.length+m.length<=maxLen){p:Value}(h:(Builtin.append_ #[t,t] ty #[v,x]).run P w=.ok p w'):
  Value.blk p=Value.blk v\/Value.blk p=some w.heap.size:=by
 obtain⟨i,hi,T,y,A⟩:=info_parts V.h;subst K;obtain⟨xa,C,rfl,X,L⟩:=W;rcases L with L|⟨b,o,rfl,M⟩
 ·exact absurd L r
 have c:∀j u,(Ac m)[j]? = some u->w.cell? ((⟨b,o,none⟩:Addr).add j)=some u:=λj u O=>by rw[Oj];exact M j u O
 have I:(Ac m).length=m.length*AK.sz α:=KZ m;have U:0<m.length:=JI.2 r;have Y:m.length<=maxLen:=by omega
 have nil:(Builtin.append_ #[t,t] ty #[.slice none 0 0,.slice (some ⟨b,o,none⟩) m.length C]).run P w=.ok p w'->l.length=0->Value.blk p=some w.heap.size:=λh h0=>by
  have E:=run_append_nil (P:=P) w t ty e i z J.h hi T ⟨b,o,none⟩ m.length C (Ac m) (by rw[I,y]) c (by omega) (by simp only[maxLen]at S;omega) (by rw[A];have hb:=hb;rw[h0,JO]at hb;omega);rw[E]at h;cases h;rfl
 have f:∀(a:Addr) (n cap:Nat) (xs:List Value),xs.length=n*i.size->(∀j u,xs[j]? = some u->w.cell? (a.add j)=some u)->cap<n+m.length->n=l.length ->
   (Builtin.append_ #[t,t] ty #[.slice (some a) n cap,.slice (some ⟨b,o,none⟩) m.length C]).run P w=.ok p w'->Value.blk p=some w.heap.size:=λa n cap xs Z h2 h3 h4 h=>by
  subst h4
  have E:=run_append_grow (P:=P) w t ty e i z J.h hi T a l.length cap xs Z h2 ⟨b,o,none⟩ m.length C (Ac m) (by rw[I,y]) c (by omega) (by simp only[maxLen]at S;omega)
   (by rw[A];exact growslice_fits (by omega) hb)
  rw[E]at h;cases h;rfl
 rcases H with⟨rfl,a,rfl⟩|H
 ·cases a with
  |none=>exact .inr (nil h rfl)
  |some a=>exact .inr (f a 0 0 [] (by simp) (by simp) (by omega) rfl h)
 ·rcases H.2 with⟨rfl,hn⟩|⟨g,cap,F,rfl,a0,hg,a1,a2,Q,R⟩
  ·exact .inr (nil h hn)
  ·by_cases d:l.length+m.length<=cap
   ·left;have G:l.length*i.size+(Ac m).length<=F.size:=by rw[I,Q,y,<-Jo];exact Ji _ d
    have E:=run_append_room (P:=P) w t ty e i J.h hi g l.length cap F hg ⟨b,o,none⟩ m.length C (Ac m) (by rw[I,y]) c (UY m) d G;rw[E]at h;cases h;rfl
   ·exact .inr (f ⟨g,0,none⟩ l.length cap (Ac l) (by rw[KZ,y]) (λj u O=>(H.cells (g:=g) rfl) j u O) (by omega) rfl h)
theorem GB{t ty e:TypeId}{z:Value}{sz c:Nat}[g:DQ P t e][h:AX P e z sz c]{v x:Value}{l m:List α}(b:AK.sz α=sz/\z.cells.size=sz)
  (o:AD B e w v l)(p:AQ w x m)(f:m≠[])(r:B<=w.heap.size)(hb:(l.length+m.length)*c<=140737488355328/\l.length+m.length<=9223372036854775807)
  (y:∀d w',AD B e w' d (l++m)->Fr (AV B v) w w'->(Value.blk d=Value.blk v\/Value.blk d=some w.heap.size)->k d w'):AI P (Builtin.append_ #[t,t] ty #[v,x]) k pn w:=by
 obtain⟨d,w',q,A,C⟩:=Yf (ty:=ty) g h b.1 b.2 o p hb.1 (by unfold maxLen;omega) r;exact AI.of q (y _ _ A C (zPU g h b.1 o p f hb.1 (by unfold maxLen;omega) q))
end
abbrev Cm (X:Nat->Prop) (B:Nat) (es:List TypeId) (w w':World):Prop:=Fr (λi=>X i\/Ty B es w i) w w'
theorem Cm.refl(X:Nat->Prop)(B:Nat)(es:List TypeId)(w:World):Cm X B es w w:=Fr.refl _ w
theorem Cm.trans{X:Nat->Prop}{es:List TypeId}{a b c:World}(h:Cm X B es a b)(k:Cm X B es b c):Cm X B es a c:=by
 refine⟨k.os.trans h.os,k.tape.trans h.tape,k.output.trans h.output,Qw h.size k.size,λi hi hd=>?_,λi o hi d=>k.nc i o (h.nc i o hi d) d⟩;have e:=h.block i hi hd;rw[k.block i (QJ hi h.size) (λf=>hd (f.imp id λ⟨g,o,t,l,p⟩=>⟨g,o,t,by simp_all⟩)),e]
theorem BQ.x{X:Nat->Prop}{B':Nat}{es c:List TypeId}{a b:World}(h:BQ B es a b)(d:B'<=B)(f:∀e∈es,e∈c):Cm X B' c a b:=Fr.mono (BQ.mono h d f) λ_ _ h=>.inr h
theorem Cm.ext{X:Nat->Prop}{es:List TypeId}{a b:World}(h:Bp a b):Cm X B es a b:=h.fr
theorem Cm.st{X:Nat->Prop}{es:List TypeId}{a b c:World}(h:Bp a b)(k:Cm X B es b c)(d:a.heap.size<=B)(e:∀i,X i->a.heap.size<=i):Bp a c:=Fr.st h k λi hi=>hi.elim (e i) λhi=>Qw d hi.1
theorem Bk.keptX{X:Nat->Prop}{es:List TypeId}{b:Nat}{cs:List Value}{e:TypeId}(k:Bk w b cs e)(f:Cm X B es w w')(c:¬X b)(d:e∉es):Bk w' b cs e:=
 k.fr f λhd=>hd.elim c λhd=>d (hd.cells k.h)
section
variable {α:Type} [AK α]
theorem AD.keptX{X:Nat->Prop}{C:Nat}{es:List TypeId}{e:TypeId}{v:Value}{l:List α}(h:AD C e w v l)(f:Cm X B es w w')(d:∀g,C<=g->Value.blk v=some g->¬X g)(o:e∉es):AD C e w' v l:=by
 rcases h with h|h
 ·exact .inl h
 ·refine .inr ⟨h.1,?_⟩;rcases h.2 with p|⟨g,cap,b,rfl,hb,c,rest⟩
  ·exact .inl p
  ·exact .inr ⟨g,cap,b,rfl,hb,f.blk c λhd=>hd.elim (d g hb rfl) λhd=>o (hd.cells c),rest⟩
theorem Bh.keptX{X:Nat->Prop}{e:TypeId}{es:List TypeId}{v:Value}{l:List α}(h:Bh e w v l)(f:Cm X B es w w')(b:∀g,Value.blk v=some g->¬X g)(c:e∉es):Bh e w' v l:=
 h.fr f λg _ _ d o hd=>hd.elim (b g d) λhd=>c (hd.cells o)
theorem AD.wroteX{X:Nat->Prop}{C:Nat}{es:List TypeId}{e:TypeId}{v:Value}{l:List α}(_:AD C e w v l)(f:Fr (AV C v) w w')(b:∀g,Value.blk v=some g->X g):Cm X B es w w':=
 Fr.mono f λi _ hd=>.inl (b i hd.2.1)
theorem Bh.blkN{e:TypeId}{v:Value}{l:List α}(h:Bh e w v l)(c:l≠[]):∃g,Value.blk v=some g/\g<w.heap.size:=by
 rcases h.2 with h|⟨b,cs,z,hb,d⟩
 ·exact absurd h c
 ·exact⟨b,hb,Ad d⟩
theorem Bh.frN{e:TypeId}{v:Value}{l:List α}(h:Bh e w v l)(f:Fr D w w')(hd:∀g,l≠[]->Value.blk v=some g->¬D g):Bh e w' v l:=by
 by_cases b:l=[]
 ·subst b;obtain⟨a,c,rfl,d,_⟩:=h.1;exact⟨⟨a,c,rfl,d,.inl rfl⟩,.inl rfl⟩
 ·exact h.fr f λg _ _ o _=>hd g b o
end
section
variable {P:Program} {kt:TypeId} {κ:Type} [DecidableEq κ] [M:Em P kt κ] {k:KW} {pn:PW} {w:World}
theorem SX{o:Oper}{F:Nat->Value}{t:TypeId}(c:o.op=.makeMap t none)(d:∀b w',Nx w w' b->BO P kt w' b ([]:List (κ×Value))->k (.map (some b)) w'):DT P (execOp (ev F) o) k pn w:=by
 have e:(execOp (ev F) o).run P w=.ok (.value (.map (some w.heap.size))) (w.alloc (.map #[] 0)):=by
  unfold execOp;simp only[c];rfl
 rw[Si,e];exact d _ _ (Nx.mk' w _) ⟨⟨#[],0,heap_alloc_new w _,rfl⟩,.nil⟩
end
structure Za {κ:Type} (val:κ->Value) (Z:List (MapEntry×(κ×Value))) (c:Nat):Prop where
 ent:∀z∈Z,z.1.key=val z.2.1/\z.1.val=z.2.2
 nd:(Z.map (·.1.born)).Nodup
 lt:∀z∈Z,z.1.born<c
theorem lS{κ:Type}{val:κ->Value}:∀{es:List MapEntry} {m:List (κ×Value)},Fp val es m->∃Z:List (MapEntry×(κ×Value)),Z.map (·.1)=es/\Z.map (·.2)=m/\∀z∈Z,z.1.key=val z.2.1/\z.1.val=z.2.2
 |[],m,h=>by rw[Xt h];exact⟨[],rfl,rfl,by simp⟩
 |e::es,m,h=>by
  obtain⟨k,r,rfl,c,d⟩:=bV h;obtain⟨Z,f,g,l⟩:=lS d;refine⟨(e,(k,e.val))::Z,by simp[f],by simp[g],λz b=>?_⟩;rcases Ql.1 b with rfl|b
  ·exact⟨c,rfl⟩
  ·exact l z b
theorem sZ{κ:Type}(s:Array Nat):∀{Z:List (MapEntry×(κ×Value))} {z:MapEntry×(κ×Value)},(Z.map (·.1.born)).Nodup->z∈Z->s.contains z.1.born=false ->
  (z::Z.filter λy=>!(s.push z.1.born).contains y.1.born).Perm (Z.filter λy=>!s.contains y.1.born)
 |[],z,_,c,_=>by simp at c
 |y::T,z,f,c,l=>by
  rw[QS,JC]at f
  have b:∀q:Nat,(s.push z.1.born).contains q=(s.contains q || q==z.1.born):=λq=>by
   rw[Bool.eq_iff_iff];simp[Array.mem_push]
  rcases Ql.1 c with rfl|c
  ·have p:T.filter (λy=>!(s.push z.1.born).contains y.1.born)=T.filter λy=>!s.contains y.1.born:=by
    apply List.filter_congr;intro y g;have d:y.1.born≠z.1.born:=λe=>f.1 (e ▸ Qq.2 ⟨y,g,rfl⟩);rw[b];simp[d]
   rw[Jw (by rw[b];simp),JL (by rw[l];rfl),p]
  ·have o:=sZ s f.2 c l;have d:y.1.born≠z.1.born:=λe=>f.1 (e ▸ Qq.2 ⟨z,c,rfl⟩);by_cases g:s.contains y.1.born=true
   ·rw[Jw (by simp_all),Jw (by rw[g];simp)];exact o
   ·have h:s.contains y.1.born=false:=by simpa using g
    rw[JL (by simp_all),JL (by rw[h];rfl)];exact(List.Perm.swap y z _).trans (o.cons y)
section
variable {P:Program} {kt:TypeId} {κ:Type} [DecidableEq κ] [M:Em P kt κ] {k:KW} {pn:PW} {w:World}
def Cy (P:Program) (t:TypeId) {κ:Type} [DecidableEq κ] [M:Em P t κ] (w:World) (b:Nat) (m:List (κ×Value)):Prop:=
 (∃es c,w.heap[b]? = some (.map es c)/\Fp M.val es.toList m/\(es.toList.map (·.born)).Nodup/\∀x∈es.toList,x.born<c)/\(m.map (·.1)).Nodup
theorem Cy.l{b:Nat}{m:List (κ×Value)}(h:Cy P kt w b m):BO P kt w b m:=by
 obtain⟨⟨es,c,d,e,_⟩,f⟩:=h;exact⟨⟨es,c,d,e⟩,f⟩
theorem Cy.fr{w:World}{b:Nat}{m:List (κ×Value)}(h:Cy P kt w b m)(f:Fr D w w')(hd:¬D b):Cy P kt w' b m:=by
 obtain⟨⟨es,c,d,e⟩,g⟩:=h;exact⟨⟨es,c,f.blk d hd,e⟩,g⟩
theorem Cy.up{w:World}[L:Le w w']{b:Nat}{m:List (κ×Value)}(h:Cy P kt w b m):Cy P kt w' b m:=h.fr L.e id
theorem K0{o:Oper}{F:Nat->Value}{t:TypeId}(c:o.op=.makeMap t none)(d:∀b w',Nx w w' b->Cy P kt w' b ([]:List (κ×Value))->k (.map (some b)) w'):DT P (execOp (ev F) o) k pn w:=by
 have e:(execOp (ev F) o).run P w=.ok (.value (.map (some w.heap.size))) (w.alloc (.map #[] 0)):=by
  unfold execOp;simp only[c];rfl
 rw[Si,e];exact d _ _ (Nx.mk' w _) ⟨⟨#[],0,heap_alloc_new w _,rfl,by simp,by simp⟩,.nil⟩
theorem zU{t e:TypeId}(O:EL P t kt e){b:Nat}{m:List (κ×Value)}(h:Cy P kt w b m)(x:κ)(v:Value):
  ∃w',(Instr.mapUpdate t (.map (some b)) (M.val x) v).run P w=.ok () w'/\Cy P kt w' b (CW x v m)/\Fr (λi=>i=b) w w'/\w'.heap.size=w.heap.size:=by
 obtain⟨⟨es,c,hb,hE,o,d⟩,H⟩:=h;have AY:=Ad hb;unfold Instr.mapUpdate;simp only[Qo,Om O.h,Qh,dV hb,M.check,M.find x _ m w hE]
 cases I:DE x m 0 with
 |none =>
  have E:=(aZ x v m 0 I).1;simp only[Ws _ hb];refine⟨_,rfl,⟨⟨_,_,IN AY _,?_,?_,?_⟩,Wl x v m H⟩,II hb _,by simp⟩
  ·rw[E];unfold Fp at *;simp[hE]
  ·rw[Array.toList_push,QB,JU];refine⟨o,by simp,λa Q q R=>?_⟩;obtain⟨y,f,rfl⟩:=Qq.1 Q;have:=d y f;simp at R;omega
  ·intro y f;rw[Array.toList_push]at f;rcases Qf.1 f with f|f
   ·have:=d y f;omega
   ·rw[Qc.1 f];exact Nat.lt_succ_self c
 |some p =>
  obtain⟨i,S⟩:=p;have E:=cS x v m 0 i S I;obtain⟨_,J,K,_⟩:=E;rw[JF]at J K
  have r:((es[i]?).map (·.key)).getD (M.val x)=M.val x:=by
   have C:=congrArg (λl=>l[i]?) hE;simp only[QK,J,JD]at C
   cases T:es[i]? with
   |none=>rfl
   |some L =>
    have F:es.toList[i]? = some L:=by simpa using T
    rw[F]at C;simp only[JD,JK,Xm]at C;simp[C.1]
  have g:(Instr.keyThatStays (((es[i]?).map (·.key)).getD (M.val x)) (M.val x)).run P w=.ok (M.val x) w:=by
   rw[r];unfold Instr.keyThatStays;rw[if_pos (M.same x)];rfl
  simp only[Qo,g,Qh,Ws _ hb]
  have A:∀(es:List MapEntry) (i:Nat),(es.modify i (λe=>{ e with key:=M.val x,val:=v })).map (·.born)=es.map (·.born):=λes i=>by
   apply Vl;intro j;simp only[QK,List.getElem?_modify]
   cases es[j]? with
   |none=>rfl
   |some L=>by_cases G:i=j<;>simp[G]
  refine⟨_,rfl,⟨⟨_,_,IN AY _,?_,?_,?_⟩,Wl x v m H⟩,II hb _,by simp⟩
  ·rw[K,Xr];exact tE hE i x v _ λe=>rfl
  ·rw[Xr,A];exact o
  ·intro y f;rw[Xr]at f;have:y.born∈es.toList.map (·.born):=by rw[<-A es.toList i];exact Qq.2 ⟨y,f,rfl⟩
   obtain⟨z,U,V⟩:=Qq.1 this;have:=d z U;omega
theorem Cv{t e:TypeId}[d:EL P t kt e]{b:Nat}{m:List (κ×Value)}{c v:Value}(h:Cy P kt w b m)(x:κ)(f:c=M.val x)
  (g:∀w',Cy P kt w' b (CW x v m)->Fr (λi=>i=b) w w'->w'.heap.size=w.heap.size->k undef w'):Ed P (Instr.mapUpdate t (.map (some b)) c v) k pn w:=by
 subst f;obtain⟨w',l,o,p,q⟩:=zU d h x v;exact Ed.of l (g w' o p q)
def Iu (P:Program) (t:TypeId) {κ:Type} [DecidableEq κ] [M:Em P t κ] (w:World) (r b:Nat) (rest:List (κ×Value)):Prop:=
 ∃(Z:List (MapEntry×(κ×Value))) (c:Nat) (s:Array Nat),Za M.val Z c/\w.heap[b]? = some (.map (Z.map (·.1)).toArray c)/\w.heap[r]? = some (.mapIter (some b) c s c)/\(Z.filter λz=>!s.contains z.1.born).map (·.2)=rest
def cJ (P:Program) (t:TypeId) {κ:Type} [DecidableEq κ] [M:Em P t κ] (w:World) (r b:Nat) (rest:List (κ×Value)) (x:κ) (v:Value):Prop:=
 ∃(Z:List (MapEntry×(κ×Value))) (c:Nat) (s:Array Nat) (z:MapEntry×(κ×Value)),Za M.val Z c/\w.heap[b]? = some (.map (Z.map (·.1)).toArray c)/\w.heap[r]? = some (.mapIter (some b) c (s.push z.1.born) c)/\z∈Z/\z.2=(x,v)/\(Z.filter λy=>!(s.push z.1.born).contains y.1.born).map (·.2)=rest
theorem cJ.b{r b:Nat}{rest:List (κ×Value)}{x:κ}{v:Value}(h:cJ P kt w r b rest x v):Iu P kt w r b rest:=by
 obtain⟨Z,c,s,z,d,e,f,_,_,g⟩:=h;exact⟨Z,c,_,d,e,f,g⟩
theorem Iu.fr{w:World}{r b:Nat}{rest:List (κ×Value)}(h:Iu P kt w r b rest)(f:Fr D w w')(d:¬D r)(hb:¬D b):Iu P kt w' r b rest:=by
 obtain⟨Z,c,s,e,g,l,o⟩:=h;exact⟨Z,c,s,e,f.blk g hb,f.blk l d,o⟩
theorem Iu.up{w:World}[L:Le w w']{r b:Nat}{rest:List (κ×Value)}(h:Iu P kt w r b rest):Iu P kt w' r b rest:=h.fr L.e id id
theorem Ix{t e:TypeId}[l:EL P t kt e]{b:Nat}{m:List (κ×Value)}(h:Cy P kt w b m)(o:∀r w',Nx w w' r->Iu P kt w' r b m->Cy P kt w' b m->k (.pointer (some ⟨r,0,none⟩)) w'):AI P (Instr.range t (.map (some b))) k pn w:=by
 have p:=h;obtain⟨⟨es,c,hb,hE,d,AY⟩,_⟩:=h;obtain⟨Z,f,q,v⟩:=lS hE;have n:=Nx.mk' w (.mapIter (some b) c #[] c);have g:(w.alloc (.mapIter (some b) c #[] c)).heap[b]? = some (.map es c):=Fr.blk n.e hb nf;have x:(Z.map (·.1)).toArray=es:=by rw[f]
 refine AI.of (run_range_map w t kt e b es c l.h hb) (o _ _ n ⟨Z,c,#[],⟨v,?_,λz y=>AY _ (f ▸ Qq.2 ⟨z,y,rfl⟩)⟩,by rw[x];exact g,heap_alloc_new w _,?_⟩ (p.fr n.e id))
 ·have:=d;rw[<-f,VM]at this;exact this
 ·rw[JH.2 (by simp)];exact q
theorem LM{ty:TypeId}{r b:Nat}{rest:List (κ×Value)}(h:Iu P kt w r b rest)(h0:rest=[]->k (.tuple #[.bool false]) w)
  (S:∀x v d w',((x,v)::d).Perm rest->cJ P kt w' r b d x v->Fr (λi=>i=r) w w'->w'.heap.size=w.heap.size->k (.tuple #[.bool true,M.val x,v]) w'):
  AI P (Instr.next (.pointer (some ⟨r,0,none⟩)) false ty) k pn w:=by
 obtain⟨Z,c,s,E,hb,q,g⟩:=h
 have Q:(leftOf (Z.map (·.1)).toArray s).toList=(Z.filter λz=>!s.contains z.1.born).map (·.1):=by
  unfold leftOf;rw[Array.toList_filter,List.filter_map];rfl
 rcases run_next_at (P:=P) w ty r b c c s (Z.map (·.1)).toArray c q hb (λx T=>by
   have F:x∈Z.map (·.1):=by simpa using T
   obtain⟨z,G,rfl⟩:=Qq.1 F;exact E.lt z G) (Qe _) with⟨hs,hrun⟩|⟨e,he,w1,hw1,hrun⟩
 ·refine AI.of hrun (h0 ?_);have R:((Z.filter λz=>!s.contains z.1.born).map (·.1)).length=0:=by rw[<-Q];simpa using hs
  rw[<-g];rw[Qr]at R;rw[Qn R];rfl
 ·rw[Q]at he;obtain⟨z,G,rfl⟩:=Qq.1 he;have p:=QC.1 G;have H:s.contains z.1.born=false:=by simp_all
  have l:=E.ent z p.1;have I:r<w1.heap.size:=by rcases hw1 with rfl|rfl<;>exact Ad q
  have J:b≠r:=by rintro rfl;rw[hb]at q;cases q
  have K:w1.heap[b]? = some (.map (Z.map (·.1)).toArray c):=by rcases hw1 with rfl|rfl<;>exact hb
  have U:w1.heap[r]? = some (.mapIter (some b) c s c):=by rcases hw1 with rfl|rfl<;>exact q
  have f:Fr (λi=>i=r) w (ChangeMaps.setBlock w1 r (.mapIter (some b) c (s.push z.1.born) c)):=by
   have t:w1.heap=w.heap:=by rcases hw1 with rfl|rfl<;>rfl
   have A:w1.os=w.os/\w1.tape=w.tape/\w1.output=w.output:=by rcases hw1 with rfl|rfl<;>exact⟨rfl,rfl,rfl⟩
   refine⟨A.1,A.2.1,A.2.2,by simp[ChangeMaps.setBlock,t],λi _ hi=>?_,λi o hi A=>?_⟩
   ·simp only[ChangeMaps.setBlock];rw[Va (Jq hi),t]
   ·simp only[ChangeMaps.setBlock];rw[Va,t]
    ·exact hi
    ·rintro rfl;rw[q]at hi;cases hi;cases A
  have L:(ChangeMaps.setBlock w1 r (.mapIter (some b) c (s.push z.1.born) c)).heap.size=w.heap.size:=by
   have t:w1.heap=w.heap:=by rcases hw1 with rfl|rfl<;>rfl
   simp[ChangeMaps.setBlock,t]
  have V:=sZ s E.nd p.1 H;have C:=V.map (·.2);rw[g]at C;have O:((z.2.1,z.2.2)::(Z.filter λy=>!(s.push z.1.born).contains y.1.born).map (·.2)).Perm rest:=C
  have:=S z.2.1 z.2.2 ((Z.filter λy=>!(s.push z.1.born).contains y.1.born).map (·.2)) _ O
   ⟨Z,c,s,z,E,by simp only[ChangeMaps.setBlock];rw[Va (Jq J)];exact K,by simp[ChangeMaps.setBlock,I],p.1,rfl,rfl⟩ f L
  rw[l.1,l.2]at hrun;exact AI.of hrun this
theorem Iw{r b:Nat}{rest:List (κ×Value)}{x:κ}{v:Value}(h:cJ P kt w r b rest x v)(o:k (.tuple #[M.val x,v]) w):AI P (Instr.entry (.pointer (some ⟨r,0,none⟩))) k pn w:=by
 obtain⟨Z,c,s,z,g,hb,p,l,f,_⟩:=h;have d:=g.ent z l
 have e:=run_entry_at (P:=P) w r b c s (Z.map (·.1)).toArray c z.1 p hb (show z.1∈Z.map (·.1) from Qq.2 ⟨z,l,rfl⟩) (by
  have:=g.nd;rw[show(Z.map (·.1)).toArray.toList=Z.map (·.1) from rfl,VM];exact this)
 rw[d.1,d.2,f]at e;exact AI.of e o
end
class LT (P:Program) (t:TypeId):Prop where
 h:P.underlying t=some .string
class Gj (P:Program) (t:TypeId) (kd:outParam IntKind):Prop where
 h:P.underlying t=some (.int kd)
instance:AK UInt8:=⟨1,λx=>[.int .u8 x.toNat],λ_=>rfl,by intro x u hu;simp at hu;subst hu;rfl,by decide⟩
section
variable {P:Program} {k:KW} {pn:PW} {w:World}
theorem sM{t:TypeId}(d:LT P t){s:ByteArray}{c:UInt8}(hi:s.data.toList[i]? = some c)(w:World):(Instr.index t (.string s) (.int .i64 i)).run P w=.ok (.int .u8 c.toNat) w:=by
 have b:i<s.size:=by
  have:=(Qy.1 hi).1;simpa using this
 have e:s[i]? = some c:=by
  rw[getElem?_pos s i b];have f:=(Qy.1 hi).2;rw[<-f];rfl
 unfold Instr.index;simp only[asIntOf,Qo,Jd,Qh,Om d.h];have h0:(0:Int)<=(i:Int):=by omega
 rw[if_pos h0,QW,e];rfl
theorem FT{t:TypeId}[b:LT P t]{s:ByteArray}{c:UInt8}(hi:s.data.toList[i]? = some c)(d:k (.int .u8 c.toNat) w):AI P (Instr.index t (.string s) (.int .i64 i)) k pn w:=AI.of (sM b hi w) d
theorem ZW{t:TypeId}[b:LT P t]{k:Value->Prop}{s:ByteArray}{c:UInt8}(hi:s.data.toList[i]? = some c)(d:k (.int .u8 c.toNat)):Ar P (Instr.index t (.string s) (.int .i64 i)) D k w:=by
 rw[Iv];exact⟨_,λw' _=>sM b hi w',d⟩
theorem oO{s d:TypeId}{kd b c:IntKind}(e:Gj P s b)(hd:Gj P d kd)(n:Int)(w:World):(convert s d (.int c n)).run P w=.ok (.int kd (kd.wrap n)) w:=by
 unfold convert;simp only[Qo,Om e.h,Om hd.h,Qh,Conv.intToInt,Jd]
theorem Yt{s d:TypeId}{kd b c:IntKind}[e:Gj P s b][hd:Gj P d kd]{n:Int}(f:k (.int kd (kd.wrap n)) w):AI P (convert s d (.int c n)) k pn w:=AI.of (oO e hd n w) f
theorem vC{t:TypeId}{x y:Operand}(a b:ByteArray)(h:a.size+b.size<=9223372036854775807)(w:World):(do eqGuard .add t x y (.string a) (.string b);binOp .add t (.string a) (.string b):Sem Value).run P w=.ok (.string (a++b)) w:=by
 rw[Qo,kI,Qh]
 have c:¬(((a.size+b.size:Nat):Int) > IntKind.i64.max):=by
  have:IntKind.i64.max=9223372036854775807:=by decide
  rw[this];omega
 unfold binOp;simp only[Op.stringOp,if_neg c];rfl
theorem Ic{t:TypeId}{x y:Operand}{a b:ByteArray}(h:a.size+b.size<=9223372036854775807)(c:k (.string (a++b)) w):AI P (do eqGuard .add t x y (.string a) (.string b);binOp .add t (.string a) (.string b)) k pn w:=AI.of (vC a b h w) c
theorem mG{t:TypeId}(b:LT P t){s:ByteArray}{lo:Nat}(c:lo<=hi)(d:hi<=s.size)(w:World):(Instr.sliceAt t (.string s) (some (.int .i64 lo)) (some (.int .i64 hi)) none).run P w=.ok (.string (s.extract lo hi)) w:=by
 have e:(0:Int)<=(lo:Int)/\(lo:Int)<=(hi:Int):=by omega
 have f:(0:Int)<=(hi:Int)/\(hi:Int)<=(s.size:Int):=by omega
 unfold Instr.sliceAt;simp only[Qo,Om b.h,Qh];unfold Instr.slice;simp[Qo,Om b.h,Qh,Instr.sliceBounds,Instr.sliceBound,asIntOf,e,f];rw[if_pos d,if_pos c]
theorem eY{t:TypeId}[b:LT P t]{s:ByteArray}{lo:Nat}{x y:Value}(c:x=.int .i64 lo)(d:y=.int .i64 hi)(e:lo<=hi)(f:hi<=s.size)(g:k (.string (s.extract lo hi)) w):AI P (Instr.sliceAt t (.string s) (some x) (some y) none) k pn w:=by
 subst c d;exact AI.of (mG b e f w) g
theorem kH{t:TypeId}[b:LT P t]{k:Value->Prop}{s:ByteArray}{lo:Nat}{x y:Value}(c:x=.int .i64 lo)(d:y=.int .i64 hi)(e:lo<=hi)(f:hi<=s.size)(g:k (.string (s.extract lo hi))):Ar P (Instr.sliceAt t (.string s) (some x) (some y) none) D k w:=by
 subst c d;rw[Iv];exact⟨_,λw' _=>mG b e f w',g⟩
theorem zQe(l:U8):Ac l=(l.map λc=>(c.toNat:Int)).map (Value.int .u8):=by
 induction l with
 |nil=>rfl
 |cons x r b=>rw[DS,b];rfl
theorem yO:∀(l:U8) (s:ByteArray),(l.map λc=>(c.toNat:Int)).foldl (λr n=>r.push (UInt8.ofNat n.toNat)) s=⟨s.data++l.toArray⟩:=by intro a;induction a<;>simp_all
theorem zPr{s d e:TypeId}(r:P.underlying s=some (.slice e))(t:P.underlying e=some (.int .u8))(hd:P.underlying d=some .string){c:Nat}{l:U8}(h:AQ w (.slice a n c) l):
  (convert s d (.slice a n c)).run P w=.ok (.string ⟨l.toArray⟩) w:=by
 obtain rfl:=h.len;rw[run_convert_bytes_string w s d e a _ c r t hd]
 have p:∀f:Addr,(∀j u,(Ac l)[j]? = some u->w.cell? (f.add j)=some u)->(Conv.bytesToString (.slice (some f) l.length c)).run P w=.ok (.string ⟨l.toArray⟩) w:=λf g=>by
  have v:(Ac l).length=l.length:=by rw[KZ];exact Xq _
  have q:=run_loadCells_list (P:=P) (w:=w) f (Ac l) g;rw[v,zQe]at q;rw[run_bytesToString w f l.length c _ q,yO];have x:ByteArray.empty.data++l.toArray=l.toArray:=by simp
  rw[x]
 obtain⟨C,E,y,F,z⟩:=h;cases y;rcases z with rfl|⟨b,o,rfl,g⟩
 ·cases a with
  |none=>rfl
  |some f=>exact p f (by simp)
 ·exact p ⟨b,o,none⟩ λj u A=>by rw[Oj];exact g j u A
class aL (P:Program) (s d:TypeId):Prop where
 e:∃e,P.underlying s=some (.slice e)/\P.underlying e=some (.int .u8)
 d:P.underlying d=some .string
theorem RV{s d:TypeId}[hb:aL P s d]{c:Nat}{l:U8}(h:AQ w (.slice a n c) l)(b:k (.string ⟨l.toArray⟩) w):AI P (convert s d (.slice a n c)) k pn w:=by
 obtain⟨e,f,g⟩:=hb.e;exact AI.of (zPr f g hb.d h) b
theorem zQD{X Y:Operand}{t:TypeId}{x y:Int}(d:0<=y/\y<64)(w:World):(do eqGuard .shl t X Y (.int .i64 x) (.int .i64 y);binOp .shl t (.int .i64 x) (.int .i64 y):Sem Value).run P w=.ok (.int .i64 (IntKind.i64.wrap (x*2 ^ y.toNat))) w:=by
 have g:(eqGuard .shl t X Y (.int .i64 x) (.int .i64 y)).run P w=.ok () w:=rfl;rw[Qo,g,Qh];have b:¬y<0:=by omega
 have c:min y.toNat IntKind.i64.bits=y.toNat:=by
  have:IntKind.i64.bits=64:=rfl;rw[this];omega
 simp only[binOp,Op.shift,if_neg b,c];rfl
theorem fM{X Y:Operand}{t:TypeId}{x y z:Int}(c:0<=y/\y<64)(d:x*2 ^ y.toNat=z)(b:-9223372036854775808<=z/\z<=9223372036854775807)(e:k (.int .i64 z) w):AI P (do eqGuard .shl t X Y (.int .i64 x) (.int .i64 y);binOp .shl t (.int .i64 x) (.int .i64 y)) k pn w:=by
 have h:=zQD (P:=P) (X:=X) (Y:=Y) (t:=t) (x:=x) c w;rw[d,TR b.1 b.2]at h;exact AI.of h e
theorem Ut{X Y:Operand}{t:TypeId}{x y:Nat}(b:x<2 ^ i)(e:x+y*2 ^ i<9223372036854775808)(w:World):(do eqGuard .or t X Y (.int .i64 (x:Int)) (.int .i64 ((y*2 ^ i:Nat):Int));binOp .or t (.int .i64 (x:Int)) (.int .i64 ((y*2 ^ i:Nat):Int)):Sem Value).run P w=.ok (.int .i64 ((x+y*2 ^ i:Nat):Int)) w:=by
 have g:(eqGuard .or t X Y (.int .i64 (x:Int)) (.int .i64 ((y*2 ^ i:Nat):Int))).run P w=.ok () w:=rfl;rw[Qo,g,Qh];have hb:IntKind.i64.bits=64:=rfl
 have c:(BitVec.ofInt 64 (x:Int) ||| BitVec.ofInt 64 ((y*2 ^ i:Nat):Int)).toNat=x+y*2 ^ i:=by
  rw[BitVec.ofInt_natCast,BitVec.ofInt_natCast,BitVec.toNat_or,BitVec.toNat_ofNat,BitVec.toNat_ofNat,Yl (by omega),Yl (by omega),Nat.or_comm,<-Nat.shiftLeft_eq,<-Nat.shiftLeft_add_eq_or_of_lt b,Xv]
 have d:(binOp .or t (.int .i64 (x:Int)) (.int .i64 ((y*2 ^ i:Nat):Int))).run P w=.ok (.int .i64 (IntKind.i64.wrap ((BitVec.ofInt 64 (x:Int) ||| BitVec.ofInt 64 ((y*2 ^ i:Nat):Int)).toNat:Nat))) w:=rfl;rw[d,c,TR (by omega) (by omega)]
end
instance:Gj PP 3 .i64:=⟨by kernel_rfl⟩
instance:Gj PP 5 .u8:=⟨by kernel_rfl⟩
instance:LT PP 9:=⟨by kernel_rfl⟩
instance:aL PP 42 9:=⟨⟨5,by kernel_rfl,by kernel_rfl⟩,by kernel_rfl⟩
theorem HR{k:KW}{b:PW}{s d:TypeId}{kd c e:IntKind}[h:Gj P s c][hd:Gj P d kd]{n z:Int}(f:kd.wrap n=z)(g:k (.int kd z) w):AI P (convert s d (.int e n)) k b w:=Yt (f ▸ g)
theorem cV{x:Nat}(h:x<256):IntKind.u8.wrap (x:Int)=((UInt8.ofNat x).toNat:Int):=by
 have e:(UInt8.ofNat x).toNat=x:=by simp_all
 rw[e];unfold IntKind.wrap;simp[IntKind.bits,IntKind.signed];omega
abbrev Ag (l:U8):Value:=.string ⟨l.toArray⟩
def Rt (n:Int):Value:=if 0<=n/\n<=2147483647 then .tuple #[Ag (AL n.toNat),.int .i64 0] else .tuple #[Ag [],.int .i64 1]
def GC:U8->Prop
 |[]=>False
 |[c]=>c.toNat<128
 |c::d::r=>128<=c.toNat/\GC (d::r)
theorem E1.e:∀{l:U8},E1 l->GC l
 |[],h=>h.elim
 |[_],h=>h
 |_::_::_,h=>⟨h.1,E1.e h.2.1⟩
theorem GC.pre:∀{a b s t:U8},GC a->GC b->a++s=b++t->a=b/\s=t
 |[],_,_,_,h,_,_=>h.elim
 |_,[],_,_,_,h,_=>h.elim
 |[c],[d],s,t,_,_,e=>by simp_all
 |[c],d::d2::r,s,t,h,f,e=>by
  simp at e;have g:=f.1;simp only[GC]at h;rw[<-e.1]at g;omega
 |c::c2::r,[d],s,t,h,f,e=>by
  simp at e;have g:=h.1;simp only[GC]at f;rw[e.1]at g;omega
 |c::c2::r,d::d2::q,s,t,h,f,e=>by
  have l:c=d/\(c2::r)++s=(d2::q)++t:=by simpa using e
  have o:=GC.pre h.2 f.2 l.2;rw[l.1,o.1];exact⟨rfl,o.2⟩
theorem GC.snoc:∀{l:U8} {c:UInt8},(∀x∈l,128<=x.toNat)->c.toNat<128->GC (l++[c])
 |[],_,_,h=>h
 |[d],_,h,b=>⟨h d Qs,b⟩
 |d::e::r,_,h,b=>⟨h d Qs,GC.snoc (l:=e::r) (λx f=>h x (QF _ f)) b⟩
theorem GC.last:∀{l:U8},GC l->∃p c,l=p++[c]/\c.toNat<128
 |[],h=>h.elim
 |[c],h=>⟨[],c,rfl,h⟩
 |c::d::r,h=>by
  have b:=GC.last h.2;obtain⟨p,e,f,g⟩:=b;exact⟨c::p,e,by rw[f];rfl,g⟩
theorem lX:∀(l:U8) (c:UInt8),DB (l++[c])=DB l+128 ^ l.length*(c.toNat % 128)
 |[],c=>by simp[DB]
 |d::r,c=>by
  have b:=lX r c;simp only[VO,DB,b,QA,XS,Nat.mul_add];rw[Nat.mul_comm (128 ^ r.length) 128,Nat.mul_assoc];omega
theorem rZ:∀(l:U8),DB l<128 ^ l.length
 |[]=>by simp[DB]
 |d::r=>by
  have b:=rZ r;simp only[DB,QA,XS];omega
def FP (s:U8) (a n:Nat):Prop:=n<=2147483647/\∃t,s.drop a=AL n++t
theorem nR{l t:U8}{a:Nat}(hd:s.drop a=l++t)(d:GC l)(n:Nat):FP s a n↔n<=2147483647/\n=DB l/\AL n=l:=by
 constructor
 ·rintro⟨b,g,f⟩;have c:=GC.pre (Yo n).e d (f.symm.trans hd);exact⟨b,by rw[<-c.1,kP],c.1⟩
 ·rintro⟨b,_,c⟩;exact⟨b,t,by simp_all⟩
theorem yW{l t:U8}{a:Nat}(hd:s.drop a=l++t)(o:∀x∈l,128<=x.toNat)(h5:l.length=5\/t=[])(n:Nat):¬FP s a n:=by
 rintro⟨q,r,f⟩;have v:=(Yo n).e.last;obtain⟨p,c,y,A⟩:=v;have g:=LH q
 have d:(AL n).length<=l.length:=by
  rcases h5 with h|h
  ·omega
  ·have:=congrArg List.length (f.symm.trans hd);rw[h,Qb,Qb]at this;simp at this;omega
 have b:AL n <+: l:=by
  have e:=f.symm.trans hd;exact List.prefix_of_prefix_length_le ⟨r,rfl⟩ ⟨t,e.symm⟩ d
 have z:c∈l:=b.subset (by rw[y];simp);have:=o c z;omega
theorem Ph{α:Type}{l:List α}(h:k<l.length)(z:α):l.getD k z=l[k]:=by simp[h]
theorem below{p:Nat->Prop}(h:∀j,j<k->p j)(d:p k):∀j,j<k+1->p j:=λj e=>by
 have b:=QH j k;rcases b with c|c
 ·exact h j c
 ·have b:j=k:=by omega
  obtain rfl:=b;exact d
theorem Ul{p:(i:Nat)->i<n->Prop}(h:∀i,i<j->∀b:i<n,p i b)(e:∀b:j<n,p j b):∀i,i<j+1->∀b:i<n,p i b:=λi hi b=>by
 have c:=QH i j;rcases c with d|d
 ·exact h i d b
 ·have c:i=j:=by omega
  obtain rfl:=c;exact e b
structure Al where
 slot:Int
 dir:Int
 v:Int
deriving DecidableEq
structure Gc where
 key:Al
 n:Int
 used:Bool
def aI:Al:=⟨0,0,0⟩
def FQ:Gc:=⟨aI,0,false⟩
def GW (k:Al):Prop:=0<=k.slot/\k.slot<=1000/\(k.dir=0\/k.dir=1)/\0<=k.v/\k.v<200
instance (k:Al):Decidable (GW k):=by unfold GW;exact inferInstance
def UL (S:Nat) (k:Al):Int:=(k.slot*31+k.dir*17+k.v*7) % S
def Cd (S:Nat) (k:Al):Nat:=(UL S k).toNat
theorem mD{S:Nat}(b:0<S)(k:Al):Cd S k<S:=by
 unfold Cd UL;have c:=VT (k.slot*31+k.dir*17+k.v*7) (show(0:Int)<S by omega);have d:=Vs (k.slot*31+k.dir*17+k.v*7) (show(S:Int)≠0 by omega);omega
abbrev FSx:=Nat->Gc
def Dr (f:FSx) (i:Nat) (x:Gc):FSx:=λp=>if p=i then x else f p
theorem Aw(f:FSx)(i:Nat)(x:Gc):Dr f i x i=x:=if_pos rfl
theorem HE(f:FSx){p:Nat}(x:Gc)(h:p≠i):Dr f i x p=f p:=if_neg h
def On (S a d p:Nat):Prop:=p<S/\(a+d=p\/a+d=p+S)
structure Kh (S:Nat) (f:FSx):Prop where
 path:∀i,i<S->(f i).used=true->∃d,d<S/\On S (Cd S (f i).key) d i/\∀e p,e<d->On S (Cd S (f i).key) e p->(f p).used=true
 uniq:∀i j,i<S->j<S->(f i).used=true->(f j).used=true->(f i).key=(f j).key->i=j
def FE (S:Nat) (f:FSx) (k:Al) (i:Nat):Prop:=
 ∃d,d<S/\On S (Cd S k) d i/\(∀e p,e<d->On S (Cd S k) e p->(f p).used=true/\(f p).key≠k)/\((f i).used=true->(f i).key=k)
def K9 (S:Nat) (f:FSx) (k:Al) (n:Int):Prop:=∃i,i<S/\(f i).used=true/\(f i).key=k/\(f i).n=n
theorem K9.uniq{S:Nat}{f:FSx}(T:Kh S f){k:Al}{m n:Int}(h:K9 S f k m)(b:K9 S f k n):m=n:=by
 obtain⟨i,hi,u,e,rfl⟩:=h;obtain⟨j,c,u',d,rfl⟩:=b;rw[T.uniq i j hi c u u' (e.trans d.symm)]
theorem FE.lt{S:Nat}{f:FSx}{k:Al}(h:FE S f k i):i<S:=by obtain⟨d,_,h,_⟩:=h;exact h.1
theorem FE.has{S:Nat}{f:FSx}(T:Kh S f){k:Al}(h:FE S f k i){n:Int}:K9 S f k n↔(f i).used=true/\(f i).n=n:=by
 obtain⟨d,hd,hi,hb,g⟩:=h;constructor
 ·rintro⟨j,l,u,e,rfl⟩;have c:=T.path j l u;obtain⟨d',q,b,o⟩:=c;rw[e]at b o;have c:=VG d' d;rcases c with AY|rfl|AY
  ·exact absurd e (hb d' j AY b).2
  ·have:i=j:=by unfold On at hi b;omega
   subst this;exact⟨u,rfl⟩
  ·have p:=o d i AY hi;have:i=j:=T.uniq i j hi.1 l p u ((g p).trans e.symm);subst this;exact⟨u,rfl⟩
 ·rintro⟨u,rfl⟩;exact⟨i,hi.1,u,g u,rfl⟩
theorem Kh.put{S:Nat}{f:FSx}(T:Kh S f){k:Al}(h:FE S f k i)(n:Int):Kh S (Dr f i ⟨k,n,true⟩):=by
 have A:=h;obtain⟨d,hd,hi,hb,C⟩:=h
 have mono:∀p,(f p).used=true->(Dr f i ⟨k,n,true⟩ p).used=true:=λp o=>by
  by_cases e:p=i
  ·subst e;rw[Aw]
  ·rw[HE _ _ e];exact o
 have c:∀j,j<S->j≠i->(f j).used=true->(f j).key≠k:=λj r x u e=>by
  have:=(A.has T (n:=(f j).n)).1 ⟨j,r,u,e,rfl⟩;exact x (T.uniq j i r hi.1 u this.1 (e.trans (C this.1).symm))
 constructor
 ·intro j r u;by_cases e:j=i
  ·subst e;rw[Aw];exact⟨d,hd,hi,λe p y o=>mono p (hb e p y o).1⟩
  ·rw[HE _ _ e]at u ⊢;have E:=T.path j r u;obtain⟨d',F,G,H⟩:=E;exact⟨d',F,G,λe p y o=>mono p (H e p y o)⟩
 ·intro a b z q t v e;by_cases g:a=i<;>by_cases l:b=i
  ·rw[g,l]
  ·subst g;rw[Aw]at e;rw[HE _ _ l]at e v;exact absurd e.symm (c b q l v)
  ·subst l;rw[Aw]at e;rw[HE _ _ g]at e t;exact absurd e (c a z g t)
  ·rw[HE _ _ g,HE _ _ l]at e;rw[HE _ _ g]at t;rw[HE _ _ l]at v;exact T.uniq a b z q t v e
theorem K9.put{S:Nat}{f:FSx}(T:Kh S f){k:Al}(h:FE S f k i)(n:Int){d:Al}{m:Int}:K9 S (Dr f i ⟨k,n,true⟩) d m↔if d=k then m=n else K9 S f d m:=by
 have hi:=h.lt;by_cases e:d=k
 ·subst e;rw[if_pos rfl];have l:=T.put h n;constructor
  ·intro o;exact o.uniq l ⟨i,hi,by rw[Aw],by rw[Aw],by rw[Aw]⟩
  ·rintro rfl;exact⟨i,hi,by rw[Aw],by rw[Aw],by rw[Aw]⟩
 ·rw[if_neg e];constructor
  ·rintro⟨j,g,u,c,en⟩;have b:j≠i:=by rintro rfl;rw[Aw]at c;exact e c.symm
   rw[HE _ _ b]at u c en;exact⟨j,g,u,c,en⟩
  ·rintro⟨j,g,u,c,en⟩
   have b:j≠i:=by
    rintro rfl;obtain⟨_,_,_,_,p⟩:=h;exact e (c.symm.trans (p u))
   exact⟨j,g,by rw[HE _ _ b];exact u,by rw[HE _ _ b];exact c,by rw[HE _ _ b];exact en⟩
structure IC (S:Nat) (f:FSx) (g t:Nat):Prop where
 lt:g<S
 pos:1<=t
 gap:(f g).used=false
 path:∀i,i<S->(f i).used=true->∃d,d<S/\On S (Cd S (f i).key) d i/\(∀e p,e<d->On S (Cd S (f i).key) e p->p=g\/(f p).used=true)/\((∃s,1<=s/\s<t/\On S g s i)->∀e,e<d->¬On S (Cd S (f i).key) e g)
 run:∀s p,1<=s->s<t->On S g s p->(f p).used=true
 uniq:∀i j,i<S->j<S->(f i).used=true->(f j).used=true->(f i).key=(f j).key->i=j
theorem IC.start{S:Nat}{f:FSx}(T:Kh S f){g:Nat}(x:g<S):IC S (Dr f g FQ) g 1:=by
 refine⟨x,Qe _,by rw[Aw];rfl,λi hi u=>?_,λs p r t=>by omega,λi j hi y l o e=>?_⟩
 ·have q:i≠g:=by rintro rfl;rw[Aw]at u;cases u
  rw[HE _ _ q]at u ⊢;have z:=T.path i hi u;obtain⟨d,r,t,A⟩:=z;refine⟨d,r,t,λe p C E=>?_,λ⟨s,a,b,_⟩=>by omega⟩;by_cases v:p=g
  ·exact .inl v
  ·rw[HE _ _ v];exact .inr (A e p C E)
 ·have c:i≠g:=by rintro rfl;rw[Aw]at l;cases l
  have h:j≠g:=by rintro rfl;rw[Aw]at o;cases o
  rw[HE _ _ c,HE _ _ h]at e;rw[HE _ _ c]at l;rw[HE _ _ h]at o;exact T.uniq i j hi y l o e
theorem IC.keep{S:Nat}{f:FSx}{g t d:Nat}(G:IC S f g t)(hi:On S g t i)(F:t<S)(x:(f i).used=true)(hd:d<S)(y:On S (Cd S (f i).key) d i)(AY:d<t):IC S f g (t+1):=by
 refine⟨G.lt,by omega,G.gap,λj z u=>?_,λs p o q r=>?_,G.uniq⟩
 ·have l:=G.path j z u;obtain⟨d',o,q,A,C⟩:=l;refine⟨d',o,q,A,?_⟩;rintro⟨s,a,b,c⟩ e E v;have l:=QH s t;rcases l with h|h
  ·exact C ⟨s,a,h,c⟩ e E v
  ·have l:s=t:=by omega
   obtain rfl:=l;have:j=i:=by unfold On at c hi;omega
   subst this;unfold On at q y v hi;omega
 ·have l:=QH s t;rcases l with h|h
  ·exact G.run s p o h r
  ·have l:s=t:=by omega
   obtain rfl:=l;have:p=i:=by unfold On at r hi;omega
   subst this;exact x
theorem IC.move{S:Nat}{f:FSx}{g t d:Nat}(G:IC S f g t)(hi:On S g t i)(V:t<S)(H:(f i).used=true)(hd:d<S)(R:On S (Cd S (f i).key) d i)(T:t<=d):IC S (Dr (Dr f g (f i)) i FQ) i 1:=by
 have I:g≠i:=by have:=G.lt;unfold On at hi;have:=G.pos;omega
 have q:Dr (Dr f g (f i)) i FQ i=FQ:=Aw _ _ _;have r:Dr (Dr f g (f i)) i FQ g=f i:=by rw[HE _ _ I,Aw]
 have c:∀p,p≠g->p≠i->Dr (Dr f g (f i)) i FQ p=f p:=λp E z=>by rw[HE _ _ z,HE _ _ E]
 have AY:=G.lt;refine⟨hi.1,Qe _,by rw[q];rfl,λj U u=>?_,λs p E z=>by omega,λa b O hb A C e=>?_⟩
 ·have J:j≠i:=by rintro rfl;rw[q]at u;cases u
  by_cases F:j=g
  ·subst F;rw[r];have K:=G.path i hi.1 H;obtain⟨d',E,z,L,_⟩:=K;obtain rfl:d'=d:=by unfold On at z R;omega
   refine⟨d' - t,by omega,?_,λe p Q M=>?_,λ⟨s,a,b,_⟩=>by omega⟩
   ·unfold On at *;omega
   ·right;have h:p≠j:=by unfold On at *;omega
    have v:p≠i:=by unfold On at *;omega
    rw[c p h v];exact(L e p (by omega) M).resolve_left h
  ·rw[c j F J]at u ⊢;have K:=G.path j U u;obtain⟨d',E,z,L,_⟩:=K;refine⟨d',E,z,λe p Q M=>?_,λ⟨s,a,b,_⟩=>by omega⟩;by_cases v:p=i
   ·exact .inl v
   ·right;by_cases h:p=g
    ·subst h;rw[r];exact H
    ·rw[c p h v];exact(L e p Q M).resolve_left h
 ·have x:a≠i:=by rintro rfl;rw[q]at A;cases A
  have y:b≠i:=by rintro rfl;rw[q]at C;cases C
  by_cases l:a=g<;>by_cases o:b=g
  ·rw[l,o]
  ·subst l;rw[r]at e;rw[c b o y]at e C;exact absurd (G.uniq i b hi.1 hb H C e).symm y
  ·subst o;rw[r]at e;rw[c a l x]at e A;exact absurd (G.uniq a i O hi.1 A H e) x
  ·rw[c a l x,c b o y]at e;rw[c a l x]at A;rw[c b o y]at C;exact G.uniq a b O hb A C e
theorem IC.done{S:Nat}{f:FSx}{g t:Nat}(G:IC S f g t)(hi:On S g t i)(O:t<S)(r:(f i).used=false):Kh S f:=by
 have AY:=G.lt;have v:=G.pos;have l:g≠i:=by unfold On at hi;omega
 refine⟨λj o u=>?_,G.uniq⟩;have b:=G.path j o u;obtain⟨d,A,C,x,E⟩:=b;refine⟨d,A,C,λe p y z=>?_⟩;have b:=x e p y z;rcases b with rfl|h
 ·
  have F:j≠p:=by rintro rfl;rw[G.gap]at u;cases u
  have H:j≠i:=by rintro rfl;rw[r]at u;cases u
  obtain⟨s,q,I,J⟩:∃s,1<=s/\s<S/\On S p s j:=by
   have b:=QH p j;rcases b with h|h
   ·exact⟨j - p,by omega,by omega,o,by omega⟩
   ·exact⟨j+S - p,by omega,by omega,o,by omega⟩
  have b:=QH s t;rcases b with c|c
  ·exact absurd z (E ⟨s,q,c,J⟩ e y)
  ·have K:d=e+s:=by unfold On at *;omega
   have L:t≠s:=by rintro rfl;unfold On at *;omega
   have M:=x (e+t) i (by omega) (by unfold On at *;omega);rcases M with h|h
   ·exact absurd h.symm l
   ·rw[r]at h;cases h
 ·exact h
abbrev BV (R:List Gc):FSx:=λp=>R.getD p FQ
theorem SG{R:List Gc}(h:i<R.length)(x:Gc):BV (R.set i x)=Dr (BV R) i x:=by
 funext p;unfold BV Dr;simp only[Qk,Vw];by_cases e:p=i
 ·subst e;simp[h]
 ·rw[if_neg e,if_neg (Jq e)]
theorem UJ{R:List Gc}(h:i<R.length):BV R i=R[i]:=by unfold BV;simp[h]
def CK (R:List Gc):Nat:=R.countP (·.used)
theorem dK{R:List Gc}(h:i<R.length)(x:Gc):CK (R.set i x)+(if(BV R i).used then 1 else 0)=CK R+(if x.used then 1 else 0):=by
 unfold CK;rw[UJ h,List.countP_set h];have b:R[i].used=true->0<R.countP (·.used):=λc=>List.countP_pos_iff.2 ⟨R[i],Qa h,c⟩;cases c:R[i].used<;>simp only[c,if_true,Jt,if_false]<;>first|omega|(have:=b c;omega)
theorem nY{R:List Gc}(h:CK R<R.length):∃p,p<R.length/\(BV R p).used=false:=by
 have b:=Xw (∃p,p<R.length/\(BV R p).used=false);rcases b with c|c
 ·exact c
 ·exfalso
  have:CK R=R.length:=by
   unfold CK;rw[List.countP_eq_length];intro x d;have b:=QI.1 d;obtain⟨i,hi,rfl⟩:=b
   cases e:R[i].used with
   |true=>rfl
   |false=>exact absurd ⟨i,hi,by simp_all⟩ c
  omega
theorem zLQ{R:List Gc}{g:Nat}(o:g<R.length)(h:CK R<R.length)(e:(BV R g).used=true):∃s,1<=s/\s<R.length/\∃p,On R.length g s p/\(BV R p).used=false:=by
 have c:=nY h;obtain⟨p,d,b⟩:=c;have f:p≠g:=by rintro rfl;rw[e]at b;cases b
 have c:=QH g p;rcases c with l|l
 ·exact⟨p - g,by omega,by omega,p,⟨d,by omega⟩,b⟩
 ·exact⟨p+R.length - g,by omega,by omega,p,⟨d,by omega⟩,b⟩
open Classical in
noncomputable def GN (R:List Gc) (k:Al):Option Int:=if h:∃n,K9 R.length (BV R) k n then some h.choose else none
abbrev Hl (R:List Gc):Prop:=Kh R.length (BV R)
theorem WQ{R:List Gc}(T:Hl R){k:Al}{n:Int}:GN R k=some n↔K9 R.length (BV R) k n:=by
 unfold GN;split
 ·rename_i h;constructor
  ·intro e;injection e with e;rw[<-e];exact h.choose_spec
  ·intro e;rw[e.uniq T h.choose_spec]
 ·rename_i h;exact⟨λe=>(by cases e),λe=>absurd ⟨n,e⟩ h⟩
theorem iX{R:List Gc}(T:Hl R){M:Al->Option Int}(h:∀k n,K9 R.length (BV R) k n↔M k=some n):GN R=M:=by
 funext k
 cases b:M k with
 |some n=>exact(WQ T).2 ((h k n).2 b)
 |none =>
  cases c:GN R k with
  |none=>rfl
  |some n=>have:=(h k n).1 ((WQ T).1 c);rw[b]at this;cases this
theorem bX{R:List Gc}(T:Hl R){k:Al}(h:FE R.length (BV R) k i):GN R k=if(BV R i).used then some (BV R i).n else none:=by
 cases b:(BV R i).used with
 |true=>rw[if_pos rfl];exact(WQ T).2 ((h.has T).2 ⟨b,rfl⟩)
 |false =>
  rw[if_neg (by simp)]
  cases c:GN R k with
  |none=>rfl
  |some n=>have:=(h.has T).1 ((WQ T).1 c);rw[b]at this;cases this.1
theorem xR{R:List Gc}(T:Hl R){k:Al}(h:FE R.length (BV R) k i)(n:Int):
  Hl (R.set i ⟨k,n,true⟩)/\GN (R.set i ⟨k,n,true⟩)=(λb=>if b=k then some n else GN R b)/\CK (R.set i ⟨k,n,true⟩)=CK R+(if GN R k=none then 1 else 0):=by
 have hi:=h.lt
 have c:Hl (R.set i ⟨k,n,true⟩):=by
  unfold Hl;rw[Jc,SG hi];exact T.put h n
 refine⟨c,iX c λb m=>?_,?_⟩
 ·rw[Jc,SG hi,K9.put T h n];by_cases e:b=k
  ·rw[if_pos e,if_pos e];exact⟨λh=>by rw[h],λh=>by simp_all⟩
  ·rw[if_neg e,if_neg e];exact(WQ T).symm
 ·have:=dK hi ⟨k,n,true⟩;rw[bX T h];cases d:(BV R i).used
  ·rw[d]at this;simp at this ⊢;omega
  ·rw[d]at this;simp at this ⊢;omega
theorem K9.start{S:Nat}{f:FSx}(T:Kh S f){g:Nat}(d:g<S)(h:(f g).used=true){k:Al}{m:Int}:K9 S (Dr f g FQ) k m↔k≠(f g).key/\K9 S f k m:=by
 constructor
 ·rintro⟨j,c,u,e,en⟩;have b:j≠g:=by rintro rfl;rw[Aw]at u;cases u
  rw[HE _ _ b]at u e en;exact⟨λl=>b (T.uniq j g c d u h (e.trans l)),j,c,u,e,en⟩
 ·rintro⟨o,j,c,u,e,en⟩;have b:j≠g:=by rintro rfl;exact o e.symm
  exact⟨j,c,by rw[HE _ _ b];exact u,by rw[HE _ _ b];exact e,by rw[HE _ _ b];exact en⟩
theorem K9.move{S:Nat}{f:FSx}{g t:Nat}(G:IC S f g t)(hi:i<S)(d:g≠i)(x:(f i).used=true){k:Al}{m:Int}:K9 S (Dr (Dr f g (f i)) i FQ) k m↔K9 S f k m:=by
 have h:Dr (Dr f g (f i)) i FQ i=FQ:=Aw _ _ _;have l:Dr (Dr f g (f i)) i FQ g=f i:=by rw[HE _ _ d,Aw]
 have o:∀p,p≠g->p≠i->Dr (Dr f g (f i)) i FQ p=f p:=λp r v=>by rw[HE _ _ v,HE _ _ r]
 constructor
 ·rintro⟨j,q,u,e,en⟩;have b:j≠i:=by rintro rfl;rw[h]at u;cases u
  by_cases c:j=g
  ·subst c;rw[l]at u e en;exact⟨i,hi,u,e,en⟩
  ·rw[o j c b]at u e en;exact⟨j,q,u,e,en⟩
 ·rintro⟨j,q,u,e,en⟩;have c:j≠g:=by rintro rfl;rw[G.gap]at u;cases u
  by_cases b:j=i
  ·subst b;exact⟨g,G.lt,by simp_all⟩
  ·exact⟨j,q,by simp_all⟩
structure Il (R:List Gc) (S:Nat) (M:Al->Option Int) (N g t:Nat):Prop where
 len:R.length=S
 gap:IC S (BV R) g t
 has:∀k m,K9 S (BV R) k m↔M k=some m
 n:CK R=N
theorem Il.start{R:List Gc}(T:Hl R){g:Nat}(b:g<R.length)(c:(BV R g).used=true):
  Il (R.set g FQ) R.length (λk=>if k=(BV R g).key then none else GN R k) (CK R - 1) g 1:=by
 refine⟨by simp,by rw[SG b];exact IC.start T b,λk m=>?_,?_⟩
 ·rw[SG b,K9.start T b c];by_cases e:k=(BV R g).key
  ·rw[if_pos e];exact⟨λh=>absurd e h.1,λh=>by cases h⟩
  ·rw[if_neg e,WQ T];exact⟨λh=>h.2,λh=>⟨e,h⟩⟩
 ·have:=dK b FQ;rw[c]at this;simp only[if_true,show FQ.used=false from rfl,Jt,if_false]at this;omega
theorem Il.move{R:List Gc}{S:Nat}{M:Al->Option Int}{g t d:Nat}(G:Il R S M N g t)(hi:On S g t i)(r:t<S)(h:(BV R i).used=true)(hd:d<S)(v:On S (Cd S (BV R i).key) d i)(l:t<=d):
  Il ((R.set g (BV R i)).set i FQ) S M N i 1:=by
 have o:=G.gap.lt;have c:=hi.1;have f:g≠i:=by unfold On at hi;have:=G.gap.pos;omega
 have p:g<R.length:=by rw[G.len];exact o
 have q:i<(R.set g (BV R i)).length:=by rw[Jc,G.len];exact c
 have e:BV ((R.set g (BV R i)).set i FQ)=Dr (Dr (BV R) g (BV R i)) i FQ:=by rw[SG q,SG p]
 refine⟨by simp[G.len],by rw[e];exact G.gap.move hi r h hd v l,λk m=>?_,?_⟩
 ·rw[e,K9.move G.gap c f h];exact G.has k m
 ·have a:=dK p (BV R i);have b:=dK q FQ;rw[SG p,HE _ _ (Jq f),h]at b;rw[G.gap.gap,h]at a;simp only[if_true,show FQ.used=false from rfl,Jt,if_false]at a b;have:=G.n;omega
theorem Il.keep{R:List Gc}{S:Nat}{M:Al->Option Int}{g t d:Nat}(G:Il R S M N g t)(hi:On S g t i)(b:t<S)(c:(BV R i).used=true)(hd:d<S)(e:On S (Cd S (BV R i).key) d i)(AY:d<t):Il R S M N g (t+1):=
 ⟨G.len,G.gap.keep hi b c hd e AY,G.has,G.n⟩
theorem Il.done{R:List Gc}{S:Nat}{M:Al->Option Int}{g t:Nat}(G:Il R S M N g t)(hi:On S g t i)(c:t<S)(d:(BV R i).used=false):Hl R/\GN R=M/\CK R=N:=by
 have b:Hl R:=by unfold Hl;rw[G.len];exact G.gap.done hi c d
 exact⟨b,iX b λk n=>by rw[G.len];exact G.has k n,G.n⟩
instance:AK Al:=⟨3,λx=>[.int .i64 x.slot,.int .i64 x.dir,.int .i64 x.v],λ_=>rfl,by intro x u hu;simp at hu;rcases hu with rfl|rfl|rfl<;>rfl,by decide⟩
instance:AK Gc:=⟨5,λx=>[.int .i64 x.key.slot,.int .i64 x.key.dir,.int .i64 x.key.v,.int .i64 x.n,.bool x.used],λ_=>rfl,by intro x u hu;simp at hu;rcases hu with rfl|rfl|rfl|rfl|rfl<;>rfl,by decide⟩
instance:UH PP 327 Al:=⟨by kernel_rfl,λd x y w=>⟨_,by
  rw[pR (l:=[(3,0),(3,1),(3,2)]) (by kernel_rfl) (d+7)];exact aB rfl rfl (aB rfl rfl (aB rfl rfl (mQ _ _ _ _))),by cases x;cases y;simp⟩⟩
theorem NT{k:Al}:Sp PP 338 #[agg k] w λv w'=>Ao (GW k) v/\AC w w':=by
 refine eN ?_;refine BM λb w1 n1 l=>Cx rfl ?_;refine ite (λc=>?_) (λc=>⟨.f λm=>c m.1,stp⟩);refine Cx rfl ?_;refine ite (λd=>?_) (λd=>⟨.f λm=>d m.2.1,stp⟩);refine Cx rfl ?_;refine ite (λg=>?pos) (λg=>?neg)
 case' neg =>
  refine Cx rfl ?_;refine ite (λh=>?one) (λh=>⟨.f λm=>by have:=m.2.2.1;omega,stp⟩)
 all_goals
  refine Cx rfl ?_;refine ite (λh5=>?_) (λh5=>⟨.f λm=>h5 m.2.2.2.1,stp⟩);refine Cx rfl ?_;refine ite (λe=>?_) (λe=>⟨.f λm=>e m.2.2.2.2,stp⟩);exact⟨.t ⟨c,d,by omega,h5,e⟩,stp⟩
theorem zOW(b:0<n)(k:Al):((Cd n k:Nat):Int)=(k.slot*31+k.dir*17+k.v*7) % n:=Jh (Vs _ (by omega))
theorem pO{b c:Nat}{m u:Int}{k:Al}(B:Bk w b [.slice a n c,.int .i64 m,.int .i64 u] 312)(f:0<n/\n<=1000)(g:GW k):
  Sp PP 341 #[.pointer (some ⟨b,0,none⟩),agg k] w λv w'=>v=.int .i64 ((Cd n k:Nat):Int)/\AC w w':=by
 have e:=zOW f.1 k;obtain⟨h,l,o,p,h5⟩:=g;refine eN ?_;refine BM λq w1 n1 d=>dQ 18 λr t=>tX d rfl nf (rA ?_);refine tX d rfl nf (rA (rA ?_));refine tX d rfl nf (rA (rA ?_));refine tX B rfl nf (Kl (by omega) (by omega) ?_);exact⟨congrArg (Value.int .i64) e.symm,stp⟩
def IA (n i:Nat):Nat:=if i+1=n then 0 else i+1
theorem fS(h:i<n):On n i 1 (IA n i):=by unfold IA On;split<;>omega
theorem eD{b c:Nat}{m u:Int}(B:Bk w b [.slice a n c,.int .i64 m,.int .i64 u] 312)(d:0<n/\n<=1000)(hi:i<n):
  Sp PP 340 #[.pointer (some ⟨b,0,none⟩),.int .i64 i] w λv w'=>v=.int .i64 ((IA n i:Nat):Int)/\AC w w':=by
 have e:((i:Int)+1) % (n:Int)=((IA n i:Nat):Int):=by
  unfold IA;split
  ·rename_i h;rw[show(i:Int)+1=(n:Int) by omega];simp
  ·rw[Yg (by omega) (by omega)];rfl
 refine eN ?_;refine rA (Cx rfl ?_);refine Kl (by omega) (by omega) ?_;exact⟨congrArg (Value.int .i64) e,stp⟩
structure O0 (B:Nat) (w:World) (b:Nat) (a:OA) (c most:Nat) (R:List Gc):Prop where
 cell:Bk w b [.slice a (2*most) c,.int .i64 most,.int .i64 (CK R:Nat)] 312
 row:AD B 422 w (.slice a (2*most) c) R
 len:R.length=2*most
 tab:Hl R
 bnd:1<=most/\most<=400/\CK R<=most
 may:∀x∈R,x.used=true->GW x.key
 zero:∀x∈R,x.used=false->x=FQ
theorem O0.up[L:Le w w']{b:Nat}{c most:Nat}{R:List Gc}(h:O0 B w b a c most R):O0 B w' b a c most R:=⟨h.cell.mv,h.row.up,h.len,h.tab,h.bnd,h.may,h.zero⟩
def Dx (S a p:Nat):Nat:=if a<=p then p - a else p+S - a
theorem Zj{S a d p:Nat}(hd:d<S)(h:On S a d p):Dx S a p=d:=by unfold Dx;unfold On at h;split<;>omega
theorem mX{S a p:Nat}(b:a<S)(c:p<S):Dx S a p<S/\On S a (Dx S a p) p:=by unfold Dx On;split<;>omega
theorem cL{b c most:Nat}{R:List Gc}{k:Al}(T:O0 B w b a c most R)(V:GW k):
  Sp PP 339 #[.pointer (some ⟨b,0,none⟩),agg k] w λv w'=>(∃i:Nat,v=.int .i64 i/\FE R.length (BV R) k i)/\AC w w':=by
 have l:=T.bnd;obtain⟨W,X,Y⟩:=l;have o:=T.len;have q:=nY (R:=R) (by omega);obtain⟨G,H,r⟩:=q;have K:=mD (S:=R.length) (by omega) k;refine eN ?_;refine BM λbk w1 n1 L=>?_;have Z:=T.cell.mv (w:=w1);refine Cq (B:=L) rfl rfl ?_;refine AA (pO (k:=k) Z (by omega) V) ?_;rintro v w2 ⟨rfl,e2⟩;rw[<-o]
 refine GV Aa 6 [] 5 (λv u=>∃i d:Nat,v=.int .i64 i/\d<R.length/\On R.length (Cd R.length k) d i/\(∀e p,e<d->On R.length (Cd R.length k) e p->(BV R p).used=true/\(BV R p).key≠k)/\AC w1 u)
  (λv _=>R.length - Dx R.length (Cd R.length k) (Go.RowKit.intOf v).toNat) rfl ⟨Cd R.length k,0,rfl,by omega,⟨K,by omega⟩,λe p M=>by omega,stp⟩ ?_
 rintro v g u ⟨i,d,rfl,hd,hi,hb,e⟩;have z:=hi.1;have A:BV R i=R[i]:=UJ z;have C:=T.cell.mv (w:=u);have O:=T.row.sl.up (w':=u);refine dQ 20 λF e1=>?_;by_cases y:R[i].used=true
 ·refine tX C rfl nf (CL (O.up (w':=F)) (x:=R[i]) (by simp) λb4 o4 I _=>AP (v:=.bool true) (I.cell 4 (by simp[enc,y])) nf (tX C rfl nf (CL (O.up (w':=F)) (x:=R[i]) (by simp) λb5 o5 A5 _=>Ch (cs:=enc R[i].key) (A5.sub 0 3) rfl nf (MG (B:=L) rfl rfl nf ?_))));refine YQ Al R[i].key k (λJ=>?_) (λM=>?_)
  ·refine AA (eD (n:=2*most) (i:=i) (C.mv (w:=F)) (by omega) (by omega)) ?_;rintro v u2 ⟨rfl,a0⟩;have ha:=fS (n:=R.length) z;rw[<-o]
   have f:d+1<R.length:=by
    have l:=QH (d+1) R.length;rcases l with h|h
    ·exact h
    ·exfalso;have t:=mX K H;have l:=QH (Dx R.length (Cd R.length k) G) d;rcases l with E|E
     ·have:=(hb _ G E t.2).1;rw[r]at this;cases this
     ·have:G=i:=by have:=t.1;have:=t.2;unfold On at *;omega
      subst this;rw[A,y]at r;cases r
   have Q:On R.length (Cd R.length k) (d+1) (IA R.length i):=by unfold On at *;omega
   refine⟨⟨IA R.length i,d+1,rfl,f,Q,λe p M U=>?_,stp⟩,?_⟩
   ·have l:=QH e d;rcases l with E|E
    ·exact hb e p E U
    ·have l:e=d:=by omega
     obtain rfl:=l;obtain rfl:p=i:=by unfold On at U hi;omega
     rw[A];exact⟨y,J⟩
   ·show R.length - Dx R.length (Cd R.length k) (IA R.length i)<R.length - Dx R.length (Cd R.length k) i;rw[Zj f Q,Zj hd hi];omega
  ·exact⟨⟨i,rfl,d,hd,hi,hb,λ_=>by simp_all⟩,stp⟩
 ·have y:R[i].used=false:=by simpa using y
  refine tX C rfl nf (CL (O.up (w':=F)) (x:=R[i]) (by simp) λb4 o4 I _=>AP (v:=.bool false) (I.cell 4 (by simp[enc,y])) nf ?_);exact⟨⟨i,rfl,d,hd,hi,hb,λh=>by simp_all⟩,stp⟩
structure TS where
 M:Al->Option Int
 u:Nat
def DR (most:Nat) (s:TS) (k:Al) (n:Int):TS×Int:=
 if GW k then(match s.M k with
  |some _=>(⟨λk'=>if k'=k then some n else s.M k',s.u⟩,0)
  |none=>if s.u=most then(s,140) else(⟨λk'=>if k'=k then some n else s.M k',s.u+1⟩,0))
 else(s,1)
def Hc (s:TS) (k:Al):Int×Bool:=match s.M k with|some n=>(n,true)|none=>(0,false)
def Ec (s:TS) (k:Al):TS×Bool:=match s.M k with|some _=>(⟨λk'=>if k'=k then none else s.M k',s.u - 1⟩,true)|none=>(s,false)
def aX:TS:=⟨λ_=>none,0⟩
def FV (B:Nat) (w:World) (b:Nat) (a:OA) (c most:Nat) (s:TS):Prop:=B<=b/\∃R,O0 B w b a c most R/\GN R=s.M/\CK R=s.u
def KK (B b:Nat) (a:OA) (c most:Nat):Nat->Prop:=λi=>i=b\/AV B (.slice a (2*most) c) i
theorem FV.up[L:Le w w']{b:Nat}{c most:Nat}{s:TS}(h:FV B w b a c most s):FV B w' b a c most s:=by
 obtain⟨h0,R,d,e⟩:=h;exact⟨h0,R,d.up,e⟩
theorem gV(n:Nat):CK (List.replicate n FQ)=0:=by simp[CK,FQ]
theorem ID(n p:Nat):BV (List.replicate n FQ) p=FQ:=by
 unfold BV;rw[Qk,Vk];split<;>rfl
theorem lV(n:Nat):Hl (List.replicate n FQ)/\GN (List.replicate n FQ)=λ_=>none:=by
 have b:Hl (List.replicate n FQ):=by
  constructor
  ·intro i hi u;rw[ID]at u;cases u
  ·intro i j hi c u;rw[ID]at u;cases u
 refine⟨b,iX b λk m=>⟨?_,λh=>by cases h⟩⟩;rintro⟨i,_,u,_⟩;rw[ID]at u;cases u
theorem pW{most:Int}:Sp PP 154 #[.int .i64 most] w λv w' =>
  ((most<1\/400<most)/\v=.tuple #[.pointer none,.int .i64 1]\/∃(N b:Nat) (a:OA) (c:Nat),most=(N:Int)/\1<=N/\N<=400/\v=.tuple #[.pointer (some ⟨b,0,none⟩),.int .i64 0]/\FV w.heap.size w' b a c N aX)/\AC w w':=by
 refine eN ?_;refine ite (λe=>⟨.inl ⟨.inl e,rfl⟩,stp⟩) (λe=>?_);refine ite (λf=>⟨.inl ⟨.inr f,rfl⟩,stp⟩) (λf=>?_);have h:=QU (show(0:Int)<=most by omega);obtain⟨N,rfl⟩:=h;refine rF (2*N) (Id FQ rfl rfl (by omega) λg w1 l p q=>AJ (cs:=[.slice (some ⟨g,0,none⟩) (2*N) (2*N),.int .i64 (N:Nat),.int .i64 0]) rfl (BM λb r n2 o=>?_));refine⟨.inr ⟨N,b,some ⟨g,0,none⟩,2*N,rfl,by omega,by omega,rfl,n2.lo,_,⟨?_,l.up,by simp,(lV _).1,⟨by omega,by omega,by rw[gV];omega⟩,λx d u=>?_,λx d _=>(VW.1 d).2⟩,(lV _).2,gV _⟩,stp⟩
 ·rw[gV];exact o
 ·rw[(VW.1 d).2]at u;cases u
theorem WL{b c most:Nat}{s:TS}(T:FV B w b a c most s):Sp PP 186 #[.pointer (some ⟨b,0,none⟩)] w λv w'=>v=.int .i64 (s.u:Nat)/\AC w w':=by
 obtain⟨_,R,T,_,d⟩:=T;refine eN ?_;refine Dy (rX T.cell rfl ?_);rw[<-d];exact⟨rfl,stp⟩
theorem wT{b c most:Nat}{R:List Gc}(T:O0 B w b a c most R){k:Al}(h:¬GW k):GN R k=none:=by
 cases f:GN R k with
 |none=>rfl
 |some n =>
  have g:=(WQ T.tab).1 f;obtain⟨i,hi,d,e,_⟩:=g;rw[UJ hi]at d e;exact absurd (e ▸ T.may _ (Qa hi) d) h
theorem WU{b c most:Nat}{s:TS}{k:Al}(T:FV B w b a c most s):
  Sp PP 330 #[.pointer (some ⟨b,0,none⟩),agg k] w λv w'=>v=.tuple #[.int .i64 (Hc s k).1,.bool (Hc s k).2]/\AC w w':=by
 obtain⟨_,R,T,M,hu⟩:=T;refine eN ?_;refine BM λbk w1 n1 H=>Dy (Cq (B:=H) rfl rfl ?_);refine AA NT ?_;rintro v E ⟨⟨rfl,F⟩|⟨rfl,F⟩,e2⟩
 ·have Q:=T.up (w':=E);have S:=T.len
  have h:∀i:Nat,FE R.length (BV R) k i->∃hi:i<R.length,Hc s k=(R[i].n,R[i].used):=by
   intro i f;refine⟨f.lt,?_⟩;have q:=bX T.tab f;rw[UJ f.lt,M]at q;unfold Hc;rw[q]
   cases I:(R[i]'(f.lt)).used with
   |true=>simp only[if_true]
   |false =>
    have W:=T.zero _ (Qa f.lt) I;simp only[Jt,if_false];rw[W];rfl
  have C:=Q.cell;have O:=Q.row;refine dT (λi=>E.heap.size<=i) (oL [0,1,2,3,4,5] (.two 6 (oL [7,8,9,10] .nil) 9 (oL [6,7,8,10] .nil))) λU e1=>?_;have zC:=C.lt;refine tX C rfl (by omega) (MG (B:=H) rfl rfl (by have:=H.lt;have:=lz w1 E;omega) ?_)
  have l:∀g,Value.blk (.slice a (2*most) c)=some g->R≠[]->g<E.heap.size:=λg G J=>by
   obtain⟨g',q,_,X⟩:=O.lt J;rw[G]at q;cases q;exact X
  refine⟨?_,?_⟩
  ·refine AA (cL (T.up (w':=U)) F) ?_;rintro v r ⟨⟨i,rfl,f⟩,o⟩;have hb:=h i f;obtain⟨hi,d⟩:=hb;refine⟨o.e.fr,?_⟩;refine CL (O.sl.up (w':=r)) (x:=R[i]) (by simp) λY Z K p=>Ch K rfl (by have:=l _ p (by rintro rfl;simp at hi);omega) (Ap λb5 V n5 t=>⟨n5.e.fr,?_⟩);refine rE t (R[i]) λL y z _=>?_;have s5:AC r L:=n5.st z;refine⟨z.mono λi _ hi=>by subst hi;exact n5.lo,?_⟩;clear t;refine dQ 6 λu5 e5=>tX y rfl nf (tX y rfl nf ?_);rw[d];exact⟨rfl,stp⟩
  ·refine Ap λb5 V n5 t=>⟨n5.e.fr,?_⟩;refine AA (cL (T.up (w':=V)) F) ?_;rintro v r ⟨⟨i,rfl,f⟩,o⟩;have hb:=h i f;obtain⟨hi,d⟩:=hb;refine⟨o.e.fr,?_⟩;refine CL (O.sl.up (w':=r)) (x:=R[i]) (by simp) λY Z K p=>Ch K rfl (by have:=l _ p (by rintro rfl;simp at hi);omega) ?_;have A:=t.mv (w:=r);refine rE A (R[i]) λL y z _=>?_;have s5:AC U L:=n5.st z;refine⟨z.mono λi _ hi=>by subst hi;exact n5.lo,?_⟩;clear t A;refine dQ 6 λu5 e5=>tX y rfl nf (tX y rfl nf ?_);rw[d];exact⟨rfl,stp⟩
 ·have G:=wT T F;rw[M]at G;unfold Hc;rw[G];exact⟨rfl,stp⟩
theorem UK{R:List Gc}{y x:Gc}(h:x∈R.set i y):x∈R\/x=y:=List.mem_or_eq_of_mem_set h
theorem Pi{b c most:Nat}{s:TS}{k:Al}{n:Int}(T:FV B w b a c most s):
  Sp PP 334 #[.pointer (some ⟨b,0,none⟩),agg k,.int .i64 n] w λv w'=>v=.int .i64 (DR most s k n).2/\FV B w' b a c most (DR most s k n).1/\Fr (KK B b a c most) w w':=by
 have TT:=T;obtain⟨hB,R,T,G,hu⟩:=T;refine eN ?_;refine BM λbk w1 n1 H=>Dy (Cq (B:=H) rfl rfl ?_);refine AA NT ?_;rintro v w2 ⟨⟨rfl,q⟩|⟨rfl,q⟩,e2⟩
 ·refine Cq (B:=H) rfl rfl ?_;refine AA (cL (T.up (w':=w2)) q) ?_;rintro v I ⟨⟨i,rfl,X⟩,e3⟩;have hi:=X.lt;have J:=T.len;have Y:=xR T.tab X n;obtain⟨Z,K,r⟩:=Y;have d:=bX T.tab X;rw[UJ hi]at d;have C:=T.cell.mv (w:=I);have O:=T.row.up (w':=I)
  have t:∀x∈R.set i ⟨k,n,true⟩,x.used=true->GW x.key:=λx hx o=>by
   have q_:=UK hx;rcases q_ with h|rfl
   ·exact T.may x h o
   ·exact q
  have p:∀x∈R.set i ⟨k,n,true⟩,x.used=false->x=FQ:=λx hx o=>by
   have q_:=UK hx;rcases q_ with h|rfl
   ·exact T.zero x h o
   ·cases o
  refine rX C rfl (Bv O.sl (x:=R[i]) (by simp) λb4 o4 A4=>?_);have D3:Fr (KK B b a c most) w I:=Fr.fr Le.e;by_cases f:R[i].used=true
  case' neg =>
   have f:R[i].used=false:=by simpa using f
   rw[f,if_neg (by simp)]at d;rw[d,if_pos rfl]at r;refine AF (v:=.bool false) (A4.cell 4 (by simp[enc,f])) (dQ 9 λU e1=>tX C rfl nf (tX C rfl nf ?_));refine ite (λy=>?_) (λy=>?_)
   ·have z:DR most s k n=(s,140):=by
     unfold DR;rw[if_pos q,<-G,d];simp only;rw[if_pos (by omega)]
    rw[z];exact⟨rfl,TT.up,Fr.fr Le.e⟩
   have z:DR most s k n=(⟨λl=>if l=k then some n else s.M l,s.u+1⟩,0):=by
    unfold DR;rw[if_pos q,<-G,d];simp only;rw[if_neg (by omega)]
   rw[z];have hb:=T.bnd;refine rX C rfl (rF (CK (R.set i ⟨k,n,true⟩)) ?_);have C2:=C.mv (w:=U);refine rS C2 [.int .i64 ((CK (R.set i ⟨k,n,true⟩):Nat):Int)] (by simp;rfl) λu2 V f2 _=>?_;have F:=(O.up (w':=U)).frc f2 C2;have D9:Fr (KK B b a c most) w u2:=(Fr.fr Le.e:Fr (KK B b a c most) w U).trans (f2.mono λj _ hj=>.inl hj);have B9:=(H.mv (w:=U)).fr f2 (by have h1:=H.h;have h2:=(T.cell.mv (w:=w1)).h;intro e;subst e;rw[h1]at h2;cases h2);have L:1<=most/\most<=400/\CK (R.set i ⟨k,n,true⟩)<=most:=⟨hb.1,hb.2.1,by omega⟩;have Q:CK (R.set i ⟨k,n,true⟩)=s.u+1:=by omega
   have S:GN (R.set i ⟨k,n,true⟩)=λl=>if l=k then some n else s.M l:=by rw[K,G]
   clear C2
  case' pos =>
   rw[f,if_pos rfl]at d;rw[d,if_neg (by simp)]at r;refine AF (v:=.bool true) (A4.cell 4 (by simp[enc,f])) ?_
   have z:DR most s k n=(⟨λl=>if l=k then some n else s.M l,s.u⟩,0):=by
    unfold DR;rw[if_pos q,<-G,d]
   rw[z];have hb:=T.bnd;have V:Bk I b [.slice a (2*most) c,.int .i64 most,.int .i64 ((CK (R.set i ⟨k,n,true⟩):Nat):Int)] 312:=by rw[r];exact C
   have F:=O;have D9:=D3;have B9:=H.mv (w:=I);have L:1<=most/\most<=400/\CK (R.set i ⟨k,n,true⟩)<=most:=⟨hb.1,hb.2.1,by omega⟩;have Q:CK (R.set i ⟨k,n,true⟩)=s.u:=by omega
   have S:GN (R.set i ⟨k,n,true⟩)=λl=>if l=k then some n else s.M l:=by rw[K,G]
  all_goals
   clear C;refine dD (AV B (.slice a (2*most) c)) (Hn 10 0) λW e9=>tX V rfl (V.notOwn F) (MG (B:=B9) rfl rfl (B9.notOwn F) ?_);refine As (cs:=enc (⟨k,n,true⟩:Gc)) rfl (ET rfl (F.up (w':=W)) (x:=R[i]) (by simp) λg hg _ A=>CZ rfl (⟨k,n,true⟩:Gc) (F.up (w':=W)) hg hi rfl λa2 a0 E _=>⟨E,?_⟩);have a1:=(V.mv (w:=W)).fro (F.up (w':=W)) E;refine⟨rfl,⟨hB,_,⟨a1,a0,by rw[Jc];exact J,Z,L,t,p⟩,S,Q⟩,?_⟩;exact(D9.trans (Fr.fr e9.e)).trans (E.mono λj _ hj=>.inr hj)
 ·have z:DR most s k n=(s,1):=by unfold DR;rw[if_neg q]
  rw[z];exact⟨rfl,TT.up,Fr.fr Le.e⟩
theorem vD{S a p:Nat}(b:a<S)(c:p<S):((p:Int) - a+S) % S=((Dx S a p:Nat):Int):=by
 unfold Dx;split
 ·rename_i h;rw[Int.add_emod_right,Yg (by omega) (by omega)];omega
 ·rw[Yg (by omega) (by omega)];omega
theorem zPR{b c most:Nat}{s:TS}{k:Al}(T:FV B w b a c most s):
  Sp PP 257 #[.pointer (some ⟨b,0,none⟩),agg k] w λv w'=>v=.bool (Ec s k).2/\FV B w' b a c most (Ec s k).1/\Fr (KK B b a c most) w w':=by
 have TT:=T;obtain⟨hB,R,T,hM,hu⟩:=T;refine eN ?_;refine BM λbk w1 n1 B1=>Dy (Cq (B:=B1) rfl rfl ?_);refine AA NT ?_;rintro v w2 ⟨⟨rfl,hk⟩|⟨rfl,hk⟩,e2⟩
 rotate_left
 ·have hg:=wT T hk;rw[hM]at hg;have hd:Ec s k=(s,false):=by unfold Ec;rw[hg]
  rw[hd];exact⟨rfl,TT.up,Fr.fr Le.e⟩
 refine Cq (B:=B1) rfl rfl ?_;refine AA (cL (T.up (w':=w2)) hk) ?_;rintro v w3 ⟨⟨g0,rfl,hF⟩,e3⟩;have hi:=hF.lt;have f:=T.len;have V:=T.bnd;have F:=bX T.tab hF;rw[UJ hi]at F;have C:=T.cell.mv (w:=w3);have O:=T.row.up (w':=w3);refine rX C rfl (Bv O.sl (x:=R[g0]) (by simp) λb4 o4 A4=>?_);by_cases l:R[g0].used=true
 rotate_left
 ·have l:R[g0].used=false:=by simpa using l
  rw[l,if_neg (by simp),hM]at F;have hd:Ec s k=(s,false):=by unfold Ec;rw[F]
  rw[hd];refine AF (v:=.bool false) (A4.cell 4 (by simp[enc,l])) ?_;exact⟨rfl,TT.up,Fr.fr Le.e⟩
 have y:(BV R g0).used=true:=by rw[UJ hi];exact l
 have a4:(BV R g0).key=k:=by obtain⟨_,_,_,_,h⟩:=hF;exact h y
 rw[l,if_pos rfl,hM]at F;have hd:Ec s k=(⟨λk'=>if k'=k then none else s.M k',s.u - 1⟩,true):=by unfold Ec;rw[F]
 rw[hd]
 have c8:0<CK R:=by
  unfold CK;exact List.countP_pos_iff.2 ⟨_,Qa hi,l⟩
 refine AF (v:=.bool true) (A4.cell 4 (by simp[enc,l])) (rX C rfl (rF (CK R - 1) (rS C [.int .i64 ((CK R - 1:Nat):Int)] (by simp;rfl) λu1 C1 f1 _=>?_)));have O1:=O.frc f1 C;have D1:Fr (KK B b a c most) w u1:=(Fr.fr Le.e:Fr (KK B b a c most) w w3).trans (f1.mono λj _ X=>.inl X);clear C O;refine rX C1 rfl (AJ (cs:=enc FQ) rfl (Fs rfl O1 (x:=R[g0]) (by simp) λgg b3 _ A=>CZ rfl FQ O1 b3 hi rfl λu2 O2 f2 _=>?_));have C2:=C1.fro O1 f2;have D2:Fr (KK B b a c most) w u2:=D1.trans (f2.mono λj _ X=>.inr X);clear C1 O1;have G:=Il.start T.tab hi y;rw[a4,hM]at G;have b8:=zLQ (R:=R) hi (by omega) y;obtain⟨s0,c9,d0,H,d1,Y⟩:=b8;have a5:H≠g0:=by rintro rfl;rw[y]at Y;cases Y
 have a6:(BV (R.set g0 FQ) H).used=false:=by rw[SG hi,HE _ _ a5];exact Y
 refine rX C2 rfl (AA (eD (n:=2*most) (i:=g0) C2 (by omega) (by omega)) ?_);rintro v u3 ⟨rfl,b9⟩;have c0:=fS (n:=R.length) hi
 have c1:∀x∈R.set g0 FQ,x.used=true->GW x.key:=by
  intro x Z E;have I:=UK Z;rcases I with h|rfl
  ·exact T.may x h E
  ·cases E
 have c2:∀x∈R.set g0 FQ,x.used=false->x=FQ:=by
  intro x Z E;have I:=UK Z;rcases I with h|rfl
  ·exact T.zero x h E
  ·rfl
 rw[<-f]
 refine HG Aa 9 [8] 5 7 (λv5 v7 u=>∃(g t i δ:Nat) (R':List Gc),v5=.int .i64 g/\v7=.int .i64 i/\Il R' R.length (λk'=>if k'=k then none else s.M k') (CK R - 1) g t/\On R.length g t i/\t<R.length/\On R.length i δ H/\t+δ<R.length/\(BV R' H).used=false /\
   Bk u b [.slice a (2*most) c,.int .i64 most,.int .i64 ((CK R - 1:Nat):Int)] 312/\AD B 422 u (.slice a (2*most) c) R'/\(∀x∈R',x.used=true->GW x.key)/\(∀x∈R',x.used=false->x=FQ)/\Fr (KK B b a c most) w u)
  (λ_ v7 _=>Dx R.length (Go.RowKit.intOf v7).toNat H) rfl
  ⟨g0,1,IA R.length g0,s0 - 1,_,rfl,rfl,G,c0,by omega,by unfold On at *;omega,by omega,a6,C2.mv,O2.up,c1,c2,D2.trans (Fr.fr b9.e)⟩ ?_
 rintro _ _ gf u ⟨g,t,i,δ,R',rfl,rfl,G',d,ht,a7,d2,z,C,O,o,q,D⟩;clear C2 O2;have a0:=G'.len;have J:i<R'.length:=by rw[a0];exact d.1
 have K:BV R' i=R'[i]:=UJ J;refine rX C rfl (Bv O.sl (x:=R'[i]) (by simp) λb5 o5 A5=>?_);by_cases p:R'[i].used=true
 rotate_left
 ·have p:R'[i].used=false:=by simpa using p
  refine AF (v:=.bool false) (A5.cell 4 (by simp[enc,p])) ?_;have a1:=G'.done d ht (by rw[K];exact p);obtain⟨q1,q2,q3⟩:=a1;refine⟨rfl,⟨hB,R',⟨by rw[q3];exact C,O,by rw[a0];exact f,q1,⟨V.1,V.2.1,by omega⟩,o,q⟩,q2,by rw[q3,hu]⟩,D⟩
 refine AF (v:=.bool true) (A5.cell 4 (by simp[enc,p])) ?_;have L:(BV R' i).used=true:=by rw[K];exact p
 have c3:i≠H:=by rintro rfl;rw[L]at z;cases z
 have d3:1<=δ:=by unfold On at a7;omega
 refine rX C rfl (Bv O.sl (x:=R'[i]) (by simp) λb6 o6 A6=>Ai (cs:=enc R'[i].key) (A6.sub 0 3) rfl ?_);have W:=pO (k:=R'[i].key) C (by omega) (o _ (Qa J) p);rw[<-f]at W;refine AA W ?_;rintro v u4 ⟨rfl,e4⟩;have hh:=mD (S:=R.length) (by omega) R'[i].key;have a8:=G'.gap.lt;have d4:=vD hh d.1;have d5:=vD a8 d.1;have d6:Dx R.length g i=t:=Zj ht d;have U:=mX hh d.1;have C4:=C.mv (w:=u4);have O4:=O.up (w':=u4);have ha:=fS (n:=R.length) d.1;have r:On R.length (IA R.length i) (δ - 1) H:=by unfold On at *;omega
 have Q:Dx R.length (IA R.length i) H<Dx R.length i H:=by
  rw[Zj (by omega) a7,Zj (by omega) r];omega
 refine dQ 15 λu5 e5=>rA (rA (Kl (by omega) (by omega) ?_));refine rA (rA (Kl (by omega) (by omega) ?_));refine ite (λAY=>?_) (λd7=>?_)
 ·have a9:Dx R.length (Cd R.length R'[i].key) i<t:=by omega
  have W:=eD (n:=2*most) (i:=i) (C4.mv (w:=u5)) (by omega) (by omega);rw[<-f]at W;refine AA W ?_;rintro v u6 ⟨rfl,e6⟩;refine⟨⟨g,t+1,IA R.length i,δ - 1,R',rfl,rfl,G'.keep d ht L U.1 (by rw[K];exact U.2) a9,by unfold On at *;omega,by omega,r,by omega,z,C4.mv,O4.up,o,q,D.trans (Fr.fr Le.e)⟩,Q⟩
 ·have b0:t<=Dx R.length (Cd R.length R'[i].key) i:=by omega
  have b1:g<R'.length:=by rw[a0];exact a8
  have c4:g≠i:=by have:=G'.gap.pos;unfold On at d;omega
  have Gm:=G'.move d ht L U.1 (by rw[K];exact U.2) b0;rw[K]at Gm;have c5:H≠g:=by unfold On at *;have:=G'.gap.pos;omega
  have C5:=C4.mv (w:=u5);have O5:=O4.up (w':=u5);refine dT (AV B (.slice a (2*most) c)) (oL [0,1,2,3,4,5,6,7,8,9,10,11,12,13,14,15,17] (.lone 16 (oL [18,19,20,21] .nil))) λu6 e6=>tX C5 rfl (C5.notOwn O5) (tX C5 rfl (C5.notOwn O5) (tX C5 rfl (C5.notOwn O5) (CL (O5.sl.up (w':=u6)) (x:=R'[i]) (by simp) λb7 o7 A7 _=>As (cs:=enc FQ) rfl (Ai A7 rfl ⟨Fr.refl _ _,?_⟩))));refine ET rfl (O5.up (w':=u6)) (x:=R'[g]) (by simp) λg1 c6 _ A=>CZ rfl R'[i] (O5.up (w':=u6)) c6 b1 rfl λu7 O7 f7 _=>⟨f7,?_⟩;refine ET rfl O7 (x:=R'[i]) (by rw[List.getElem?_set_ne c4];simp) λg2 c7 _ A=>CZ rfl FQ O7 c7 (by rw[Jc];exact J) rfl λu8 O8 f8 _=>⟨f8,?_⟩;have C7:=(C5.mv (w:=u6)).fro (O5.up (w':=u6)) f7;have C8:=C7.fro O7 f8;have W:=eD (n:=2*most) (i:=i) C8 (by omega) (by omega);rw[<-f]at W;refine AA W ?_;rintro v u9 ⟨rfl,e9⟩;have a2:g<R'.length:=b1;have a3:i<(R'.set g R'[i]).length:=by rw[Jc];exact J
  have b2:(BV ((R'.set g R'[i]).set i FQ) H).used=false:=by
   rw[SG a3,SG a2,HE _ _ (Jq c3),HE _ _ c5];exact z
  refine⟨⟨i,1,IA R.length i,δ - 1,_,rfl,rfl,Gm,ha,by omega,r,by omega,b2,C8.mv,O8.up,λx Z E=>?_,λx Z E=>?_,((D.trans (fE u u6)).trans (f7.mono λj _ X=>.inr X)).trans ((f8.mono λj _ X=>.inr X).trans (Fr.fr e9.e))⟩,Q⟩
  ·have I:=UK Z;rcases I with h|rfl
   ·have I:=UK h;rcases I with h|rfl
    ·exact o x h E
    ·exact o _ (Qa J) E
   ·cases E
  ·have I:=UK Z;rcases I with h|rfl
   ·have I:=UK h;rcases I with h|rfl
    ·exact q x h E
    ·rw[p]at E;cases E
   ·rfl
def Bw (a b:Al):Prop:=a.slot<b.slot\/a.slot=b.slot/\(a.dir<b.dir\/a.dir=b.dir/\a.v<b.v)
instance (a b:Al):Decidable (Bw a b):=by unfold Bw;exact inferInstance
abbrev Oa (l:List Al):Prop:=l.Pairwise Bw
theorem bT{a b:Al}(c:a.slot=b.slot)(d:a.dir=b.dir)(e:a.v=b.v):a=b:=by cases a;cases b;simp_all
theorem PK{a b:Al}(h:Bw a b):a≠b:=by rintro rfl;unfold Bw at h;omega
theorem yC{a b:Al}(h:Bw a b):¬Bw b a:=by unfold Bw at *;omega
theorem bU{a b c:Al}(h:Bw a b)(k:Bw b c):Bw a c:=by unfold Bw at *;omega
theorem ZY{a b:Al}(h:¬Bw a b)(c:a≠b):Bw b a:=by
 have d:=Xw (Bw b a);rcases d with k|k
 ·exact k
 ·exfalso;apply c;unfold Bw at h k;exact bT (by omega) (by omega) (by omega)
theorem Oa.uniq:∀{l m:List Al},Oa l->Oa m->(∀k,k∈l↔k∈m)->l=m
 |[],[],_,_,_=>rfl
 |[],b::m,_,_,h=>by have:=(h b).2 (Qs ..);cases this
 |a::l,[],_,_,h=>by have:=(h a).1 (Qs ..);cases this
 |a::l,b::m,f,g,h=>by
  rw[Oa,QM]at f g
  have o:a=b:=by
   have c:=Ql.1 ((h a).1 (Qs ..));rcases c with d|d
   ·exact d
   ·have c:=Ql.1 ((h b).2 (Qs ..));rcases c with p|p
    ·exact p.symm
    ·exact absurd (g.1 a d) (yC (f.1 b p))
  subst o;congr 1;refine Oa.uniq f.2 g.2 λk=>⟨λe=>?_,λe=>?_⟩
  ·have c:=Ql.1 ((h k).1 (QF _ e));rcases c with rfl|d
   ·exact absurd rfl (PK (f.1 k e))
   ·exact d
  ·have c:=Ql.1 ((h k).2 (QF _ e));rcases c with rfl|d
   ·exact absurd rfl (PK (g.1 k e))
   ·exact d

def RZ (sz:Int) (fr:List Int):Prop:=1<=sz/\sz<=400/\(∀x∈fr,0<=x/\x<sz)/\fr.Nodup
instance (sz:Int) (fr:List Int):Decidable (RZ sz fr):=by unfold RZ;exact inferInstance
abbrev HI:=Int×List Int
def zP:HI:=(0,[])
def Ee (p:HI):Int×HI×Int:=if RZ p.1 p.2 then(match p.2.getLast? with|none=>(0,zP,140)|some x=>(x,(p.1,p.2.dropLast),0)) else(0,zP,130)
def FL (p:HI) (n:Int):HI×Int:=if RZ p.1 p.2 then(if n<0\/p.1<=n then(zP,1) else if n∈p.2 then(zP,150) else((p.1,p.2++[n]),0)) else(zP,130)
def CJ (p:HI) (m:Int):List Int×HI×Int:=
 if RZ p.1 p.2 then(if m<0 then([],zP,1) else if(p.2.length:Int)<m then([],zP,140) else((p.2.drop (p.2.length - m.toNat)).reverse,(p.1,p.2.take (p.2.length - m.toNat)),0)) else([],zP,130)
def BR (n:Nat):List Int:=(List.range n).reverse.map λk:Nat=>(k:Int)
def Ld (n:Int):HI×Int:=if n<1\/400<n then(zP,1) else((n,BR n.toNat),0)
abbrev Se (sz:Int) (a:OA) (n c:Nat):Value:=.agg #[.int .i64 sz,.slice a n c]
theorem CO(sz:Int)(a:OA)(n c:Nat):∀u∈[Value.int .i64 sz,.slice a n c],u.oneCell'=true:=by intro u b;simp at b;rcases b with rfl|rfl<;>rfl
def EB (B:Nat) (w:World) (v:Value) (p:HI):Prop:=∃a c,v=Se p.1 a p.2.length c/\AD B 3 w (.slice a p.2.length c) p.2
theorem EB.older[h:Le u' u]{v:Value}{p:HI}(a:EB u.heap.size w v p):EB u'.heap.size w v p:=by obtain⟨s,c,b,d⟩:=a;exact⟨s,c,b,d.older⟩
theorem EB.mk{sz:Int}{c:Nat}{l:List Int}(h:AD B 3 w (.slice a n c) l):EB B w (Se sz a n c) (sz,l):=by
 have b:=h.sl.len;obtain rfl:=b;exact⟨a,c,rfl,h⟩
theorem Pv(B:Nat)(w:World):EB B w (Se 0 none 0 0) zP:=⟨none,0,rfl,AD.nil _ _ _⟩
theorem dZ(n:Nat):(BR n).length=n:=by simp[BR]
theorem zM8(h:k<n):(BR n)[k]? = some (((n - 1 - k:Nat)):Int):=by simp_all[BR]
theorem zLL(h:k<n):(BR n).take (k+1)=(BR n).take k++[((n - 1 - k:Nat):Int)]:=by simp_all[BR,dZ,Cs,zM8,Qy]
structure AN where
 key:Al
 d:Int
deriving DecidableEq
def LK:AN:=⟨aI,0⟩
def Dz (x:AN):Prop:=GW x.key/\0<=x.d/\x.d<=200
instance (x:AN):Decidable (Dz x):=by unfold Dz;exact inferInstance
abbrev CE (L:List AN):Prop:=L.Pairwise (λa b=>Bw a.key b.key)
theorem CE.nodup{L:List AN}(h:CE L):L.Nodup:=by
 rw[Qx];exact h.imp λ{a b} h e=>PK h (congrArg AN.key e)
theorem CE.inj{L:List AN}(h:CE L){x y:AN}(f:x∈L)(g:y∈L)(e:x.key=y.key):x=y:=by
 have b:=QI.1 f;obtain⟨i,hi,rfl⟩:=b;have b:=QI.1 g;obtain⟨j,d,rfl⟩:=b;have b:=VG i j;rcases b with c|rfl|c
 ·exact absurd e (PK (QX.1 h i j hi d c))
 ·rfl
 ·exact absurd e.symm (PK (QX.1 h j i d hi c))
theorem CE.uniq{L M:List AN}(h:CE L)(k:CE M)(e:∀x,x∈L↔x∈M):L=M:=by
 have b:L.map (·.key)=M.map (·.key):=Oa.uniq (QY.2 h) (QY.2 k) λq=>by simp_all
 have f:L.length=M.length:=by have:=congrArg List.length b;simpa using this
 apply Xg f;intro i c d;refine k.inj ((e _).1 (Qa c)) (Qa d) ?_;have:=congrArg (λl=>l[i]?) b;simpa[c,d]using this
def HP (x:AN):List AN->List AN
 |[]=>[x]
 |y::r=>if Bw y.key x.key then y::HP x r else x::y::r
theorem Wq(x:AN):∀L,(HP x L).Perm (x::L)
 |[]=>.refl _
 |y::r=>by
  unfold HP;split
  ·exact((Wq x r).cons y).trans (.swap ..)
  ·exact .refl _
theorem dU(x:AN):∀{L},CE L->(∀y∈L,y.key≠x.key)->CE (HP x L)
 |[],_,_=>by simp[HP]
 |y::r,h,f=>by
  rw[CE,QM]at h;unfold HP;split
  ·rename_i c;refine QM.2 ⟨λz b=>?_,dU x h.2 λz b=>f z (QF _ b)⟩;have e:=Ql.1 ((Wq x r).mem_iff.1 b);rcases e with rfl|b
   ·exact c
   ·exact h.1 z b
  ·rename_i c;have d:=ZY c (f y (Qs ..));refine QM.2 ⟨λz b=>?_,QM.2 h⟩;have e:=Ql.1 b;rcases e with rfl|b
   ·exact d
   ·exact bU d (h.1 z b)
def KG (L:List AN) (k:Al):Option AN:=L.find? λx=>decide (x.key=k)
theorem pJ{L:List AN}(h:CE L){k:Al}{x:AN}:KG L k=some x↔x∈L/\x.key=k:=by
 constructor
 ·intro e;unfold KG at e;exact⟨List.mem_of_find?_eq_some e,by simpa using List.find?_some e⟩
 ·rintro⟨c,d⟩
  cases e:KG L k with
  |none =>
   unfold KG at e;have:=List.find?_eq_none.1 e x c;simp[d]at this
  |some y =>
   unfold KG at e;have f:=List.mem_of_find?_eq_some e;have b:y.key=k:=by simpa using List.find?_some e
   rw[h.inj f c (b.trans d.symm)]
theorem mR{L:List AN}{k:Al}:KG L k=none↔∀x∈L,x.key≠k:=by
 unfold KG;rw[List.find?_eq_none];simp
def EP (size:Nat) (L:List AN) (x:AN):List AN×Int:=
 if Dz x then(match KG L x.key with
  |some _=>(L,150)
  |none=>if size<=L.length then(L,140) else(HP x L,0))
 else(L,1)
def N1 (L:List AN) (s:Int):List AN:=L.filter λx=>decide (x.key.slot=s)
def I9 (L:List AN) (s:Int):List AN:=L.filter λx=>decide (x.key.slot≠s)
structure GU (size:Nat) (ts:TS) (fr:List Int) (st:List AN):Prop where
 ok:RZ size fr
 stl:st.length=size
 tell:∀k n,ts.M k=some n↔∃p:Nat,n=p/\(p:Int)∉fr/\∃x,st[p]? = some x/\x.key=k
 cnt:ts.u+fr.length=size
structure Kj (fr:List Int) (st L:List AN):Prop where
 ris:CE L
 mem:∀x,x∈L↔∃p:Nat,(p:Int)∉fr/\st[p]? = some x
def Wg (fr:List Int) (st:List AN) (ch:Int->List Int):Prop:=∀s,(ch s).Nodup/\∀n,n∈ch s↔∃p:Nat,n=p/\(p:Int)∉fr/\∃x,st[p]? = some x/\x.key.slot=s
theorem GU.inj{size:Nat}{ts:TS}{fr:List Int}{st:List AN}(T:GU size ts fr st){p q:Nat}{x y:AN}(c:(p:Int)∉fr)(d:(q:Int)∉fr)(f:st[p]? = some x)(g:st[q]? = some y)(e:x.key=y.key):p=q:=by
 have h:=(T.tell x.key p).2 ⟨p,rfl,c,x,f,rfl⟩;have b:=(T.tell x.key q).2 ⟨q,rfl,d,y,g,e.symm⟩;rw[h]at b;have:=QL b;omega
def LF (size:Nat) (fr:List Int):List Nat:=(List.range size).filter λp:Nat=>decide ((p:Int)∉fr)
theorem vB{size:Nat}{fr:List Int}(h:RZ size fr):(LF size fr).length+fr.length=size:=by
 have g:fr.Perm (((List.range size).filter λp:Nat=>decide ((p:Int)∈fr)).map λp:Nat=>(p:Int)):=by
  refine(JM h.2.2.2 ?_).2 λn=>?_
  ·rw[Qx,QY];have c:((List.range size).filter λp:Nat=>decide ((p:Int)∈fr)).Nodup:=(Xj).filter _;rw[Qx]at c;exact c.imp λ{a b} h e=>h (by omega)
  ·simp only[Qq,QC,Q0,decide_eq_true_eq];constructor
   ·intro o;have:=h.2.2.1 n o;exact⟨n.toNat,⟨by omega,by rwa[show((n.toNat:Nat):Int)=n by omega]⟩,by omega⟩
   ·rintro⟨p,⟨_,q⟩,rfl⟩;exact q
 have t:=g.length_eq;rw[Qr]at t
 have v:∀(l:List Nat),(l.filter λp:Nat=>decide ((p:Int)∉fr)).length+(l.filter λp:Nat=>decide ((p:Int)∈fr)).length=l.length:=by
  intro l
  induction l with
  |nil=>rfl
  |cons a r d =>
   by_cases f:(a:Int)∈fr
   ·simp[f]at d ⊢;omega
   ·simp[f]at d ⊢;omega
 have:=v (List.range size);unfold LF;rw[Vm]at this;omega
theorem GU.len{size:Nat}{ts:TS}{fr:List Int}{st L:List AN}(T:GU size ts fr st)(M:Kj fr st L):L.length=ts.u:=by
 have t:=vB T.ok;have v:=T.cnt
 have c:L.Perm ((LF size fr).map λp=>st.getD p LK):=by
  refine(JM M.ris.nodup ?_).2 λx=>?_
  ·rw[Qx,QY];have d:(LF size fr).Nodup:=(Xj).filter _;rw[Qx]at d;refine Vv (λ{a b} g hb h e=>h ?_) d;simp only[LF,QC,Q0,decide_eq_true_eq]at g hb;have f:a<st.length:=by rw[T.stl];exact g.1
   have l:b<st.length:=by rw[T.stl];exact hb.1
   have o:st[a]? = some (st.getD a LK):=by simp[f]
   have q:st[b]? = some (st.getD b LK):=by simp[l]
   exact T.inj g.2 hb.2 o q (by rw[e])
  ·rw[M.mem x];simp only[Qq,LF,QC,Q0,decide_eq_true_eq];constructor
   ·rintro⟨p,c,r⟩;have:=(Qy.1 r).1;exact⟨p,⟨by rw[<-T.stl];exact this,c⟩,by simp_all⟩
   ·rintro⟨p,⟨f,c⟩,rfl⟩;have f:p<st.length:=by rw[T.stl];exact f
    exact⟨p,c,by simp[f]⟩
 have:=c.length_eq;rw[Qr]at this;omega
theorem GU.get{size:Nat}{ts:TS}{fr:List Int}{st L:List AN}(T:GU size ts fr st)(M:Kj fr st L)(k:Al):
  (∃(p:Nat) (x:AN),ts.M k=some (p:Int)/\(p:Int)∉fr/\st[p]? = some x/\x.key=k/\KG L k=some x)\/(ts.M k=none/\KG L k=none):=by
 cases g:ts.M k with
 |some n =>
  have d:=(T.tell k n).1 g;obtain⟨p,rfl,b,x,c,h⟩:=d;exact .inl ⟨p,x,rfl,b,c,h,(pJ M.ris).2 ⟨(M.mem x).2 ⟨p,b,c⟩,h⟩⟩
 |none =>
  refine .inr ⟨rfl,mR.2 λx c e=>?_⟩;have d:=(M.mem x).1 c;obtain⟨p,b,f⟩:=d;have:=(T.tell k p).2 ⟨p,rfl,b,x,f,e⟩;rw[g]at this;cases this
theorem GU.put{size:Nat}{ts:TS}{fr:List Int}{p:Nat}{st L:List AN}{l:Int->List Int}{x:AN}(T:GU size ts (fr++[(p:Int)]) st)(M:Kj (fr++[(p:Int)]) st L)(C:Wg (fr++[(p:Int)]) st l)(S:GW x.key)(v:ts.M x.key=none):
  (DR size ts x.key p).2=0/\GU size (DR size ts x.key p).1 fr (st.set p x)/\Kj fr (st.set p x) (HP x L)/\Wg fr (st.set p x) (λs=>if s=x.key.slot then l s++[(p:Int)] else l s):=by
 have f:=T.ok;obtain⟨U,V,Q,z⟩:=f;have o:=T.cnt;rw[Qb,VC]at o;have A:p<size:=by have:=Q p (by simp);omega
 have E:p<st.length:=by rw[T.stl];exact A
 rw[JU]at z;have F:(p:Int)∉fr:=λh=>z.2.2 _ h _ (Qc.2 rfl) rfl
 have r:DR size ts x.key p=(⟨λR=>if R=x.key then some (p:Int) else ts.M R,ts.u+1⟩,0):=by
  unfold DR;rw[if_pos S,v];simp only;rw[if_neg (by omega)]
 rw[r]
 have use:∀(q:Nat) (y:AN),((q:Int)∉fr/\(st.set p x)[q]? = some y)↔(q=p/\y=x)\/((q:Int)∉fr++[(p:Int)]/\st[q]? = some y):=by
  intro q y;rw[Vw];by_cases e:p=q
  ·subst e;rw[if_pos rfl,if_pos E];constructor
   ·rintro⟨_,h⟩;exact .inl ⟨rfl,(QL h).symm⟩
   ·rintro(⟨_,rfl⟩|⟨h,_⟩)
    ·exact⟨F,rfl⟩
    ·exact absurd (by simp) h
  ·rw[if_neg e];simp only[Qf,Qc,not_or];constructor
   ·rintro⟨c,d⟩;exact .inr ⟨⟨c,by omega⟩,d⟩
   ·rintro(⟨h,_⟩|⟨c,d⟩)
    ·exact absurd h.symm e
    ·exact⟨c.1,d⟩
 have G:∀y∈L,y.key≠x.key:=λy W e=>by
  have f:=(M.mem y).1 W;obtain⟨q,H,I⟩:=f;have:=(T.tell x.key q).2 ⟨q,rfl,H,y,I,e⟩;rw[v]at this;cases this
 refine⟨rfl,⟨⟨U,V,λn J=>Q n (QN _ J),z.1⟩,by rw[Jc];exact T.stl,λk n=>?_,by show ts.u+1+fr.length=size;omega⟩,⟨dU x M.ris G,λy=>?_⟩,λs=>?_⟩
 ·show(if k=x.key then some (p:Int) else ts.M k)=some n↔_
  have:(∃q:Nat,n=q/\(q:Int)∉fr/\∃y,(st.set p x)[q]? = some y/\y.key=k)↔(n=p/\x.key=k)\/∃q:Nat,n=q/\(q:Int)∉fr++[(p:Int)]/\∃y,st[q]? = some y/\y.key=k:=by
   constructor
   ·rintro⟨q,rfl,c,y,d,g⟩;have f:=(use q y).1 ⟨c,d⟩;rcases f with⟨rfl,rfl⟩|⟨K,h5⟩
    ·exact .inl ⟨rfl,g⟩
    ·exact .inr ⟨q,rfl,K,y,h5,g⟩
   ·rintro(⟨rfl,h⟩|⟨q,rfl,c,y,d,g⟩)
    ·have:=(use p x).2 (.inl ⟨rfl,rfl⟩);exact⟨p,rfl,this.1,x,this.2,h⟩
    ·have:=(use q y).2 (.inr ⟨c,d⟩);exact⟨q,rfl,this.1,y,this.2,g⟩
  rw[this,<-T.tell];split
  ·rename_i e;subst e;rw[v];simp;exact eq_comm
  ·rename_i e;constructor
   ·exact .inr
   ·rintro(⟨_,h⟩|h)
    ·exact absurd h.symm e
    ·exact h
 ·rw[(Wq x L).mem_iff,Ql,M.mem];constructor
  ·rintro(rfl|⟨q,c,d⟩)
   ·exact⟨p,(use p y).2 (.inl ⟨rfl,rfl⟩)⟩
   ·exact⟨q,(use q y).2 (.inr ⟨c,d⟩)⟩
  ·rintro⟨q,h⟩;have f:=(use q y).1 h;rcases f with⟨_,rfl⟩|h
   ·exact .inl rfl
   ·exact .inr ⟨q,h⟩
 ·have t:=C s
  have:∀n:Int,(∃q:Nat,n=q/\(q:Int)∉fr/\∃y,(st.set p x)[q]? = some y/\y.key.slot=s)↔(n=p/\x.key.slot=s)\/n∈l s:=by
   intro n;rw[t.2 n];constructor
   ·rintro⟨q,rfl,c,y,d,g⟩;have f:=(use q y).1 ⟨c,d⟩;rcases f with⟨rfl,rfl⟩|⟨K,h5⟩
    ·exact .inl ⟨rfl,g⟩
    ·exact .inr ⟨q,rfl,K,y,h5,g⟩
   ·rintro(⟨rfl,h⟩|⟨q,rfl,c,y,d,g⟩)
    ·have:=(use p x).2 (.inl ⟨rfl,rfl⟩);exact⟨p,rfl,this.1,x,this.2,h⟩
    ·have:=(use q y).2 (.inr ⟨c,d⟩);exact⟨q,rfl,this.1,y,this.2,g⟩
  have O:(p:Int)∉l s:=λh=>by obtain⟨q,H,c,_⟩:=(t.2 _).1 h;rw[<-H]at c;exact c (by simp)
  dsimp only;split
  ·rename_i e;refine⟨?_,λn=>?_⟩
   ·rw[JU];refine⟨t.1,by simp,λa X b hb=>?_⟩;rw[Qc]at hb;subst hb;rintro rfl;exact O X
   ·rw[this,Qf,Qc];constructor
    ·rintro(h|h)
     ·exact .inr h
     ·exact .inl ⟨h,e.symm⟩
    ·rintro(⟨h,_⟩|h)
     ·exact .inr h
     ·exact .inl h
  ·rename_i e;refine⟨t.1,λn=>?_⟩;rw[this];exact⟨.inr,λh=>h.elim (λh=>absurd h.2.symm e) id⟩
theorem GU.drop{size:Nat}{ts:TS}{fr:List Int}{st:List AN}(T:GU size ts fr st){p:Nat}{x:AN}(v:(p:Int)∉fr)(t:st[p]? = some x):
  GU size (Ec ts x.key).1 (fr++[(p:Int)]) st:=by
 have g:=T.ok;obtain⟨C,E,F,G⟩:=g;have z:=T.cnt;have H:p<size:=by rw[<-T.stl];exact(Qy.1 t).1
 have I:=(T.tell x.key p).2 ⟨p,rfl,v,x,t,rfl⟩;have hd:Ec ts x.key=(⟨λA=>if A=x.key then none else ts.M A,ts.u - 1⟩,true):=by unfold Ec;rw[I]
 rw[hd]
 have l:RZ size (fr++[(p:Int)]):=by
  refine⟨C,E,λn o=>?_,?_⟩
  ·have g:=Qf.1 o;rcases g with o|o
   ·exact F n o
   ·rw[Qc]at o;omega
  ·rw[JU];refine⟨G,by simp,λa J b hb=>?_⟩;rw[Qc]at hb;subst hb;rintro rfl;exact v J
 have r:=vB l;rw[Qb,VC]at r;refine⟨l,T.stl,λk n=>?_,by show ts.u - 1+(fr++[(p:Int)]).length=size;rw[Qb,VC];omega⟩;show(if k=x.key then none else ts.M k)=some n↔_;split
 ·rename_i e;subst e;constructor
  ·intro h;cases h
  ·rintro⟨q,rfl,c,y,d,f⟩;rw[Qf,Qc,not_or]at c;have:=T.inj c.1 v d t f;exact absurd (by rw[this]) c.2
 ·rename_i e;rw[T.tell];constructor
  ·rintro⟨q,rfl,c,y,d,f⟩;refine⟨q,rfl,λh=>?_,y,d,f⟩;have g:=Qf.1 h;rcases g with h|h
   ·exact c h
   ·rw[Qc]at h;have:q=p:=by omega
    subst this;rw[t]at d;cases d;exact e f.symm
  ·rintro⟨q,rfl,c,y,d,f⟩;exact⟨q,rfl,λh=>c (QN _ h),y,d,f⟩
theorem Kj.drop{fr:List Int}{st L:List AN}{g:Int->List Int}(M:Kj fr st L)(C:Wg fr st g)(s:Int):
  Kj (fr++g s) st (I9 L s)/\Wg (fr++g s) st (λs'=>if s'=s then[] else g s'):=by
 have d:∀(q:Nat) (y:AN),st[q]? = some y->((q:Int)∉fr++g s↔(q:Int)∉fr/\y.key.slot≠s):=by
  intro q y o;rw[Qf,not_or,(C s).2];constructor
  ·rintro⟨c,b⟩;exact⟨c,λe=>b ⟨q,rfl,c,y,o,e⟩⟩
  ·rintro⟨c,b⟩;refine⟨c,λ⟨p,r,_,t,l,e⟩=>b ?_⟩;have:q=p:=by omega
   subst this;rw[o]at l;cases l;exact e
 refine⟨⟨M.ris.sublist (XY ..),λx=>?_⟩,λs'=>?_⟩
 ·unfold I9;rw[QC,M.mem,decide_eq_true_eq];constructor
  ·rintro⟨⟨q,c,b⟩,f⟩;exact⟨q,(d q x b).2 ⟨c,f⟩,b⟩
  ·rintro⟨q,c,b⟩;have:=(d q x b).1 c;exact⟨⟨q,this.1,b⟩,this.2⟩
 ·dsimp only;split
  ·rename_i e;subst e;refine⟨by simp,λn=>⟨λh=>by simp at h,?_⟩⟩;rintro⟨q,rfl,c,y,b,f⟩;exact absurd f ((d q y b).1 c).2
  ·rename_i e;refine⟨(C s').1,λn=>?_⟩;rw[(C s').2];constructor
   ·rintro⟨q,rfl,c,y,b,f⟩;exact⟨q,rfl,(d q y b).2 ⟨c,λh=>e (f.symm.trans h)⟩,y,b,f⟩
   ·rintro⟨q,rfl,c,y,b,f⟩;exact⟨q,rfl,((d q y b).1 c).1,y,b,f⟩
theorem GU.of{size:Nat}{ts:TS}{fr:List Int}{st L:List AN}{r:Int->List Int}(T:GU size ts fr st)(M:Kj fr st L)(C:Wg fr st r)(s:Int):
  ((r s).map λn=>st.getD n.toNat LK).Perm (N1 L s):=by
 have d:=C s;refine(JM ?_ (M.ris.nodup.filter _)).2 λx=>?_
 ·rw[Qx,QY];have f:=d.1;rw[Qx]at f;refine Vv (λ{a b} v hb o e=>o ?_) f;have g:=(d.2 a).1 v;obtain⟨p,rfl,h,y,c,_⟩:=g;have g:=(d.2 b).1 hb;obtain⟨q,rfl,l,z,t,_⟩:=g;simp only[QW,Qk,c,t,QP]at e;subst e;rw[T.inj h l c t rfl]
 ·rw[QC,M.mem,decide_eq_true_eq,Qq];constructor
  ·rintro⟨n,A,rfl⟩;have g:=(d.2 n).1 A;obtain⟨p,rfl,h,y,c,l⟩:=g;simp only[QW,Qk,c,QP];exact⟨⟨p,h,c⟩,l⟩
  ·rintro⟨⟨p,h,c⟩,l⟩;refine⟨p,(d.2 _).2 ⟨p,rfl,h,x,c,l⟩,?_⟩;simp only[QW,Qk,c,QP]
structure BP where
 f:Nat
 t:Nat
deriving DecidableEq
structure An where
 n:Nat
 es:List BP
 ws:List (List ByteArray)
structure FX where
 kind:Int
 frm:Int
 to:Int
 words:List ByteArray
 rad:Int
 most:Int
def Aj (g:An) (dir:Int) (u:Nat):List Nat:=if dir=1 then(g.es.filter λe=>e.t==u).map (·.f) else(g.es.filter λe=>e.f==u).map (·.t)
def src (q:FX) (dir:Int):List Nat:=if dir=0 then[q.frm.toNat] else if q.kind=1 then[q.to.toNat] else[]
def IL (q:FX) (d:Nat):Bool:=!(decide (q.kind=3) && decide (q.rad<=d))
def Mz (g:An) (q:FX) (dir:Int):Nat->List Nat×List Nat
 |0=>([],src q dir)
 |d+1=>((Mz g q dir d).1++(Mz g q dir d).2,
  if IL q d then(List.range g.n).filter λv=>!((Mz g q dir d).1++(Mz g q dir d).2).contains v && (Mz g q dir d).2.any λu=>(Aj g dir u).contains v else[])
def lv (g:An) (q:FX) (dir:Int) (d:Nat):List Nat:=(Mz g q dir d).2
def sn (g:An) (q:FX) (dir:Int) (d:Nat):List Nat:=(Mz g q dir d).1
structure NU (g:An):Prop where
 n1:1<=g.n
 n2:g.n<=200
 ed:∀e∈g.es,e.f<g.n/\e.t<g.n
structure LZ (q:FX) (n:Nat):Prop where
 kind:q.kind=1\/q.kind=2\/q.kind=3
 frm:0<=q.frm/\q.frm<n
 to:q.kind<3->0<=q.to/\q.to<n
 near:q.kind=3->1<=q.words.length/\q.words.length<=8/\0<=q.rad/\q.rad<=200/\1<=q.most/\q.most<=100
section
variable {g:An} {q:FX} {dir:Int}
theorem zQL:sn g q dir 0=[]:=rfl
theorem lN:lv g q dir 0=src q dir:=rfl
theorem XC(d:Nat):sn g q dir (d+1)=sn g q dir d++lv g q dir d:=rfl
theorem qF(d:Nat):lv g q dir (d+1)=if IL q d then(List.range g.n).filter λv=>!(sn g q dir (d+1)).contains v && (lv g q dir d).any λu=>(Aj g dir u).contains v else[]:=rfl
theorem YW{d v:Nat}:v∈lv g q dir (d+1)↔IL q d=true/\v<g.n/\v∉sn g q dir (d+1)/\∃u∈lv g q dir d,v∈Aj g dir u:=by simp[qF,QC,Q0,Qz,VJ,Vi,VA,Vy]
theorem LR{d v:Nat}:v∈sn g q dir d↔∃j,j<d/\v∈lv g q dir j:=by
 induction d with
 |zero=>simp[zQL]
 |succ d e =>
  rw[XC,Qf,e];constructor
  ·rintro(⟨j,f,b⟩|h)
   ·exact⟨j,by omega,b⟩
   ·exact⟨d,by omega,h⟩
  ·rintro⟨j,f,b⟩;have c:=QH j d;rcases c with h|h
   ·exact .inl ⟨j,h,b⟩
   ·have c:j=d:=by omega
    obtain rfl:=c;exact .inr b
theorem Tc(b:LZ q g.n){d v:Nat}(h:v∈lv g q dir d):v<g.n:=by
 cases d with
 |zero =>
  rw[lN]at h;unfold src at h;have c:=b.frm;split at h
  ·simp at h;omega
  ·split at h
   ·rename_i e;have:=b.to (by omega);simp at h;omega
   ·simp at h
 |succ d=>exact(YW.1 h).2.1
theorem Mw(d:Nat):(lv g q dir d).Pairwise (· < ·):=by
 cases d with
 |zero =>
  rw[lN];unfold src;split<;>(try split)<;>simp
 |succ d =>
  rw[qF];split
  ·exact List.pairwise_lt_range.filter _
  ·exact .nil
theorem tS{v:Nat}(hi:v∈lv g q dir i)(c:v∈lv g q dir j):i=j:=by
 have b:∀{i j:Nat},i<j->v∈lv g q dir i->v∈lv g q dir j->False:=by
  intro i j d hi c
  cases j with
  |zero=>omega
  |succ j=>exact(YW.1 c).2.2.1 (LR.2 ⟨i,d,hi⟩)
 have e:=VG i j;rcases e with h|h|h
 ·exact(b h hi c).elim
 ·exact h
 ·exact(b h c hi).elim
theorem zPG(d:Nat):(sn g q dir d).Nodup:=by
 induction d with
 |zero=>exact .nil
 |succ d c =>
  rw[XC,JU];refine⟨c,?_,λa f b hb e=>?_⟩
  ·rw[Qx];exact(Mw d).imp λh=>by omega
  ·subst e;have l:=LR.1 f;obtain⟨j,p,o⟩:=l;have:=tS o hb;omega
theorem SU{l:List Nat}(h:l.Nodup)(c:∀x∈l,x<n):l.length<=n:=by
 have d:l.Perm ((List.range n).filter λx=>decide (x∈l)):=by
  refine(JM h (List.nodup_range.filter _)).2 λx=>?_;simp only[QC,Q0,decide_eq_true_eq];exact⟨λb=>⟨c x b,b⟩,λb=>b.2⟩
 rw[d.length_eq];exact Qw (Qv _ _) (by simp)
theorem MH(b:LZ q g.n)(d:Nat):(sn g q dir d).length<=g.n:=
 SU (zPG d) λx c=>by obtain⟨j,_,h⟩:=LR.1 c;exact Tc b h
theorem zQj{d:Nat}(h:lv g q dir (d+1)≠[]):lv g q dir d≠[]:=by
 have b:=List.exists_mem_of_ne_nil _ h;obtain⟨v,c⟩:=b;have b:=YW.1 c;obtain⟨_,_,_,u,e,_⟩:=b;exact List.ne_nil_of_mem e
theorem ZH{d:Nat}(h:lv g q dir d≠[]):d<=(sn g q dir d).length:=by
 induction d with
 |zero=>omega
 |succ d c =>
  have b:=zQj h;have:=c b;rw[XC,Qb];have:=JI.2 b;omega
theorem zO2(b:LZ q g.n){d:Nat}(h:lv g q dir d≠[]):d<g.n:=by
 have e:=ZH h;have c:=MH (dir:=dir) b (d+1);rw[XC,Qb]at c;have:=JI.2 h;omega
end
def Q8 (g:An) (q:FX) (slot:Int) (i:Nat) (dir:Int):List AN:=(lv g q dir i).map λv:Nat=>⟨⟨slot,dir,v⟩,i⟩
def Cf (g:An) (q:FX) (slot:Int) (i:Nat):List AN:=Q8 g q slot i 0++Q8 g q slot i 1
def EJ (f S:List AN):List AN:=f.foldl (λL x=>HP x L) S
def sts (g:An) (q:FX) (slot:Int):Nat->List AN
 |0=>[]
 |i+1=>EJ (Cf g q slot i) (sts g q slot i)
section
variable {g:An} {q:FX} {slot:Int}
theorem Pz{x:AN}:x∈Cf g q slot i↔x.key.slot=slot/\x.d=i/\(x.key.dir=0\/x.key.dir=1)/\∃v:Nat,x.key.v=v/\v∈lv g q x.key.dir i:=by
 unfold Cf Q8;simp only[Qf,Qq];constructor
 ·rintro(⟨v,h,rfl⟩|⟨v,h,rfl⟩)
  ·exact⟨rfl,rfl,.inl rfl,v,rfl,h⟩
  ·exact⟨rfl,rfl,.inr rfl,v,rfl,h⟩
 ·obtain⟨⟨s,d,v⟩,e⟩:=x;rintro⟨rfl,rfl,h,v,rfl,b⟩;rcases h with h|h
  ·dsimp only at h;subst h;exact .inl ⟨v,b,rfl⟩
  ·dsimp only at h;subst h;exact .inr ⟨v,b,rfl⟩
theorem fY(i:Nat):CE (Cf g q slot i):=by
 unfold Cf Q8;rw[CE,VK];refine⟨?_,?_,?_⟩
 ·rw[QY];exact(Mw i).imp λh=>.inr ⟨rfl,.inr ⟨rfl,Int.ofNat_lt.2 h⟩⟩
 ·rw[QY];exact(Mw i).imp λh=>.inr ⟨rfl,.inr ⟨rfl,Int.ofNat_lt.2 h⟩⟩
 ·intro a d b hb;have c:=Qq.1 d;obtain⟨u,_,rfl⟩:=c;have c:=Qq.1 hb;obtain⟨v,_,rfl⟩:=c;exact .inr ⟨rfl,.inl (show(0:Int)<1 by decide)⟩
theorem bD(f S:List AN):(EJ f S).Perm (S++f):=by
 unfold EJ
 induction f generalizing S with
 |nil=>simp
 |cons x r b =>
  rw[JY];refine(b _).trans (((Wq x S).append_right r).trans ?_);simpa using (XH (l₁:=S) (a:=x) (l₂:=r)).symm
theorem pZ{f:List AN}:∀{S:List AN},CE S->(f.Pairwise λa b=>a.key≠b.key)->(∀x∈f,∀y∈S,y.key≠x.key)->CE (EJ f S):=by
 unfold EJ
 induction f with
 |nil=>intro S h _ _;exact h
 |cons x r o =>
  intro S h c e;rw[JY];rw[QM]at c;refine o (dU x h (e x Qs)) c.2 λz l y d=>?_;have p:=Ql.1 ((Wq x S).mem_iff.1 d);rcases p with rfl|d
  ·exact c.1 z l
  ·exact e z (QF _ l) y d
theorem TV{x:AN}:x∈sts g q slot i↔∃j,j<i/\x∈Cf g q slot j:=by
 induction i with
 |zero=>simp[sts]
 |succ i d =>
  rw[sts,(bD _ _).mem_iff,Qf,d];constructor
  ·rintro(⟨j,e,b⟩|h)
   ·exact⟨j,by omega,b⟩
   ·exact⟨i,by omega,h⟩
  ·rintro⟨j,e,b⟩;have c:=QH j i;rcases c with h|h
   ·exact .inl ⟨j,h,b⟩
   ·have c:j=i:=by omega
    obtain rfl:=c;exact .inr b
theorem hH{x y:AN}(d:x∈Cf g q slot i)(f:y∈Cf g q slot j)(e:x.key=y.key):i=j:=by
 have b:=Pz.1 d;obtain⟨_,_,_,u,h,c⟩:=b;have b:=Pz.1 f;obtain⟨_,_,_,v,o,l⟩:=b;rw[e]at h c;have:u=v:=by omega
 subst this;exact tS c l
theorem jA{L:List AN}(h:CE L):L.Pairwise λa b=>a.key≠b.key:=h.imp λh=>PK h
theorem hU(i:Nat):CE (sts g q slot i):=by
 induction i with
 |zero=>exact .nil
 |succ i b =>
  refine pZ b (jA (fY i)) λx c y d e=>?_;have f:=TV.1 d;obtain⟨j,l,h⟩:=f;have:=hH h c e;omega
theorem pL(b:LZ q g.n)(f:g.n<=200)(h:0<=slot/\slot<=1000){x:AN}(c:x∈Cf g q slot i):Dz x/\x.key.v<g.n/\0<=x.d/\x.d<g.n:=by
 have e:=Pz.1 c;obtain⟨l,o,p,v,r,h5⟩:=e;have t:=Tc b h5;have y:=zO2 b (List.ne_nil_of_mem h5);unfold Dz GW;omega
theorem eK(b:LZ q g.n)(c:g.n<=200)(e:0<=slot/\slot<=1000){x:AN}(f:x∈sts g q slot i):Dz x/\x.key.v<g.n/\0<=x.d/\x.d<g.n/\x.key.slot=slot:=by
 have l:=TV.1 f;obtain⟨j,_,h⟩:=l;have:=pL b c e h;exact⟨this.1,this.2.1,this.2.2.1,this.2.2.2,(Pz.1 h).1⟩
theorem sT(i:Nat):(sts g q slot i).length=(sn g q 0 i).length+(sn g q 1 i).length:=by
 induction i with
 |zero=>rfl
 |succ i b =>
  rw[sts,(bD _ _).length_eq,Qb,b,XC,XC];simp only[Cf,Q8,Qb,Qr];omega
end
def Fa (x:AN):List AN->List AN
 |[]=>[x]
 |y::r=>if Bw y.key x.key then y::Fa x r else if y.key=x.key then ⟨x.key,min x.d y.d⟩::r else x::y::r
def Eb (l:List AN):List AN:=l.foldl (λL x=>Fa x L) []
theorem lR(a b:Al):Bw a b\/a=b\/Bw b a:=by
 unfold Bw;have c:=XD a.slot b.slot;rcases c with h|h|h
 ·omega
 ·have c:=XD a.dir b.dir;rcases c with d|d|d
  ·omega
  ·have c:=XD a.v b.v;rcases c with e|e|e
   ·omega
   ·exact .inr (.inl (bT h d e))
   ·omega
  ·omega
 ·omega
theorem uW(x:AN):∀{L:List AN} {z:AN},z∈Fa x L->z.key=x.key\/∃y∈L,y.key=z.key
 |[],z,h=>by simp[Fa]at h;exact .inl (by rw[h])
 |y::r,z,h=>by
  unfold Fa at h;split at h
  ·have b:=Ql.1 h;rcases b with rfl|h
   ·exact .inr ⟨_,Qs,rfl⟩
   ·have b:=uW x h;rcases b with h|⟨w,c,d⟩
    ·exact .inl h
    ·exact .inr ⟨w,QF _ c,d⟩
  ·split at h
   ·have b:=Ql.1 h;rcases b with rfl|h
    ·exact .inl rfl
    ·exact .inr ⟨z,QF _ h,rfl⟩
   ·have b:=Ql.1 h;rcases b with rfl|h
    ·exact .inl rfl
    ·exact .inr ⟨z,h,rfl⟩
theorem sA(x:AN):∀{L:List AN},CE L->CE (Fa x L)
 |[],_=>by simp[Fa]
 |y::r,h=>by
  rw[CE,QM]at h;unfold Fa;split
  ·rename_i d;refine QM.2 ⟨λz b=>?_,sA x h.2⟩;have c:=uW x b;rcases c with e|⟨w,g,l⟩
   ·rw[e];exact d
   ·rw[<-l];exact h.1 w g
  ·rename_i d;split
   ·rename_i e;exact QM.2 ⟨λz b=>by show Bw x.key z.key;rw[<-e];exact h.1 z b,h.2⟩
   ·rename_i e
    have f:Bw x.key y.key:=by
     have c:=lR x.key y.key;rcases c with h|h|h
     ·exact h
     ·exact absurd h.symm e
     ·exact absurd h d
    refine QM.2 ⟨λz b=>?_,QM.2 h⟩;have c:=Ql.1 b;rcases c with rfl|b
    ·exact f
    ·exact bU f (h.1 z b)
def Ca (l:List AN) (z:AN):Prop:=z∈l/\∀y∈l,y.key=z.key->z.d<=y.d
theorem aR{a b:AN}(c:a.key=b.key)(e:a.d=b.d):a=b:=by cases a;cases b;simp_all
theorem mK(x:AN):∀{L:List AN},CE L->∀{z:AN},z∈Fa x L↔Ca (x::L) z
 |[],_,z=>by
  simp only[Fa,Ca,Qc,forall_eq];exact⟨λh=>⟨h,λ_=>by rw[h];exact Vr _⟩,λh=>h.1⟩
 |y::r,h,z=>by
  have t:=h;rw[CE,QM]at h;have E:=mK x h.2 (z:=z);unfold Fa;split
  ·rename_i v;have o:x.key≠y.key:=λe=>PK v e.symm;rw[Ql,E];unfold Ca;constructor
   ·rintro(rfl|⟨f,g⟩)
    ·refine⟨by simp,λw c e=>?_⟩;have b:=Ql.1 c;rcases b with rfl|c
     ·exact absurd e o
     ·rw[t.inj c Qs e];exact Vr _
    ·refine⟨by rcases Ql.1 f with f|f<;>simp[f],λw c e=>?_⟩;have b:=Ql.1 c;rcases b with rfl|c
     ·exact g w Qs e
     ·have b:=Ql.1 c;rcases b with rfl|c
      ·exfalso;have b:=Ql.1 f;rcases b with rfl|f
       ·exact o e.symm
       ·exact PK (h.1 z f) e
      ·exact g w (QF _ c) e
   ·rintro⟨f,g⟩;have b:=Ql.1 f;rcases b with rfl|f
    ·exact .inr ⟨Qs,λw c e=>g w (by rcases Ql.1 c with h|h<;>simp[h]) e⟩
    ·have b:=Ql.1 f;rcases b with rfl|f
     ·exact .inl rfl
     ·exact .inr ⟨QF _ f,λw c e=>g w (by rcases Ql.1 c with h|h<;>simp[h]) e⟩
  ·rename_i v;split
   ·rename_i e;rw[Ql];unfold Ca;constructor
    ·rintro(rfl|f)
     ·refine⟨?_,λw c l=>?_⟩
      ·have b:=Int.le_total x.d y.d;rcases b with h5|h5
       ·rw[Int.min_eq_left h5];exact Qs
       ·rw[Yk h5,<-e];exact QF _ Qs
      ·have b:=Ql.1 c;rcases b with rfl|c
       ·exact Int.min_le_left _ _
       ·rw[t.inj c Qs (l.trans e.symm)];exact Int.min_le_right _ _
     ·refine⟨by simp[f],λw c l=>?_⟩;have b:=Ql.1 c;rcases b with rfl|c
      ·exact absurd (e.trans l) (PK (h.1 z f))
      ·rw[t.inj c (QF _ f) l];exact Vr _
    ·rintro⟨f,g⟩;have b:=Ql.1 f;rcases b with rfl|f
     ·left;have:=g y (by simp) e;exact aR rfl (Int.min_eq_left this).symm
     ·have b:=Ql.1 f;rcases b with rfl|f
      ·left;have:=g x (by simp) e.symm;exact aR e (Yk this).symm
      ·exact .inr f
   ·rename_i e;rw[Ql];unfold Ca
    have C:Bw x.key y.key:=by
     have b:=lR x.key y.key;rcases b with h|h|h
     ·exact h
     ·exact absurd h.symm e
     ·exact absurd h v
    constructor
    ·intro p;refine⟨Ql.2 p,λw c l=>?_⟩
     have q:∀u∈y::r,Bw x.key u.key:=λu A=>by
      have b:=Ql.1 A;rcases b with rfl|A
      ·exact C
      ·exact bU C (h.1 u A)
     rcases p with rfl|p
     ·have b:=Ql.1 c;rcases b with rfl|c
      ·exact Vr _
      ·exact absurd l.symm (PK (q w c))
     ·have b:=Ql.1 c;rcases b with rfl|c
      ·exact absurd l (PK (q z p))
      ·rw[t.inj c p l];exact Vr _
    ·exact λh=>Ql.1 h.1
theorem mS:∀(s:List AN) (k:Al),(∃y∈s,y.key=k)->∃w,w∈s/\w.key=k/\∀u∈s,u.key=k->w.d<=u.d
 |[],_,⟨_,h,_⟩=>(by cases h)
 |a::s,k,h=>by
  by_cases f:∃y∈s,y.key=k
  ·have c:=mS s k f;obtain⟨w,q,a2,p⟩:=c;by_cases g:a.key=k/\a.d<=w.d
   ·refine⟨a,Qs,g.1,λu b l=>?_⟩;have c:=Ql.1 b;rcases c with rfl|b
    ·exact Vr _
    ·exact Int.le_trans g.2 (p u b l)
   ·refine⟨w,QF _ q,a2,λu b l=>?_⟩;have c:=Ql.1 b;rcases c with rfl|b
    ·have:¬u.d<=w.d:=λh=>g ⟨l,h⟩;omega
    ·exact p u b l
  ·obtain⟨y,o,e⟩:=h;have c:=Ql.1 o;rcases c with rfl|o
   ·refine⟨y,Qs,e,λu b l=>?_⟩;have c:=Ql.1 b;rcases c with rfl|b
    ·exact Vr _
    ·exact absurd ⟨u,b,l⟩ f
   ·exact absurd ⟨y,o,e⟩ f
theorem Ww(l:List AN):CE (Eb l)/\∀z,z∈Eb l↔Ca l z:=by
 have p:∀(m l L:List AN),CE L->(∀z,z∈L↔Ca l z)->CE (m.foldl (λL x=>Fa x L) L)/\∀z,z∈m.foldl (λL x=>Fa x L) L↔Ca (l++m) z:=by
  intro m
  induction m with
  |nil=>intro l L o g;simpa using ⟨o,g⟩
  |cons x r t =>
   intro l L o g;rw[JY]
   have:=t (l++[x]) (Fa x L) (sA x o) λz=>by
    rw[mK x o];unfold Ca;constructor
    ·rintro⟨c,h⟩
     have v:z∈l++[x]:=by
      have d:=Ql.1 c;rcases d with rfl|c
      ·simp
      ·exact QN _ ((g z).1 c).1
     refine⟨v,λy f e=>?_⟩;have d:=Qf.1 f;rcases d with b|b
     ·have d:=mS l y.key ⟨y,b,rfl⟩;obtain⟨w,A,a2,q⟩:=d;have C:=(g w).2 ⟨A,λu E F=>q u E (F.trans a2)⟩;exact Int.le_trans (h w (QF _ C) (a2.trans e)) (q y b rfl)
     ·rw[Qc]at b;subst b;exact h y Qs e
    ·rintro⟨c,h⟩;refine⟨?_,λy f e=>?_⟩
     ·have d:=Qf.1 c;rcases d with c|c
      ·exact QF _ ((g z).2 ⟨c,λy f e=>h y (QN _ f) e⟩)
      ·rw[Qc]at c;subst c;exact Qs
     ·have d:=Ql.1 f;rcases d with rfl|f
      ·exact h y (by simp) e
      ·exact h y (QN _ ((g y).1 f).1) e
   simpa using this
 have:=p l [] [] .nil λz=>by simp[Ca]
 simpa[Eb]using this
theorem kM{l out:List AN}(h:CE out)(b:∀z,z∈out↔Ca l z):out=Eb l:=
 h.uniq (Ww l).1 λz=>(b z).trans ((Ww l).2 z).symm
theorem y7{l:List AN}(h:CE l):Eb l=l:=
 ((kM h λz=>⟨λb=>⟨b,λy c e=>by rw[h.inj c b e];exact Vr _⟩,λb=>b.1⟩)).symm
theorem zM4{l m:List AN}(h:l.Perm m):Eb l=Eb m:=
 kM (Ww l).1 λz=>((Ww l).2 z).trans (by unfold Ca;simp only[h.mem_iff])
def Ft (S:List AN) (k:Al):Bool:=S.any λy=>decide (y.key=k)
theorem cD{S:List AN}{k:Al}:Ft S k=true↔∃y∈S,y.key=k:=by simp[Ft]
def Ba (S M:List AN):List AN:=(Eb M).filter λx=>!Ft S x.key
theorem vM(S M:List AN):CE (Ba S M):=(Ww M).1.filter _
theorem gU{S M:List AN}{z:AN}:z∈Ba S M↔Ca M z/\∀y∈S,y.key≠z.key:=by
 unfold Ba;rw[QC,(Ww M).2];simp[Ft]
def CF (g:An) (q:FX) (x:AN):List AN:=
 if q.kind=3/\q.rad<=x.d then[] else(Aj g x.key.dir x.key.v.toNat).map λv:Nat=>⟨⟨x.key.slot,x.key.dir,v⟩,x.d+1⟩
def Hv (g:An) (q:FX) (S M:List AN):List AN×List AN:=
 (EJ (Ba S M) S,Ba (EJ (Ba S M) S) ((Ba S M).flatMap (CF g q)))
section
variable {g:An} {q:FX} {slot:Int}
theorem zNM(i:Nat):Ba (sts g q slot i) (Cf g q slot i)=Cf g q slot i:=by
 unfold Ba;rw[y7 (fY i),JH];intro x b;simp only[VJ,<-Vy,cD];rintro⟨y,c,e⟩;have d:=TV.1 c;obtain⟨j,h,f⟩:=d;have:=hH f b e;omega
theorem IX(d:NU g){dir:Int}{u v:Nat}(h:v∈Aj g dir u):v<g.n:=by
 unfold Aj at h;split at h
 ·have b:=Qq.1 h;obtain⟨e,c,rfl⟩:=b;exact(d.ed e (QC.1 c).1).1
 ·have b:=Qq.1 h;obtain⟨e,c,rfl⟩:=b;exact(d.ed e (QC.1 c).1).2
theorem fU{z:AN}:z∈(Cf g q slot i).flatMap (CF g q)↔z.key.slot=slot/\z.d=(i:Int)+1/\(z.key.dir=0\/z.key.dir=1)/\IL q i=true/\∃u∈lv g q z.key.dir i,∃v:Nat,z.key.v=v/\v∈Aj g z.key.dir u:=by
 rw[VP];constructor
 ·rintro⟨x,r,c⟩;have f:=Pz.1 r;obtain⟨h,e,l,u,o,h5⟩:=f;unfold CF at c;split at c
  ·cases c
  ·rename_i b;have f:=Qq.1 c;obtain⟨v,p,rfl⟩:=f;refine⟨h,by show x.d+1=_;rw[e],l,?_,u,h5,v,rfl,?_⟩
   ·rw[e]at b;simp only[IL,VJ,<-Vy,Qz,decide_eq_true_eq];exact b
   ·rw[o]at p;simpa using p
 ·rintro⟨h,e,l,o,u,h5,v,t,y⟩;refine⟨⟨⟨slot,z.key.dir,u⟩,i⟩,Pz.2 ⟨rfl,rfl,l,u,rfl,h5⟩,?_⟩;unfold CF;rw[if_neg (by rintro⟨A,C⟩;simp[IL,A,C]at o)];refine Qq.2 ⟨v,by simpa using y,aR (bT h.symm rfl t.symm) ?_⟩;exact e.symm
theorem zPK(A:NU g)(i:Nat):Hv g q (sts g q slot i) (Cf g q slot i)=(sts g q slot (i+1),Cf g q slot (i+1)):=by
 unfold Hv;rw[zNM];refine Prod.ext rfl ?_;refine(vM _ _).uniq (fY _) λz=>?_;have e:EJ (Cf g q slot i) (sts g q slot i)=sts g q slot (i+1):=rfl;rw[e,gU];constructor
 ·rintro⟨⟨C,_⟩,E⟩;have b:=fU.1 C;obtain⟨c,a2,d,f,u,h,v,p,r⟩:=b;refine Pz.2 ⟨c,by rw[a2];simp,d,v,p,YW.2 ⟨f,IX A r,λF=>?_,u,h,r⟩⟩;have b:=LR.1 F;obtain⟨j,t,l⟩:=b;exact E ⟨⟨slot,z.key.dir,v⟩,j⟩ (TV.2 ⟨j,t,Pz.2 ⟨rfl,rfl,d,v,rfl,l⟩⟩) (bT c.symm rfl p.symm)
 ·intro x;have b:=Pz.1 x;obtain⟨c,a2,d,v,f,h⟩:=b;have b:=YW.1 h;obtain⟨G,J,K,u,H,I⟩:=b;refine⟨⟨fU.2 ⟨c,by rw[a2];simp,d,G,u,H,v,f,I⟩,λy o _=>?_⟩,λy o e=>?_⟩
  ·have:=(fU.1 o).2.1;rw[a2,this];simp
  ·have b:=TV.1 o;obtain⟨j,t,l⟩:=b;have:=hH l x e;omega
end
section
variable {t:TypeId} {v:Value} {α:Type} [Inhabited α] {lt:α->α->Bool} {St:List α->World->Prop} {B0:Nat} {es:List TypeId}
theorem mY{l:List α}{y:α}{p:Nat}(h:p<l.length):CA (l++[y]) p=CA l p:=by
 unfold CA;simp[VL h]
theorem zKa{l:List α}{p:Nat}(h:p<l.length - 1):CA l.dropLast p=CA l p:=by
 unfold CA;simp only[Qk,List.getElem?_dropLast];rw[if_pos h]
theorem Dq.congr{l l':List α}(h:Dq lt l n)(e:∀p,p<n->CA l' p=CA l p):Dq lt l' n:=λc c0 b=>by
 rw[e c b,e _ (by omega)];exact h c c0 b
theorem lM(H:LD PP t v lt St B0 es){l:List α}{y:α}{x:Value}(F:St l w)(G:l.length<=99999)(h:Dq lt l l.length)
  (b : Hq PP t v "Push" [x] w λ_ w' => St (l ++ [y]) w' /\ BQ B0 es w w') :
  Sp PP 145 #[.iface t v,x] w λ_ w'=>(∃l':List α,l'.Perm (l++[y])/\St l' w'/\Dq lt l' l'.length)/\BQ B0 es w w':=by
 refine eN ?_;refine b.out rfl rfl rfl rfl ?_;rintro _ w1 ⟨o,p⟩;refine(H.len _ w1 o).out rfl rfl rfl rfl ?_;rintro _ I ⟨rfl,q,r⟩;have d:(l++[y]).length=l.length+1:=by simp
 refine rF l.length (AA (YD H (n:=l.length+1) (j:=l.length) q (by omega) (by omega) ⟨λc c0 e f z=>?_,λc c0 e f z=>by omega⟩ (λc c0 e f=>by omega)) ?_)
 ·rw[mY (by omega),mY (by omega)];exact h c c0 (by omega)
 rintro _ J ⟨⟨l',g,_,A,K⟩,C⟩;have E:=g.length_eq;exact⟨⟨l',g,A,by simp_all⟩,(p.trans r).trans C⟩
theorem RG(H : LD PP t v lt St B0 es){RX : α -> Value -> Prop}(r : ∀ l w, St l w -> l ≠ [] -> Hq PP t v "Pop" [] w λx w' => RX (CA l (l.length - 1)) x /\ St l.dropLast w' /\ BQ B0 es w w'){l : List α}(E : St l w)(A : l ≠ [])(K : Dq lt l l.length) :
  Sp PP 146 #[.iface t v] w λx w'=>(RX (CA l 0) x/\∃l':List α,(CA l 0::l').Perm l/\St l' w'/\Dq lt l' l'.length)/\BQ B0 es w w':=by
 have L:=H.size l w E;have F:0<l.length:=JI.2 A;refine eN ?_;refine(H.len _ w E).out rfl rfl rfl rfl ?_;rintro _ w1 ⟨rfl,M,O⟩;have Q:∃n,l.length=n+1:=⟨l.length - 1,by omega⟩;obtain⟨n,R⟩:=Q;refine rF n ?_;refine(H.swap l w1 0 n M (by omega) (by omega)).out rfl rfl rfl rfl ?_;rintro _ w2 ⟨S,T⟩;have o:=λp=>LG (l:=l) (i:=0) (j:=n) (p:=p) (by omega) (by omega)
 have G:GZ lt (Kz l 0 n) n 0:=⟨λc c0 U y z=>by
  rw[o c,o,if_neg (by omega),if_neg y,if_neg (by omega),if_neg z];exact K c c0 (by omega),λc c0 U y z=>by omega⟩
 refine AA (zQa H (n:=n) (i0:=0) S (by omega) (by rw[TX];omega) G) ?_;rintro _ V ⟨⟨b,l',rfl,I,W,X,y,z⟩,Y⟩;have d:l'.length=n+1:=by rw[I.length_eq,TX,R]
 have C:Dq lt l' n:=by
  cases b with
  |true=>exact y rfl
  |false=>obtain⟨rfl,hb⟩:=z rfl;exact G.full (λh=>by omega) hb
 have f:CA l' (l'.length - 1)=CA l 0:=by
  rw[d,Nat.add_sub_cancel,W n (Qe _),o,if_pos rfl]
 refine(r l' V X (by intro e;rw[e]at d;simp at d)).out rfl rfl rfl rfl ?_;rintro x w4 ⟨J,Z,f4⟩;rw[f]at J
 have q:(CA l 0::l'.dropLast).Perm l:=by
  have g:l'≠[]:=by intro e;rw[e]at d;simp at d
  have e1:l'.dropLast++[CA l 0]=l':=by
   rw[<-f,N2 (by omega),<-List.getLast_eq_getElem g];exact Xc g
  have:=(VE (CA l 0) l'.dropLast).symm;rw[e1]at this;exact this.trans (I.trans (Zf (by omega) (by omega)))
 refine⟨⟨J,l'.dropLast,q,Z,?_⟩,((O.trans T).trans Y).trans f4⟩;rw[List.length_dropLast,d,Nat.add_sub_cancel];exact C.congr λp a0=>zKa (by omega)
end
structure AG where
 v:Int
 d:Int
deriving DecidableEq,Inhabited
instance:AK AG:=⟨2,λx=>[.int .i64 x.v,.int .i64 x.d],λ_=>rfl,by intro x u hu;simp at hu;rcases hu with rfl|rfl<;>rfl,by decide⟩
def AY (a b:AG):Bool:=decide (a.d<b.d\/a.d=b.d/\a.v<b.v)
def Mm (a b:AG):Int:=if AY a b then -1 else if AY b a then 1 else 0
theorem Lp(a b:AG):Mm a b<0↔AY a b=true:=by
 unfold Mm;split
 ·rename_i h;simp[h]
 ·rename_i h;split<;>simp[h]
theorem cB{b:Bool}:Sp PP 421 #[.bool b] w λv w'=>v=.int .i64 (if b then -1 else 1)/\w'=w:=by
 refine eN ?_;cases b
 ·exact⟨rfl,rfl⟩
 ·exact⟨rfl,rfl⟩
theorem mC{a b:AG}:Sp PP 407 #[agg a,agg b] w λv w'=>v=.int .i64 (Mm a b)/\Gw w w':=by
 refine eN ?_;refine BM λp w1 n1 f=>BM λq r n2 g=>?_;have d:=n1.gw.trans n2.gw;refine rX f rfl (rX g rfl ?_);refine ite (λh=>?_) (λh=>?_)
 ·refine rX f rfl (rX g rfl ?_);refine ite (λc=>?_) (λc=>?_)
  ·refine AA cB ?_;rintro v l ⟨rfl,rfl⟩;have e:Mm a b = -1:=by unfold Mm AY;rw[if_pos (by simp[c])]
   exact⟨by rw[e];rfl,d⟩
  ·refine AA cB ?_;rintro v l ⟨rfl,rfl⟩;have e:Mm a b=1:=by unfold Mm AY;rw[if_neg (by simp;omega),if_pos (by simp;omega)]
   exact⟨by rw[e];rfl,d⟩
 ·have h:=Q2.1 h;refine rX f rfl (rX g rfl ?_);refine ite (λc=>?_) (λc=>?_)
  ·refine rX f rfl (rX g rfl ?_);refine ite (λo=>?_) (λo=>?_)
   ·refine AA cB ?_;rintro v l ⟨rfl,rfl⟩;have e:Mm a b = -1:=by unfold Mm AY;rw[if_pos (by simp;omega)]
    exact⟨by rw[e];rfl,d⟩
   ·refine AA cB ?_;rintro v l ⟨rfl,rfl⟩;have e:Mm a b=1:=by unfold Mm AY;rw[if_neg (by simp;omega),if_pos (by simp;omega)]
    exact⟨by rw[e];rfl,d⟩
  ·have c:=Q2.1 c;have e:Mm a b=0:=by unfold Mm AY;rw[if_neg (by simp;omega),if_neg (by simp;omega)]
   exact⟨by rw[e];rfl,d⟩
structure OV (B:Nat) (w:World) (b:Nat) (a:OA) (c:Nat) (most:Int) (l:List AG):Prop where
 lo:B<=b
 cell:Bk w b [.slice a l.length c,.int .i64 most] 473
 row:AD B 499 w (.slice a l.length c) l
 size:l.length<=100000
abbrev pE:List TypeId:=[473,499]
theorem OV.up[L:Le w w']{b:Nat}{c:Nat}{most:Int}{l:List AG}(h:OV B w b a c most l):OV B w' b a c most l:=⟨h.lo,h.cell.mv,h.row.up,h.size⟩
theorem Lf(a:OA)(n c:Nat):∀u∈[Value.slice a n c],u.oneCell'=true:=by intro u b;simp at b;subst b;rfl
theorem wK{b c:Nat}{most:Int}{l:List AG}(Q:OV B w b a c most l):Sp PP 419 #[.pointer (some ⟨b,0,none⟩)] w λv w'=>v=.int .i64 (l.length:Nat)/\w'=w:=by
 refine eN ?_;refine rX Q.cell rfl ?_;exact⟨rfl,rfl⟩
theorem xM{b c:Nat}{most:Int}{l:List AG}(Q:OV B w b a c most l)(hi:i<l.length)(f:j<l.length):
  Sp PP 478 #[.pointer (some ⟨b,0,none⟩),.int .i64 i,.int .i64 j] w λv w'=>v=.bool (AY (CA l j) (CA l i))/\AC w w':=by
 refine eN ?_;refine dQ 17 λd r=>tX Q.cell rfl nf (CL (Q.row.sl.up (w':=d)) (x:=l[j]) (by simp) λt y g _=>Ch g rfl nf (tX Q.cell rfl nf (CL (Q.row.sl.up (w':=d)) (x:=l[i]) (by simp) λz A o _=>Ch o rfl nf (AA (mC (a:=l[j]) (b:=l[i])) ?_))));rintro v p ⟨rfl,e⟩;have C:AC d p:=⟨e.ext⟩;refine⟨e.ext,?_⟩;rw[N2 hi,N2 f];refine ite (λh=>?_) (λh=>?_)
 ·rw[(Lp _ _).1 h];exact⟨rfl,stp⟩
 ·have:AY l[j] l[i]=false:=by
   cases q:AY l[j] l[i] with
   |false=>rfl
   |true=>exact absurd ((Lp _ _).2 q) h
  rw[this];exact⟨rfl,stp⟩
theorem xK{b c:Nat}{most:Int}{l:List AG}(Q:OV B w b a c most l)(hi:i<l.length)(h:j<l.length):
  Sp PP 481 #[.pointer (some ⟨b,0,none⟩),.int .i64 i,.int .i64 j] w λ_ w'=>OV B w' b a c most (Kz l i j)/\BQ B pE w w':=by
 refine eN ?_;have C:=Q.cell;have O:=Q.row;refine dT (AV B (.slice a l.length c)) (oL [0,1,2,3,4,5,6,7,8,9,10,11,12,13,14,15,17,18,19,20,21,22] (.duo 16 (.lone 23 (oL [24,25,26,27] .nil)) 23 (.lone 16 (oL [24,25,26,27] .nil)))) λd H=>tX C rfl (C.notOwn O) (tX C rfl (C.notOwn O) (tX C rfl (C.notOwn O) (CL (O.sl.up (w':=d)) (x:=l[j]) (by simp) λI J t _=>tX C rfl (C.notOwn O) (CL (O.sl.up (w':=d)) (x:=l[i]) (by simp) λK L v _=>?_))))
 have fin:∀f,AD B 499 f (.slice a l.length c) ((l.set i l[j]).set j l[i])->Bk f b [.slice a l.length c,.int .i64 most] 473->BQ B pE d f->OV B f b a c most (Kz l i j)/\BQ B pE w f:=λf y z E=>by
  refine⟨⟨Q.lo,by rw[TX];exact z,?_,by rw[TX];exact Q.size⟩,(BQ.ext Le.e).trans E⟩;rw[TX];unfold Kz;rw[N2 hi,N2 h];exact y
 refine⟨Ai t rfl ⟨Fr.refl _ _,Ai v rfl ⟨Fr.refl _ _,?_⟩⟩,Ai v rfl ⟨Fr.refl _ _,Ai t rfl ⟨Fr.refl _ _,?_⟩⟩⟩
 all_goals
  refine ET rfl (O.up (w':=d)) (x:=l[i]) (by simp) λM o _ A=>CZ rfl l[j] (O.up (w':=d)) o hi rfl λR g p _=>⟨p,?_⟩;refine ET rfl g (x:=(l.set i l[j])[j]'(by simpa using h)) (by simp) λS q _ A=>CZ rfl l[i] g q (by simpa using h) rfl λF G r _=>⟨r,?_⟩;exact fin F G (((C.mv (w:=d)).fro (O.up (w':=d)) p).fro g r) (((O.up (w':=d)).wrote p (Qe _) (by decide)).trans (g.wrote r (Qe _) (by decide)))
theorem zKZ{b c:Nat}{most:Int}{l:List AG}{x:AG}(Q:OV B w b a c most l)(X:l.length<=99999):
  Sp PP 480 #[.pointer (some ⟨b,0,none⟩),.iface 499 (agg x)] w λ_ w'=>(∃a c,OV B w' b a c most (l++[x]))/\BQ B pE w w':=by
 have hb:=Q.cell.lt;refine eN ?_;refine Tu (Ap λK w1 n1 z=>rE z x λp A C _=>?_);have Y:AC w p:=n1.st C;have E:=Q.cell.mv (w:=p);have L:=Q.row.up (w':=p);clear z C;have q:b≠K:=by rintro rfl;have M:=E.h;have F:=A.h;rw[M]at F;cases F
 refine dT (λi=>i=b\/AV B (.slice a l.length c) i) (oL [0,1,2,3,5] (.duo 4 (oL [6,7,8,9,10] .nil) 6 (.lone 4 (oL [7,8,9,10] .nil)))) λf Z=>tG A x (λh=>h.elim (λh=>q h.symm) (λh=>by have:=Q.row.wr h;have:=n1.lo (u:=w);omega)) ?_;have g:=E.mv (w:=f);have r:=L.up (w':=f);have O:B<=f.heap.size:=by have:=g.lt;have:=Q.lo;omega
 have R:BQ B pE w f:=BQ.ext Le.e;have S:=Q.size;refine⟨rX g rfl ⟨Fr.refl _ _,bS x λT d o _ G=>⟨Fr.fr o.e,?_⟩⟩,bS x λT d o _ G=>⟨Fr.fr o.e,rX g rfl ⟨Fr.refl _ _,?_⟩⟩⟩
 all_goals
  refine FR ⟨rfl,rfl⟩ (r.up (w':=d)) G (by omega) (by simp;omega) λv7 u7 H t=>⟨t.mono λi _ hi=>.inr hi,?_⟩;have v:=(g.mv (w:=d)).fro (r.up (w':=d)) t;have U:=(r.up (w':=d)).wrote t (Qe _) (show 499∈pE by decide);have V:=H.shape;obtain⟨I,J,rfl⟩:=V;refine rS v [.slice I (l++[x]).length J] (Lf _ _ _) λu8 W y _=>⟨y.mono λi _ hi=>.inl hi,?_⟩;exact⟨⟨I,J,Q.lo,W,H.frc y v,by simp;omega⟩,((R.trans (BQ.ext o.e)).trans U).trans (v.wrote y Q.lo (by decide))⟩
theorem zLZ{b c:Nat}{most:Int}{l:List AG}(Q:OV B w b a c most l)(r:l≠[]):
  Sp PP 479 #[.pointer (some ⟨b,0,none⟩)] w λv w'=>v=.iface 499 (agg (CA l (l.length - 1)))/\OV B w' b a c most l.dropLast/\BQ B pE w w':=by
 have E:=JI.2 r;have L:=Q.size;have hi:l.length - 1<l.length:=by omega
 refine eN ?_;have C:=Q.cell;have O:=Q.row;rw[N2 hi];refine dD (λi=>w.heap.size<=i) (Hn 14 0) λM e1=>?_;have hb:=C.lt;refine tX C rfl (by omega) (tX C rfl (by omega) (rF (l.length - 1) ?_));have o:=O.lt r;obtain⟨g0,R,_,F⟩:=o;refine CL (O.sl.up (w':=M)) (x:=l[l.length - 1]) (by simp) λb4 o4 S T=>Ch S rfl (by simp_all) (Ap λU u2 n5 G=>⟨n5.e.fr,?_⟩);refine rE G (l[l.length - 1]) λt H f _=>?_;have s3:AC w t:=n5.st f;refine⟨f.mono λi _ hi=>by subst hi;exact n5.lo,?_⟩;clear G f;have I:=C.mv (w:=t);have J:=O.up (w':=t);have y:b≠U:=by rintro rfl;have V:=I.h;have K:=H.h;rw[V]at K;cases K
 have p:=J.cut (m:=l.length - 1) (by omega) r;obtain⟨W,X,z⟩:=p;subst z;have Y:l.length<=c:=by obtain⟨_,_,Z,hc,_⟩:=J.sl;cases Z;exact hc
 have A:l.dropLast=l.take (l.length - 1):=XO;have d:l.dropLast.length=l.length - 1:=by simp
 refine dT (λi=>i=b) (oL [0,1,2,3,5,6,7] (.duo 4 (.lone 8 (oL [9,10,11,12,13,14] .nil)) 8 (.one 9 (.one 10 (.lone 4 (oL [11,12,13,14] .nil)))))) λq e4=>?_;have g:=I.mv (w:=q);have F4:BQ B pE w q:=BQ.ext Le.e;refine⟨?_,?_⟩
 all_goals
  refine rX g rfl ⟨Fr.refl _ _,?_⟩
  first
  |refine rF (l.length - 1) ?_
   refine rX g rfl ⟨Fr.refl _ _,?_⟩
  |refine rX g rfl ⟨Fr.refl _ _,?_⟩
   refine rF (l.length - 1) ?_
  refine hG (m:=l.length - 1) (by omega) ?_;refine rS g [.slice (some ⟨X,0,none⟩) (l.length - 1) c] (Lf _ _ _) λu5 C5 f _=>⟨f,?_⟩;have B6:=(H.mv (w:=q)).fr f (Jq y);refine rG B6 (l[l.length - 1]) (Hm ?_);refine⟨rfl,⟨Q.lo,by rw[d];exact C5,?_,by omega⟩,F4.trans (g.wrote f Q.lo (by decide))⟩;rw[d,A];exact(W.up (w':=q)).frc f g
def Kw (x y:AG):Bool:=AY y x
theorem gW(a b:AG):AY a b=true↔a.d<b.d\/a.d=b.d/\a.v<b.v:=by unfold AY;simp
theorem KO(a b:AG):AY a b=false↔¬(a.d<b.d\/a.d=b.d/\a.v<b.v):=by unfold AY;simp
theorem sD:Ord Kw:=⟨λx=>by unfold Kw;rw[KO];omega,λx y z h k=>by unfold Kw at *;rw[gW]at *;omega,λx y z h k=>by unfold Kw at *;rw[KO]at *;omega⟩
def Rj (B b:Nat) (most:Int) (l:List AG) (w:World):Prop:=∃a c,OV B w b a c most l
theorem Rj.up{b:Nat}{most:Int}{l:List AG}[Le w w'](h:Rj B b most l w):Rj B b most l w':=by obtain⟨a,c,h⟩:=h;exact⟨a,c,h.up⟩
theorem oF(B b:Nat)(most:Int):LD PP 498 (.pointer (some ⟨b,0,none⟩)) Kw (Rj B b most) B pE where
 ord:=sD
 size:=λ_ _ ⟨_,_,h⟩=>h.size
 len:=λ_ _ ⟨a,c,h⟩=>.p ((wK h).mono λ_ _ ⟨d,f⟩=>by subst f;exact⟨d,⟨a,c,h⟩,BQ.refl _ _ _⟩)
 less:=λ_ _ _ _ ⟨a,c,h⟩ hi g=>.p ((xM h hi g).mono λ_ _ ⟨d,f⟩=>⟨d,⟨a,c,h.up⟩,BQ.ext f.e⟩)
 swap:=λ_ _ _ _ ⟨a,c,h⟩ hi g=>.p ((xK h hi g).mono λ_ _ ⟨d,f⟩=>⟨⟨a,c,d⟩,f⟩)
theorem zO9(B b : Nat)(most : Int) : ∀ l w, Rj B b most l w -> l ≠ [] -> Hq PP 498 (.pointer (some ⟨b, 0, none⟩)) "Pop" [] w λx w' => x = .iface 499 (agg (CA l (l.length - 1))) /\ Rj B b most l.dropLast w' /\ BQ B pE w w' :=
 λ_ _ ⟨a,c,h⟩ d=>.p ((zLZ h d).mono λ_ _ ⟨e,f,g⟩=>⟨e,⟨a,c,f⟩,g⟩)
theorem zOb{b:Nat}{most : Int}{l : List AG}{x : AG}(h : Rj B b most l w)(d : l.length <= 99999) : Hq PP 498 (.pointer (some ⟨b, 0, none⟩)) "Push" [.iface 499 (agg x)] w λ_ w' => Rj B b most (l ++ [x]) w' /\ BQ B pE w w' := by
 obtain⟨a,c,h⟩:=h;exact .p ((zKZ (x:=x) h d).mono λ_ _ ⟨e,f⟩=>⟨e,f⟩)
abbrev HW (l:List AG):Prop:=l.Pairwise (λa b=>AY b a=false)
theorem rT{a b:AG}(h:AY a b=false)(k:AY b a=false):a=b:=by
 rw[KO]at h k;cases a;cases b;simp at h k ⊢;omega
theorem Uo{a b c:AG}(h:AY b a=false)(k:AY c b=false):AY c a=false:=by rw[KO]at *;omega
theorem HW.uniq:∀{l m:List AG},HW l->HW m->l.Perm m->l=m
 |[],m,_,_,p=>p.nil_eq
 |a::l,[],_,_,p=>by simp_all
 |a::l,b::m,e,f,p=>by
  rw[HW,QM]at e f
  have g:a=b:=by
   have c:a∈b::m:=p.mem_iff.1 (Qs ..);have d:b∈a::l:=p.mem_iff.2 (Qs ..);have h:=Ql.1 c;rcases h with c|c
   ·exact c
   ·have h:=Ql.1 d;rcases h with d|d
    ·exact d.symm
    ·exact rT (f.1 a c) (e.1 b d)
  subst g;rw[HW.uniq e.2 f.2 ((List.perm_cons _).1 p)]
def Dm (x:AG):List AG->List AG
 |[]=>[x]
 |y::r=>if AY x y then x::y::r else y::Dm x r
theorem ZR(x:AG):∀l,(Dm x l).Perm (x::l)
 |[]=>.refl _
 |y::r=>by
  unfold Dm;split
  ·exact .refl _
  ·exact((ZR x r).cons y).trans (.swap ..)
theorem cW(x:AG)(l:List AG):(Dm x l).length=l.length+1:=by rw[(ZR x l).length_eq];rfl
theorem jQ(x:AG):∀{l},HW l->HW (Dm x l)
 |[],_=>by simp[Dm]
 |y::r,h=>by
  rw[HW,QM]at h;unfold Dm;split
  ·rename_i b;have d:AY y x=false:=by rw[KO];rw[gW]at b;omega
   refine QM.2 ⟨λz c=>?_,QM.2 h⟩;have e:=Ql.1 c;rcases e with rfl|c
   ·exact d
   ·exact Uo d (h.1 z c)
  ·rename_i b;refine QM.2 ⟨λz c=>?_,jQ x h.2⟩;have e:=Ql.1 ((ZR x r).mem_iff.1 c);rcases e with rfl|c
   ·simpa using b
   ·exact h.1 z c
theorem HW.last{x:AG}{l L:List AG}(h:HW L)(p:(x::l).Perm L)(f:∀y∈L,AY x y=false):L.getLast? = some x/\l.Perm L.dropLast:=by
 have b:L≠[]:=by rintro rfl;have:=p.length_eq;simp at this
 have d:=Xc b
 have e:x=L.getLast b:=by
  have c:x∈L.dropLast++[L.getLast b]:=by rw[d];exact p.mem_iff.1 (Qs ..)
  have g:=Qf.1 c;rcases g with c|c
  ·rw[<-d]at h;have o:=(VK.1 h).2.2 x c _ (Qs ..);exact(rT o (f _ (List.getLast_mem b))).symm
  ·simpa using c
 refine⟨by rw[e];exact List.getLast?_eq_some_getLast b,?_⟩
 have:(x::l).Perm (x::L.dropLast):=by
  refine p.trans ?_
  conv=>lhs;rw[<-d,<-e]
  exact VE _ _
 exact(List.perm_cons _).1 this
def zH:AG:=⟨0,0⟩
def Gx (most:Int) (L:List AG) (x:AG):List AG×AG×Bool:=
 if((Dm x L).length:Int)<=most then(Dm x L,zH,false) else((Dm x L).dropLast,(Dm x L).getLast?.getD zH,true)
theorem zPg{most:Int}{L:List AG}{x:AG}:(Gx most L x).1.length<=L.length+1:=by
 unfold Gx;split
 ·rw[cW];exact Qe _
 ·rw[List.length_dropLast,cW];omega
open Go Go.Proofs Go.Shelf
section
variable {α:Type} [AK α] [Inhabited α]
theorem vY(l:List α):(Go.Sort.flatK (enc:α->List Value) (AK.sz α) l.toArray).toList=Ac l:=by
 have c:=AK.pos (α:=α);apply Vl;intro t;rcases QH t (l.length*AK.sz α) with h|h
 ·have hi:t / AK.sz α<l.length:=by rw[Nat.div_lt_iff_lt_mul c];exact h
  have b:t % AK.sz α<AK.sz α:=Nat.mod_lt _ c;have f:l[t / AK.sz α]? = some l[t / AK.sz α]:=by simp[hi]
  have g:=tA l f
  have o:(enc l[t / AK.sz α])[t % AK.sz α]? = (Ac l)[t]?:=by
   rw[<-g,Vh,if_pos b,Vz];congr 1;rw[Nat.mul_comm];exact Nat.div_add_mod t (AK.sz α)
  rw[<-o];have d:t<(Go.Sort.flatK (enc:α->List Value) (AK.sz α) l.toArray).size:=by simpa using h
  rw[Jj,QT d];have e:=Go.Sort.get_flatK (enc:α->List Value) (AK.sz α) l.toArray t (by simpa using h);rw[getElem!_pos _ t d]at e;rw[e,getElem!_pos l.toArray (t / AK.sz α) (by simpa using hi),getElem!_pos _ (t % AK.sz α) (by rw[AK.len];exact b)];rw[Qd (by rw[AK.len];exact b)];simp
 ·rw[Jg (by simpa using h),Jg (by rw[KZ];exact h)]
variable {P:Program} {w:World}
theorem zNi{e:TypeId}{l:List α}{g:Nat}{b:Array Value}(f:w.heap[g]? = some (.cells b e (0,0)))(h:b.toList.take (l.length*AK.sz α)=Ac l):
  Go.Sort.HoldsK (enc:α->List Value) (AK.sz α) w g 0 l.toArray:=by
 intro j c;have d:j<l.length*AK.sz α:=by simpa using c
 constructor
 ·rw[cell_of_row w g (0+j) b e (0,0) f,JO];have:(Ac l)[j]? = b[j]?:=by rw[<-h,Vh,if_pos d,Jj]
  rw[<-this,<-vY,Jj,QT c,getElem!_pos _ j c];rfl
 ·simp[World.frozen?,f]
theorem zJS(F b:Array Value)(h:F.size<=b.size):(Go.Sort.putCells id 0 F b).toList.take F.size=F.toList:=by
 apply Vl;intro j;rw[Vh];split
 ·rename_i c;rw[Jj,Jj];unfold Go.Sort.putCells;rw[Array.getElem?_mapIdx,QT (by omega),JD,if_pos ⟨by omega,by omega⟩,QT c,JF,getElem!_pos _ j c];rfl
 ·rename_i c;rw[Jg (by simp;omega)]
theorem zLo{e:TypeId}{c:Nat}{l l':List α}{g:Nat}{os:Array Obj}(h:AD B e w (.slice (some ⟨g,0,none⟩) n c) l)(C:l≠[])(d:l'.length=l.length):
  AD B e (sortWorldK enc (AK.sz α) w g 0 m l'.toArray os) (.slice (some ⟨g,0,none⟩) n c) l'/\Fr (λi=>i=g) w (sortWorldK enc (AK.sz α) w g 0 m l'.toArray os):=by
 obtain⟨H,q,r,E,hb,t,F,v,f,x⟩:=h.blk C;cases r;have y:=Ad t;have A:(Go.Sort.flatK (enc:α->List Value) (AK.sz α) l'.toArray).size=l'.length*AK.sz α:=by simp
 have b:∀i,i<w.heap.size->(sortWorldK enc (AK.sz α) w g 0 m l'.toArray os).heap[i]? = (w.heap.modify g (Go.Sort.onCells (Go.Sort.putCells id 0 (Go.Sort.flatK (enc:α->List Value) (AK.sz α) l'.toArray))))[i]?:=by
  intro i hi;unfold sortWorldK;rw[XN _ _ (by simpa[Go.Sort.putRowK,Go.Sort.putRow,Go.Sort.mapBlock,Go.Sort.ahead]using hi)];rfl
 constructor
 ·refine .inr ⟨KZ l',.inr ⟨g,c,Go.Sort.putCells id 0 (Go.Sort.flatK (enc:α->List Value) (AK.sz α) l'.toArray) q,by rw[d,E],hb,?_,by rw[d];omega,v,?_,?_⟩⟩
  ·rw[b g y,Jv,if_pos rfl,t];rfl
  ·simpa[Go.Sort.putCells]using f
  ·rw[<-A,zJS _ _ (by rw[A,d,f];exact Ji _ (by omega)),vY]
 ·refine⟨rfl,rfl,rfl,?_,λi hi z=>?_,λi o p G=>?_⟩
  ·exact size_sortWorldK_c enc (AK.sz α) w g 0 m l'.toArray os
  ·rw[b i hi,Jv,if_neg (λh=>z h.symm)]
  ·rw[b i (Ad p),Jv];by_cases hi:g=i
   ·subst hi;rw[t]at p;cases p;cases G
   ·rw[if_neg hi];exact p
theorem W1{ρ:Ren}(L:SlLaysF0.n6 P ρ)(O:FZ P (ρ.t 24) k)(I:AK.sz α=k)(p:α->α->Int)(U:Go.Sort.SWO (ltOf p)){f g:FuncId}(V:ρ.f 6=f)
  (Q:∀(x y:α) (W:World),Sp P g #[agg x,agg y] W λv w'=>v=.int .i64 (p x y)/\Gw W w'){e:TypeId}{v:Value}{l:List α}(h:AD B e w v l)(G:l.length<4611686018427387904):
  Sp P f #[v,.func (.func g) #[] #[]] w λr w'=>r=.tuple #[]/\∃l',l'.Perm l/\l'.Pairwise (λa b=>p b a<0->False)/\AD B e w' v l'/\Fr (AV B v) w w':=by
 subst V I
 have can:CH P (ρ.f 6):=by
  obtain⟨nm,X,Y⟩:=L.f6;exact⟨_,Y,rfl,X⟩
 obtain⟨a,c,rfl⟩:=h.shape;refine⟨can,?_⟩;by_cases H:l=[]
 ·subst H;refine(AnyF.slices_SortFunc_none (P:=P) (ρ:=ρ) L a c (.func (.func g) #[] #[]) w).mono ?_;rintro en w' ⟨rfl,rfl⟩;exact⟨rfl,[],.refl _,.nil,h,Fr.refl _ _⟩
 ·obtain⟨g0,Z,rfl,hn,hb,R,a0,a1,a2,o⟩:=h.blk H;have hd:l.toArray.size=l.length:=by simp
  have z:CH P g:=(Q default default w).can
  have A:CmpLays P g #[] (enc:α->List Value) (AK.sz α) p g0 0 l.toArray.size w:=by
   intro m os dk _ x y;refine(Q x y _).calls.mono ?_;intro en w' S
   cases en with
   |returned v=>obtain⟨rfl,q,J,C⟩:=S;exact⟨rfl,q,J,C⟩
   |_=>exact S.elim
  have d:=AnyQ.slices_SortFunc L (AK.sz α) (λw=>(gM (w:=w) O.h).1) (λw=>(gM (w:=w) O.h).2) (enc:α->List Value) AK.len AK.one p U g #[] g0 0 c l.toArray w (λargs w=>UI z w) A (zNi R (hn ▸ o)) (Ad R) (by omega);rw[hd]at d;refine d.mono ?_;rintro en w' ⟨rfl,d',m,os,⟨K,_,E⟩,hs,rfl⟩;have F:d'.size=l.length:=by rw[K,hd]
  have e1:d'.extract 0 l.length=d':=by simp_all
  have e2:l.toArray.extract 0 l.length=l.toArray:=by simp
  rw[e1,e2]at E;have C:=zLo (l':=d'.toList) (os:=os) (m:=m) h H (by simpa using F);rw[Jz]at C;refine⟨rfl,d'.toList,by simpa using E,?_,C.1,C.2.mono λi _ hi=>?_⟩
  ·rw[QX];intro i j hi T M AY;have:=hs i j (XE _) M (by simpa[F]using T);simp only[ltOf]at this;rw[getElem!_pos d' j (by simpa using T),getElem!_pos d' i (by simpa using hi)]at this;simp only[Array.getElem_toList]at AY;simp[AY]at this
  ·subst hi;exact⟨hb,rfl,h.not0 H⟩
end
end Go.W
