/-
  Proved here: a part of the walks and plain laws of this claim (merged by a program of mine).
  Conditions: those that each fact names.
-/
import Derived.MapKept
import Derived.Test.YtgjanodnkajinaaGreatProg
import Derived.KernelRfl
import Derived.Maps.RangeRun
import Derived.Laws.BytesString
import Derived.RecoverIn
import Derived.Test.YtgjanodnkajinaaGreatJ0
set_option maxHeartbeats 1000000
set_option linter.unusedVariables false
set_option linter.unusedSimpArgs false
namespace Go.W
open Go
open Enc (enc)
variable {B N hi i j k m n:Nat} {D:Nat -> Prop} {P:Program} {T:Tab} {a:Option Addr} {s:List UInt8} {u u' w w':World}
def concB (P:Program) (t:TypeId):Bool:=match P.underlying t with|some (.interface _)=>false|some _=>true|none=>false
class Conc (P:Program) (t:TypeId):Prop where
 h:concB P t=true
section
variable {P:Program} {k:Value->World->Prop} {pn:List PanicEntry->World->Prop} {w:World}
theorem zK5{t:TypeId}(ht:Conc P t)(x:Value)(w:World):(Instr.makeInterface t x).run P w=.ok (.iface t x) w:=by
 have h:=ht.h
 unfold concB at h
 unfold Instr.makeInterface
 simp only [Sem.run_bind,underlying,run_program,Result.andThen_ok]
 cases hd:P.underlying t with
 |none=>rw [hd] at h;cases h
 |some d =>
  rw [hd] at h
  cases d <;> first|rfl|cases h
theorem rmki{t:TypeId}[ht:Conc P t]{x:Value}(hk:k (.iface t x) w):SemV P (Instr.makeInterface t x) k pn w:=SemV.of (zK5 ht x w) hk
theorem tmki{t:TypeId}[ht:Conc P t]{x:Value}{k:Value->Prop}(hk:k (.iface t x)):TakeS P (Instr.makeInterface t x) D k w:=by
 rw [zAg];exact⟨_,λw' _=>zK5 ht x w',hk⟩
theorem run_ta{t:TypeId}(ht:Conc P t)(v:Value)(u:TypeId)(w:World):(Instr.typeAssert (.iface t v) u t true).run P w=.ok (.tuple #[v,.bool true]) w:=by
 have h:=ht.h
 unfold concB at h
 unfold Instr.typeAssert
 simp only [Sem.run_bind,underlying,run_program,Result.andThen_ok]
 cases hd:P.underlying t with
 |none=>rw [hd] at h;cases h
 |some d =>
  rw [hd] at h
  cases d <;> first|(simp;done)|cases h
theorem rta{t u:TypeId}[ht:Conc P t]{v:Value}(hk:k (.tuple #[v,.bool true]) w):SemV P (Instr.typeAssert (.iface t v) u t true) k pn w:=SemV.of (run_ta ht v u w) hk
end
section
variable {α:Type} [Enc α] {P:Program} {k:Value->World->Prop} {pn:List PanicEntry->World->Prop} {w:World}
theorem Own.cut{e:TypeId}{c:Nat}{l:List α}(h:Own B e w (.slice a n c) l)(hm:m<=n)(hn:l≠[]):Own B e w (.slice a m c) (l.take m)/\∃g,a=some ⟨g,0,none⟩:=by
 obtain⟨g,cur,rfl,rfl,hb,hg,hnc,hcm,hcs,htake⟩:=h.blk hn
 have hl:(l.take m).length=m:=by rw [List.length_take];omega
 refine⟨.inr ⟨zAm _,.inr ⟨g,c,cur,by rw [hl],hb,hg,by rw [hl];omega,hcm,hcs,?_⟩⟩,g,rfl⟩
 rw [hl,zB9,<-htake,List.take_take,Nat.min_eq_left (Nat.mul_le_mul_right _ hm)]
theorem zK6{t e:TypeId}{z:Value}{sz by':Nat}(ht:SlT P t e)(he:Elem P e z sz by'){g c:Nat}(h1:m<=c)(w:World):
  (Instr.sliceAt t (.slice (some ⟨g,0,none⟩) n c) none (some (.int .i64 m)) none).run P w=.ok (.slice (some ⟨g,0,none⟩) m c) w:=by
 have:=zBk ht he (a:=some ⟨g,0,none⟩) (n:=n) (c:=c) none (some m) (by simp) (by simpa using h1) w
 simp only [Option.getD_none,Option.getD_some,Nat.sub_zero,Nat.zero_mul,Option.map_some,zAv,Nat.add_zero] at this
 rw [ite_self] at this
 exact this
theorem rslP{t e:TypeId}{z:Value}{sz by':Nat}[ht:SlT P t e][he:Elem P e z sz by']{g c:Nat}(h1:m<=c)(hk:k (.slice (some ⟨g,0,none⟩) m c) w):
  SemV P (Instr.sliceAt t (.slice (some ⟨g,0,none⟩) n c) none (some (.int .i64 m)) none) k pn w:=SemV.of (zK6 ht he h1 w) hk
theorem tslP{t e:TypeId}{z:Value}{sz by':Nat}[ht:SlT P t e][he:Elem P e z sz by']{k:Value->Prop}{g c:Nat}(h1:m<=c)(hk:k (.slice (some ⟨g,0,none⟩) m c)):
  TakeS P (Instr.sliceAt t (.slice (some ⟨g,0,none⟩) n c) none (some (.int .i64 m)) none) D k w:=by rw [zAg];exact⟨_,λw' _=>zK6 ht he h1 w',hk⟩
end
theorem Fr.new{E:Nat->Prop}{a b c:World}(h:Fr D a b)(k:Fr E b c)(hd:∀i,E i->a.heap.size<=i):Fr D a c:=
 ⟨k.os.trans h.os,k.tape.trans h.tape,k.output.trans h.output,Nat.le_trans h.size k.size,λi hi hn=>(k.block i (Nat.lt_of_lt_of_le hi h.size) λhx=>by have:=hd i hx;omega).trans (h.block i hi hn),λi o hi ho=>k.nc i o (h.nc i o hi ho) ho⟩
abbrev mapK:TypeId:=4294967296
def kindO:Obj->Option TypeId
 |.cells _ e _=>some e
 |.map _ _=>some mapK
 |_=>none
def Ty (B:Nat) (es:List TypeId) (w:World):Nat->Prop:=λi=>B<=i/\∃o e,w.heap[i]? = some o/\kindO o=some e/\e∈es
theorem Ty.cells{es:List TypeId}{cs:Array Value}{e:TypeId}{z:Nat×Nat}(h:Ty B es w i)(hc:w.heap[i]? = some (.cells cs e z)):e∈es:=by
 obtain⟨_,o,e',h1,h2,h3⟩:=h
 rw [hc] at h1;cases h1;cases h2;exact h3
theorem Ty.map{es:List TypeId}{m:Array MapEntry}{c:Nat}(h:Ty B es w i)(hc:w.heap[i]? = some (.map m c)):mapK∈es:=by
 obtain⟨_,o,e',h1,h2,h3⟩:=h
 rw [hc] at h1;cases h1;cases h2;exact h3
theorem Ty.mk{es:List TypeId}{cs:Array Value}{e:TypeId}{z:Nat×Nat}(hB:B<=i)(hc:w.heap[i]? = some (.cells cs e z))(he:e∈es):Ty B es w i:=⟨hB,_,e,hc,rfl,he⟩
theorem Ty.mkM{es:List TypeId}{m:Array MapEntry}{c:Nat}(hB:B<=i)(hc:w.heap[i]? = some (.map m c))(he:mapK∈es):Ty B es w i:=⟨hB,_,mapK,hc,rfl,he⟩
abbrev FrT (B:Nat) (es:List TypeId) (w w':World):Prop:=Fr (Ty B es w) w w'
theorem FrT.refl(B:Nat)(es:List TypeId)(w:World):FrT B es w w:=Fr.refl _ w
theorem FrT.trans{es:List TypeId}{a b c:World}(h:FrT B es a b)(k:FrT B es b c):FrT B es a c:=by
 refine⟨k.os.trans h.os,k.tape.trans h.tape,k.output.trans h.output,Nat.le_trans h.size k.size,λi hi hd=>?_,λi o hi ho=>k.nc i o (h.nc i o hi ho) ho⟩
 have e:=h.block i hi hd
 rw [k.block i (Nat.lt_of_lt_of_le hi h.size) (λ⟨h1,o,t,h2,h3⟩=>hd ⟨h1,o,t,by rw [<-e];exact h2,h3⟩),e]
theorem FrT.mono{B':Nat}{es es':List TypeId}{a b:World}(h:FrT B es a b)(hB:B'<=B)(he:∀e∈es,e∈es'):FrT B' es' a b:=
 Fr.mono h λ_ _ ⟨h1,o,t,h2,h3,h4⟩=>⟨Nat.le_trans hB h1,o,t,h2,h3,he t h4⟩
theorem FrT.ext{es:List TypeId}{a b:World}(h:Ext a b):FrT B es a b:=h.fr
theorem FrT.st{es:List TypeId}{a b c:World}(h:Ext a b)(k:FrT B es b c)(hB:a.heap.size<=B):Ext a c:=Fr.st h k λ_ hi=>Nat.le_trans hB hi.1
theorem Bk.kept{es:List TypeId}{b:Nat}{cs:List Value}{e:TypeId}(k:Bk w b cs e)(f:FrT B es w w')(he:e∉es):Bk w' b cs e:=by
 exact k.fr f λhd=>he (hd.cells k.h)
theorem Bk.wrote{es:List TypeId}{b:Nat}{cs:List Value}{e:TypeId}(k:Bk w b cs e)(f:Fr (λi=>i=b) w w')(hB:B<=b)(he:e∈es):FrT B es w w':=
 f.mono λi _ hi=>by subst hi;exact .mk hB k.h he
section
variable {α:Type} [Enc α]
theorem Own.kept{C:Nat}{es:List TypeId}{e:TypeId}{v:Value}{l:List α}(h:Own C e w v l)(f:FrT B es w w')(he:e∉es):Own C e w' v l:=by
 rcases h with h|h
 ·exact .inl h
 ·refine .inr ⟨h.1,?_⟩
  rcases h.2 with hn|⟨g,cap,cur,rfl,hb,hg,rest⟩
  ·exact .inl hn
  ·refine .inr ⟨g,cap,cur,rfl,hb,f.blk hg λhd=>he (hd.cells hg),rest⟩
theorem Own.wrote{C:Nat}{es:List TypeId}{e:TypeId}{v:Value}{l:List α}(h:Own C e w v l)(f:Fr (ownD C v) w w')(hB:B<=C)(he:e∈es):FrT B es w w':=by
 refine f.mono λi hi hd=>?_
 rcases h with ⟨_,a,rfl⟩|h
 ·exact absurd rfl (hd.2.2 a)
 ·rcases h.2 with ⟨rfl,_⟩|⟨g,cap,cur,rfl,hb,hg,_⟩
  ·cases hd.2.1
  ·have h2:=hd.2.1
   simp only [Value.blk] at h2;cases h2
   exact .mk (Nat.le_trans hB hb) hg he
theorem SlF.kept{es:List TypeId}{v:Value}{l:List α}(h:SlF w v l)(f:FrT B es w w')(hb:∀b,Value.blk v=some b->b<B):SlF w' v l:=
 h.fr f λb hv hd=>by have:=hb b hv;have:=hd.1;omega
end
theorem FrT.ne{es:List TypeId}{b:Nat}{cs:List Value}{e:TypeId}(f:FrT B es w w')(k:Bk w b cs e)(he:e∉es):Fr (λi=>i≠b) w w':=
 Fr.mono f λi _ hi=>by
  rintro rfl
  exact he (hi.cells k.h)
section
variable {P:Program} {k:Value->World->Prop} {pn:List PanicEntry->World->Prop} {w:World}
end
section
variable {α:Type} [Enc α] {P:Program} {k:Value->World->Prop} {pn:List PanicEntry->World->Prop} {w:World}
theorem rappB{t ty e:TypeId}{z:Value}{sz by':Nat}[ht:SlT P t e][he:Elem P e z sz by']{v x:Value}{l m:List α}(hsz:Enc.sz α=sz/\z.cells.size=sz)
  (hO:Own B e w v l)(hS:SlF w x m)(hB:B<=w.heap.size)(hb:(l.length+m.length)*by'<=140737488355328/\l.length+m.length<=9223372036854775807)
  (hk:∀v' w',Own B e w' v' (l++m)->Fr (ownD B v) w w'->k v' w'):SemV P (Builtin.append_ #[t,t] ty #[v,x]) k pn w:=by
 obtain⟨v',w',h1,h2,h3⟩:=zFs (ty:=ty) ht he hsz.1 hsz.2 hO hS hb.1 (by unfold maxLen;omega) hB
 exact SemV.of h1 (hk _ _ h2 h3)
end
section
variable {α:Type} [Enc α]
def SlY (e:TypeId) (w:World) (v:Value) (l:List α):Prop:=SlF w v l/\(l=[]\/∃b cs z,Value.blk v=some b/\w.heap[b]? = some (.cells cs e z))
theorem SlY.sl{e:TypeId}{v:Value}{l:List α}(h:SlY e w v l):SlF w v l:=h.1
theorem SlY.fr{e:TypeId}{v:Value}{l:List α}(h:SlY e w v l)(f:Fr D w w')(hd:∀b cs z,Value.blk v=some b->w.heap[b]? = some (.cells cs e z)->¬D b):SlY e w' v l:=by
 rcases h with ⟨h,rfl|⟨b,cs,z,hb,hc⟩⟩
 ·obtain⟨a,c,rfl,hc,_⟩:=h
  exact⟨⟨a,c,rfl,hc,.inl rfl⟩,.inl rfl⟩
 ·have hn:=hd b cs z hb hc
  exact⟨h.fr f λb' hb'=>by rw [hb] at hb';cases hb';exact hn,.inr ⟨b,cs,z,hb,f.blk hc hn⟩⟩
theorem SlY.up{e:TypeId}[L:Le w w']{v:Value}{l:List α}(h:SlY e w v l):SlY e w' v l:=h.fr L.e λ_ _ _ _ _ h=>h
theorem SlY.kept{e:TypeId}{es:List TypeId}{v:Value}{l:List α}(h:SlY e w v l)(f:FrT B es w w')(he:e∉es):SlY e w' v l:=
 h.fr f λ_ _ _ _ hc hd=>he (hd.cells hc)
theorem Own.y{e:TypeId}{v:Value}{l:List α}(h:Own B e w v l):SlY e w v l:=by
 refine⟨h.sl,?_⟩
 by_cases hl:l=[]
 ·exact .inl hl
 ·right
  obtain⟨a,c,rfl⟩:=h.shape
  obtain⟨g,cur,rfl,_,_,hg,_⟩:=h.blk hl
  exact⟨g,cur,_,rfl,hg⟩
theorem zIO(a:Option Addr)(n n' c c' lo d:Nat):Value.blk (.slice (if c=lo then a else a.map (·.add d)) n' c')=Value.blk (.slice a n c):=by
 cases a with
 |none=>split <;> rfl
 |some a =>
  split
  ·rfl
  ·simp only [Option.map_some,Value.blk]
   congr 1
   unfold Addr.add;split <;> rfl
section
variable {P:Program} {k:Value->World->Prop} {pn:List PanicEntry->World->Prop} {w:World}
end
theorem SlY.len{e:TypeId}{c:Nat}{l:List α}(h:SlY e w (.slice a n c) l):n=l.length:=h.1.len
end
def findM {κ:Type} [DecidableEq κ] (k:κ):List (κ×Value)->Nat->Option (Nat×Value)
 |[],_=>none
 |(k',v)::r,i=>if k=k' then some (i,v) else findM k r (i+1)
def getM {κ:Type} [DecidableEq κ] (m:List (κ×Value)) (k:κ):Option Value:=(findM k m 0).map (·.2)
def EntM {κ:Type} (val:κ->Value) (es:List MapEntry) (m:List (κ×Value)):Prop:=es.map (λe=>(e.key,e.val))=m.map λp=>(val p.1,p.2)
class MKey (P:Program) (t:TypeId) (κ:Type) [DecidableEq κ] where
 val:κ->Value
 check:∀(e:Bool) (k:κ) (w:World),(Instr.checkKey e 10000 t (val k)).run P w=.ok () w
 find:∀(k:κ) (es:List MapEntry) (m:List (κ×Value)) (w:World),EntM val es m->(Instr.findKey t (val k) es).run P w=.ok (findM k m 0) w
 same:∀k,Instr.sameBits 10000 (val k) (val k)=true
class MapT (P:Program) (t:TypeId) (k e:outParam TypeId):Prop where
 h:P.underlying t=some (.map k e)
theorem zDk{κ:Type}{val:κ->Value}{m:List (κ×Value)}(h:EntM val [] m):m=[]:=by
 cases m with
 |nil=>rfl
 |cons p r=>simp [EntM] at h
theorem zDU{κ:Type}{val:κ->Value}{e:MapEntry}{es:List MapEntry}{m:List (κ×Value)}(h:EntM val (e::es) m):∃k r,m=(k,e.val)::r/\e.key=val k/\EntM val es r:=by
 cases m with
 |nil=>simp [EntM] at h
 |cons p r =>
  obtain⟨k,v⟩:=p
  simp only [EntM,List.map_cons,List.cons.injEq,Prod.mk.injEq] at h
  exact⟨k,r,by rw [h.1.2],h.1.1,h.2⟩
theorem zFI{kd:IntKind}(k:Int):∀(es:List MapEntry) (m:List (Int×Value)) (i:Nat),EntM (λx=>Value.int .i64 x) es m->Instr.findNow (.int kd) (.int .i64 k) es i=some (findM k m i)
 |[],m,i,h=>by rw [zDk h];rfl
 |e::es,m,i,h=>by
  obtain⟨k',r,rfl,hk,hr⟩:=zDU h
  have ih:=zFI (kd:=kd) k es r (i+1) hr
  unfold Instr.findNow findM
  rw [hk]
  simp only [Instr.sameNow,if_true]
  by_cases hkk:k=k'
  ·rw [if_pos hkk];subst hkk;simp
  ·rw [if_neg hkk,show (k==k')=false by simpa using hkk];exact ih
theorem zB7(a b:ByteArray):(a==b)=true↔a=b:=by
 show ByteArray.beq a b=true↔_
 unfold ByteArray.beq
 cases a;cases b;simp
theorem zFJ(k:ByteArray):∀(es:List MapEntry) (m:List (ByteArray×Value)) (i:Nat),EntM (λx=>Value.string x) es m->Instr.findNow .string (.string k) es i=some (findM k m i)
 |[],m,i,h=>by rw [zDk h];rfl
 |e::es,m,i,h=>by
  obtain⟨k',r,rfl,hk,hr⟩:=zDU h
  have ih:=zFJ k es r (i+1) hr
  unfold Instr.findNow findM
  rw [hk]
  simp only [Instr.sameNow]
  by_cases hkk:k=k'
  ·rw [if_pos hkk,(zB7 k k').2 hkk]
  ·have:(k==k')=false:=by
    cases hq:(k==k') with
    |false=>rfl
    |true=>exact absurd ((zB7 k k').1 hq) hkk
   rw [if_neg hkk,this];exact ih
section
variable {P:Program}
@[reducible] def mkInt {t:TypeId} {kd:IntKind} (ht:P.underlying t=some (.int kd)):MKey P t Int where
 val x:=.int .i64 x
 check e k w:=by
  unfold Instr.checkKey
  simp only [underlying,Sem.run_bind,run_program,Result.andThen_ok,ht]
  rfl
 find k es m w h:=by
  unfold Instr.findKey
  simp only [underlying,Sem.run_bind,run_program,Result.andThen_ok,ht,Sem.run_pure]
  rw [zFI (kd:=kd) k es m 0 h];rfl
 same k:=by simp [Instr.sameBits]
@[reducible] def mkStr {t:TypeId} (ht:P.underlying t=some .string):MKey P t ByteArray where
 val x:=.string x
 check e k w:=by
  unfold Instr.checkKey
  simp only [underlying,Sem.run_bind,run_program,Result.andThen_ok,ht]
  rfl
 find k es m w h:=by
  unfold Instr.findKey
  simp only [underlying,Sem.run_bind,run_program,Result.andThen_ok,ht,Sem.run_pure]
  rw [zFJ k es m 0 h];rfl
 same k:=by unfold Instr.sameBits;exact(zB7 k k).2 rfl
def MapL (P:Program) (t:TypeId) {κ:Type} [DecidableEq κ] [M:MKey P t κ] (w:World) (b:Nat) (m:List (κ×Value)):Prop:=(∃es c,w.heap[b]? = some (.map es c)/\EntM M.val es.toList m)/\(m.map (·.1)).Nodup
variable {t:TypeId} {κ:Type} [DecidableEq κ] [M:MKey P t κ]
theorem MapL.fr{b:Nat}{m:List (κ×Value)}(h:MapL P t w b m)(f:Fr D w w')(hd:¬D b):MapL P t w' b m:=by
 obtain⟨⟨es,c,h1,h2⟩,h3⟩:=h;exact⟨⟨es,c,f.blk h1 hd,h2⟩,h3⟩
theorem MapL.up[L:Le w w']{b:Nat}{m:List (κ×Value)}(h:MapL P t w b m):MapL P t w' b m:=h.fr L.e id
theorem MapL.kept{es:List TypeId}{b:Nat}{m:List (κ×Value)}(h:MapL P t w b m)(f:FrT B es w w')(he:mapK∉es):MapL P t w' b m:=by
 obtain⟨⟨es',c,h1,_⟩,_⟩:=id h
 exact h.fr f λhd=>he (hd.map h1)
theorem MapL.lt{b:Nat}{m:List (κ×Value)}(h:MapL P t w b m):b<w.heap.size:=by obtain⟨⟨es,c,h1,_⟩,_⟩:=h;exact blk_lt h1
theorem MapL.wrote{es:List TypeId}{b:Nat}{m:List (κ×Value)}(h:MapL P t w b m)(f:Fr (λi=>i=b) w w')(hB:B<=b)(he:mapK∈es):FrT B es w w':=by
 obtain⟨⟨es',c,h1,_⟩,_⟩:=h
 exact Fr.mono f λi _ hi=>by subst hi;exact .mkM hB h1 he
theorem MapL.ne{b b':Nat}{m:List (κ×Value)}{cs:List Value}{e:TypeId}(h:MapL P t w b m)(k:Bk w b' cs e):b'≠b:=by
 rintro rfl
 obtain⟨⟨es',c,h1,_⟩,_⟩:=h
 have:=k.h;rw [h1] at this;cases this
theorem zDV(k:κ):∀(m:List (κ×Value)) (i:Nat),(findM k m i).map (·.2)=(findM k m 0).map (·.2)
 |[],_=>rfl
 |(k',v)::r,i=>by
  unfold findM
  split
  ·rfl
  ·rw [zDV k r (i+1),zDV k r (0+1)]
theorem zAC(k k':κ)(v:Value)(r:List (κ×Value)):getM ((k',v)::r) k=if k=k' then some v else getM r k:=by
 unfold getM
 rw [show findM k ((k',v)::r) 0=if k=k' then some (0,v) else findM k r 1 from rfl]
 split
 ·rfl
 ·rw [zDV k r 1]
theorem zI2(k:κ):getM ([]:List (κ×Value)) k=none:=rfl
theorem zC0{k:κ}:∀{m:List (κ×Value)},getM m k=none↔k∉m.map (·.1)
 |[]=>by simp [zI2]
 |(k',v)::r=>by
  rw [zAC]
  by_cases h:k=k'
  ·rw [if_pos h];subst h;simp
  ·rw [if_neg h,zC0 (m:=r)];simp [h]
theorem zAU{k:κ}{v:Value}:∀{m:List (κ×Value)},getM m k=some v->(k,v)∈m
 |[],h=>by cases h
 |(k',v')::r,h=>by
  rw [zAC] at h
  split at h
  ·rename_i e;subst e;cases h;exact List.mem_cons_self ..
  ·exact List.mem_cons_of_mem _ (zAU h)
theorem zAA{k:κ}{v:Value}:∀{m:List (κ×Value)},(m.map (·.1)).Nodup->(k,v)∈m->getM m k=some v
 |(k',v')::r,hn,h=>by
  rw [zAC]
  rw [List.map_cons,List.nodup_cons] at hn
  rcases List.mem_cons.1 h with h2|h2
  ·cases h2;rw [if_pos rfl]
  ·have hne:k≠k':=by
    rintro rfl
    exact hn.1 (List.mem_map.2 ⟨_,h2,rfl⟩)
   rw [if_neg hne,zAA hn.2 h2]
def setM (k:κ) (v:Value):List (κ×Value)->List (κ×Value)
 |[]=>[(k,v)]
 |(k',v')::r=>if k=k' then (k,v)::r else (k',v')::setM k v r
def delM (k:κ):List (κ×Value)->List (κ×Value)
 |[]=>[]
 |(k',v')::r=>if k=k' then r else (k',v')::delM k r
theorem zDY(k k':κ)(v:Value):∀(m:List (κ×Value)),getM (setM k v m) k'=if k'=k then some v else getM m k'
 |[]=>by unfold setM;rw [zAC]
 |(k1,v1)::r=>by
  unfold setM
  split
  ·rename_i h;subst h
   rw [zAC,zAC]
   split
   ·rfl
   ·rfl
  ·rename_i h
   rw [zAC,zAC,zDY k k' v r]
   by_cases e:k'=k1
   ·subst e;rw [if_pos rfl,if_neg (Ne.symm h),if_pos rfl]
   ·rw [if_neg e,if_neg e]
theorem setM_keys(k:κ)(v:Value):∀(m:List (κ×Value)) (x:κ),x∈(setM k v m).map (·.1)↔x=k\/x∈m.map (·.1)
 |[],x=>by simp [setM]
 |(k1,v1)::r,x=>by
  unfold setM
  split
  ·rename_i h;subst h;simp
  ·have ih:=setM_keys k v r x
   simp only [List.map_cons,List.mem_cons,ih]
   constructor
   ·rintro(h|h|h) <;> simp [h]
   ·rintro(h|h|h) <;> simp [h]
theorem zBn(k:κ)(v:Value):∀(m:List (κ×Value)),(m.map (·.1)).Nodup->((setM k v m).map (·.1)).Nodup
 |[],_=>by simp [setM]
 |(k1,v1)::r,h=>by
  rw [List.map_cons,List.nodup_cons] at h
  unfold setM
  split
  ·rename_i e;subst e;rw [List.map_cons,List.nodup_cons];exact h
  ·rename_i e
   rw [List.map_cons,List.nodup_cons]
   refine⟨λhm=>?_,zBn k v r h.2⟩
   rcases(setM_keys k v r k1).1 hm with rfl|hm
   ·exact e rfl
   ·exact h.1 hm
theorem zIU(k:κ):∀(m:List (κ×Value)),(delM k m).Sublist m
 |[]=>.slnil
 |(k1,v1)::r=>by
  unfold delM
  split
  ·exact List.sublist_cons_self ..
  ·exact(zIU k r).cons_cons _
theorem zDT(k:κ){m:List (κ×Value)}(h:(m.map (·.1)).Nodup):((delM k m).map (·.1)).Nodup:=h.sublist ((zIU k m).map _)
theorem zI1(k k':κ):∀(m:List (κ×Value)),(m.map (·.1)).Nodup->getM (delM k m) k'=if k'=k then none else getM m k'
 |[],_=>by unfold delM;split <;> rfl
 |(k1,v1)::r,h=>by
  rw [List.map_cons,List.nodup_cons] at h
  unfold delM
  split
  ·rename_i e;subst e
   rw [zAC]
   split
   ·rename_i e;subst e;exact zC0.2 h.1
   ·rfl
  ·rename_i e
   rw [zAC,zAC,zI1 k k' r h.2]
   by_cases e':k'=k1
   ·subst e';rw [if_pos rfl,if_neg (Ne.symm e),if_pos rfl]
   ·rw [if_neg e',if_neg e']
theorem zCs(k:κ)(v:Value):∀(m:List (κ×Value)) (i:Nat),findM k m i=none->setM k v m=m++[(k,v)]/\delM k m=m
 |[],_,_=>⟨rfl,rfl⟩
 |(k1,v1)::r,i,h=>by
  unfold findM at h
  split at h
  ·cases h
  ·rename_i e
   have ih:=zCs k v r (i+1) h
   unfold setM delM
   rw [if_neg e,if_neg e,ih.1,ih.2];exact⟨rfl,rfl⟩
theorem zCt(k:κ)(v:Value):∀(m:List (κ×Value)) (i j:Nat) (v0:Value),findM k m i=some (j,v0)->i<=j/\m[j - i]? = some (k,v0)/\setM k v m=m.set (j - i) (k,v)/\delM k m=m.eraseIdx (j - i)
 |[],_,_,_,h=>by cases h
 |(k1,v1)::r,i,j,v0,h=>by
  unfold findM at h
  split at h
  ·rename_i e;subst e;cases h
   refine⟨Nat.le_refl _,by simp,?_,?_⟩
   ·unfold setM;rw [if_pos rfl];simp
   ·unfold delM;rw [if_pos rfl];simp
  ·rename_i e
   obtain⟨h1,h2,h3,h4⟩:=zCt k v r (i+1) j v0 h
   obtain⟨d,rfl⟩:∃d,j=i+1+d:=⟨j - (i+1),by omega⟩
   rw [show i+1+d - (i+1)=d by omega] at h2 h3 h4
   rw [show i+1+d - i=d+1 by omega]
   unfold setM delM
   rw [if_neg e,if_neg e,h3,h4]
   exact⟨by omega,by simpa using h2,rfl,rfl⟩
end
section
variable {P:Program} {kt:TypeId} {κ:Type} [DecidableEq κ] [M:MKey P kt κ] {k:Value->World->Prop} {pn:List PanicEntry->World->Prop} {w:World}
theorem zDX{b:Nat}{es:Array MapEntry}{c:Nat}(hb:w.heap[b]? = some (.map es c)):(getObj b).run P w=.ok (.map es c) w:=by simp [getObj,Sem.run,hb]
theorem zB1{b:Nat}{es:Array MapEntry}{c:Nat}(o:Obj)(hb:w.heap[b]? = some (.map es c)):(setObj b o).run P w=.ok () { w with heap:=w.heap.setIfInBounds b o }:=by simp [setObj,Sem.run,hb]
theorem zAr{t:TypeId}{d:TypeDesc}(h:P.underlying t=some d)(w:World):(underlying t).run P w=.ok d w:=by
 simp only [underlying,Sem.run_bind,run_program,Result.andThen_ok,h,Sem.run_pure]
theorem zJL{e:TypeId}{z:Value}{sz by':Nat}(he:Elem P e z sz by')(w:World):(zeroValue e).run P w=.ok z w:=by
 obtain⟨i,hi,hz,_,_⟩:=info_parts he.h
 simp [zeroValue,typeInfo,hi,hz]
theorem zGn{t e:TypeId}{z:Value}{sz by':Nat}(ht:MapT P t kt e)(he:Elem P e z sz by'){b:Nat}{m:List (κ×Value)}(h:MapL P kt w b m)(x:κ)(ok:Bool):
  (Instr.lookup t (.map (some b)) (M.val x) ok).run P w=.ok (bif ok then .tuple #[(getM m x).getD z,.bool (getM m x).isSome] else (getM m x).getD z) w:=by
 obtain⟨⟨es,c,hb,hE⟩,_⟩:=h
 unfold Instr.lookup
 simp only [Sem.run_bind,zAr ht.h,Result.andThen_ok,zDX hb,Sem.run_pure,M.check,M.find x _ m w hE]
 cases hf:findM x m 0 with
 |none =>
  have hg:getM m x=none:=by unfold getM;rw [hf];rfl
  rw [hg]
  simp only [Sem.run_bind,zJL he,Result.andThen_ok,Sem.run_pure]
  cases ok <;> rfl
 |some p =>
  obtain⟨i,v⟩:=p
  have hg:getM m x=some v:=by unfold getM;rw [hf];rfl
  rw [hg]
  cases ok <;> rfl
theorem rlook{t e:TypeId}{z:Value}{sz by':Nat}[ht:MapT P t kt e][he:Elem P e z sz by']{b:Nat}{m:List (κ×Value)}{xv:Value}(h:MapL P kt w b m)(x:κ)(hx:xv=M.val x)(hk:k ((getM m x).getD z) w):SemV P (Instr.lookup t (.map (some b)) xv false) k pn w:=by
 subst hx;exact SemV.of (zGn ht he h x false) hk
theorem rlook2{t e:TypeId}{z:Value}{sz by':Nat}[ht:MapT P t kt e][he:Elem P e z sz by']{b:Nat}{m:List (κ×Value)}{xv:Value}(h:MapL P kt w b m)(x:κ)(hx:xv=M.val x)(hk:k (.tuple #[(getM m x).getD z,.bool (getM m x).isSome]) w):SemV P (Instr.lookup t (.map (some b)) xv true) k pn w:=by
 subst hx;exact SemV.of (zGn ht he h x true) hk
theorem tlook2{t e:TypeId}{z:Value}{sz by':Nat}[ht:MapT P t kt e][he:Elem P e z sz by']{k:Value->Prop}{b:Nat}{m:List (κ×Value)}{xv:Value}(h:MapL P kt w b m)(hd:¬D b)(x:κ)(hx:xv=M.val x)(hk:k (.tuple #[(getM m x).getD z,.bool (getM m x).isSome])):TakeS P (Instr.lookup t (.map (some b)) xv true) D k w:=by
 subst hx;rw [zAg];exact⟨_,λw' f=>zGn ht he (h.fr f hd) x true,hk⟩
theorem put_fr{b:Nat}{es:Array MapEntry}{c:Nat}(hb:w.heap[b]? = some (.map es c))(o:Obj):Fr (λi=>i=b) w { w with heap:=w.heap.setIfInBounds b o }:=
 ⟨rfl,rfl,rfl,by simp,λi _ hi=>Array.getElem?_setIfInBounds_ne (Ne.symm hi),λi o' ho hr=>by
  rw [Array.getElem?_setIfInBounds_ne]
  ·exact ho
  ·rintro rfl;rw [hb] at ho;cases ho;cases hr⟩
theorem put_at{b:Nat}(hb:b<w.heap.size)(o:Obj):({ w with heap:=w.heap.setIfInBounds b o }:World).heap[b]? = some o:=by simp [hb]
theorem zEV{α β:Type}(f:α->β):∀(l:List α) (i:Nat),(l.eraseIdx i).map f=(l.map f).eraseIdx i
 |[],_=>rfl
 |_::_,0=>rfl
 |x::r,i+1=>by simp [List.eraseIdx_cons_succ,zEV f r i]
theorem zKI{κ:Type}{val:κ->Value}{es:List MapEntry}{m:List (κ×Value)}(h:EntM val es m)(i:Nat)(x:κ)(v:Value)(f:MapEntry->MapEntry)(hf:∀e,((f e).key,(f e).val)=(val x,v)):EntM val (es.modify i f) (m.set i (x,v)):=by
 unfold EntM at *
 apply List.ext_getElem?
 intro j
 have hj:=congrArg (λl=>l[j]?) h
 simp only [List.getElem?_map,List.getElem?_modify,List.getElem?_set] at hj ⊢
 by_cases e:i=j
 ·subst e
  simp only [if_true]
  cases h1:es[i]? with
  |none =>
   rw [h1] at hj
   have:m[i]? = none:=by cases hm:m[i]? with
    |none=>rfl
    |some p=>rw [hm] at hj;cases hj
   rw [List.getElem?_eq_none_iff] at this
   simp [show ¬i<m.length by omega]
  |some e0 =>
   rw [h1] at hj
   have:i<m.length:=by
    rcases Nat.lt_or_ge i m.length with h'|h'
    ·exact h'
    ·rw [List.getElem?_eq_none h'] at hj;cases hj
   simp [this,hf]
 ·simp [e,hj]
theorem zOn{t e:TypeId}(ht:MapT P t kt e){b:Nat}{m:List (κ×Value)}(h:MapL P kt w b m)(x:κ)(v:Value):
  ∃w',(Instr.mapUpdate t (.map (some b)) (M.val x) v).run P w=.ok () w'/\MapL P kt w' b (setM x v m)/\Fr (λi=>i=b) w w'/\w'.heap.size=w.heap.size:=by
 obtain⟨⟨es,c,hb,hE⟩,hn⟩:=h
 have hlt:=blk_lt hb
 unfold Instr.mapUpdate
 simp only [Sem.run_bind,zAr ht.h,Result.andThen_ok,zDX hb,M.check,M.find x _ m w hE]
 cases hf:findM x m 0 with
 |none =>
  have h1:=(zCs x v m 0 hf).1
  simp only [zB1 _ hb]
  refine⟨_,rfl,⟨⟨_,_,put_at hlt _,?_⟩,zBn x v m hn⟩,put_fr hb _,by simp⟩
  rw [h1];unfold EntM at *;simp [hE]
 |some p =>
  obtain⟨i,v0⟩:=p
  have h1:=zCt x v m 0 i v0 hf
  obtain⟨_,h2,h3,_⟩:=h1
  rw [Nat.sub_zero] at h2 h3
  have hkey:((es[i]?).map (·.key)).getD (M.val x)=M.val x:=by
   have hj:=congrArg (λl=>l[i]?) hE
   simp only [List.getElem?_map,h2,Option.map_some] at hj
   cases h4:es[i]? with
   |none=>rfl
   |some e0 =>
    have h4':es.toList[i]? = some e0:=by simpa using h4
    rw [h4'] at hj
    simp only [Option.map_some,Option.some.injEq,Prod.mk.injEq] at hj
    simp [hj.1]
  have hstay:(Instr.keyThatStays (((es[i]?).map (·.key)).getD (M.val x)) (M.val x)).run P w=.ok (M.val x) w:=by
   rw [hkey];unfold Instr.keyThatStays;rw [if_pos (M.same x)];rfl
  simp only [Sem.run_bind,hstay,Result.andThen_ok,zB1 _ hb]
  refine⟨_,rfl,⟨⟨_,_,put_at hlt _,?_⟩,zBn x v m hn⟩,put_fr hb _,by simp⟩
  rw [h3,Array.toList_modify]
  exact zKI hE i x v _ λe=>rfl
theorem rupd{t e:TypeId}[ht:MapT P t kt e]{b:Nat}{m:List (κ×Value)}{xv v:Value}(h:MapL P kt w b m)(x:κ)(hx:xv=M.val x)
  (hk:∀w',MapL P kt w' b (setM x v m)->Fr (λi=>i=b) w w'->w'.heap.size=w.heap.size->k undef w'):SemU P (Instr.mapUpdate t (.map (some b)) xv v) k pn w:=by
 subst hx
 obtain⟨w',h1,h2,h3,h4⟩:=zOn ht h x v
 exact SemU.of h1 (hk w' h2 h3 h4)
theorem zOi{t e ty:TypeId}{ts:Array TypeId}(hts:ts[0]? = some t)(ht:MapT P t kt e){b:Nat}{m:List (κ×Value)}(h:MapL P kt w b m)(x:κ):
  ∃w',(Builtin.delete_ ts ty #[.map (some b),M.val x]).run P w=.ok (.tuple #[]) w'/\MapL P kt w' b (delM x m)/\Fr (λi=>i=b) w w'/\w'.heap.size=w.heap.size:=by
 obtain⟨⟨es,c,hb,hE⟩,hn⟩:=h
 have hlt:=blk_lt hb
 unfold Builtin.delete_
 simp only [hts,List.getElem?_toArray,List.getElem?_cons_zero,List.getElem?_cons_succ,Sem.run_bind,zAr ht.h,Result.andThen_ok,zDX hb,M.check,M.find x _ m w hE]
 cases hf:findM x m 0 with
 |none =>
  have h1:=(zCs x undef m 0 hf).2
  simp only [Sem.run_bind,zB1 _ hb,Result.andThen_ok,Sem.run_pure]
  exact⟨_,rfl,⟨⟨_,_,put_at hlt _,by rw [h1];exact hE⟩,zDT x hn⟩,put_fr hb _,by simp⟩
 |some p =>
  obtain⟨i,v0⟩:=p
  have h1:=zCt x undef m 0 i v0 hf
  obtain⟨_,_,_,h3⟩:=h1
  rw [Nat.sub_zero] at h3
  simp only [Sem.run_bind,zB1 _ hb,Result.andThen_ok,Sem.run_pure]
  refine⟨_,rfl,⟨⟨_,_,put_at hlt _,?_⟩,zDT x hn⟩,put_fr hb _,by simp⟩
  rw [h3]
  unfold EntM at *
  rw [show (es.eraseIdxIfInBounds i).toList=es.toList.eraseIdx i by simp,zEV,zEV,hE]
theorem rdel{t e ty:TypeId}{t2:TypeId}[ht:MapT P t kt e]{b:Nat}{m:List (κ×Value)}{xv:Value}(h:MapL P kt w b m)(x:κ)(hx:xv=M.val x)
  (hk:∀w',MapL P kt w' b (delM x m)->Fr (λi=>i=b) w w'->w'.heap.size=w.heap.size->k (.tuple #[]) w'):SemV P (Builtin.delete_ #[t,t2] ty #[.map (some b),xv]) k pn w:=by
 subst hx
 obtain⟨w',h1,h2,h3,h4⟩:=zOi (ts:=#[t,t2]) (ty:=ty) rfl ht h x
 exact SemV.of h1 (hk w' h2 h3 h4)
end
end Go.W
namespace Go.W
open Go
set_option maxRecDepth 100000
open Go.Proofs
variable {B N hi i j k m n:Nat} {D:Nat -> Prop} {P:Program} {T:Tab} {a:Option Addr} {s:List UInt8} {u u' w w':World}
noncomputable abbrev PP:Program:=Tryz.prog
namespace F
abbrev zy:Nat:=4
abbrev yf:Nat:=6
abbrev ps:Nat:=7
abbrev zz:Nat:=8
abbrev cd:Nat:=9
abbrev qah:Nat:=10
abbrev z0:Nat:=11
abbrev ce:Nat:=13
abbrev cv:Nat:=14
abbrev d3:Nat:=17
abbrev z1:Nat:=18
abbrev pt:Nat:=19
abbrev z2:Nat:=20
abbrev yn:Nat:=21
abbrev qai:Nat:=25
abbrev du:Nat:=26
abbrev qaj:Nat:=27
abbrev qe:Nat:=28
abbrev q7:Nat:=29
abbrev zn:Nat:=30
abbrev pu:Nat:=31
abbrev zf:Nat:=32
abbrev q8:Nat:=33
abbrev qa1:Nat:=34
abbrev d4:Nat:=35
abbrev qak:Nat:=36
abbrev cw:Nat:=40
abbrev qa2:Nat:=41
abbrev qf:Nat:=42
abbrev qa:Nat:=43
abbrev qg:Nat:=44
abbrev qb:Nat:=45
abbrev pe:Nat:=46
abbrev qz:Nat:=47
abbrev cf:Nat:=48
abbrev q0:Nat:=49
abbrev cg:Nat:=50
abbrev zg:Nat:=51
abbrev yw:Nat:=52
abbrev ch:Nat:=53
abbrev zo:Nat:=54
abbrev z3:Nat:=59
abbrev qa3:Nat:=60
abbrev d5:Nat:=61
abbrev ql:Nat:=62
abbrev qk:Nat:=63
abbrev z4:Nat:=64
abbrev q4:Nat:=65
abbrev qq:Nat:=66
abbrev qw:Nat:=67
abbrev z5:Nat:=68
abbrev cx:Nat:=69
abbrev qal:Nat:=70
abbrev zp:Nat:=71
abbrev cy:Nat:=72
abbrev z6:Nat:=73
abbrev q5:Nat:=74
abbrev dg:Nat:=75
abbrev pv:Nat:=76
abbrev ya:Nat:=77
abbrev ci:Nat:=78
abbrev qa4:Nat:=85
abbrev qam:Nat:=86
abbrev yg:Nat:=87
abbrev yh:Nat:=88
abbrev ys:Nat:=89
abbrev pw:Nat:=90
abbrev yo:Nat:=91
abbrev dv:Nat:=92
abbrev yb:Nat:=93
abbrev cz:Nat:=94
abbrev pf:Nat:=95
abbrev cj:Nat:=96
abbrev ck:Nat:=97
abbrev da:Nat:=98
abbrev cl:Nat:=99
abbrev yq:Nat:=100
abbrev pg:Nat:=101
abbrev d6:Nat:=102
abbrev qan:Nat:=106
abbrev qa5:Nat:=107
abbrev y4:Nat:=108
abbrev zq:Nat:=109
abbrev z7:Nat:=110
abbrev cm:Nat:=111
abbrev yx:Nat:=112
abbrev yy:Nat:=113
abbrev c0:Nat:=114
abbrev yt:Nat:=115
abbrev qh:Nat:=116
abbrev qc:Nat:=117
abbrev zh:Nat:=122
abbrev qa6:Nat:=123
abbrev qao:Nat:=124
abbrev qp:Nat:=125
abbrev px:Nat:=126
abbrev ph:Nat:=127
abbrev c1:Nat:=128
abbrev qap:Nat:=129
abbrev qaq:Nat:=130
abbrev c2:Nat:=131
abbrev z8:Nat:=132
abbrev d7:Nat:=133
abbrev qx:Nat:=134
abbrev c3:Nat:=135
abbrev zi:Nat:=136
abbrev z9:Nat:=137
abbrev yr:Nat:=138
abbrev c4:Nat:=139
abbrev py:Nat:=140
abbrev qar:Nat:=141
abbrev qm:Nat:=142
abbrev qt:Nat:=143
abbrev q1:Nat:=144
abbrev y5:Nat:=145
abbrev cn:Nat:=148
abbrev yi:Nat:=150
abbrev dw:Nat:=151
abbrev q9:Nat:=152
abbrev qu:Nat:=153
abbrev dh:Nat:=154
abbrev q6:Nat:=155
abbrev q3:Nat:=156
abbrev pz:Nat:=157
abbrev yj:Nat:=158
abbrev yc:Nat:=159
abbrev qd:Nat:=160
abbrev dx:Nat:=161
abbrev dy:Nat:=162
abbrev qi:Nat:=163
abbrev c5:Nat:=164
abbrev db:Nat:=165
abbrev yz:Nat:=166
abbrev dc:Nat:=167
abbrev pi:Nat:=168
abbrev zr:Nat:=169
abbrev co:Nat:=170
abbrev qy:Nat:=171
abbrev d8:Nat:=172
abbrev pj:Nat:=174
abbrev zs:Nat:=175
abbrev y6:Nat:=176
abbrev c6:Nat:=177
abbrev c7:Nat:=190
abbrev cp:Nat:=191
abbrev yk:Nat:=192
abbrev pk:Nat:=193
abbrev d9:Nat:=194
abbrev zj:Nat:=195
abbrev qs:Nat:=196
abbrev y0:Nat:=197
abbrev c8:Nat:=198
abbrev c9:Nat:=199
abbrev cq:Nat:=200
abbrev cr:Nat:=201
abbrev qaa:Nat:=202
abbrev y1:Nat:=203
abbrev pa:Nat:=204
abbrev qab:Nat:=205
abbrev pl:Nat:=206
abbrev qn:Nat:=207
abbrev ca:Nat:=208
abbrev di:Nat:=209
abbrev dj:Nat:=210
abbrev y7:Nat:=211
abbrev qas:Nat:=212
abbrev dd:Nat:=213
abbrev cs:Nat:=214
abbrev yu:Nat:=215
abbrev pb:Nat:=216
abbrev qac:Nat:=217
abbrev qat:Nat:=218
abbrev p0:Nat:=219
abbrev qau:Nat:=220
abbrev y8:Nat:=221
abbrev qj:Nat:=222
abbrev zk:Nat:=223
abbrev dz:Nat:=229
abbrev qv:Nat:=230
abbrev yd:Nat:=231
abbrev d0:Nat:=233
abbrev zl:Nat:=234
abbrev zt:Nat:=235
abbrev zu:Nat:=236
abbrev y9:Nat:=237
abbrev zb:Nat:=238
abbrev dk:Nat:=239
abbrev dl:Nat:=240
abbrev yp:Nat:=247
abbrev y2:Nat:=248
abbrev p1:Nat:=249
abbrev qa8:Nat:=250
abbrev za:Nat:=251
abbrev cb:Nat:=252
abbrev yv:Nat:=253
abbrev qav:Nat:=254
abbrev p2:Nat:=255
abbrev zc:Nat:=256
abbrev pm:Nat:=257
abbrev qr:Nat:=258
abbrev qaw:Nat:=259
abbrev p3:Nat:=261
abbrev de:Nat:=262
abbrev pn:Nat:=263
abbrev qax:Nat:=264
abbrev qay:Nat:=265
abbrev yl:Nat:=266
abbrev zv:Nat:=267
abbrev qaz:Nat:=268
abbrev p4:Nat:=269
abbrev po:Nat:=270
abbrev p5:Nat:=271
abbrev qad:Nat:=272
abbrev p6:Nat:=273
abbrev ct:Nat:=274
abbrev zd:Nat:=279
abbrev qae:Nat:=280
abbrev cc:Nat:=281
abbrev ym:Nat:=282
abbrev pc:Nat:=283
abbrev dm:Nat:=287
abbrev dn:Nat:=288
abbrev ze:Nat:=289
abbrev y3:Nat:=290
abbrev cu:Nat:=291
abbrev pd:Nat:=293
abbrev qa0:Nat:=294
abbrev zw:Nat:=295
abbrev zm:Nat:=296
abbrev dp:Nat:=297
abbrev p7:Nat:=298
abbrev dq:Nat:=299
abbrev qaf:Nat:=308
abbrev p8:Nat:=309
abbrev q2:Nat:=310
abbrev df:Nat:=316
abbrev d1:Nat:=333
abbrev qag:Nat:=335
abbrev qa7:Nat:=337
abbrev zx:Nat:=341
abbrev qo:Nat:=366
abbrev ye:Nat:=406
abbrev pp:Nat:=407
abbrev p9:Nat:=408
abbrev pq:Nat:=409
abbrev pr:Nat:=410
abbrev dr:Nat:=418
abbrev d2:Nat:=419
abbrev ds:Nat:=420
abbrev dt:Nat:=421
end F
namespace E
abbrev qa:Nat:=3
abbrev q2:Nat:=4
abbrev yi:Nat:=5
abbrev qg:Nat:=9
abbrev yx:Nat:=20
abbrev qy:Nat:=23
abbrev yl:Nat:=24
abbrev qk:Nat:=26
abbrev qf:Nat:=34
abbrev q7:Nat:=37
abbrev qq:Nat:=39
abbrev yc:Nat:=45
abbrev qt:Nat:=47
abbrev qo:Nat:=48
abbrev qi:Nat:=50
abbrev qc:Nat:=52
abbrev yd:Nat:=54
abbrev qe:Nat:=58
abbrev qs:Nat:=61
abbrev ya:Nat:=66
abbrev ys:Nat:=69
abbrev yg:Nat:=71
abbrev qd:Nat:=75
abbrev yo:Nat:=85
abbrev qm:Nat:=92
abbrev yh:Nat:=93
abbrev yt:Nat:=100
abbrev qr:Nat:=105
abbrev qw:Nat:=127
abbrev yj:Nat:=138
abbrev q8:Nat:=146
abbrev ym:Nat:=151
abbrev yk:Nat:=174
abbrev yn:Nat:=180
abbrev qz:Nat:=183
abbrev yp:Nat:=196
abbrev ye:Nat:=202
abbrev q3:Nat:=212
abbrev q1:Nat:=214
abbrev qp:Nat:=219
abbrev yw:Nat:=231
abbrev qv:Nat:=238
abbrev qn:Nat:=243
abbrev q5:Nat:=246
abbrev q6:Nat:=254
abbrev yr:Nat:=263
abbrev yq:Nat:=265
abbrev yy:Nat:=273
abbrev qx:Nat:=277
abbrev ql:Nat:=316
abbrev qb:Nat:=318
abbrev qh:Nat:=330
abbrev yf:Nat:=331
abbrev yu:Nat:=334
abbrev qj:Nat:=371
abbrev q9:Nat:=380
abbrev q0:Nat:=394
abbrev q4:Nat:=412
abbrev yb:Nat:=428
abbrev qu:Nat:=429
abbrev yv:Nat:=452
end E
def TB:Tab:={ kinds:=[(9,2),(10,2),(11,2),(24,1),(31,1),(32,1),(37,1),(42,1),(45,1),(48,1),(59,1),(66,1),(69,1),(85,1),(89,1),(90,1),(180,1),(213,1),(214,1),(222,1),(243,1),(263,1),(273,1),(275,1),(322,1),(376,1)],offs:=[(7,[some 0,some 1,some 2,some 3]),(8,[some 0,some 1,some 2,some 3]),(13,[some 0,some 1]),(14,[some 0,some 1]),(18,[some 0]),(19,[some 0]),(22,[some 0,some 1,some 2,some 3,some 4]),(23,[some 0,some 1,some 2,some 3,some 4]),(33,[some 0,some 1,some 2]),(34,[some 0,some 1,some 2]),(38,[some 0,some 1,some 2,some 3]),(39,[some 0,some 1,some 2,some 3]),(46,[some 0,some 1,some 2,some 3,some 4,some 5]),(47,[some 0,some 1,some 2,some 3,some 4,some 5]),(49,[some 0,some 1,some 2]),(50,[some 0,some 1,some 2]),(51,[some 0,some 1,some 2]),(52,[some 0,some 1,some 2]),(53,[some 0,some 6]),(54,[some 0,some 6]),(57,[some 0,some 1]),(58,[some 0,some 1]),(60,[some 0,some 1]),(61,[some 0,some 1]),(70,[some 0,some 1,some 2]),(71,[some 0,some 1,some 2]),(74,[some 0,some 1,some 2]),(75,[some 0,some 1,some 2]),(91,[some 0,some 5,some 9,some 10,some 11,some 12,some 13]),(92,[some 0,some 5,some 9,some 10,some 11,some 12,some 13]),(99,[some 0,some 1]),(100,[some 0,some 1]),(104,[some 0,some 1]),(105,[some 0,some 1]),(114,[some 0,some 1]),(115,[some 0,some 1]),(120,[some 0,some 1,some 2]),(121,[some 0,some 1,some 2]),(126,[some 0,some 1]),(127,[some 0,some 1]),(137,[some 0,some 6,some 7]),(138,[some 0,some 6,some 7]),(145,[some 0,some 1]),(146,[some 0,some 1]),(150,[some 0]),(151,[some 0]),(173,[some 0,some 1]),(174,[some 0,some 1]),(182,[some 0,some 1,some 3,some 4]),(183,[some 0,some 1,some 3,some 4]),(195,[some 0]),(196,[some 0]),(201,[some 0]),(202,[some 0]),(218,[some 0,some 1]),(219,[some 0,some 1]),(237,[some 0,some 1]),(238,[some 0,some 1]),(245,[some 0,some 1]),(246,[some 0,some 1]),(252,[some 0,some 1]),(253,[some 0,some 1]),(254,[some 0,some 1]),(264,[some 0,some 1]),(265,[some 0,some 1]),(276,[some 0,some 1,some 2]),(277,[some 0,some 1,some 2]),(315,[some 0,some 1,some 2]),(316,[some 0,some 1,some 2]),(317,[some 0,some 3]),(318,[some 0,some 3]),(330,[some 0,some 3]),(333,[some 0,some 6,some 10,some 11]),(334,[some 0,some 6,some 10,some 11]),(357,[some 0]),(358,[some 0]),(370,[some 0,some 1,some 2]),(371,[some 0,some 1,some 2]),(377,[some 0]),(378,[some 0]),(379,[some 0,some 1]),(380,[some 0,some 1]),(398,[some 0,some 3]),(411,[some 0,some 3,some 4]),(412,[some 0,some 3,some 4]),(429,[some 0,some 1]),(510,[some 0,some 1,some 2,some 3]),(511,[some 0,some 1,some 2,some 3]),(513,[none]),(514,[none]),(520,[some 0,some 1,some 2,some 3,some 4,some 5,some 6,some 7,some 8,some 9,some 10]),(521,[some 0,some 1,some 2,some 3,some 4,some 5,some 6,some 7,some 8,some 9,some 10])],round:=false }
def TBR:Tab:={ TB with round:=true }
theorem ff {P:Program}{i:Nat}{a b:Func}(h:P.funcs[i]?=some a)(e:a=b:=by kernel_rfl):P.funcs[i]?=some b:=h.trans (congrArg some e)
theorem TBok:TB.ok PP=true:=by kernel_rfl
theorem TBRok:TBR.ok PP=true:=by kernel_rfl
theorem mixed:PP.follows .mixedOrders=true:=by kernel_rfl
instance:IntT PP 3:=⟨⟨IntKind.i64,by kernel_rfl⟩⟩
instance:One PP 3:=⟨by kernel_rfl⟩
instance:Size PP 3 1:=⟨by kernel_rfl⟩
instance:Elem PP 3 (Value.int IntKind.i64 0) 1 8:=⟨by kernel_rfl⟩
instance:BoolT PP 4:=⟨by kernel_rfl⟩
instance:One PP 4:=⟨by kernel_rfl⟩
instance:Size PP 4 1:=⟨by kernel_rfl⟩
instance:Elem PP 4 (Value.bool false) 1 1:=⟨by kernel_rfl⟩
instance:Elem PP 5 (Value.int IntKind.u8 0) 1 1:=⟨by kernel_rfl⟩
instance:One PP 9:=⟨by kernel_rfl⟩
instance:Elem PP 9 (Value.string ⟨#[]⟩) 1 16:=⟨by kernel_rfl⟩
instance:Agg PP 23 5:=⟨by kernel_rfl⟩
instance:StructT PP 23 [(0,1),(1,1),(2,1),(3,1),(4,1)] [(Value.int IntKind.i64 0),(Value.int IntKind.i64 0),(Value.int IntKind.i64 0),(Value.int IntKind.i64 0),(Value.int IntKind.i64 0)]:=⟨by kernel_rfl,by kernel_rfl⟩
instance:SlT PP 24 71:=⟨by kernel_rfl⟩
instance:PtrT PP 25:=⟨⟨92,by kernel_rfl⟩⟩
instance:Conc PP 26:=⟨by kernel_rfl⟩
instance:One PP 26:=⟨by kernel_rfl⟩
instance:Size PP 26 1:=⟨by kernel_rfl⟩
instance:Elem PP 26 (Value.int IntKind.i64 0) 1 8:=⟨by kernel_rfl⟩
instance:SlT PP 31 105:=⟨by kernel_rfl⟩
instance:One PP 31:=⟨by kernel_rfl⟩
instance:Size PP 31 1:=⟨by kernel_rfl⟩
instance:SlT PP 32 45:=⟨by kernel_rfl⟩
instance:One PP 32:=⟨by kernel_rfl⟩
instance:Size PP 32 1:=⟨by kernel_rfl⟩
instance:Agg PP 34 3:=⟨by kernel_rfl⟩
instance:Size PP 34 3:=⟨by kernel_rfl⟩
instance:Elem PP 34 (Value.agg #[(Value.int IntKind.i64 0),(Value.slice none 0 0),(Value.slice none 0 0)]) 3 56:=⟨by kernel_rfl⟩
instance:StructT PP 34 [(0,1),(1,1),(2,1)] [(Value.int IntKind.i64 0),(Value.slice none 0 0),(Value.slice none 0 0)]:=⟨by kernel_rfl,by kernel_rfl⟩
instance:SlT PP 37 3:=⟨by kernel_rfl⟩
instance:One PP 37:=⟨by kernel_rfl⟩
instance:Size PP 37 1:=⟨by kernel_rfl⟩
instance:Elem PP 37 (Value.slice none 0 0) 1 24:=⟨by kernel_rfl⟩
instance:Agg PP 39 4:=⟨by kernel_rfl⟩
instance:Size PP 39 4:=⟨by kernel_rfl⟩
instance:Elem PP 39 (Value.agg #[(Value.slice none 0 0),(Value.slice none 0 0),(Value.slice none 0 0),(Value.slice none 0 0)]) 4 96:=⟨by kernel_rfl⟩
instance:SlT PP 42 54:=⟨by kernel_rfl⟩
instance:SlT PP 45 9:=⟨by kernel_rfl⟩
instance:One PP 45:=⟨by kernel_rfl⟩
instance:Size PP 45 1:=⟨by kernel_rfl⟩
instance:Elem PP 45 (Value.slice none 0 0) 1 24:=⟨by kernel_rfl⟩
instance:Agg PP 47 6:=⟨by kernel_rfl⟩
instance:Size PP 47 6:=⟨by kernel_rfl⟩
instance:Elem PP 47 (Value.agg #[(Value.int IntKind.i64 0),(Value.int IntKind.i64 0),(Value.int IntKind.i64 0),(Value.slice none 0 0),(Value.int IntKind.i64 0),(Value.int IntKind.i64 0)]) 6 64:=⟨by kernel_rfl⟩
instance:StructT PP 47 [(0,1),(1,1),(2,1),(3,1),(4,1),(5,1)] [(Value.int IntKind.i64 0),(Value.int IntKind.i64 0),(Value.int IntKind.i64 0),(Value.slice none 0 0),(Value.int IntKind.i64 0),(Value.int IntKind.i64 0)]:=⟨by kernel_rfl,by kernel_rfl⟩
instance:SlT PP 48 58:=⟨by kernel_rfl⟩
instance:One PP 48:=⟨by kernel_rfl⟩
instance:Size PP 48 1:=⟨by kernel_rfl⟩
instance:Elem PP 48 (Value.slice none 0 0) 1 24:=⟨by kernel_rfl⟩
instance:Agg PP 50 3:=⟨by kernel_rfl⟩
instance:Size PP 50 3:=⟨by kernel_rfl⟩
instance:Elem PP 50 (Value.agg #[(Value.bool false),(Value.int IntKind.i64 0),(Value.slice none 0 0)]) 3 40:=⟨by kernel_rfl⟩
instance:StructT PP 50 [(0,1),(1,1),(2,1)] [(Value.bool false),(Value.int IntKind.i64 0),(Value.slice none 0 0)]:=⟨by kernel_rfl,by kernel_rfl⟩
instance:Agg PP 52 5:=⟨by kernel_rfl⟩
instance:Size PP 52 5:=⟨by kernel_rfl⟩
instance:Elem PP 52 (Value.agg #[(Value.int IntKind.i64 0),(Value.int IntKind.i64 0),(Value.bool false),(Value.int IntKind.i64 0),(Value.slice none 0 0)]) 5 56:=⟨by kernel_rfl⟩
instance:StructT PP 52 [(0,1),(1,1),(2,3)] [(Value.int IntKind.i64 0),(Value.int IntKind.i64 0),(Value.bool false),(Value.int IntKind.i64 0),(Value.slice none 0 0)]:=⟨by kernel_rfl,by kernel_rfl⟩
instance:Elem PP 54 (Value.agg #[(Value.int IntKind.i64 0),(Value.int IntKind.i64 0),(Value.int IntKind.i64 0),(Value.slice none 0 0),(Value.int IntKind.i64 0),(Value.int IntKind.i64 0),(Value.int IntKind.i64 0),(Value.int IntKind.i64 0),(Value.bool false),(Value.int IntKind.i64 0),(Value.slice none 0 0)]) 11 120:=⟨by kernel_rfl⟩
instance:StructT PP 54 [(0,6),(6,5)] [(Value.int IntKind.i64 0),(Value.int IntKind.i64 0),(Value.int IntKind.i64 0),(Value.slice none 0 0),(Value.int IntKind.i64 0),(Value.int IntKind.i64 0),(Value.int IntKind.i64 0),(Value.int IntKind.i64 0),(Value.bool false),(Value.int IntKind.i64 0),(Value.slice none 0 0)]:=⟨by kernel_rfl,by kernel_rfl⟩
instance:Agg PP 58 2:=⟨by kernel_rfl⟩
instance:Size PP 58 2:=⟨by kernel_rfl⟩
instance:Elem PP 58 (Value.agg #[(Value.int IntKind.i64 0),(Value.int IntKind.i64 0)]) 2 16:=⟨by kernel_rfl⟩
instance:StructT PP 58 [(0,1),(1,1)] [(Value.int IntKind.i64 0),(Value.int IntKind.i64 0)]:=⟨by kernel_rfl,by kernel_rfl⟩
instance:SlT PP 59 48:=⟨by kernel_rfl⟩
instance:One PP 59:=⟨by kernel_rfl⟩
instance:Agg PP 61 2:=⟨by kernel_rfl⟩
instance:Size PP 61 2:=⟨by kernel_rfl⟩
instance:Elem PP 61 (Value.agg #[(Value.slice none 0 0),(Value.slice none 0 0)]) 2 48:=⟨by kernel_rfl⟩
instance:StructT PP 61 [(0,1),(1,1)] [(Value.slice none 0 0),(Value.slice none 0 0)]:=⟨by kernel_rfl,by kernel_rfl⟩
instance:SlT PP 66 146:=⟨by kernel_rfl⟩
instance:One PP 66:=⟨by kernel_rfl⟩
instance:Size PP 66 1:=⟨by kernel_rfl⟩
instance:SlT PP 69 75:=⟨by kernel_rfl⟩
instance:One PP 69:=⟨by kernel_rfl⟩
instance:Size PP 69 1:=⟨by kernel_rfl⟩
instance:Elem PP 71 (Value.agg #[(Value.bool false),(Value.string ⟨#[]⟩),(Value.slice none 0 0)]) 3 48:=⟨by kernel_rfl⟩
instance:Agg PP 75 8:=⟨by kernel_rfl⟩
instance:Size PP 75 8:=⟨by kernel_rfl⟩
instance:Elem PP 75 (Value.agg #[(Value.int IntKind.i64 0),(Value.int IntKind.i64 0),(Value.int IntKind.i64 0),(Value.int IntKind.i64 0),(Value.int IntKind.i64 0),(Value.slice none 0 0),(Value.int IntKind.i64 0),(Value.int IntKind.i64 0)]) 8 80:=⟨by kernel_rfl⟩
instance:StructT PP 75 [(0,1),(1,1),(2,6)] [(Value.int IntKind.i64 0),(Value.int IntKind.i64 0),(Value.int IntKind.i64 0),(Value.int IntKind.i64 0),(Value.int IntKind.i64 0),(Value.slice none 0 0),(Value.int IntKind.i64 0),(Value.int IntKind.i64 0)]:=⟨by kernel_rfl,by kernel_rfl⟩
instance:SlT PP 85 254:=⟨by kernel_rfl⟩
instance:One PP 85:=⟨by kernel_rfl⟩
instance:Size PP 85 1:=⟨by kernel_rfl⟩
instance:Elem PP 85 (Value.slice none 0 0) 1 24:=⟨by kernel_rfl⟩
instance:SlT PP 89 246:=⟨by kernel_rfl⟩
instance:One PP 89:=⟨by kernel_rfl⟩
instance:SlT PP 90 93:=⟨by kernel_rfl⟩
instance:One PP 90:=⟨by kernel_rfl⟩
instance:Size PP 90 1:=⟨by kernel_rfl⟩
instance:StructT PP 92 [(0,5),(5,4),(9,1),(10,1),(11,1),(12,1),(13,1)] [(Value.int IntKind.i64 0),(Value.int IntKind.i64 0),(Value.int IntKind.i64 0),(Value.int IntKind.i64 0),(Value.int IntKind.i64 0),(Value.slice none 0 0),(Value.slice none 0 0),(Value.slice none 0 0),(Value.slice none 0 0),(Value.slice none 0 0),(Value.slice none 0 0),(Value.slice none 0 0),(Value.slice none 0 0),(Value.slice none 0 0)]:=⟨by kernel_rfl,by kernel_rfl⟩
instance:PtrT PP 93:=⟨⟨183,by kernel_rfl⟩⟩
instance:One PP 93:=⟨by kernel_rfl⟩
instance:Elem PP 93 (Value.pointer none) 1 8:=⟨by kernel_rfl⟩
instance:StructT PP 100 [(0,1),(1,1)] [(Value.string ⟨#[]⟩),(Value.int IntKind.i64 0)]:=⟨by kernel_rfl,by kernel_rfl⟩
instance:Agg PP 105 2:=⟨by kernel_rfl⟩
instance:Size PP 105 2:=⟨by kernel_rfl⟩
instance:Elem PP 105 (Value.agg #[(Value.int IntKind.i64 0),(Value.int IntKind.i64 0)]) 2 16:=⟨by kernel_rfl⟩
instance:StructT PP 105 [(0,1),(1,1)] [(Value.int IntKind.i64 0),(Value.int IntKind.i64 0)]:=⟨by kernel_rfl,by kernel_rfl⟩
instance:One PP 119:=⟨by kernel_rfl⟩
instance:One PP 125:=⟨by kernel_rfl⟩
instance:Agg PP 127 2:=⟨by kernel_rfl⟩
instance:Size PP 127 2:=⟨by kernel_rfl⟩
instance:Elem PP 127 (Value.agg #[Value.nilFunc,Value.nilFunc]) 2 16:=⟨by kernel_rfl⟩
instance:StructT PP 127 [(0,1),(1,1)] [Value.nilFunc,Value.nilFunc]:=⟨by kernel_rfl,by kernel_rfl⟩
instance:One PP 135:=⟨by kernel_rfl⟩
instance:Agg PP 138 8:=⟨by kernel_rfl⟩
instance:StructT PP 138 [(0,6),(6,1),(7,1)] [(Value.int IntKind.i64 0),(Value.int IntKind.i64 0),(Value.int IntKind.i64 0),(Value.slice none 0 0),(Value.int IntKind.i64 0),(Value.int IntKind.i64 0),Value.nilFunc,Value.nilFunc]:=⟨by kernel_rfl,by kernel_rfl⟩
instance:MapT PP 143 9 37:=⟨by kernel_rfl⟩
instance:Agg PP 146 2:=⟨by kernel_rfl⟩
instance:Size PP 146 2:=⟨by kernel_rfl⟩
instance:Elem PP 146 (Value.agg #[(Value.string ⟨#[]⟩),(Value.slice none 0 0)]) 2 40:=⟨by kernel_rfl⟩
instance:StructT PP 146 [(0,1),(1,1)] [(Value.string ⟨#[]⟩),(Value.slice none 0 0)]:=⟨by kernel_rfl,by kernel_rfl⟩
instance:One PP 149:=⟨by kernel_rfl⟩
instance:Size PP 151 1:=⟨by kernel_rfl⟩
instance:Elem PP 151 (Value.agg #[Value.nilFunc]) 1 8:=⟨by kernel_rfl⟩
instance:StructT PP 151 [(0,1)] [Value.nilFunc]:=⟨by kernel_rfl,by kernel_rfl⟩
instance:Agg PP 174 2:=⟨by kernel_rfl⟩
instance:Size PP 174 2:=⟨by kernel_rfl⟩
instance:Elem PP 174 (Value.agg #[(Value.int IntKind.i64 0),(Value.slice none 0 0)]) 2 32:=⟨by kernel_rfl⟩
instance:StructT PP 174 [(0,1),(1,1)] [(Value.int IntKind.i64 0),(Value.slice none 0 0)]:=⟨by kernel_rfl,by kernel_rfl⟩
instance:PtrT PP 177:=⟨⟨277,by kernel_rfl⟩⟩
instance:One PP 177:=⟨by kernel_rfl⟩
instance:SlT PP 180 330:=⟨by kernel_rfl⟩
instance:One PP 180:=⟨by kernel_rfl⟩
instance:Size PP 180 1:=⟨by kernel_rfl⟩
instance:Elem PP 180 (Value.slice none 0 0) 1 24:=⟨by kernel_rfl⟩
instance:MapT PP 181 3 37:=⟨by kernel_rfl⟩
instance:One PP 181:=⟨by kernel_rfl⟩
instance:StructT PP 183 [(0,1),(1,2),(3,1),(4,1)] [(Value.pointer none),(Value.int IntKind.i64 0),(Value.slice none 0 0),(Value.slice none 0 0),(Value.map none)]:=⟨by kernel_rfl,by kernel_rfl⟩
instance:One PP 194:=⟨by kernel_rfl⟩
instance:Agg PP 196 1:=⟨by kernel_rfl⟩
instance:Size PP 196 1:=⟨by kernel_rfl⟩
instance:Elem PP 196 (Value.agg #[Value.nilFunc]) 1 8:=⟨by kernel_rfl⟩
instance:StructT PP 196 [(0,1)] [Value.nilFunc]:=⟨by kernel_rfl,by kernel_rfl⟩
instance:One PP 200:=⟨by kernel_rfl⟩
instance:Agg PP 202 1:=⟨by kernel_rfl⟩
instance:Size PP 202 1:=⟨by kernel_rfl⟩
instance:Elem PP 202 (Value.agg #[Value.nilFunc]) 1 8:=⟨by kernel_rfl⟩
instance:StructT PP 202 [(0,1)] [Value.nilFunc]:=⟨by kernel_rfl,by kernel_rfl⟩
instance:MapT PP 207 3 4:=⟨by kernel_rfl⟩
instance:Conc PP 212:=⟨by kernel_rfl⟩
instance : MethV PP 212 "Len" 406 214 := ⟨by kernel_rfl⟩
instance : MethV PP 212 "Less" 407 214 := ⟨by kernel_rfl⟩
instance : MethP PP 212 "Pop" 408 := ⟨⟨214, by kernel_rfl⟩⟩
instance : MethP PP 212 "Push" 409 := ⟨⟨214, by kernel_rfl⟩⟩
instance : MethV PP 212 "Swap" 410 214 := ⟨by kernel_rfl⟩
instance:SlT PP 214 219:=⟨by kernel_rfl⟩
instance:One PP 214:=⟨by kernel_rfl⟩
instance:Size PP 214 1:=⟨by kernel_rfl⟩
instance:Conc PP 219:=⟨by kernel_rfl⟩
instance:Agg PP 219 2:=⟨by kernel_rfl⟩
instance:Size PP 219 2:=⟨by kernel_rfl⟩
instance:Elem PP 219 (Value.agg #[(Value.int IntKind.i64 0),(Value.int IntKind.i64 0)]) 2 16:=⟨by kernel_rfl⟩
instance:StructT PP 219 [(0,1),(1,1)] [(Value.int IntKind.i64 0),(Value.int IntKind.i64 0)]:=⟨by kernel_rfl,by kernel_rfl⟩
instance:SlT PP 222 4:=⟨by kernel_rfl⟩
instance:MapT PP 228 3 227:=⟨by kernel_rfl⟩
instance:StructT PP 238 [(0,1),(1,1)] [(Value.string ⟨#[]⟩),(Value.int IntKind.i64 0)]:=⟨by kernel_rfl,by kernel_rfl⟩
instance:SlT PP 243 318:=⟨by kernel_rfl⟩
instance:One PP 243:=⟨by kernel_rfl⟩
instance:Size PP 243 1:=⟨by kernel_rfl⟩
instance:Elem PP 243 (Value.slice none 0 0) 1 24:=⟨by kernel_rfl⟩
instance:Agg PP 246 2:=⟨by kernel_rfl⟩
instance:Size PP 246 2:=⟨by kernel_rfl⟩
instance:Elem PP 246 (Value.agg #[(Value.slice none 0 0),(Value.int IntKind.i64 0)]) 2 32:=⟨by kernel_rfl⟩
instance:StructT PP 246 [(0,1),(1,1)] [(Value.slice none 0 0),(Value.int IntKind.i64 0)]:=⟨by kernel_rfl,by kernel_rfl⟩
instance:One PP 251:=⟨by kernel_rfl⟩
instance:Agg PP 254 9:=⟨by kernel_rfl⟩
instance:Size PP 254 9:=⟨by kernel_rfl⟩
instance:Elem PP 254 (Value.agg #[(Value.bool false),(Value.int IntKind.i64 0),(Value.int IntKind.i64 0),(Value.int IntKind.i64 0),(Value.int IntKind.i64 0),(Value.int IntKind.i64 0),(Value.slice none 0 0),(Value.int IntKind.i64 0),(Value.int IntKind.i64 0)]) 9 88:=⟨by kernel_rfl⟩
instance:StructT PP 254 [(0,1),(1,8)] [(Value.bool false),(Value.int IntKind.i64 0),(Value.int IntKind.i64 0),(Value.int IntKind.i64 0),(Value.int IntKind.i64 0),(Value.int IntKind.i64 0),(Value.slice none 0 0),(Value.int IntKind.i64 0),(Value.int IntKind.i64 0)]:=⟨by kernel_rfl,by kernel_rfl⟩
instance:SlT PP 263 5:=⟨by kernel_rfl⟩
instance:One PP 263:=⟨by kernel_rfl⟩
instance:Size PP 263 1:=⟨by kernel_rfl⟩
instance:Elem PP 263 (Value.slice none 0 0) 1 24:=⟨by kernel_rfl⟩
instance:Elem PP 265 (Value.agg #[(Value.pointer none),(Value.slice none 0 0)]) 2 32:=⟨by kernel_rfl⟩
instance:SlT PP 275 412:=⟨by kernel_rfl⟩
instance:One PP 275:=⟨by kernel_rfl⟩
instance:StructT PP 277 [(0,1),(1,1),(2,1)] [(Value.slice none 0 0),(Value.int IntKind.i64 0),(Value.int IntKind.i64 0)]:=⟨by kernel_rfl,by kernel_rfl⟩
instance:Agg PP 316 3:=⟨by kernel_rfl⟩
instance:Size PP 316 3:=⟨by kernel_rfl⟩
instance:Elem PP 316 (Value.agg #[(Value.int IntKind.i64 0),(Value.int IntKind.i64 0),(Value.int IntKind.i64 0)]) 3 24:=⟨by kernel_rfl⟩
instance:StructT PP 316 [(0,1),(1,1),(2,1)] [(Value.int IntKind.i64 0),(Value.int IntKind.i64 0),(Value.int IntKind.i64 0)]:=⟨by kernel_rfl,by kernel_rfl⟩
instance:Agg PP 318 4:=⟨by kernel_rfl⟩
instance:Size PP 318 4:=⟨by kernel_rfl⟩
instance:Elem PP 318 (Value.agg #[(Value.int IntKind.i64 0),(Value.int IntKind.i64 0),(Value.int IntKind.i64 0),(Value.int IntKind.i64 0)]) 4 32:=⟨by kernel_rfl⟩
instance:StructT PP 318 [(0,3),(3,1)] [(Value.int IntKind.i64 0),(Value.int IntKind.i64 0),(Value.int IntKind.i64 0),(Value.int IntKind.i64 0)]:=⟨by kernel_rfl,by kernel_rfl⟩
instance:SlT PP 322 243:=⟨by kernel_rfl⟩
instance:Agg PP 330 4:=⟨by kernel_rfl⟩
instance:Size PP 330 4:=⟨by kernel_rfl⟩
instance:Elem PP 330 (Value.agg #[(Value.int IntKind.i64 0),(Value.int IntKind.i64 0),(Value.int IntKind.i64 0),(Value.int IntKind.i64 0)]) 4 32:=⟨by kernel_rfl⟩
instance:StructT PP 330 [(0,3),(3,1)] [(Value.int IntKind.i64 0),(Value.int IntKind.i64 0),(Value.int IntKind.i64 0),(Value.int IntKind.i64 0)]:=⟨by kernel_rfl,by kernel_rfl⟩
instance:One PP 331:=⟨by kernel_rfl⟩
instance:StructT PP 334 [(0,6),(6,4),(10,1),(11,1)] [(Value.int IntKind.i64 0),(Value.int IntKind.i64 0),(Value.int IntKind.i64 0),(Value.slice none 0 0),(Value.int IntKind.i64 0),(Value.int IntKind.i64 0),(Value.slice none 0 0),(Value.slice none 0 0),(Value.slice none 0 0),(Value.slice none 0 0),(Value.slice none 0 0),(Value.int IntKind.i64 0)]:=⟨by kernel_rfl,by kernel_rfl⟩
instance:MapT PP 344 3 3:=⟨by kernel_rfl⟩
instance:MapT PP 366 3 4:=⟨by kernel_rfl⟩
instance:One PP 368:=⟨by kernel_rfl⟩
instance:StructT PP 371 [(0,1),(1,1),(2,1)] [(Value.string ⟨#[]⟩),(Value.int IntKind.i64 0),(Value.bool false)]:=⟨by kernel_rfl,by kernel_rfl⟩
instance:PtrT PP 375:=⟨⟨380,by kernel_rfl⟩⟩
instance:SlT PP 376 429:=⟨by kernel_rfl⟩
instance:One PP 376:=⟨by kernel_rfl⟩
instance:Size PP 376 1:=⟨by kernel_rfl⟩
instance:StructT PP 380 [(0,1),(1,1)] [(Value.slice none 0 0),(Value.int IntKind.i64 0)]:=⟨by kernel_rfl,by kernel_rfl⟩
instance:MapT PP 394 316 4:=⟨by kernel_rfl⟩
instance:One PP 394:=⟨by kernel_rfl⟩
instance:Size PP 394 1:=⟨by kernel_rfl⟩
instance:Elem PP 394 (Value.map none) 1 8:=⟨by kernel_rfl⟩
instance:Agg PP 412 5:=⟨by kernel_rfl⟩
instance:Size PP 412 5:=⟨by kernel_rfl⟩
instance:Elem PP 412 (Value.agg #[(Value.int IntKind.i64 0),(Value.int IntKind.i64 0),(Value.int IntKind.i64 0),(Value.int IntKind.i64 0),(Value.bool false)]) 5 40:=⟨by kernel_rfl⟩
instance:StructT PP 412 [(0,3),(3,1),(4,1)] [(Value.int IntKind.i64 0),(Value.int IntKind.i64 0),(Value.int IntKind.i64 0),(Value.int IntKind.i64 0),(Value.bool false)]:=⟨by kernel_rfl,by kernel_rfl⟩
instance:Conc PP 428:=⟨by kernel_rfl⟩
instance : MethP PP 428 "Len" 333 := ⟨⟨378, by kernel_rfl⟩⟩
instance : MethP PP 428 "Less" 418 := ⟨⟨378, by kernel_rfl⟩⟩
instance : MethP PP 428 "Pop" 419 := ⟨⟨378, by kernel_rfl⟩⟩
instance : MethP PP 428 "Push" 420 := ⟨⟨378, by kernel_rfl⟩⟩
instance : MethP PP 428 "Swap" 421 := ⟨⟨378, by kernel_rfl⟩⟩
instance:Conc PP 429:=⟨by kernel_rfl⟩
instance:Agg PP 429 2:=⟨by kernel_rfl⟩
instance:Size PP 429 2:=⟨by kernel_rfl⟩
instance:Elem PP 429 (Value.agg #[(Value.int IntKind.i64 0),(Value.int IntKind.i64 0)]) 2 16:=⟨by kernel_rfl⟩
instance:MapT PP 438 316 318:=⟨by kernel_rfl⟩
instance:ArrT PP 452 400 4:=⟨by kernel_rfl⟩
instance:Elem PP 452 (.agg (Array.replicate 400 (Value.bool false))) 400 400:=⟨by kernel_rfl⟩
noncomputable instance:MKey PP 3 Int:=mkInt (kd:=IntKind.i64) (by kernel_rfl)
noncomputable instance:MKey PP 9 ByteArray:=mkStr (by kernel_rfl)
section
open Go.Proofs.Tryz
instance:FnAt PP 4 f4 132:=⟨func4,ntmps4,rfl,rfl⟩
instance:FnAt PP 6 f6 105:=⟨func6,ntmps6,rfl,rfl⟩
instance:FnAt PP 7 f7 48:=⟨func7,ntmps7,rfl,rfl⟩
instance:FnAt PP 8 f8 45:=⟨func8,ntmps8,rfl,rfl⟩
instance:FnAt PP 9 f9 74:=⟨func9,ntmps9,rfl,rfl⟩
instance:FnAt PP 10 f10 38:=⟨func10,ntmps10,rfl,rfl⟩
instance:FnAt PP 11 f11 117:=⟨func11,ntmps11,rfl,rfl⟩
instance:FnAt PP 13 f13 68:=⟨func13,ntmps13,rfl,rfl⟩
instance:FnAt PP 14 f14 26:=⟨func14,ntmps14,rfl,rfl⟩
instance:FnAt PP 17 f17 68:=⟨func17,ntmps17,rfl,rfl⟩
instance:FnAt PP 18 f18 49:=⟨func18,ntmps18,rfl,rfl⟩
instance:FnAt PP 19 f19 8:=⟨func19,ntmps19,rfl,rfl⟩
instance:FnAt PP 20 f20 49:=⟨func20,ntmps20,rfl,rfl⟩
instance:FnAt PP 21 f21 8:=⟨func21,ntmps21,rfl,rfl⟩
instance:FnAt PP 25 f25 12:=⟨func25,ntmps25,rfl,rfl⟩
instance:FnAt PP 26 f26 12:=⟨func26,ntmps26,rfl,rfl⟩
instance:FnAt PP 27 f27 30:=⟨func27,ntmps27,rfl,rfl⟩
instance:FnAt PP 28 f28 12:=⟨func28,ntmps28,rfl,rfl⟩
instance:FnAt PP 29 f29 11:=⟨func29,ntmps29,rfl,rfl⟩
instance:FnAt PP 30 f30 24:=⟨func30,ntmps30,rfl,rfl⟩
instance:FnAt PP 31 f31 24:=⟨func31,ntmps31,rfl,rfl⟩
instance:FnAt PP 32 f32 25:=⟨func32,ntmps32,rfl,rfl⟩
instance:FnAt PP 33 f33 24:=⟨func33,ntmps33,rfl,rfl⟩
instance:FnAt PP 34 f34 19:=⟨func34,ntmps34,rfl,rfl⟩
instance:FnAt PP 35 f35 32:=⟨func35,ntmps35,rfl,rfl⟩
instance:FnAt PP 36 f36 50:=⟨func36,ntmps36,rfl,rfl⟩
instance:FnAt PP 40 f40 67:=⟨func40,ntmps40,rfl,rfl⟩
instance:FnAt PP 41 f41 69:=⟨func41,ntmps41,rfl,rfl⟩
instance:FnAt PP 42 f42 18:=⟨func42,ntmps42,rfl,rfl⟩
instance:FnAt PP 43 f43 17:=⟨func43,ntmps43,rfl,rfl⟩
instance:FnAt PP 44 f44 18:=⟨func44,ntmps44,rfl,rfl⟩
instance:FnAt PP 45 f45 17:=⟨func45,ntmps45,rfl,rfl⟩
instance:FnAt PP 46 f46 69:=⟨func46,ntmps46,rfl,rfl⟩
instance:FnAt PP 47 f47 25:=⟨func47,ntmps47,rfl,rfl⟩
instance:FnAt PP 48 f48 51:=⟨func48,ntmps48,rfl,rfl⟩
instance:FnAt PP 49 f49 25:=⟨func49,ntmps49,rfl,rfl⟩
instance:FnAt PP 50 f50 44:=⟨func50,ntmps50,rfl,rfl⟩
instance:FnAt PP 51 f51 70:=⟨func51,ntmps51,rfl,rfl⟩
instance:FnAt PP 52 f52 15:=⟨func52,ntmps52,rfl,rfl⟩
instance:FnAt PP 53 f53 52:=⟨func53,ntmps53,rfl,rfl⟩
instance:FnAt PP 54 f54 16:=⟨func54,ntmps54,rfl,rfl⟩
instance:FnAt PP 60 f60 15:=⟨func60,ntmps60,rfl,rfl⟩
instance:FnAt PP 61 f61 15:=⟨func61,ntmps61,rfl,rfl⟩
instance:FnAt PP 62 f62 55:=⟨func62,ntmps62,rfl,rfl⟩
instance:FnAt PP 63 f63 38:=⟨func63,ntmps63,rfl,rfl⟩
instance:FnAt PP 64 f64 17:=⟨func64,ntmps64,rfl,rfl⟩
instance:FnAt PP 65 f65 22:=⟨func65,ntmps65,rfl,rfl⟩
instance:FnAt PP 66 f66 26:=⟨func66,ntmps66,rfl,rfl⟩
instance:FnAt PP 67 f67 13:=⟨func67,ntmps67,rfl,rfl⟩
instance:FnAt PP 68 f68 35:=⟨func68,ntmps68,rfl,rfl⟩
instance:FnAt PP 69 f69 5:=⟨func69,ntmps69,rfl,rfl⟩
instance:FnAt PP 70 f70 36:=⟨func70,ntmps70,rfl,rfl⟩
instance:FnAt PP 71 f71 52:=⟨func71,ntmps71,rfl,rfl⟩
instance:FnAt PP 72 f72 6:=⟨func72,ntmps72,rfl,rfl⟩
instance:FnAt PP 73 f73 106:=⟨func73,ntmps73,rfl,rfl⟩
instance:FnAt PP 74 f74 43:=⟨func74,ntmps74,rfl,rfl⟩
instance:FnAt PP 75 f75 50:=⟨func75,ntmps75,rfl,rfl⟩
instance:FnAt PP 76 f76 17:=⟨func76,ntmps76,rfl,rfl⟩
instance:FnAt PP 77 f77 45:=⟨func77,ntmps77,rfl,rfl⟩
instance:FnAt PP 78 f78 83:=⟨func78,ntmps78,rfl,rfl⟩
instance:FnAt PP 85 f85 30:=⟨func85,ntmps85,rfl,rfl⟩
instance:FnAt PP 86 f86 16:=⟨func86,ntmps86,rfl,rfl⟩
instance:FnAt PP 87 f87 15:=⟨func87,ntmps87,rfl,rfl⟩
instance:FnAt PP 88 f88 13:=⟨func88,ntmps88,rfl,rfl⟩
instance:FnAt PP 89 f89 17:=⟨func89,ntmps89,rfl,rfl⟩
instance:FnAt PP 90 f90 13:=⟨func90,ntmps90,rfl,rfl⟩
instance:FnAt PP 91 f91 17:=⟨func91,ntmps91,rfl,rfl⟩
instance:FnAt PP 92 f92 13:=⟨func92,ntmps92,rfl,rfl⟩
instance:FnAt PP 93 f93 17:=⟨func93,ntmps93,rfl,rfl⟩
instance:FnAt PP 94 f94 7:=⟨func94,ntmps94,rfl,rfl⟩
instance:FnAt PP 95 f95 25:=⟨func95,ntmps95,rfl,rfl⟩
instance:FnAt PP 96 f96 2:=⟨func96,ntmps96,rfl,rfl⟩
instance:FnAt PP 97 f97 64:=⟨func97,ntmps97,rfl,rfl⟩
instance:FnAt PP 98 f98 25:=⟨func98,ntmps98,rfl,rfl⟩
instance:FnAt PP 99 f99 2:=⟨func99,ntmps99,rfl,rfl⟩
instance:FnAt PP 100 f100 9:=⟨func100,ntmps100,rfl,rfl⟩
instance:FnAt PP 101 f101 8:=⟨func101,ntmps101,rfl,rfl⟩
instance:FnAt PP 102 f102 35:=⟨func102,ntmps102,rfl,rfl⟩
instance:FnAt PP 106 f106 67:=⟨func106,ntmps106,rfl,rfl⟩
instance:FnAt PP 107 f107 6:=⟨func107,ntmps107,rfl,rfl⟩
instance:FnAt PP 108 f108 54:=⟨func108,ntmps108,rfl,rfl⟩
instance:FnAt PP 109 f109 12:=⟨func109,ntmps109,rfl,rfl⟩
instance:FnAt PP 110 f110 15:=⟨func110,ntmps110,rfl,rfl⟩
instance:FnAt PP 111 f111 44:=⟨func111,ntmps111,rfl,rfl⟩
instance:FnAt PP 112 f112 11:=⟨func112,ntmps112,rfl,rfl⟩
instance:FnAt PP 113 f113 6:=⟨func113,ntmps113,rfl,rfl⟩
instance:FnAt PP 114 f114 27:=⟨func114,ntmps114,rfl,rfl⟩
instance:FnAt PP 115 f115 9:=⟨func115,ntmps115,rfl,rfl⟩
instance:FnAt PP 116 f116 24:=⟨func116,ntmps116,rfl,rfl⟩
instance:FnAt PP 117 f117 23:=⟨func117,ntmps117,rfl,rfl⟩
instance:FnAt PP 122 f122 19:=⟨func122,ntmps122,rfl,rfl⟩
instance:FnAt PP 123 f123 26:=⟨func123,ntmps123,rfl,rfl⟩
instance:FnAt PP 124 f124 26:=⟨func124,ntmps124,rfl,rfl⟩
instance:FnAt PP 125 f125 13:=⟨func125,ntmps125,rfl,rfl⟩
instance:FnAt PP 126 f126 13:=⟨func126,ntmps126,rfl,rfl⟩
instance:FnAt PP 127 f127 26:=⟨func127,ntmps127,rfl,rfl⟩
instance:FnAt PP 128 f128 58:=⟨func128,ntmps128,rfl,rfl⟩
instance:FnAt PP 129 f129 15:=⟨func129,ntmps129,rfl,rfl⟩
instance:FnAt PP 130 f130 21:=⟨func130,ntmps130,rfl,rfl⟩
instance:FnAt PP 131 f131 29:=⟨func131,ntmps131,rfl,rfl⟩
instance:FnAt PP 132 f132 5:=⟨func132,ntmps132,rfl,rfl⟩
instance:FnAt PP 133 f133 6:=⟨func133,ntmps133,rfl,rfl⟩
instance:FnAt PP 134 f134 5:=⟨func134,ntmps134,rfl,rfl⟩
instance:FnAt PP 135 f135 120:=⟨func135,ntmps135,rfl,rfl⟩
instance:FnAt PP 136 f136 29:=⟨func136,ntmps136,rfl,rfl⟩
instance:FnAt PP 137 f137 40:=⟨func137,ntmps137,rfl,rfl⟩
instance:FnAt PP 138 f138 63:=⟨func138,ntmps138,rfl,rfl⟩
instance:FnAt PP 139 f139 30:=⟨func139,ntmps139,rfl,rfl⟩
instance:FnAt PP 140 f140 60:=⟨func140,ntmps140,rfl,rfl⟩
instance:FnAt PP 141 f141 23:=⟨func141,ntmps141,rfl,rfl⟩
instance:FnAt PP 142 f142 14:=⟨func142,ntmps142,rfl,rfl⟩
instance:FnAt PP 143 f143 13:=⟨func143,ntmps143,rfl,rfl⟩
instance:FnAt PP 144 f144 21:=⟨func144,ntmps144,rfl,rfl⟩
instance:FnAt PP 145 f145 9:=⟨func145,ntmps145,rfl,rfl⟩
instance:FnAt PP 148 f148 11:=⟨func148,ntmps148,rfl,rfl⟩
instance:FnAt PP 150 f150 18:=⟨func150,ntmps150,rfl,rfl⟩
instance:FnAt PP 151 f151 29:=⟨func151,ntmps151,rfl,rfl⟩
instance:FnAt PP 152 f152 5:=⟨func152,ntmps152,rfl,rfl⟩
instance:FnAt PP 153 f153 94:=⟨func153,ntmps153,rfl,rfl⟩
instance:FnAt PP 154 f154 29:=⟨func154,ntmps154,rfl,rfl⟩
instance:FnAt PP 155 f155 5:=⟨func155,ntmps155,rfl,rfl⟩
instance:FnAt PP 156 f156 35:=⟨func156,ntmps156,rfl,rfl⟩
instance:FnAt PP 157 f157 29:=⟨func157,ntmps157,rfl,rfl⟩
instance:FnAt PP 158 f158 5:=⟨func158,ntmps158,rfl,rfl⟩
instance:FnAt PP 159 f159 54:=⟨func159,ntmps159,rfl,rfl⟩
instance:FnAt PP 161 f161 13:=⟨func161,ntmps161,rfl,rfl⟩
instance:FnAt PP 162 f162 6:=⟨func162,ntmps162,rfl,rfl⟩
instance:FnAt PP 163 f163 17:=⟨func163,ntmps163,rfl,rfl⟩
instance:FnAt PP 164 f164 18:=⟨func164,ntmps164,rfl,rfl⟩
instance:FnAt PP 165 f165 20:=⟨func165,ntmps165,rfl,rfl⟩
instance:FnAt PP 166 f166 19:=⟨func166,ntmps166,rfl,rfl⟩
instance:FnAt PP 167 f167 14:=⟨func167,ntmps167,rfl,rfl⟩
instance:FnAt PP 168 f168 14:=⟨func168,ntmps168,rfl,rfl⟩
instance:FnAt PP 169 f169 21:=⟨func169,ntmps169,rfl,rfl⟩
instance:FnAt PP 170 f170 21:=⟨func170,ntmps170,rfl,rfl⟩
instance:FnAt PP 171 f171 36:=⟨func171,ntmps171,rfl,rfl⟩
instance:FnAt PP 172 f172 17:=⟨func172,ntmps172,rfl,rfl⟩
instance:FnAt PP 174 f174 23:=⟨func174,ntmps174,rfl,rfl⟩
instance:FnAt PP 175 f175 48:=⟨func175,ntmps175,rfl,rfl⟩
instance:FnAt PP 176 f176 19:=⟨func176,ntmps176,rfl,rfl⟩
instance:FnAt PP 177 f177 25:=⟨func177,ntmps177,rfl,rfl⟩
instance:FnAt PP 190 f190 17:=⟨func190,ntmps190,rfl,rfl⟩
instance:FnAt PP 191 f191 22:=⟨func191,ntmps191,rfl,rfl⟩
instance:FnAt PP 192 f192 6:=⟨func192,ntmps192,rfl,rfl⟩
instance:FnAt PP 193 f193 8:=⟨func193,ntmps193,rfl,rfl⟩
instance:FnAt PP 194 f194 14:=⟨func194,ntmps194,rfl,rfl⟩
instance:FnAt PP 195 f195 13:=⟨func195,ntmps195,rfl,rfl⟩
instance:FnAt PP 196 f196 23:=⟨func196,ntmps196,rfl,rfl⟩
instance:FnAt PP 197 f197 9:=⟨func197,ntmps197,rfl,rfl⟩
instance:FnAt PP 198 f198 30:=⟨func198,ntmps198,rfl,rfl⟩
instance:FnAt PP 199 f199 55:=⟨func199,ntmps199,rfl,rfl⟩
instance:FnAt PP 200 f200 23:=⟨func200,ntmps200,rfl,rfl⟩
instance:FnAt PP 201 f201 41:=⟨func201,ntmps201,rfl,rfl⟩
instance:FnAt PP 202 f202 15:=⟨func202,ntmps202,rfl,rfl⟩
instance:FnAt PP 203 f203 9:=⟨func203,ntmps203,rfl,rfl⟩
instance:FnAt PP 204 f204 8:=⟨func204,ntmps204,rfl,rfl⟩
instance:FnAt PP 205 f205 9:=⟨func205,ntmps205,rfl,rfl⟩
instance:FnAt PP 206 f206 4:=⟨func206,ntmps206,rfl,rfl⟩
instance:FnAt PP 208 f208 10:=⟨func208,ntmps208,rfl,rfl⟩
instance:FnAt PP 209 f209 22:=⟨func209,ntmps209,rfl,rfl⟩
instance:FnAt PP 210 f210 35:=⟨func210,ntmps210,rfl,rfl⟩
instance:FnAt PP 211 f211 21:=⟨func211,ntmps211,rfl,rfl⟩
instance:FnAt PP 212 f212 26:=⟨func212,ntmps212,rfl,rfl⟩
instance:FnAt PP 213 f213 85:=⟨func213,ntmps213,rfl,rfl⟩
instance:FnAt PP 214 f214 7:=⟨func214,ntmps214,rfl,rfl⟩
instance:FnAt PP 215 f215 9:=⟨func215,ntmps215,rfl,rfl⟩
instance:FnAt PP 216 f216 44:=⟨func216,ntmps216,rfl,rfl⟩
instance:FnAt PP 217 f217 48:=⟨func217,ntmps217,rfl,rfl⟩
instance:FnAt PP 218 f218 58:=⟨func218,ntmps218,rfl,rfl⟩
instance:FnAt PP 219 f219 107:=⟨func219,ntmps219,rfl,rfl⟩
instance:FnAt PP 220 f220 36:=⟨func220,ntmps220,rfl,rfl⟩
instance:FnAt PP 221 f221 27:=⟨func221,ntmps221,rfl,rfl⟩
instance:FnAt PP 222 f222 19:=⟨func222,ntmps222,rfl,rfl⟩
instance:FnAt PP 223 f223 19:=⟨func223,ntmps223,rfl,rfl⟩
instance:FnAt PP 229 f229 24:=⟨func229,ntmps229,rfl,rfl⟩
instance:FnAt PP 230 f230 5:=⟨func230,ntmps230,rfl,rfl⟩
instance:FnAt PP 231 f231 25:=⟨func231,ntmps231,rfl,rfl⟩
instance:FnAt PP 233 f233 6:=⟨func233,ntmps233,rfl,rfl⟩
instance:FnAt PP 235 f235 61:=⟨func235,ntmps235,rfl,rfl⟩
instance:FnAt PP 236 f236 8:=⟨func236,ntmps236,rfl,rfl⟩
instance:FnAt PP 238 f238 61:=⟨func238,ntmps238,rfl,rfl⟩
instance:FnAt PP 239 f239 28:=⟨func239,ntmps239,rfl,rfl⟩
instance:FnAt PP 240 f240 29:=⟨func240,ntmps240,rfl,rfl⟩
instance:FnAt PP 247 f247 9:=⟨func247,ntmps247,rfl,rfl⟩
instance:FnAt PP 248 f248 19:=⟨func248,ntmps248,rfl,rfl⟩
instance:FnAt PP 249 f249 42:=⟨func249,ntmps249,rfl,rfl⟩
instance:FnAt PP 250 f250 5:=⟨func250,ntmps250,rfl,rfl⟩
instance:FnAt PP 251 f251 42:=⟨func251,ntmps251,rfl,rfl⟩
instance:FnAt PP 252 f252 53:=⟨func252,ntmps252,rfl,rfl⟩
instance:FnAt PP 253 f253 8:=⟨func253,ntmps253,rfl,rfl⟩
instance:FnAt PP 254 f254 10:=⟨func254,ntmps254,rfl,rfl⟩
instance:FnAt PP 255 f255 44:=⟨func255,ntmps255,rfl,rfl⟩
instance:FnAt PP 256 f256 19:=⟨func256,ntmps256,rfl,rfl⟩
instance:FnAt PP 257 f257 42:=⟨func257,ntmps257,rfl,rfl⟩
instance:FnAt PP 258 f258 46:=⟨func258,ntmps258,rfl,rfl⟩
instance:FnAt PP 259 f259 90:=⟨func259,ntmps259,rfl,rfl⟩
instance:FnAt PP 261 f261 21:=⟨func261,ntmps261,rfl,rfl⟩
instance:FnAt PP 262 f262 27:=⟨func262,ntmps262,rfl,rfl⟩
instance:FnAt PP 263 f263 11:=⟨func263,ntmps263,rfl,rfl⟩
instance:FnAt PP 264 f264 24:=⟨func264,ntmps264,rfl,rfl⟩
instance:FnAt PP 265 f265 22:=⟨func265,ntmps265,rfl,rfl⟩
instance:FnAt PP 266 f266 52:=⟨func266,ntmps266,rfl,rfl⟩
instance:FnAt PP 267 f267 9:=⟨func267,ntmps267,rfl,rfl⟩
instance:FnAt PP 268 f268 31:=⟨func268,ntmps268,rfl,rfl⟩
instance:FnAt PP 269 f269 33:=⟨func269,ntmps269,rfl,rfl⟩
instance:FnAt PP 270 f270 13:=⟨func270,ntmps270,rfl,rfl⟩
instance:FnAt PP 271 f271 22:=⟨func271,ntmps271,rfl,rfl⟩
instance:FnAt PP 272 f272 41:=⟨func272,ntmps272,rfl,rfl⟩
instance:FnAt PP 273 f273 8:=⟨func273,ntmps273,rfl,rfl⟩
instance:FnAt PP 274 f274 4:=⟨func274,ntmps274,rfl,rfl⟩
instance:FnAt PP 279 f279 21:=⟨func279,ntmps279,rfl,rfl⟩
instance:FnAt PP 280 f280 17:=⟨func280,ntmps280,rfl,rfl⟩
instance:FnAt PP 281 f281 21:=⟨func281,ntmps281,rfl,rfl⟩
instance:FnAt PP 282 f282 15:=⟨func282,ntmps282,rfl,rfl⟩
instance:FnAt PP 283 f283 21:=⟨func283,ntmps283,rfl,rfl⟩
instance:FnAt PP 287 f287 9:=⟨func287,ntmps287,rfl,rfl⟩
instance:FnAt PP 288 f288 15:=⟨func288,ntmps288,rfl,rfl⟩
instance:FnAt PP 289 f289 8:=⟨func289,ntmps289,rfl,rfl⟩
instance:FnAt PP 291 f291 29:=⟨func291,ntmps291,rfl,rfl⟩
instance:FnAt PP 293 f293 23:=⟨func293,ntmps293,rfl,rfl⟩
instance:FnAt PP 294 f294 18:=⟨func294,ntmps294,rfl,rfl⟩
instance:FnAt PP 295 f295 10:=⟨func295,ntmps295,rfl,rfl⟩
instance:FnAt PP 297 f297 28:=⟨func297,ntmps297,rfl,rfl⟩
instance:FnAt PP 298 f298 15:=⟨func298,ntmps298,rfl,rfl⟩
instance:FnAt PP 299 f299 15:=⟨func299,ntmps299,rfl,rfl⟩
instance:FnAt PP 308 f308 49:=⟨func308,ntmps308,rfl,rfl⟩
instance:FnAt PP 309 f309 19:=⟨func309,ntmps309,rfl,rfl⟩
instance:FnAt PP 310 f310 18:=⟨func310,ntmps310,rfl,rfl⟩
instance:FnAt PP 333 f333 8:=⟨func333,ntmps333,rfl,rfl⟩
instance:FnAt PP 335 f335 4:=⟨func335,ntmps335,rfl,rfl⟩
instance:FnAt PP 337 f337 34:=⟨func337,ntmps337,rfl,rfl⟩
instance:FnAt PP 341 f341 4:=⟨func341,ntmps341,rfl,rfl⟩
instance:FnAt PP 366 f366 19:=⟨func366,ntmps366,rfl,rfl⟩
instance:FnAt PP 406 f406 5:=⟨func406,ntmps406,rfl,rfl⟩
instance:FnAt PP 407 f407 44:=⟨func407,ntmps407,rfl,rfl⟩
instance:FnAt PP 408 f408 23:=⟨func408,ntmps408,rfl,rfl⟩
instance:FnAt PP 409 f409 20:=⟨func409,ntmps409,rfl,rfl⟩
instance:FnAt PP 410 f410 20:=⟨func410,ntmps410,rfl,rfl⟩
instance:FnAt PP 418 f418 23:=⟨func418,ntmps418,rfl,rfl⟩
instance:FnAt PP 419 f419 32:=⟨func419,ntmps419,rfl,rfl⟩
instance:FnAt PP 420 f420 22:=⟨func420,ntmps420,rfl,rfl⟩
instance:FnAt PP 421 f421 32:=⟨func421,ntmps421,rfl,rfl⟩
end
end Go.W
namespace Go.W
open Go Go.Proofs
open Enc (enc)
set_option maxRecDepth 100000
set_option warn.classDefReducibility false
variable {B N hi i j k m n:Nat} {D:Nat -> Prop} {P:Program} {T:Tab} {a:Option Addr} {s:List UInt8} {u u' w w':World}
noncomputable instance:Rd PP E.qa Int:=rdInt (by kernel_rfl) (by kernel_rfl)
theorem zOw:∀{f:FuncId} {args:Array Value} {P:Program},Sp P f args w (λv w'=>v=.bool true/\Stp w w')->Sp P f args w (λv w'=>v=.bool true/\Ext w w'):=λh=>h.mono λ_ _ h=>⟨h.1,h.2.e⟩
end Go.W
namespace Go.Proofs.YtgjanodnkajinaaGreat
open Go.W Go.ChangeShapes
theorem own0:ownKnob PP.godebug=none:=by kernel_rfl
theorem laid0:laidOutB PP=true:=by kernel_rfl
end Go.Proofs.YtgjanodnkajinaaGreat
namespace Go.W
variable {B N hi i j k m n:Nat} {D:Nat -> Prop} {P:Program} {T:Tab} {a:Option Addr} {s:List UInt8} {u u' w w':World}
def numB (n:Nat):List UInt8:=if h:n<128 then [UInt8.ofNat n] else UInt8.ofNat (128+n % 128)::numB (n / 128)
termination_by n
decreasing_by omega
def valB:List UInt8->Nat
 |[]=>0
 |c::r=>c.toNat % 128+128*valB r
def OneB:List UInt8->Prop
 |[]=>False
 |[c]=>c.toNat<128
 |c::d::r=>128<=c.toNat/\OneB (d::r)/\(r=[]->d.toNat≠0)
theorem numB_lt(h:n<128):numB n=[UInt8.ofNat n]:=by unfold numB;rw [dif_pos h]
theorem zBZ(h:¬n<128):numB n=UInt8.ofNat (128+n % 128)::numB (n / 128):=by rw [numB,dif_neg h]
theorem zHn(n:Nat):numB n≠[]:=by
 by_cases h:n<128
 ·rw [numB_lt h];simp
 ·rw [zBZ h];simp
theorem zGd(n:Nat):valB (numB n)=n:=by
 induction n using Nat.strongRecOn with
 |ind n ih =>
  by_cases h:n<128
  ·rw [numB_lt h];simp only [valB,UInt8.toNat_ofNat'];omega
  ·rw [zBZ h];simp only [valB,UInt8.toNat_ofNat'];rw [ih (n / 128) (by omega)];omega
theorem zCM(n:Nat):OneB (numB n):=by
 induction n using Nat.strongRecOn with
 |ind n ih =>
  by_cases h:n<128
  ·rw [numB_lt h];simp only [OneB,UInt8.toNat_ofNat'];omega
  ·have hi:=ih (n / 128) (by omega)
   rw [zBZ h]
   by_cases h2:n / 128<128
   ·rw [numB_lt h2] at hi ⊢
    refine⟨by rw [UInt8.toNat_ofNat'];omega,hi,λ_=>by rw [UInt8.toNat_ofNat'];omega⟩
   ·rw [zBZ h2] at hi ⊢
    refine⟨by rw [UInt8.toNat_ofNat'];omega,hi,λe=>absurd e (zHn _)⟩
theorem zJZ:∀{d:UInt8} {r:List UInt8},OneB (d::r)->(r=[]->d.toNat≠0)->0<valB (d::r)
 |d,[],h,h0=>by have:=h0 rfl;simp only [OneB] at h;simp only [valB];omega
 |d,e::r,h,_=>by
  obtain⟨_,h2,h3⟩:=h
  have:=zJZ h2 h3
  simp only [valB] at this ⊢
  omega
theorem zKX:∀{l:List UInt8},OneB l->numB (valB l)=l
 |[],h=>h.elim
 |[c],h=>by
  simp only [OneB] at h
  simp only [valB]
  rw [numB_lt (by omega)]
  congr 1
  apply UInt8.toNat.inj
  rw [UInt8.toNat_ofNat'];omega
 |c::d::r,h=>by
  obtain⟨h1,h2,h3⟩:=h
  have hp:=zJZ h2 h3
  have ih:=zKX h2
  have e:valB (c::d::r)=c.toNat % 128+128*valB (d::r):=rfl
  rw [e,zBZ (by omega)]
  have hdiv:(c.toNat % 128+128*valB (d::r)) / 128=valB (d::r):=by omega
  have hmod:(c.toNat % 128+128*valB (d::r)) % 128=c.toNat % 128:=by omega
  rw [hdiv,hmod,ih]
  congr 1
  apply UInt8.toNat.inj
  have:=c.toNat_lt
  rw [UInt8.toNat_ofNat'];omega
theorem OneB.pre:∀{a b s t:List UInt8},OneB a->OneB b->a++s=b++t->a=b/\s=t
 |[],_,_,_,h,_,_=>h.elim
 |_,[],_,_,_,h,_=>h.elim
 |[c],[d],s,t,_,_,e=>by
  simp at e;exact⟨by rw [e.1],e.2⟩
 |[c],d::d2::r,s,t,h,h',e=>by
  simp at e
  have h1:=h'.1
  simp only [OneB] at h
  rw [<-e.1] at h1;omega
 |c::c2::r,[d],s,t,h,h',e=>by
  simp at e
  have h1:=h.1
  simp only [OneB] at h'
  rw [e.1] at h1;omega
 |c::c2::r,d::d2::q,s,t,h,h',e=>by
  have e1:c=d/\(c2::r)++s=(d2::q)++t:=by simpa using e
  have ih:=OneB.pre h.2.1 h'.2.1 e1.2
  rw [e1.1,ih.1];exact⟨rfl,ih.2⟩
theorem zAc{t:List UInt8}(e:numB n++s=numB m++t):n=m/\s=t:=by
 have h:=OneB.pre (zCM n) (zCM m) e
 refine⟨?_,h.2⟩
 have:=congrArg valB h.1
 rwa [zGd,zGd] at this
theorem zD5(h:n<=2147483647):(numB n).length<=5:=by
 have step:∀k m:Nat,m<128 ^ (k+1)->(numB m).length<=k+1:=λk=>by
  induction k with
  |zero=>intro m hm;rw [numB_lt (by simpa using hm)];simp
  |succ k ih =>
   intro m hm
   by_cases h1:m<128
   ·rw [numB_lt h1];simp
   ·rw [zBZ h1,List.length_cons]
    have:=ih (m / 128) (by rw [Nat.div_lt_iff_lt_mul (by decide)];rw [Nat.pow_succ] at hm;exact hm)
    omega
 exact step 4 n (by omega)
section
variable {α:Type}
structure Ord (lt:α->α->Bool):Prop where
 irrefl:∀x,lt x x=false
 trans:∀x y z,lt x y=true->lt y z=true->lt x z=true
 ntrans:∀x y z,lt x y=false->lt y z=false->lt x z=false
theorem Ord.asymm{lt:α->α->Bool}(h:Ord lt){x y:α}(e:lt x y=true):lt y x=false:=by
 cases hq:lt y x with
 |false=>rfl
 |true=>have:=h.trans x y x e hq;rw [h.irrefl] at this;cases this
end
section
variable {α:Type} [Inhabited α]
abbrev atL (l:List α) (i:Nat):α:=l.getD i default
def swL (l:List α) (i j:Nat):List α:=(l.set i (atL l j)).set j (atL l i)
theorem zBH(l:List α)(i j:Nat):(swL l i j).length=l.length:=by simp [swL]
theorem zAH{l:List α}(h:i<l.length):atL l i=l[i]:=by simp [atL,h]
theorem zKA{l:List α}{p:Nat}(x:α)(h:i<l.length):atL (l.set i x) p=if p=i then x else atL l p:=by
 unfold atL
 simp only [List.getD_eq_getElem?_getD,List.getElem?_set]
 by_cases e:p=i
 ·subst e;simp [h]
 ·rw [if_neg e,if_neg (Ne.symm e)]
theorem atL_sw{l:List α}{p:Nat}(hi:i<l.length)(hj:j<l.length):atL (swL l i j) p=if p=j then atL l i else if p=i then atL l j else atL l p:=by
 unfold swL
 rw [zKA _ (by simpa using hj),zKA _ hi]
theorem zCT{l:List α}(hi:i<l.length)(hj:j<l.length):(swL l i j).Perm l:=by
 unfold swL
 rw [zAH hi,zAH hj]
 exact List.set_set_perm hi hj
variable {lt:α->α->Bool}
def HeapN (lt:α->α->Bool) (l:List α) (n:Nat):Prop:=∀c,0<c->c<n->lt (atL l c) (atL l ((c - 1) / 2))=false
def HeapX (lt:α->α->Bool) (l:List α) (n i:Nat):Prop:=
 (∀c,0<c->c<n->c≠i->(c - 1) / 2≠i->lt (atL l c) (atL l ((c - 1) / 2))=false) /\
 (∀c,0<c->c<n->(c - 1) / 2=i->0<i->lt (atL l c) (atL l ((i - 1) / 2))=false)
def TopOk (lt:α->α->Bool) (l:List α) (i:Nat):Prop:=0<i->lt (atL l i) (atL l ((i - 1) / 2))=false
def LowOk (lt:α->α->Bool) (l:List α) (n i:Nat):Prop:=∀c,0<c->c<n->(c - 1) / 2=i->lt (atL l c) (atL l i)=false
theorem HeapX.full{l:List α}(h:HeapX lt l n i)(t:TopOk lt l i)(b:LowOk lt l n i):HeapN lt l n:=by
 intro c h0 hn
 by_cases e:c=i
 ·subst e;exact t h0
 ·by_cases e2:(c - 1) / 2=i
  ·rw [e2];exact b c h0 hn e2
  ·exact h.1 c h0 hn e e2
theorem zOE(O:Ord lt){l:List α}(hj:j<n)(hn:n<=l.length)(h:HeapX lt l n j)(b:LowOk lt l n j)(h0:0<j)(hl:lt (atL l j) (atL l ((j - 1) / 2))=true):
  HeapX lt (swL l ((j - 1) / 2) j) n ((j - 1) / 2)/\LowOk lt (swL l ((j - 1) / 2) j) n ((j - 1) / 2):=by
 have hs:=λp=>atL_sw (l:=l) (i:=(j - 1) / 2) (j:=j) (p:=p) (by omega) (by omega)
 have q_:∃i,(j - 1) / 2=i:=⟨_,rfl⟩
 obtain⟨i,hi⟩:=q_
 rw [hi] at hs hl ⊢
 have hij:i≠j:=by omega
 refine⟨⟨λc c0 cn h1 h2=>?_,λc c0 cn h1 h2=>?_⟩,λc c0 cn h1=>?_⟩
 ·rw [hs c,hs]
  have hcj:c≠j:=by rintro rfl;exact h2 hi
  rw [if_neg hcj,if_neg h1,if_neg h2]
  by_cases e:(c - 1) / 2=j
  ·rw [if_pos e,<-hi]
   have:=h.2 c c0 cn e h0
   exact this
  ·rw [if_neg e];exact h.1 c c0 cn hcj e
 ·rw [hs c,hs]
  have hp:(i - 1) / 2≠i:=by omega
  have hp2:(i - 1) / 2≠j:=by omega
  rw [if_neg hp2,if_neg hp]
  have hip:=h.1 i h2 (by omega) hij (by omega)
  by_cases e:c=j
  ·rw [if_pos e];exact hip
  ·rw [if_neg e,if_neg (show c≠i by omega)]
   have h3:=h.1 c c0 cn e (by omega)
   rw [h1] at h3
   exact O.ntrans _ _ _ h3 hip
 ·rw [hs c,hs i]
  rw [if_neg hij,if_pos rfl]
  by_cases e:c=j
  ·rw [if_pos e];exact O.asymm hl
  ·rw [if_neg e,if_neg (show c≠i by omega)]
   have h3:=h.1 c c0 cn e (by omega)
   rw [h1] at h3
   cases hq:lt (atL l c) (atL l j) with
   |false=>rfl
   |true=>have:=O.trans _ _ _ hq hl;rw [h3] at this;cases this
theorem zEP(O:Ord lt){l:List α}(hj:j<n)(hn:n<=l.length)(h:HeapX lt l n i)(j0:0<j)(hp:(j - 1) / 2=i)(hl:lt (atL l j) (atL l i)=true)
  (hm:∀c,0<c->c<n->(c - 1) / 2=i->lt (atL l c) (atL l j)=false):HeapX lt (swL l i j) n j/\TopOk lt (swL l i j) j/\(TopOk lt (swL l i j) i):=by
 have hs:=λp=>atL_sw (l:=l) (i:=i) (j:=j) (p:=p) (by omega) (by omega)
 have hij:i≠j:=by omega
 refine⟨⟨λc c0 cn h1 h2=>?_,λc c0 cn h1 h2=>?_⟩,λ_=>?_,λh0=>?_⟩
 ·rw [hs c,hs,if_neg h1,if_neg h2]
  by_cases e:c=i
  ·subst e
   rw [if_pos rfl,if_neg (show (c - 1) / 2≠c by omega)]
   exact h.2 j j0 hj hp c0
  ·rw [if_neg e]
   by_cases e2:(c - 1) / 2=i
   ·rw [if_pos e2];exact hm c c0 cn e2
   ·rw [if_neg e2];exact h.1 c c0 cn e e2
 ·rw [hs c,hs,hp,if_neg (show c≠j by omega),if_neg (show c≠i by omega),if_neg hij,if_pos rfl,<-h1]
  exact h.1 c c0 cn (by omega) (by omega)
 ·rw [hs j,hs,hp,if_pos rfl,if_neg hij,if_pos rfl]
  exact O.asymm hl
 ·rw [hs i,hs,if_neg hij,if_pos rfl,if_neg (show (i - 1) / 2≠j by omega),if_neg (show (i - 1) / 2≠i by omega)]
  exact h.2 j j0 hj hp h0
theorem zLu(O:Ord lt){l:List α}(h:HeapN lt l n):∀c,c<n->lt (atL l c) (atL l 0)=false:=by
 intro c
 induction c using Nat.strongRecOn with
 |_ c ih =>
  intro hc
  have q_:=Nat.eq_zero_or_pos c
  rcases q_ with rfl|h0
  ·exact O.irrefl _
  ·exact O.ntrans _ _ _ (h c h0 hc) (ih ((c - 1) / 2) (by omega) (by omega))
end
end Go.W
namespace Go.W
open Go Go.Proofs
open Enc (enc)
set_option maxRecDepth 10000
variable {B N hi i j k m n:Nat} {D:Nat -> Prop} {P:Program} {T:Tab} {a:Option Addr} {s:List UInt8} {u u' w w':World}
theorem rdivE{k:Value->World->Prop}{x y q:Int}(hy:y≠0)(hq:x.tdiv y=q)(h:-9223372036854775808<=q/\q<=9223372036854775807)(hk:k (.int .i64 q) w):DivS .i64 x y k w:=by
 rw [zDK];subst hq;exact⟨hy,by rw [zB2 h.1 h.2];exact hk⟩
structure InvS (P:Program) (t:TypeId) (v:Value) (name:String) (vs:List Value) (w:World) (R:Value->World->Prop):Prop where
 out:∀{o:Oper} {F:Nat->Value} {c:Call} {r:Operand} {k:Value->World->Prop} {pn:List PanicEntry->World->Prop},o.op=.call c->c.callee=.invoke r name->ev F r=.iface t v->evL F c.args.toList=vs->(∀x w',R x w'->k x w')->NextS P (execOp (ev F) o) k pn w
theorem InvS.p{t:TypeId}{v:Value}{name:String}{vs:List Value}{R:Value->World->Prop}{f:FuncId}[MethP P t name f](h:Sp P f (v::vs).toArray w R):InvS P t v name vs w R:=
 ⟨λho hc hr hv hk=>rinv ho hc hr hv (rcall h hk)⟩
theorem InvS.v{t e:TypeId}{a:Addr}{u:Value}{name:String}{vs:List Value}{R:Value->World->Prop}{f:FuncId}[MethV P t name f e](hl:(loadVar e a).run P w=.ok u w)(h:Sp P f (u::vs).toArray w R):InvS P t (.pointer (some a)) name vs w R:=
 ⟨λho hc hr hv hk=>rinvV ho hc hr hv ⟨_,hl,rcall h hk⟩⟩
structure HeapI (P:Program) (t:TypeId) (v:Value) {α:Type} [Inhabited α] (lt:α->α->Bool) (St:List α->World->Prop) (B0:Nat) (es:List TypeId):Prop where
 ord:Ord lt
 size:∀l w,St l w->l.length<=100000
 len : ∀ l w, St l w -> InvS P t v "Len" [] w λx w' => x = .int .i64 (l.length : Nat) /\ St l w' /\ FrT B0 es w w'
 less : ∀ l w (i j : Nat), St l w -> i < l.length -> j < l.length -> InvS P t v "Less" [.int .i64 i, .int .i64 j] w λx w' => x = .bool (lt (atL l i) (atL l j)) /\ St l w' /\ FrT B0 es w w'
 swap : ∀ l w (i j : Nat), St l w -> i < l.length -> j < l.length -> InvS P t v "Swap" [.int .i64 i, .int .i64 j] w λ_ w' => St (swL l i j) w' /\ FrT B0 es w w'
section
variable {t:TypeId} {v:Value} {α:Type} [Inhabited α] {lt:α->α->Bool} {St:List α->World->Prop} {B0:Nat} {es:List TypeId}
theorem zDe{l:List α}{p:Nat}(hi:i<n)(hj:j<n)(hn:n<=l.length)(hp:n<=p):atL (swL l i j) p=atL l p:=by
 rw [atL_sw (by omega) (by omega),if_neg (by omega),if_neg (by omega)]
theorem up_sp(H:HeapI PP t v lt St B0 es){l:List α}(hS:St l w)(hj:j<n)(hn:n<=l.length)(hx:HeapX lt l n j)(hb:LowOk lt l n j):
  Sp PP F.pj #[.iface t v,.int .i64 j] w λ_ w'=>(∃l':List α,l'.Perm l/\(∀p,n<=p->atL l' p=atL l p)/\St l' w'/\HeapN lt l' n)/\FrT B0 es w w':=by
 have hsz:=H.size l w hS
 refine en TBok rfl ?_
 refine loop1 TBok 5 [4] 1 (λx u=>∃(j:Nat) (l':List α),x=.int .i64 j/\j<n/\l'.Perm l/\(∀p,n<=p->atL l' p=atL l p)/\St l' u/\HeapX lt l' n j/\LowOk lt l' n j/\FrT B0 es w u) (λx _=>(Go.RowKit.intOf x).toNat) rfl
  ⟨j,l,rfl,hj,List.Perm.refl _,λ_ _=>rfl,hS,hx,hb,FrT.refl _ _ _⟩ ?_
 rintro _ g u ⟨j,l',rfl,hj,hp,ha,hS,hx,hb,f⟩
 have hll:=hp.length_eq
 refine rA ?_
 by_cases h0:j=0
 ·subst h0
  refine rdivE (q:=0) (by decide) (by decide) (by decide) ?_
  refine iT rfl ?_
  exact⟨⟨l',hp,ha,hS,hx.full (λh=>by omega) hb⟩,f⟩
 ·have hd:((j:Int) - 1).tdiv 2=(((j - 1) / 2:Nat):Int):=by
   rw [Int.tdiv_eq_ediv_of_nonneg (by omega)];omega
  refine rdivE (by decide) hd (by omega) ?_
  refine iF (by first|omega|decide|(dsimp only <;> omega)) ?_
  cases hq:lt (atL l' j) (atL l' ((j - 1) / 2)) with
  |false =>
   have L:=H.less l' u j ((j - 1) / 2) hS (by omega) (by omega)
   rw [hq] at L
   refine L.out rfl rfl rfl rfl ?_
   rintro x u1 ⟨rfl,S1,f1⟩
   exact⟨⟨l',hp,ha,S1,hx.full (λ_=>hq) hb⟩,f.trans f1⟩
  |true =>
   have hst:=zOE H.ord hj (by omega) hx hb (by omega) hq
   have L:=H.less l' u j ((j - 1) / 2) hS (by omega) (by omega)
   rw [hq] at L
   refine L.out rfl rfl rfl rfl ?_
   rintro x u1 ⟨rfl,S1,f1⟩
   refine(H.swap l' u1 ((j - 1) / 2) j S1 (by omega) (by omega)).out rfl rfl rfl rfl ?_
   rintro x u2 ⟨S2,f2⟩
   refine⟨⟨(j - 1) / 2,_,rfl,by omega,(zCT (by omega) (by omega)).trans hp,λp hp'=>?_,S2,hst.1,hst.2,(f.trans f1).trans f2⟩,?_⟩
   ·rw [zDe (n:=n) (by omega) hj (by omega) hp'];exact ha p hp'
   ·show (j - 1) / 2<j;omega
theorem zNU(H:HeapI PP t v lt St B0 es){l:List α}{i0:Nat}(hS:St l w)(hi:i0<=n)(hn:n<=l.length)(hx:HeapX lt l n i0):
  Sp PP F.zs #[.iface t v,.int .i64 i0,.int .i64 n] w λx w'=>(∃(b:Bool) (l':List α),x=.bool b/\l'.Perm l/\(∀p,n<=p->atL l' p=atL l p)/\St l' w'/\(b=true->HeapN lt l' n)/\(b=false->l'=l/\LowOk lt l n i0))/\FrT B0 es w w':=by
 have hsz:=H.size l w hS
 refine en TBok rfl ?_
 refine loop1 TBok 11 [8,9,10] 7 (λx u=>∃(i:Nat) (l':List α),x=.int .i64 i/\i<=n/\l'.Perm l/\(∀p,n<=p->atL l' p=atL l p)/\St l' u/\HeapX lt l' n i/\(i=i0/\l'=l\/i0<i/\TopOk lt l' i)/\FrT B0 es w u) (λx _=>n - (Go.RowKit.intOf x).toNat) rfl
  ⟨i0,l,rfl,hi,List.Perm.refl _,λ_ _=>rfl,hS,hx,.inl ⟨rfl,rfl⟩,FrT.refl _ _ _⟩ ?_
 rintro _ g u ⟨i,l',rfl,hi,hp,ha,hS,hx,hc,f⟩
 have hll:=hp.length_eq
 have done:∀u',St l' u'->LowOk lt l' n i->FrT B0 es w u'->∀b,(b=true↔i0<i)->(∃(b':Bool) (l'':List α),Value.bool b=.bool b'/\l''.Perm l/\(∀p,n<=p->atL l'' p=atL l p)/\St l'' u'/\(b'=true->HeapN lt l'' n)/\(b'=false->l''=l/\LowOk lt l n i0))/\FrT B0 es w u':=by
  intro u' S' hb f' b hbi
  refine⟨⟨b,l',rfl,hp,ha,S',λe=>?_,λe=>?_⟩,f'⟩
  ·rcases hc with ⟨h1,_⟩|⟨_,h2⟩
   ·have:=hbi.1 e;omega
   ·exact hx.full h2 hb
  ·rcases hc with ⟨h1,h2⟩|⟨h1,_⟩
   ·subst h1;subst h2;exact⟨rfl,hb⟩
   ·have:=hbi.2 h1;rw [e] at this;cases this
 refine rA (rarE (y:=((2*i+1:Nat):Int)) (by omega) (by omega) ?_)
 refine ite (λh1=>?_) (λh1=>?_)
 ·have hb:LowOk lt l' n i:=λc c0 cn e=>by omega
  refine ite (λh2=>done u hS hb f true ⟨λ_=>by omega,λ_=>rfl⟩) (λh2=>done u hS hb f false ⟨λe=>(by cases e),λe=>by omega⟩)
 refine iF (by first|omega|decide|(dsimp only <;> omega)) ?_
 have hin:i<n:=by omega
 refine rarE (y:=((2*i+2:Nat):Int)) (by omega) (by omega) (ite (λh2=>?_) (λh2=>?_))
 ·cases hq2:lt (atL l' (2*i+2)) (atL l' (2*i+1)) with
  |true =>
   have L:=H.less l' u (2*i+2) (2*i+1) hS (by omega) (by omega)
   rw [hq2] at L
   refine L.out rfl rfl rfl rfl ?_
   rintro x u1 ⟨rfl,S1,f1⟩
   have hJ:(2*i+2 - 1) / 2=i:=by omega
   have hm:∀c,0<c->c<n->(c - 1) / 2=i->lt (atL l' c) (atL l' (2*i+2))=false:=λc c0 cn e=>by
    have:c=2*i+1\/c=2*i+2:=by omega
    rcases this with rfl|rfl
    ·exact H.ord.asymm hq2
    ·exact H.ord.irrefl _
   cases hq:lt (atL l' (2*i+2)) (atL l' i) with
   |false =>
    have L:=H.less l' u1 (2*i+2) i S1 (by omega) (by omega)
    rw [hq] at L
    refine L.out rfl rfl rfl rfl ?_
    rintro x u5 ⟨rfl,S5,f5⟩
    have hb:LowOk lt l' n i:=λc c0 cn e=>H.ord.ntrans _ _ _ (hm c c0 cn e) hq
    refine ite (λh2=>done u5 S5 hb ((f.trans f1).trans f5) true ⟨λ_=>by omega,λ_=>rfl⟩) (λh2=>done u5 S5 hb ((f.trans f1).trans f5) false ⟨λe=>(by cases e),λe=>by omega⟩)
   |true =>
    have hst:=zEP H.ord (show 2*i+2<n by omega) (by omega) hx (by omega) hJ hq hm
    have L:=H.less l' u1 (2*i+2) i S1 (by omega) (by omega)
    rw [hq] at L
    refine L.out rfl rfl rfl rfl ?_
    rintro x u5 ⟨rfl,S5,f5⟩
    refine(H.swap l' u5 i (2*i+2) S5 (by omega) (by omega)).out rfl rfl rfl rfl ?_
    rintro x u6 ⟨S6,f6⟩
    refine⟨⟨2*i+2,_,rfl,by omega,(zCT (by omega) (by omega)).trans hp,λp hp'=>?_,S6,hst.1,.inr ⟨by rcases hc with h|h <;> omega,hst.2.1⟩,((f.trans f1).trans f5).trans f6⟩,?_⟩
    ·rw [zDe (n:=n) hin (by omega) (by omega) hp'];exact ha p hp'
    ·show n - (2*i+2)<n - i;omega
  |false =>
   have L:=H.less l' u (2*i+2) (2*i+1) hS (by omega) (by omega)
   rw [hq2] at L
   refine L.out rfl rfl rfl rfl ?_
   rintro x u1 ⟨rfl,S1,f1⟩
   have hJ:(2*i+1 - 1) / 2=i:=by omega
   have hm:∀c,0<c->c<n->(c - 1) / 2=i->lt (atL l' c) (atL l' (2*i+1))=false:=λc c0 cn e=>by
    have:c=2*i+1\/c=2*i+2:=by omega
    rcases this with rfl|rfl
    ·exact H.ord.irrefl _
    ·exact hq2
   cases hq:lt (atL l' (2*i+1)) (atL l' i) with
   |false =>
    have L:=H.less l' u1 (2*i+1) i S1 (by omega) (by omega)
    rw [hq] at L
    refine L.out rfl rfl rfl rfl ?_
    rintro x u5 ⟨rfl,S5,f5⟩
    have hb:LowOk lt l' n i:=λc c0 cn e=>H.ord.ntrans _ _ _ (hm c c0 cn e) hq
    refine ite (λh2=>done u5 S5 hb ((f.trans f1).trans f5) true ⟨λ_=>by omega,λ_=>rfl⟩) (λh2=>done u5 S5 hb ((f.trans f1).trans f5) false ⟨λe=>(by cases e),λe=>by omega⟩)
   |true =>
    have hst:=zEP H.ord (show 2*i+1<n by omega) (by omega) hx (by omega) hJ hq hm
    have L:=H.less l' u1 (2*i+1) i S1 (by omega) (by omega)
    rw [hq] at L
    refine L.out rfl rfl rfl rfl ?_
    rintro x u5 ⟨rfl,S5,f5⟩
    refine(H.swap l' u5 i (2*i+1) S5 (by omega) (by omega)).out rfl rfl rfl rfl ?_
    rintro x u6 ⟨S6,f6⟩
    refine⟨⟨2*i+1,_,rfl,by omega,(zCT (by omega) (by omega)).trans hp,λp hp'=>?_,S6,hst.1,.inr ⟨by rcases hc with h|h <;> omega,hst.2.1⟩,((f.trans f1).trans f5).trans f6⟩,?_⟩
    ·rw [zDe (n:=n) hin (by omega) (by omega) hp'];exact ha p hp'
    ·show n - (2*i+1)<n - i;omega
 ·have hJ:(2*i+1 - 1) / 2=i:=by omega
  have hm:∀c,0<c->c<n->(c - 1) / 2=i->lt (atL l' c) (atL l' (2*i+1))=false:=λc c0 cn e=>by
   have:c=2*i+1:=by omega
   subst this
   exact H.ord.irrefl _
  cases hq:lt (atL l' (2*i+1)) (atL l' i) with
  |false =>
   have L:=H.less l' u (2*i+1) i hS (by omega) (by omega)
   rw [hq] at L
   refine L.out rfl rfl rfl rfl ?_
   rintro x u5 ⟨rfl,S5,f5⟩
   have hb:LowOk lt l' n i:=λc c0 cn e=>H.ord.ntrans _ _ _ (hm c c0 cn e) hq
   refine ite (λh2=>done u5 S5 hb (f.trans f5) true ⟨λ_=>by omega,λ_=>rfl⟩) (λh2=>done u5 S5 hb (f.trans f5) false ⟨λe=>(by cases e),λe=>by omega⟩)
  |true =>
   have hst:=zEP H.ord (show 2*i+1<n by omega) (by omega) hx (by omega) hJ hq hm
   have L:=H.less l' u (2*i+1) i hS (by omega) (by omega)
   rw [hq] at L
   refine L.out rfl rfl rfl rfl ?_
   rintro x u5 ⟨rfl,S5,f5⟩
   refine(H.swap l' u5 i (2*i+1) S5 (by omega) (by omega)).out rfl rfl rfl rfl ?_
   rintro x u6 ⟨S6,f6⟩
   refine⟨⟨2*i+1,_,rfl,by omega,(zCT (by omega) (by omega)).trans hp,λp hp'=>?_,S6,hst.1,.inr ⟨by rcases hc with h|h <;> omega,hst.2.1⟩,(f.trans f5).trans f6⟩,?_⟩
   ·rw [zDe (n:=n) hin (by omega) (by omega) hp'];exact ha p hp'
   ·show n - (2*i+1)<n - i;omega
end
end Go.W
namespace Go.W
open Go
open Enc (enc)
variable {B N hi i j k m n:Nat} {D:Nat -> Prop} {P:Program} {T:Tab} {a:Option Addr} {s:List UInt8} {u u' w w':World}
section
variable {α:Type} [Enc α] {P:Program} {k:Value->World->Prop} {pn:List PanicEntry->World->Prop} {w:World}
theorem zNG{t ty e:TypeId}{z:Value}{sz by':Nat}(ht:SlT P t e)(he:Elem P e z sz by')(hsz:Enc.sz α=sz){v x:Value}{l m:List α}
  (hO:Own B e w v l)(hS:SlF w x m)(hne:m≠[])(hb:(l.length+m.length)*by'<=140737488355328)(hm:l.length+m.length<=maxLen){v':Value}(h:(Builtin.append_ #[t,t] ty #[v,x]).run P w=.ok v' w'):
  Value.blk v'=Value.blk v\/Value.blk v'=some w.heap.size:=by
 obtain⟨i,hi,hz,hs,hby⟩:=info_parts he.h
 subst hsz
 obtain⟨xa,xc,rfl,hxc,hx⟩:=hS
 rcases hx with hx|⟨b,o,rfl,hat⟩
 ·exact absurd hx hne
 have hnews:∀j u,(flat m)[j]? = some u->w.cell? ((⟨b,o,none⟩:Addr).add j)=some u:=λj u hj=>by rw [zAv];exact hat j u hj
 have hl:(flat m).length=m.length*Enc.sz α:=zAm m
 have hpos:0<m.length:=List.length_pos_iff.2 hne
 have hml:m.length<=maxLen:=by omega
 have nil:(Builtin.append_ #[t,t] ty #[.slice none 0 0,.slice (some ⟨b,o,none⟩) m.length xc]).run P w=.ok v' w'->l.length=0->Value.blk v'=some w.heap.size:=λh h0=>by
  have hr:=run_append_nil (P:=P) w t ty e i z ht.h hi hz ⟨b,o,none⟩ m.length xc (flat m) (by rw [hl,hs]) hnews (by omega) (by simp only [maxLen] at hm;omega) (by rw [hby];have hb:=hb;rw [h0,Nat.zero_add] at hb;omega)
  rw [hr] at h;cases h;rfl
 have grow:∀(a:Addr) (n cap:Nat) (xs:List Value),xs.length=n*i.size->(∀j u,xs[j]? = some u->w.cell? (a.add j)=some u)->cap<n+m.length->n=l.length ->
   (Builtin.append_ #[t,t] ty #[.slice (some a) n cap,.slice (some ⟨b,o,none⟩) m.length xc]).run P w=.ok v' w'->Value.blk v'=some w.heap.size:=λa n cap xs h1 h2 h3 h4 h=>by
  subst h4
  have hr:=run_append_grow (P:=P) w t ty e i z ht.h hi hz a l.length cap xs h1 h2 ⟨b,o,none⟩ m.length xc (flat m) (by rw [hl,hs]) hnews (by omega) (by simp only [maxLen] at hm;omega)
   (by rw [hby];exact growslice_fits (by omega) hb)
  rw [hr] at h;cases h;rfl
 rcases hO with ⟨rfl,a,rfl⟩|hO
 ·cases a with
  |none=>exact .inr (nil h rfl)
  |some a=>exact .inr (grow a 0 0 [] (by simp) (by simp) (by omega) rfl h)
 ·rcases hO.2 with ⟨rfl,hn⟩|⟨g,cap,cur,rfl,hbg,hg,hnc,hcm,hcs,htake⟩
  ·exact .inr (nil h hn)
  ·by_cases hroom:l.length+m.length<=cap
   ·left
    have hfit:l.length*i.size+(flat m).length<=cur.size:=by rw [hl,hcs,hs,<-Nat.add_mul];exact Nat.mul_le_mul_right _ hroom
    have hr:=run_append_room (P:=P) w t ty e i ht.h hi g l.length cap cur hg ⟨b,o,none⟩ m.length xc (flat m) (by rw [hl,hs]) hnews (zBS m) hroom hfit
    rw [hr] at h;cases h;rfl
   ·exact .inr (grow ⟨g,0,none⟩ l.length cap (flat l) (by rw [zAm,hs]) (λj u hj=>(hO.cells (g:=g) rfl) j u hj) (by omega) rfl h)
theorem rappD{t ty e:TypeId}{z:Value}{sz by':Nat}[ht:SlT P t e][he:Elem P e z sz by']{v x:Value}{l m:List α}(hsz:Enc.sz α=sz/\z.cells.size=sz)
  (hO:Own B e w v l)(hS:SlF w x m)(hne:m≠[])(hB:B<=w.heap.size)(hb:(l.length+m.length)*by'<=140737488355328/\l.length+m.length<=9223372036854775807)
  (hk:∀v' w',Own B e w' v' (l++m)->Fr (ownD B v) w w'->(Value.blk v'=Value.blk v\/Value.blk v'=some w.heap.size)->k v' w'):SemV P (Builtin.append_ #[t,t] ty #[v,x]) k pn w:=by
 obtain⟨v',w',h1,h2,h3⟩:=zFs (ty:=ty) ht he hsz.1 hsz.2 hO hS hb.1 (by unfold maxLen;omega) hB
 exact SemV.of h1 (hk _ _ h2 h3 (zNG ht he hsz.1 hO hS hne hb.1 (by unfold maxLen;omega) h1))
end
abbrev FrX (X:Nat->Prop) (B:Nat) (es:List TypeId) (w w':World):Prop:=Fr (λi=>X i\/Ty B es w i) w w'
theorem FrX.refl(X:Nat->Prop)(B:Nat)(es:List TypeId)(w:World):FrX X B es w w:=Fr.refl _ w
theorem FrX.trans{X:Nat->Prop}{es:List TypeId}{a b c:World}(h:FrX X B es a b)(k:FrX X B es b c):FrX X B es a c:=by
 refine⟨k.os.trans h.os,k.tape.trans h.tape,k.output.trans h.output,Nat.le_trans h.size k.size,λi hi hd=>?_,λi o hi ho=>k.nc i o (h.nc i o hi ho) ho⟩
 have e:=h.block i hi hd
 rw [k.block i (Nat.lt_of_lt_of_le hi h.size) (λh'=>hd (h'.imp id λ⟨h1,o,t,h2,h3⟩=>⟨h1,o,t,by rw [<-e];exact h2,h3⟩)),e]
theorem FrT.x{X:Nat->Prop}{B':Nat}{es es':List TypeId}{a b:World}(h:FrT B es a b)(hB:B'<=B)(he:∀e∈es,e∈es'):FrX X B' es' a b:=Fr.mono (FrT.mono h hB he) λ_ _ h=>.inr h
theorem FrX.ext{X:Nat->Prop}{es:List TypeId}{a b:World}(h:Ext a b):FrX X B es a b:=h.fr
theorem FrX.st{X:Nat->Prop}{es:List TypeId}{a b c:World}(h:Ext a b)(k:FrX X B es b c)(hB:a.heap.size<=B)(hX:∀i,X i->a.heap.size<=i):Ext a c:=Fr.st h k λi hi=>hi.elim (hX i) λhi=>Nat.le_trans hB hi.1
theorem Bk.keptX{X:Nat->Prop}{es:List TypeId}{b:Nat}{cs:List Value}{e:TypeId}(k:Bk w b cs e)(f:FrX X B es w w')(hX:¬X b)(he:e∉es):Bk w' b cs e:=
 k.fr f λhd=>hd.elim hX λhd=>he (hd.cells k.h)
section
variable {α:Type} [Enc α]
theorem Own.keptX{X:Nat->Prop}{C:Nat}{es:List TypeId}{e:TypeId}{v:Value}{l:List α}(h:Own C e w v l)(f:FrX X B es w w')(hX:∀g,C<=g->Value.blk v=some g->¬X g)(he:e∉es):Own C e w' v l:=by
 rcases h with h|h
 ·exact .inl h
 ·refine .inr ⟨h.1,?_⟩
  rcases h.2 with hn|⟨g,cap,cur,rfl,hb,hg,rest⟩
  ·exact .inl hn
  ·exact .inr ⟨g,cap,cur,rfl,hb,f.blk hg λhd=>hd.elim (hX g hb rfl) λhd=>he (hd.cells hg),rest⟩
theorem SlY.keptX{X:Nat->Prop}{e:TypeId}{es:List TypeId}{v:Value}{l:List α}(h:SlY e w v l)(f:FrX X B es w w')(hX:∀g,Value.blk v=some g->¬X g)(he:e∉es):SlY e w' v l:=
 h.fr f λg _ _ hg hc hd=>hd.elim (hX g hg) λhd=>he (hd.cells hc)
theorem Own.wroteX{X:Nat->Prop}{C:Nat}{es:List TypeId}{e:TypeId}{v:Value}{l:List α}(_:Own C e w v l)(f:Fr (ownD C v) w w')(hX:∀g,Value.blk v=some g->X g):FrX X B es w w':=
 Fr.mono f λi _ hd=>.inl (hX i hd.2.1)
theorem SlY.blkN{e:TypeId}{v:Value}{l:List α}(h:SlY e w v l)(hl:l≠[]):∃g,Value.blk v=some g/\g<w.heap.size:=by
 rcases h.2 with h|⟨b,cs,z,hb,hc⟩
 ·exact absurd h hl
 ·exact⟨b,hb,blk_lt hc⟩
theorem SlY.frN{e:TypeId}{v:Value}{l:List α}(h:SlY e w v l)(f:Fr D w w')(hd:∀g,l≠[]->Value.blk v=some g->¬D g):SlY e w' v l:=by
 by_cases hl:l=[]
 ·subst hl
  obtain⟨a,c,rfl,hc,_⟩:=h.1
  exact⟨⟨a,c,rfl,hc,.inl rfl⟩,.inl rfl⟩
 ·exact h.fr f λg _ _ hg _=>hd g hl hg
end
section
variable {P:Program} {kt:TypeId} {κ:Type} [DecidableEq κ] [M:MKey P kt κ] {k:Value->World->Prop} {pn:List PanicEntry->World->Prop} {w:World}
theorem rmkN{o:Oper}{F:Nat->Value}{t:TypeId}(ho:o.op=.makeMap t none)(hk:∀b w',Nx w w' b->MapL P kt w' b ([]:List (κ×Value))->k (.map (some b)) w'):NextS P (execOp (ev F) o) k pn w:=by
 have e:(execOp (ev F) o).run P w=.ok (.value (.map (some w.heap.size))) (w.alloc (.map #[] 0)):=by
  unfold execOp
  simp only [ho]
  rfl
 rw [zAR,e]
 exact hk _ _ (Nx.mk' w _) ⟨⟨#[],0,heap_alloc_new w _,rfl⟩,.nil⟩
end
structure EntZ {κ:Type} (val:κ->Value) (Z:List (MapEntry×(κ×Value))) (c:Nat):Prop where
 ent:∀z∈Z,z.1.key=val z.2.1/\z.1.val=z.2.2
 nd:(Z.map (·.1.born)).Nodup
 lt:∀z∈Z,z.1.born<c
theorem zKJ{κ:Type}{val:κ->Value}:∀{es:List MapEntry} {m:List (κ×Value)},EntM val es m->∃Z:List (MapEntry×(κ×Value)),Z.map (·.1)=es/\Z.map (·.2)=m/\∀z∈Z,z.1.key=val z.2.1/\z.1.val=z.2.2
 |[],m,h=>by rw [zDk h];exact⟨[],rfl,rfl,by simp⟩
 |e::es,m,h=>by
  obtain⟨k,r,rfl,hk,hr⟩:=zDU h
  obtain⟨Z,h1,h2,h3⟩:=zKJ hr
  refine⟨(e,(k,e.val))::Z,by simp [h1],by simp [h2],λz hz=>?_⟩
  rcases List.mem_cons.1 hz with rfl|hz
  ·exact⟨hk,rfl⟩
  ·exact h3 z hz
theorem zGB{κ:Type}(s:Array Nat):∀{Z:List (MapEntry×(κ×Value))} {z:MapEntry×(κ×Value)},(Z.map (·.1.born)).Nodup->z∈Z->s.contains z.1.born=false ->
  (z::Z.filter λy=>!(s.push z.1.born).contains y.1.born).Perm (Z.filter λy=>!s.contains y.1.born)
 |[],z,_,hz,_=>by simp at hz
 |y::T,z,hn,hz,hs=>by
  rw [List.map_cons,List.nodup_cons] at hn
  have hpush:∀q:Nat,(s.push z.1.born).contains q=(s.contains q || q==z.1.born):=λq=>by
   rw [Bool.eq_iff_iff];simp [Array.mem_push]
  rcases List.mem_cons.1 hz with rfl|hz
  ·have h1:T.filter (λy=>!(s.push z.1.born).contains y.1.born)=T.filter λy=>!s.contains y.1.born:=by
    apply List.filter_congr
    intro y hy
    have hne:y.1.born≠z.1.born:=λe=>hn.1 (e ▸ List.mem_map.2 ⟨y,hy,rfl⟩)
    rw [hpush];simp [hne]
   rw [List.filter_cons_of_neg (by rw [hpush];simp),List.filter_cons_of_pos (by rw [hs];rfl),h1]
  ·have ih:=zGB s hn.2 hz hs
   have hne:y.1.born≠z.1.born:=λe=>hn.1 (e ▸ List.mem_map.2 ⟨z,hz,rfl⟩)
   by_cases hy:s.contains y.1.born=true
   ·rw [List.filter_cons_of_neg (by rw [hpush,hy];simp),List.filter_cons_of_neg (by rw [hy];simp)]
    exact ih
   ·have hy':s.contains y.1.born=false:=by simpa using hy
    rw [List.filter_cons_of_pos (by rw [hpush,hy'];simp [hne]),List.filter_cons_of_pos (by rw [hy'];rfl)]
    exact(List.Perm.swap y z _).trans (ih.cons y)
section
variable {P:Program} {kt:TypeId} {κ:Type} [DecidableEq κ] [M:MKey P kt κ] {k:Value->World->Prop} {pn:List PanicEntry->World->Prop} {w:World}
def MapB (P:Program) (t:TypeId) {κ:Type} [DecidableEq κ] [M:MKey P t κ] (w:World) (b:Nat) (m:List (κ×Value)):Prop:=
 (∃es c,w.heap[b]? = some (.map es c)/\EntM M.val es.toList m/\(es.toList.map (·.born)).Nodup/\∀x∈es.toList,x.born<c)/\(m.map (·.1)).Nodup
theorem MapB.l{b:Nat}{m:List (κ×Value)}(h:MapB P kt w b m):MapL P kt w b m:=by
 obtain⟨⟨es,c,h1,h2,_⟩,h3⟩:=h;exact⟨⟨es,c,h1,h2⟩,h3⟩
theorem MapB.fr{w:World}{b:Nat}{m:List (κ×Value)}(h:MapB P kt w b m)(f:Fr D w w')(hd:¬D b):MapB P kt w' b m:=by
 obtain⟨⟨es,c,h1,h2⟩,h3⟩:=h;exact⟨⟨es,c,f.blk h1 hd,h2⟩,h3⟩
theorem MapB.up{w:World}[L:Le w w']{b:Nat}{m:List (κ×Value)}(h:MapB P kt w b m):MapB P kt w' b m:=h.fr L.e id
theorem rmkNB{o:Oper}{F:Nat->Value}{t:TypeId}(ho:o.op=.makeMap t none)(hk:∀b w',Nx w w' b->MapB P kt w' b ([]:List (κ×Value))->k (.map (some b)) w'):NextS P (execOp (ev F) o) k pn w:=by
 have e:(execOp (ev F) o).run P w=.ok (.value (.map (some w.heap.size))) (w.alloc (.map #[] 0)):=by
  unfold execOp
  simp only [ho]
  rfl
 rw [zAR,e]
 exact hk _ _ (Nx.mk' w _) ⟨⟨#[],0,heap_alloc_new w _,rfl,by simp,by simp⟩,.nil⟩
theorem zNk{t e:TypeId}(ht:MapT P t kt e){b:Nat}{m:List (κ×Value)}(h:MapB P kt w b m)(x:κ)(v:Value):
  ∃w',(Instr.mapUpdate t (.map (some b)) (M.val x) v).run P w=.ok () w'/\MapB P kt w' b (setM x v m)/\Fr (λi=>i=b) w w'/\w'.heap.size=w.heap.size:=by
 obtain⟨⟨es,c,hb,hE,hnd,hlt'⟩,hn⟩:=h
 have hlt:=blk_lt hb
 unfold Instr.mapUpdate
 simp only [Sem.run_bind,zAr ht.h,Result.andThen_ok,zDX hb,M.check,M.find x _ m w hE]
 cases hf:findM x m 0 with
 |none =>
  have h1:=(zCs x v m 0 hf).1
  simp only [zB1 _ hb]
  refine⟨_,rfl,⟨⟨_,_,put_at hlt _,?_,?_,?_⟩,zBn x v m hn⟩,put_fr hb _,by simp⟩
  ·rw [h1];unfold EntM at *;simp [hE]
  ·rw [Array.toList_push,List.map_append,List.nodup_append]
   refine⟨hnd,by simp,λa ha q hq=>?_⟩
   obtain⟨y,hy,rfl⟩:=List.mem_map.1 ha
   have:=hlt' y hy
   simp at hq
   omega
  ·intro y hy
   rw [Array.toList_push] at hy
   rcases List.mem_append.1 hy with hy|hy
   ·have:=hlt' y hy;omega
   ·rw [List.mem_singleton.1 hy];exact Nat.lt_succ_self c
 |some p =>
  obtain⟨i,v0⟩:=p
  have h1:=zCt x v m 0 i v0 hf
  obtain⟨_,h2,h3,_⟩:=h1
  rw [Nat.sub_zero] at h2 h3
  have hkey:((es[i]?).map (·.key)).getD (M.val x)=M.val x:=by
   have hj:=congrArg (λl=>l[i]?) hE
   simp only [List.getElem?_map,h2,Option.map_some] at hj
   cases h4:es[i]? with
   |none=>rfl
   |some e0 =>
    have h4':es.toList[i]? = some e0:=by simpa using h4
    rw [h4'] at hj
    simp only [Option.map_some,Option.some.injEq,Prod.mk.injEq] at hj
    simp [hj.1]
  have hstay:(Instr.keyThatStays (((es[i]?).map (·.key)).getD (M.val x)) (M.val x)).run P w=.ok (M.val x) w:=by
   rw [hkey];unfold Instr.keyThatStays;rw [if_pos (M.same x)];rfl
  simp only [Sem.run_bind,hstay,Result.andThen_ok,zB1 _ hb]
  have hbm:∀(es:List MapEntry) (i:Nat),(es.modify i (λe=>{ e with key:=M.val x,val:=v })).map (·.born)=es.map (·.born):=λes i=>by
   apply List.ext_getElem?
   intro j
   simp only [List.getElem?_map,List.getElem?_modify]
   cases es[j]? with
   |none=>rfl
   |some e0=>by_cases hij:i=j <;> simp [hij]
  refine⟨_,rfl,⟨⟨_,_,put_at hlt _,?_,?_,?_⟩,zBn x v m hn⟩,put_fr hb _,by simp⟩
  ·rw [h3,Array.toList_modify]
   exact zKI hE i x v _ λe=>rfl
  ·rw [Array.toList_modify,hbm];exact hnd
  ·intro y hy
   rw [Array.toList_modify] at hy
   have:y.born∈es.toList.map (·.born):=by rw [<-hbm es.toList i];exact List.mem_map.2 ⟨y,hy,rfl⟩
   obtain⟨z,hz,hzb⟩:=List.mem_map.1 this
   have:=hlt' z hz
   omega
theorem rupdB{t e:TypeId}[ht:MapT P t kt e]{b:Nat}{m:List (κ×Value)}{xv v:Value}(h:MapB P kt w b m)(x:κ)(hx:xv=M.val x)
  (hk:∀w',MapB P kt w' b (setM x v m)->Fr (λi=>i=b) w w'->w'.heap.size=w.heap.size->k undef w'):SemU P (Instr.mapUpdate t (.map (some b)) xv v) k pn w:=by
 subst hx
 obtain⟨w',h1,h2,h3,h4⟩:=zNk ht h x v
 exact SemU.of h1 (hk w' h2 h3 h4)
def ItB (P:Program) (t:TypeId) {κ:Type} [DecidableEq κ] [M:MKey P t κ] (w:World) (r b:Nat) (rest:List (κ×Value)):Prop:=
 ∃(Z:List (MapEntry×(κ×Value))) (c:Nat) (s:Array Nat),EntZ M.val Z c/\w.heap[b]? = some (.map (Z.map (·.1)).toArray c)/\w.heap[r]? = some (.mapIter (some b) c s c)/\(Z.filter λz=>!s.contains z.1.born).map (·.2)=rest
def ItC (P:Program) (t:TypeId) {κ:Type} [DecidableEq κ] [M:MKey P t κ] (w:World) (r b:Nat) (rest:List (κ×Value)) (x:κ) (v:Value):Prop:=
 ∃(Z:List (MapEntry×(κ×Value))) (c:Nat) (s:Array Nat) (z:MapEntry×(κ×Value)),EntZ M.val Z c/\w.heap[b]? = some (.map (Z.map (·.1)).toArray c)/\w.heap[r]? = some (.mapIter (some b) c (s.push z.1.born) c)/\z∈Z/\z.2=(x,v)/\(Z.filter λy=>!(s.push z.1.born).contains y.1.born).map (·.2)=rest
theorem ItC.b{r b:Nat}{rest:List (κ×Value)}{x:κ}{v:Value}(h:ItC P kt w r b rest x v):ItB P kt w r b rest:=by
 obtain⟨Z,c,s,z,h1,h2,h3,_,_,h6⟩:=h;exact⟨Z,c,_,h1,h2,h3,h6⟩
theorem ItB.fr{w:World}{r b:Nat}{rest:List (κ×Value)}(h:ItB P kt w r b rest)(f:Fr D w w')(hr:¬D r)(hb:¬D b):ItB P kt w' r b rest:=by
 obtain⟨Z,c,s,h1,h2,h3,h4⟩:=h;exact⟨Z,c,s,h1,f.blk h2 hb,f.blk h3 hr,h4⟩
theorem ItB.up{w:World}[L:Le w w']{r b:Nat}{rest:List (κ×Value)}(h:ItB P kt w r b rest):ItB P kt w' r b rest:=h.fr L.e id id
theorem rrangeM{t e:TypeId}[ht:MapT P t kt e]{b:Nat}{m:List (κ×Value)}(h:MapB P kt w b m)(hk:∀r w',Nx w w' r->ItB P kt w' r b m->MapB P kt w' b m->k (.pointer (some ⟨r,0,none⟩)) w'):SemV P (Instr.range t (.map (some b))) k pn w:=by
 have hm:=h
 obtain⟨⟨es,c,hb,hE,hnd,hlt⟩,_⟩:=h
 obtain⟨Z,h1,h2,h3⟩:=zKJ hE
 have n:=Nx.mk' w (.mapIter (some b) c #[] c)
 have hb':(w.alloc (.mapIter (some b) c #[] c)).heap[b]? = some (.map es c):=Fr.blk n.e hb nf
 have he:(Z.map (·.1)).toArray=es:=by rw [h1]
 refine SemV.of (run_range_map w t kt e b es c ht.h hb) (hk _ _ n ⟨Z,c,#[],⟨h3,?_,λz hz=>hlt _ (h1 ▸ List.mem_map.2 ⟨z,hz,rfl⟩)⟩,by rw [he];exact hb',heap_alloc_new w _,?_⟩ (hm.fr n.e id))
 ·have:=hnd;rw [<-h1,List.map_map] at this;exact this
 ·rw [List.filter_eq_self.2 (by simp)];exact h2
theorem rnextM{ty:TypeId}{r b:Nat}{rest:List (κ×Value)}(h:ItB P kt w r b rest)(h0:rest=[]->k (.tuple #[.bool false]) w)
  (h1:∀x v rest' w',((x,v)::rest').Perm rest->ItC P kt w' r b rest' x v->Fr (λi=>i=r) w w'->w'.heap.size=w.heap.size->k (.tuple #[.bool true,M.val x,v]) w'):
  SemV P (Instr.next (.pointer (some ⟨r,0,none⟩)) false ty) k pn w:=by
 obtain⟨Z,c,s,hZ,hb,hr,hrest⟩:=h
 have hL:(leftOf (Z.map (·.1)).toArray s).toList=(Z.filter λz=>!s.contains z.1.born).map (·.1):=by
  unfold leftOf
  rw [Array.toList_filter,List.filter_map];rfl
 rcases run_next_at (P:=P) w ty r b c c s (Z.map (·.1)).toArray c hr hb (λx hx=>by
   have hx':x∈Z.map (·.1):=by simpa using hx
   obtain⟨z,hz,rfl⟩:=List.mem_map.1 hx';exact hZ.lt z hz) (Nat.le_refl _) with ⟨hs,hrun⟩|⟨e,he,w1,hw1,hrun⟩
 ·refine SemV.of hrun (h0 ?_)
  have hl:((Z.filter λz=>!s.contains z.1.born).map (·.1)).length=0:=by rw [<-hL];simpa using hs
  rw [<-hrest]
  rw [List.length_map] at hl
  rw [List.eq_nil_of_length_eq_zero hl];rfl
 ·rw [hL] at he
  obtain⟨z,hz,rfl⟩:=List.mem_map.1 he
  have hzf:=List.mem_filter.1 hz
  have hzs:s.contains z.1.born=false:=by simpa using hzf.2
  have hent:=hZ.ent z hzf.1
  have hrl:r<w1.heap.size:=by rcases hw1 with rfl|rfl <;> exact blk_lt hr
  have hne:b≠r:=by rintro rfl;rw [hb] at hr;cases hr
  have hbw:w1.heap[b]? = some (.map (Z.map (·.1)).toArray c):=by rcases hw1 with rfl|rfl <;> exact hb
  have hrw:w1.heap[r]? = some (.mapIter (some b) c s c):=by rcases hw1 with rfl|rfl <;> exact hr
  have f:Fr (λi=>i=r) w (ChangeMaps.setBlock w1 r (.mapIter (some b) c (s.push z.1.born) c)):=by
   have hh:w1.heap=w.heap:=by rcases hw1 with rfl|rfl <;> rfl
   have ho:w1.os=w.os/\w1.tape=w.tape/\w1.output=w.output:=by rcases hw1 with rfl|rfl <;> exact⟨rfl,rfl,rfl⟩
   refine⟨ho.1,ho.2.1,ho.2.2,by simp [ChangeMaps.setBlock,hh],λi _ hi=>?_,λi o hi ho=>?_⟩
   ·simp only [ChangeMaps.setBlock];rw [Array.getElem?_setIfInBounds_ne (Ne.symm hi),hh]
   ·simp only [ChangeMaps.setBlock]
    rw [Array.getElem?_setIfInBounds_ne,hh]
    ·exact hi
    ·rintro rfl;rw [hr] at hi;cases hi;cases ho
  have hsz:(ChangeMaps.setBlock w1 r (.mapIter (some b) c (s.push z.1.born) c)).heap.size=w.heap.size:=by
   have hh:w1.heap=w.heap:=by rcases hw1 with rfl|rfl <;> rfl
   simp [ChangeMaps.setBlock,hh]
  have hp:=zGB s hZ.nd hzf.1 hzs
  have hp1:=hp.map (·.2)
  rw [hrest] at hp1
  have hp2:((z.2.1,z.2.2)::(Z.filter λy=>!(s.push z.1.born).contains y.1.born).map (·.2)).Perm rest:=hp1
  have:=h1 z.2.1 z.2.2 ((Z.filter λy=>!(s.push z.1.born).contains y.1.born).map (·.2)) _ hp2
   ⟨Z,c,s,z,hZ,by simp only [ChangeMaps.setBlock];rw [Array.getElem?_setIfInBounds_ne (Ne.symm hne)];exact hbw,by simp [ChangeMaps.setBlock,hrl],hzf.1,rfl,rfl⟩ f hsz
  rw [hent.1,hent.2] at hrun
  exact SemV.of hrun this
theorem rentryM{r b:Nat}{rest:List (κ×Value)}{x:κ}{v:Value}(h:ItC P kt w r b rest x v)(hk:k (.tuple #[M.val x,v]) w):SemV P (Instr.entry (.pointer (some ⟨r,0,none⟩))) k pn w:=by
 obtain⟨Z,c,s,z,hZ,hb,hr,hz,hxv,_⟩:=h
 have hent:=hZ.ent z hz
 have hrun:=run_entry_at (P:=P) w r b c s (Z.map (·.1)).toArray c z.1 hr hb (show z.1∈Z.map (·.1) from List.mem_map.2 ⟨z,hz,rfl⟩) (by
  have:=hZ.nd
  rw [show (Z.map (·.1)).toArray.toList=Z.map (·.1) from rfl,List.map_map];exact this)
 rw [hent.1,hent.2,hxv] at hrun
 exact SemV.of hrun hk
end
class StrT (P:Program) (t:TypeId):Prop where
 h:P.underlying t=some .string
class KindT (P:Program) (t:TypeId) (kd:outParam IntKind):Prop where
 h:P.underlying t=some (.int kd)
instance:Enc UInt8:=⟨1,λx=>[.int .u8 x.toNat],λ_=>rfl,by intro x u hu;simp at hu;subst hu;rfl,by decide⟩
section
variable {P:Program} {k:Value->World->Prop} {pn:List PanicEntry->World->Prop} {w:World}
theorem zJK{t:TypeId}(ht:StrT P t){s:ByteArray}{c:UInt8}(hi:s.data.toList[i]? = some c)(w:World):(Instr.index t (.string s) (.int .i64 i)).run P w=.ok (.int .u8 c.toNat) w:=by
 have hsz:i<s.size:=by
  have:=(List.getElem?_eq_some_iff.1 hi).1
  simpa using this
 have hc:s[i]? = some c:=by
  rw [getElem?_pos s i hsz]
  have h2:=(List.getElem?_eq_some_iff.1 hi).2
  rw [<-h2];rfl
 unfold Instr.index
 simp only [asIntOf,Sem.run_bind,Sem.run_pure,Result.andThen_ok,zAr ht.h]
 have h0:(0:Int)<=(i:Int):=by omega
 rw [if_pos h0,Int.toNat_natCast,hc]
 rfl
theorem rsidx{t:TypeId}[ht:StrT P t]{s:ByteArray}{c:UInt8}(hi:s.data.toList[i]? = some c)(hk:k (.int .u8 c.toNat) w):SemV P (Instr.index t (.string s) (.int .i64 i)) k pn w:=SemV.of (zJK ht hi w) hk
theorem tsidx{t:TypeId}[ht:StrT P t]{k:Value->Prop}{s:ByteArray}{c:UInt8}(hi:s.data.toList[i]? = some c)(hk:k (.int .u8 c.toNat)):TakeS P (Instr.index t (.string s) (.int .i64 i)) D k w:=by
 rw [zAg];exact⟨_,λw' _=>zJK ht hi w',hk⟩
theorem zJI{s d:TypeId}{kd ks kx:IntKind}(hs:KindT P s ks)(hd:KindT P d kd)(n:Int)(w:World):(convert s d (.int kx n)).run P w=.ok (.int kd (kd.wrap n)) w:=by
 unfold convert
 simp only [Sem.run_bind,zAr hs.h,zAr hd.h,Result.andThen_ok,Conv.intToInt,Sem.run_pure]
theorem rconv{s d:TypeId}{kd ks kx:IntKind}[hs:KindT P s ks][hd:KindT P d kd]{n:Int}(hk:k (.int kd (kd.wrap n)) w):SemV P (convert s d (.int kx n)) k pn w:=SemV.of (zJI hs hd n w) hk
theorem zOm{t:TypeId}(ht:StrT P t){s:ByteArray}{lo:Nat}(h1:lo<=hi)(h2:hi<=s.size)(w:World):(Instr.sliceAt t (.string s) (some (.int .i64 lo)) (some (.int .i64 hi)) none).run P w=.ok (.string (s.extract lo hi)) w:=by
 have a0:(0:Int)<=(lo:Int)/\(lo:Int)<=(hi:Int):=by omega
 have a1:(0:Int)<=(hi:Int)/\(hi:Int)<=(s.size:Int):=by omega
 unfold Instr.sliceAt
 simp only [Sem.run_bind,zAr ht.h,Result.andThen_ok]
 unfold Instr.slice
 simp [Sem.run_bind,zAr ht.h,Result.andThen_ok,Instr.sliceBounds,Instr.sliceBound,asIntOf,a0,a1]
 rw [if_pos h2,if_pos h1]
theorem tssl{t:TypeId}[ht:StrT P t]{k:Value->Prop}{s:ByteArray}{lo:Nat}{x y:Value}(hx:x=.int .i64 lo)(hy:y=.int .i64 hi)(h1:lo<=hi)(h2:hi<=s.size)(hk:k (.string (s.extract lo hi))):TakeS P (Instr.sliceAt t (.string s) (some x) (some y) none) D k w:=by
 subst hx hy
 rw [zAg];exact⟨_,λw' _=>zOm ht h1 h2 w',hk⟩
theorem zNX(l:List UInt8):flat l=(l.map λc=>(c.toNat:Int)).map (Value.int .u8):=by
 induction l with
 |nil=>rfl
 |cons x r ih=>rw [flat_cons,ih];rfl
theorem zK0:∀(l:List UInt8) (s:ByteArray),(l.map λc=>(c.toNat:Int)).foldl (λr n=>r.push (UInt8.ofNat n.toNat)) s=⟨s.data++l.toArray⟩
 |[],s=>by simp
 |c::r,s=>by
  rw [List.map_cons,List.foldl_cons,zK0 r]
  simp [ByteArray.push]
theorem zNg{s d e:TypeId}(hs:P.underlying s=some (.slice e))(he:P.underlying e=some (.int .u8))(hd:P.underlying d=some .string){c:Nat}{l:List UInt8}(h:SlF w (.slice a n c) l):
  (convert s d (.slice a n c)).run P w=.ok (.string ⟨l.toArray⟩) w:=by
 obtain rfl:=h.len
 rw [run_convert_bytes_string w s d e a _ c hs he hd]
 have go:∀ad:Addr,(∀j u,(flat l)[j]? = some u->w.cell? (ad.add j)=some u)->(Conv.bytesToString (.slice (some ad) l.length c)).run P w=.ok (.string ⟨l.toArray⟩) w:=λad hat=>by
  have hl:(flat l).length=l.length:=by rw [zAm];exact Nat.mul_one _
  have h1:=run_loadCells_list (P:=P) (w:=w) ad (flat l) hat
  rw [hl,zNX] at h1
  rw [run_bytesToString w ad l.length c _ h1,zK0]
  have e0:ByteArray.empty.data++l.toArray=l.toArray:=by show (#[]:Array UInt8)++l.toArray=_;simp
  rw [e0]
 obtain⟨a',c',hv,hc,h2⟩:=h
 cases hv
 rcases h2 with rfl|⟨b,o,rfl,hat⟩
 ·cases a with
  |none=>rfl
  |some ad=>exact go ad (by simp)
 ·exact go ⟨b,o,none⟩ λj u hj=>by rw [zAv];exact hat j u hj
class BytT (P:Program) (s d:TypeId):Prop where
 e:∃e,P.underlying s=some (.slice e)/\P.underlying e=some (.int .u8)
 d:P.underlying d=some .string
theorem rbstr{s d:TypeId}[hb:BytT P s d]{c:Nat}{l:List UInt8}(h:SlF w (.slice a n c) l)(hk:k (.string ⟨l.toArray⟩) w):SemV P (convert s d (.slice a n c)) k pn w:=by
 obtain⟨e,h1,h2⟩:=hb.e
 exact SemV.of (zNg h1 h2 hb.d h) hk
theorem zOl{X Y:Operand}{t:TypeId}{x y:Int}(hy:0<=y/\y<64)(w:World):(do eqGuard .shl t X Y (.int .i64 x) (.int .i64 y);binOp .shl t (.int .i64 x) (.int .i64 y):Sem Value).run P w=.ok (.int .i64 (IntKind.i64.wrap (x*2 ^ y.toNat))) w:=by
 have g:(eqGuard .shl t X Y (.int .i64 x) (.int .i64 y)).run P w=.ok () w:=rfl
 rw [Sem.run_bind,g,Result.andThen_ok]
 have h1:¬y<0:=by omega
 have h2:min y.toNat IntKind.i64.bits=y.toNat:=by
  have:IntKind.i64.bits=64:=rfl
  rw [this];omega
 simp only [binOp,Op.shift,if_neg h1,h2]
 rfl
theorem rshl{X Y:Operand}{t:TypeId}{x y z:Int}(hy:0<=y/\y<64)(hz:x*2 ^ y.toNat=z)(hr:-9223372036854775808<=z/\z<=9223372036854775807)(hk:k (.int .i64 z) w):SemV P (do eqGuard .shl t X Y (.int .i64 x) (.int .i64 y);binOp .shl t (.int .i64 x) (.int .i64 y)) k pn w:=by
 have h:=zOl (P:=P) (X:=X) (Y:=Y) (t:=t) (x:=x) hy w
 rw [hz,zB2 hr.1 hr.2] at h
 exact SemV.of h hk
theorem run_or{X Y:Operand}{t:TypeId}{x y:Nat}(hx:x<2 ^ i)(hr:x+y*2 ^ i<9223372036854775808)(w:World):(do eqGuard .or t X Y (.int .i64 (x:Int)) (.int .i64 ((y*2 ^ i:Nat):Int));binOp .or t (.int .i64 (x:Int)) (.int .i64 ((y*2 ^ i:Nat):Int)):Sem Value).run P w=.ok (.int .i64 ((x+y*2 ^ i:Nat):Int)) w:=by
 have g:(eqGuard .or t X Y (.int .i64 (x:Int)) (.int .i64 ((y*2 ^ i:Nat):Int))).run P w=.ok () w:=rfl
 rw [Sem.run_bind,g,Result.andThen_ok]
 have hb:IntKind.i64.bits=64:=rfl
 have e1:(BitVec.ofInt 64 (x:Int) ||| BitVec.ofInt 64 ((y*2 ^ i:Nat):Int)).toNat=x+y*2 ^ i:=by
  rw [BitVec.ofInt_natCast,BitVec.ofInt_natCast,BitVec.toNat_or,BitVec.toNat_ofNat,BitVec.toNat_ofNat,Nat.mod_eq_of_lt (by omega),Nat.mod_eq_of_lt (by omega),Nat.or_comm,<-Nat.shiftLeft_eq,<-Nat.shiftLeft_add_eq_or_of_lt hx,Nat.add_comm]
 have e2:(binOp .or t (.int .i64 (x:Int)) (.int .i64 ((y*2 ^ i:Nat):Int))).run P w=.ok (.int .i64 (IntKind.i64.wrap ((BitVec.ofInt 64 (x:Int) ||| BitVec.ofInt 64 ((y*2 ^ i:Nat):Int)).toNat:Nat))) w:=rfl
 rw [e2,e1,zB2 (by omega) (by omega)]
end
end Go.W
namespace Go.W
open Go Go.Proofs
open Enc (enc)
set_option maxRecDepth 10000
variable {B N hi i j k m n:Nat} {D:Nat -> Prop} {P:Program} {T:Tab} {a:Option Addr} {s:List UInt8} {u u' w w':World}
instance:KindT PP E.qa .i64:=⟨by kernel_rfl⟩
instance:KindT PP E.yi .u8:=⟨by kernel_rfl⟩
instance:StrT PP E.qg:=⟨by kernel_rfl⟩
instance:BytT PP E.yr E.qg:=⟨⟨E.yi,by kernel_rfl,by kernel_rfl⟩,by kernel_rfl⟩
theorem rconvE{k:Value->World->Prop}{pn:List PanicEntry->World->Prop}{s d:TypeId}{kd ks kx:IntKind}[hs:KindT P s ks][hd:KindT P d kd]{n z:Int}(hz:kd.wrap n=z)(hk:k (.int kd z) w):SemV P (convert s d (.int kx n)) k pn w:=rconv (hz ▸ hk)
theorem zLf{x:Nat}(h:x<256):IntKind.u8.wrap (x:Int)=((UInt8.ofNat x).toNat:Int):=by
 have e:(UInt8.ofNat x).toNat=x:=by rw [UInt8.toNat_ofNat'];omega
 rw [e]
 unfold IntKind.wrap
 simp [IntKind.bits,IntKind.signed]
 omega
abbrev txt (l:List UInt8):Value:=.string ⟨l.toArray⟩
def numV (n:Int):Value:=if 0<=n/\n<=2147483647 then .tuple #[txt (numB n.toNat),.int .i64 0] else .tuple #[txt [],.int .i64 1]
def EndB:List UInt8->Prop
 |[]=>False
 |[c]=>c.toNat<128
 |c::d::r=>128<=c.toNat/\EndB (d::r)
theorem OneB.e:∀{l:List UInt8},OneB l->EndB l
 |[],h=>h.elim
 |[_],h=>h
 |_::_::_,h=>⟨h.1,OneB.e h.2.1⟩
theorem EndB.pre:∀{a b s t:List UInt8},EndB a->EndB b->a++s=b++t->a=b/\s=t
 |[],_,_,_,h,_,_=>h.elim
 |_,[],_,_,_,h,_=>h.elim
 |[c],[d],s,t,_,_,e=>by simp at e;exact⟨by rw [e.1],e.2⟩
 |[c],d::d2::r,s,t,h,h',e=>by
  simp at e
  have h1:=h'.1
  simp only [EndB] at h
  rw [<-e.1] at h1;omega
 |c::c2::r,[d],s,t,h,h',e=>by
  simp at e
  have h1:=h.1
  simp only [EndB] at h'
  rw [e.1] at h1;omega
 |c::c2::r,d::d2::q,s,t,h,h',e=>by
  have e1:c=d/\(c2::r)++s=(d2::q)++t:=by simpa using e
  have ih:=EndB.pre h.2 h'.2 e1.2
  rw [e1.1,ih.1];exact⟨rfl,ih.2⟩
theorem EndB.snoc:∀{l:List UInt8} {c:UInt8},(∀x∈l,128<=x.toNat)->c.toNat<128->EndB (l++[c])
 |[],_,_,h=>h
 |[d],_,h,hc=>⟨h d List.mem_cons_self,hc⟩
 |d::e::r,_,h,hc=>⟨h d List.mem_cons_self,EndB.snoc (l:=e::r) (λx hx=>h x (List.mem_cons_of_mem _ hx)) hc⟩
theorem EndB.last:∀{l:List UInt8},EndB l->∃p c,l=p++[c]/\c.toNat<128
 |[],h=>h.elim
 |[c],h=>⟨[],c,rfl,h⟩
 |c::d::r,h=>by
  have q_:=EndB.last h.2
  obtain⟨p,e,h1,h2⟩:=q_
  exact⟨c::p,e,by rw [h1];rfl,h2⟩
theorem zIl:∀(l:List UInt8) (c:UInt8),valB (l++[c])=valB l+128 ^ l.length*(c.toNat % 128)
 |[],c=>by simp [valB]
 |d::r,c=>by
  have ih:=zIl r c
  simp only [List.cons_append,valB,ih,List.length_cons,Nat.pow_succ,Nat.mul_add]
  rw [Nat.mul_comm (128 ^ r.length) 128,Nat.mul_assoc];omega
theorem zLc:∀(l:List UInt8),valB l<128 ^ l.length
 |[]=>by simp [valB]
 |d::r=>by
  have ih:=zLc r
  simp only [valB,List.length_cons,Nat.pow_succ]
  omega
def RdAt (s:List UInt8) (a n:Nat):Prop:=n<=2147483647/\∃t,s.drop a=numB n++t
theorem zJD{l t:List UInt8}{a:Nat}(hd:s.drop a=l++t)(hl:EndB l)(n:Nat):RdAt s a n↔n<=2147483647/\n=valB l/\numB n=l:=by
 constructor
 ·rintro⟨h1,t',h2⟩
  have h3:=EndB.pre (zCM n).e hl (h2.symm.trans hd)
  exact⟨h1,by rw [<-h3.1,zGd],h3.1⟩
 ·rintro⟨h1,_,h3⟩
  exact⟨h1,t,by rw [h3];exact hd⟩
theorem zMh{l t:List UInt8}{a:Nat}(hd:s.drop a=l++t)(hl:∀x∈l,128<=x.toNat)(h5:l.length=5\/t=[])(n:Nat):¬RdAt s a n:=by
 rintro⟨h1,t',h2⟩
 have q_:=(zCM n).e.last
 obtain⟨p,c,h3,h4⟩:=q_
 have hlen:=zD5 h1
 have hle:(numB n).length<=l.length:=by
  rcases h5 with h|h
  ·omega
  ·have:=congrArg List.length (h2.symm.trans hd)
   rw [h,List.length_append,List.length_append] at this
   simp at this;omega
 have hpre:numB n <+: l:=by
  have e:=h2.symm.trans hd
  exact List.prefix_of_prefix_length_le ⟨t',rfl⟩ ⟨t,e.symm⟩ hle
 have hc:c∈l:=hpre.subset (by rw [h3];simp)
 have:=hl c hc
 omega
def RdV (s:List UInt8) (a:Int) (v:Value):Prop:=
 (∃A n:Nat,a=(A:Int)/\RdAt s A n/\v=.tuple #[.int .i64 (n:Nat),.int .i64 ((A+(numB n).length:Nat):Int),.bool true]) \/
 ((∀A n:Nat,a=(A:Int)->¬RdAt s A n)/\v=.tuple #[.int .i64 0,.int .i64 0,.bool false])
theorem zN8{a:Nat}(h:RdAt s a n):a<s.length:=by
 obtain⟨_,t,h2⟩:=h
 have:=congrArg List.length h2
 have:=List.length_pos_iff.2 (zHn n)
 simp at *;omega
theorem zEj(s:List UInt8)(a b:Nat):(⟨s.toArray⟩:ByteArray).extract a b=⟨((s.drop a).take (b - a)).toArray⟩:=by
 apply ByteArray.ext
 rw [ByteArray.data_extract]
 simp
def numsB (l:List Int):List UInt8:=l.flatMap λn=>if 0<=n/\n<=2147483647 then numB n.toNat else []
theorem zLA(l:List Int)(n:Int):numsB (l++[n])=numsB l++if 0<=n/\n<=2147483647 then numB n.toNat else []:=by simp [numsB]
theorem zLB{l:List Int}(h:k<l.length):numsB (l.take (k+1))=numsB (l.take k)++if 0<=l[k]/\l[k]<=2147483647 then numB l[k].toNat else []:=by
 rw [zAa h,zLA]
theorem zA0(l:List Int):(numsB l).length<=5*l.length:=by
 induction l with
 |nil=>simp [numsB]
 |cons n r ih =>
  have:numsB (n::r)=(if 0<=n/\n<=2147483647 then numB n.toNat else [])++numsB r:=by simp [numsB]
  rw [this,List.length_append,List.length_cons]
  split
  ·have:=zD5 (n:=n.toNat) (by omega);omega
  ·simp;omega
theorem zAo(b:Bool):∀u∈[Value.bool b],u.oneCell'=true:=by intro u hu;simp at hu;subst hu;rfl
theorem zAf(x:Int):∀u∈[Value.int .i64 x],u.oneCell'=true:=by intro u hu;simp at hu;subst hu;rfl
structure HitD where
 v:Int
 d:Int
deriving DecidableEq,Inhabited
instance:Enc HitD:=⟨2,λx=>[.int .i64 x.v,.int .i64 x.d],λ_=>rfl,by intro x u hu;simp at hu;rcases hu with rfl|rfl <;> rfl,by decide⟩
structure AnsD where
 found:Bool
 num:Int
 s:SV
structure RepD where
 id:Int
 code:Int
 a:AnsD
instance:Enc AnsD:=⟨3,λx=>[.bool x.found,.int .i64 x.num,.slice x.s.a x.s.n x.s.c],λ_=>rfl,by intro x u hu;simp at hu;rcases hu with rfl|rfl|rfl <;> rfl,by decide⟩
instance:Enc RepD:=⟨5,λx=>[.int .i64 x.id,.int .i64 x.code,.bool x.a.found,.int .i64 x.a.num,.slice x.a.s.a x.a.s.n x.a.s.c],λ_=>rfl,by intro x u hu;simp at hu;rcases hu with rfl|rfl|rfl|rfl|rfl <;> rfl,by decide⟩
def HitOk (h:HitD):Prop:=0<=h.v/\h.v<200/\0<=h.d/\h.d<=200
def RepOk (x:RepD) (l:List HitD):Prop:=
 (0<=x.id/\x.id<=2147483647)/\(0<=x.code/\x.code<=1000)/\(0<=x.a.num/\x.a.num<=400)/\l.length<=100 /\
 (x.code≠0->x.a.found=false/\x.a.num=0/\l=[])/\(x.a.found=false->x.a.num=0/\l=[])/\(l=[]\/x.a.num=0)/\∀h∈l,HitOk h
def hitsB (l:List HitD):List UInt8:=l.flatMap λh=>numsB [h.v,h.d]
def encR (x:RepD) (l:List HitD):List UInt8:=numsB [x.id,x.code]++if x.code≠0 then [] else numsB [if x.a.found then 1 else 0,x.a.num,(l.length:Int)]++hitsB l
theorem zLv{l:List HitD}{y:HitD}(h:l[k]? = some y):hitsB (l.take (k+1))=hitsB (l.take k)++numsB [y.v,y.d]:=by
 have hk:=(List.getElem?_eq_some_iff.1 h).1
 have:l.take (k+1)=l.take k++[y]:=by
  rw [zAa hk];rw [List.getElem?_eq_getElem hk] at h;cases h;rfl
 rw [this];simp [hitsB]
theorem zHS(l:List HitD):(hitsB l).length<=10*l.length:=by
 induction l with
 |nil=>simp [hitsB]
 |cons h r ih =>
  have e:hitsB (h::r)=numsB [h.v,h.d]++hitsB r:=by simp [hitsB]
  have:=zA0 [h.v,h.d]
  rw [e,List.length_append,List.length_cons]
  simp at this;omega
end Go.W
set_option linter.unusedSimpArgs false
namespace Go.W
open Go
open Enc (enc)
variable {B N hi i j k m n:Nat} {D:Nat -> Prop} {P:Program} {T:Tab} {a:Option Addr} {s:List UInt8} {u u' w w':World}
section
variable {P:Program}
structure SpP (P:Program) (f:FuncId) (args:Array Value) (w:World) (R:Value->World->Prop) (Rp:List PanicEntry->World->Prop):Prop where
 can:callable P f
 calls:Calls P f args w (RetP R Rp)
theorem SpP.mono{f:FuncId}{args:Array Value}{R R':Value->World->Prop}{Rp Rp':List PanicEntry->World->Prop}(h:SpP P f args w R Rp)(hr:∀v w',R v w'->R' v w')(hp:∀c w',Rp c w'->Rp' c w'):SpP P f args w R' Rp':=
 ⟨h.can,h.calls.mono λe w' he=>by cases e <;> first|exact hr _ _ he|exact hp _ _ he|exact he⟩
theorem rcallP{f:FuncId}{args:Array Value}{k:Value->World->Prop}{pn:List PanicEntry->World->Prop}{R:Value->World->Prop}{Rp:List PanicEntry->World->Prop}
  (h:SpP P f args w R Rp)(hk:∀v w',R v w'->k v w')(hp:∀c w',Rp c w'->pn c w'):CallS P f args k pn w:=by
 rw [zA8]
 exact⟨h.can,h.calls.mono λe w' he=>by cases e <;> first|exact hk _ _ he|exact hp _ _ he|exact he.elim⟩
theorem enP(hT:T.ok P=true){f:FuncId}{fn:Func}[h:FnAt P f fn n]{args:Array Value}{R:Value->World->Prop}{Rp:List PanicEntry->World->Prop}(hs:Nat.ble args.size n=true)
  (hc:S P T n (codeOf fn) (retK P fn.results.toList R Rp) (argF args.toList) w)(hk:Nat.ble n 4294967296=true:=by rfl)(hr:T.round=false:=by rfl):SpP P f args w R Rp:=
 ⟨⟨fn,h.hf,h.hb,h.hm⟩,zFE hT hr h.hf h.hn h.hb hs hk hc⟩
theorem rpanic{t:TypeId}{v:Value}{k:Value->World->Prop}{pn:List PanicEntry->World->Prop}(h:pn [{ v:=.iface t v,recovered:=false }] w):SemV P (Instr.panic (.iface t v)) k pn w:=by
 rw [zCC];exact h
theorem panR{rs:List ResultVar}{F:Nat->Value}{c:List PanicEntry}{R:Value->World->Prop}{pn:List PanicEntry->World->Prop}{ws:Nat->Bool}(h0:ws 4294967296=false)(hd:decD (F 4294967296)=[])(h:pn c w):
  ∀F',agree ws F F'->(retK P rs R pn).pan F' c w:=λF' ha=>by
 show panS P rs R pn F' c w
 unfold panS
 rw [ha _ h0,hd];exact h
theorem tmin{at':Array TypeId}{ty:TypeId}{x y:Int}{k:Value->Prop}(hk:k (.int .i64 (min x y))):TakeS P (Builtin.min_ at' ty #[.int .i64 x,.int .i64 y]) D k w:=by
 rw [zAg];exact⟨.int .i64 (min x y),λw' _=>by simp [Builtin.min_,Builtin.min2];split <;> omega,hk⟩
theorem tconvE{s d:TypeId}{kd ks kx:IntKind}[hs:KindT P s ks][hd:KindT P d kd]{n z:Int}{k:Value->Prop}(hz:kd.wrap n=z)(hk:k (.int kd z)):TakeS P (convert s d (.int kx n)) D k w:=by
 rw [zAg];exact⟨.int kd z,λw' _=>by rw [zJI hs hd n w',hz],hk⟩
theorem rtaN{t u:TypeId}{z:Value}{sz by':Nat}[ht:Conc P t][he:Elem P t z sz by']{k:Value->World->Prop}{pn:List PanicEntry->World->Prop}(hk:k (.tuple #[z,.bool false]) w):SemV P (Instr.typeAssert .nilIface u t true) k pn w:=by
 obtain⟨i,hi,hz,_,_⟩:=info_parts he.h
 have h:=ht.h
 unfold concB at h
 refine SemV.of (w':=w) ?_ hk
 unfold Instr.typeAssert
 simp only [Sem.run_bind,underlying,run_program,Result.andThen_ok]
 cases hd:P.underlying t with
 |none=>rw [hd] at h;cases h
 |some d =>
  rw [hd] at h
  cases d <;> first|(simp [zeroValue,typeInfo,hi,hz];done)|cases h
def recM:FrameMode->Value×FrameMode
 |.panicking ({ v,recovered:=false,goexit:=false }::older)=>(v,.panicking ({ v,recovered:=true }::older))
 |u=>(.nilIface,u)
structure SpD (P:Program) (g:FuncId) (args:Array Value) (u:FrameMode) (w:World) (R:FrameMode->World->Prop):Prop where
 can:callable P g
 calls:CallsDIn Fence.wide 0 P g args u w λe u' w'=>match e with | .returned _=>R u' w'|_=>False
theorem zAK{F:Fence}{f:FuncId}{args:Array Value}{u:FrameMode}{R R':Ending->FrameMode->World->Prop}(h:CallsDIn F n P f args u w R)(hr:∀e u' w',R e u' w'->R' e u' w'):CallsDIn F n P f args u w R':=
 ⟨h.1,λc cs hu hroom=>let ⟨e,u',w',fr,r,rest⟩:=h.2 c cs hu hroom;⟨e,u',w',fr,hr _ _ _ r,rest⟩⟩
theorem zBm{rs:List ResultVar}{F:Nat->Value}{g:FuncId}{first cap:Array Value}{ds:List Deferred}{u:FrameMode}{R:Value->World->Prop}{pn:List PanicEntry->World->Prop}(hu:u≠.run)
  (h:SpD P g (first++cap) u w λu' w'=>LeaveS P rs F ds (settle u') R pn w'):LeaveS P rs F ({ target:=.fn (.func g) cap,args:=first }::ds) u R pn w:=by
 refine⟨λfn tmps h1 h2=>⟨hu,.inr ⟨(λhd=>by cases hd),.func g,cap,g,first++cap,rfl,zAB h.can w,λ_ _=>trivial,zAK h.calls ?_⟩⟩⟩
 intro e u' w' he
 cases e with
 |returned v=>exact he.out fn tmps h1 h2
 |panicked c=>exact he.elim
 |outgrown=>exact he.elim
def retKD (R:World->Prop):KS where
 nrm:=λF w=>decD (F 4294967296)=[]/\R w
 ext:=λ_ _ _=>False
 ret:=λF w=>decD (F 4294967296)=[]/\R w
 pan:=λ_ _ _=>False
theorem zMw(hT:T.ok P=true)(hr0:T.round=false){ops:Array Oper}{rest:Code}{o:Oper}{os:List Oper}{d:Nat}{K:KS}{F:Nat->Value}{a:Act}{c₀:Frame}{cs:List Frame}{u:FrameMode}
  (ho:ops.toList=o::os)(hg:o.guard=none)(hd:o.dst=some d)(hdn:d<n)(hx:∀(ρ:Operand->Value) (w:World),(execOp ρ o).run P w=.ok .recover w)(hu:c₀.mode=u)(ha:Rel n F a)
  (h:opsS P T n ops.toList os (upd F d (recM u).1) (λF' w'=>S P T n rest K F' w') (λF' c w'=>K.pan F' c w') w):
  (Code.seq (.region i ops false) rest).wpSIn Fence.wide 0 P (λe a' cs' w'=>K.lift n F (λ_=>true) e a' w'/\cs' = { c₀ with mode:=(recM u).2 }::cs) a (c₀::cs) w:=by
 intro b k hb hro hF hroom
 have i0:(lone (b.atR a (.code (.seq (.region i ops false) rest)::k)) (c₀::cs) w).fenced P Fence.wide:=fenced_calm hF hroom rfl
 have i1:(lone (b.atR a (.code (.region i ops false)::.code rest::k)) (c₀::cs) w).fenced P Fence.wide:=fenced_calm hF hroom rfl
 have hop0:ops[0]? = some o:=by rw [<-Array.getElem?_toList,ho];rfl
 have hsz:ops.size=os.length+1:=by rw [<-Array.length_toList,ho];rfl
 have hrange:List.range ops.size=0::List.range' 1 os.length:=by rw [hsz,List.range_eq_range',List.range'_succ]
 have hw:Region.wanted o (yielded ops a.tmps)=true:=by simp [Region.wanted,hg]
 have habout:∀f,o.about P w a.eval=some f->Fence.wide.fn f:=λ_ _=>trivial
 have i2:(lone (b.atR a (.inRegion ops (0::List.range' 1 os.length)::.code rest::k)) (c₀::cs) w).fenced P Fence.wide:=fenced_oper hF hroom hop0 habout
 have hgs:=stepGR_op (P:=P) (b:=b) (k:=.code rest::k) (cs:=c₀::cs) (w:=w) (rest:=List.range' 1 os.length) hop0 hw
 rw [hro,Oper.semAt_none] at hgs
 have hfin:∀v,(b.atR a (.inRegion ops (0::List.range' 1 os.length)::.code rest::k)).finish v=b.atR (a.put o.dst v) (.inRegion ops (List.range' 1 os.length)::.code rest::k):=by
  intro v;rw [Frame.finish_atR,hop0];rfl
 have hk:(b.atR a (.inRegion ops (0::List.range' 1 os.length)::.code rest::k)).kind=.deferred:=hb
 have htr:=tryRecover_deferred hk (c₀::cs)
 have hstep:step P (lone (b.atR a (.inRegion ops (0::List.range' 1 os.length)::.code rest::k)) (c₀::cs) w) =
   .next (lone (b.atR (a.put o.dst (recM u).1) (.inRegion ops (List.range' 1 os.length)::.code rest::k)) ({ c₀ with mode:=(recM u).2 }::cs) w):=by
  refine step_lone_go ?_
  rw [hgs,<-hfin]
  simp only [Frame.atR,hro] at htr ⊢
  cases hrec:recoverD (c₀::cs) with
  |none =>
   have e1:(recM u)=(.nilIface,u):=by
    unfold recM
    split
    ·exfalso
     rename_i v older
     rw [recoverD,hu] at hrec
     cases hrec
    ·rfl
   have e2:({ c₀ with mode:=u }:Frame)=c₀:=by subst hu;rfl
   rw [e1]
   simp [stepG.apply,hx,htr,hrec,e2]
  |some p =>
   obtain⟨v,cs'⟩:=p
   have e1:(recM u).1=v/\{ c₀ with mode:=(recM u).2 }::cs=cs':=by
    simp only [recoverD] at hrec
    split at hrec
    ·rename_i v' older hm
     simp only [Option.some.injEq,Prod.mk.injEq] at hrec
     have hu':u=.panicking ({ v:=v',recovered:=false,goexit:=false }::older):=by rw [<-hu,hm]
     subst hu'
     exact⟨hrec.1,hrec.2⟩
    ·cases hrec
   obtain⟨e1,e2⟩:=e1
   rw [e1,e2]
   simp [stepG.apply,hx,htr,hrec]
 have ha1:Rel n (upd F d (recM u).1) (a.put o.dst (recM u).1):=by
  obtain⟨F',h1,_,h3⟩:=ha.put (d:=o.dst) (v:=(recM u).1) (k:=λG=>G=upd F d (recM u).1) (by
   rw [hd];show (match Nat.blt d n with|true=>_|false=>False)
   have:Nat.blt d n=true:=by rw [Nat.blt_eq];exact hdn
   rw [this])
  exact h3 ▸ h1
 have hlist:=zKY hT (md:=none) (by rw [hr0];rfl) ops (upd F d (recM u).1) _ _ os (λ_=>false) _ w _ ha1 (λ_ _=>rfl) h
 have hops:=(wpOpsIn_eq_wpListIn (F:=fw none) (n:=0) (P:=P) (ops:=ops) (Q:=LQ n (upd F d (recM u).1) (λt=>false || wrL os t) (λF' w'=>S P T n rest K F' w') (λF' c w'=>K.pan F' c w')) os 1 (λj=>by
  rw [<-Array.getElem?_toList,ho,Nat.add_comm];rfl))
 rw [<-hops] at hlist
 have hroom2:(fw none).room (({ c₀ with mode:=(recM u).2 }::cs).length+1+0):=zOf none _
 obtain⟨e,a',w',hq,harr⟩:=wp_opsIn _ _ _ hlist b (.code rest::k) ({ c₀ with mode:=(recM u).2 }::cs) hro trivial hroom2
 have hpre:StepsIn (Machine.fenced P Fence.wide) P (lone (b.atR a (.code (.seq (.region i ops false) rest)::k)) (c₀::cs) w) (lone (b.atR (a.put o.dst (recM u).1) (.inRegion ops (List.range' 1 os.length)::.code rest::k)) ({ c₀ with mode:=(recM u).2 }::cs) w):=by
  refine .head i0 stepR_seq (.head i1 ?_ (.one i2 hstep))
  rw [<-hrange];exact stepR_region
 cases e with
 |normal =>
  obtain⟨F',h1,_,h3⟩:=hq
  obtain⟨e2,a2,w2,hq2,harr2⟩:=zBA hT rest K F' w' h3 none (by rw [hr0];rfl) a' h1 b k ({ c₀ with mode:=(recM u).2 }::cs) hro trivial hroom2
  have harr1:StepsIn (Machine.fenced P Fence.wide) P _ _:=harr
  have harr3:ArrivesIn (Machine.fenced P Fence.wide) P _ b k _ e2 a2 w2:=harr2
  refine⟨e2,a2,{ c₀ with mode:=(recM u).2 }::cs,w2,rfl,⟨?_,rfl⟩,ArrivesIn.of_steps hpre (ArrivesIn.of_steps harr1 harr3)⟩
  cases e2 <;> simp only [KS.lift] at hq2 ⊢ <;> first|exact hq2.elim|(obtain⟨G,g1,_,g3⟩:=hq2;exact⟨G,g1,(λ_ ht=>by cases ht),g3⟩)
 |panic c =>
  obtain⟨F',h1,_,h3⟩:=hq
  obtain⟨todo,hs⟩:=harr
  exact⟨.panic c,a',{ c₀ with mode:=(recM u).2 }::cs,w',rfl,⟨⟨F',h1,(λ_ ht=>by cases ht),h3⟩,rfl⟩,ArrivesIn.of_steps hpre ⟨todo,hs⟩⟩
 |exit i=>exact hq.elim
 |goto i=>exact hq.elim
 |ret=>exact hq.elim
 |outgrown=>exact hq.elim
theorem SpD.enter(hT:T.ok P=true)(hr0:T.round=false){g:FuncId}{fn:Func}[hF:FnAt P g fn n]{args:Array Value}{u:FrameMode}{R:FrameMode->World->Prop}{ops:Array Oper}{rest:Code}{o:Oper}{os:List Oper}{d:Nat}
  (hc:codeOf fn=.seq (.region i ops false) rest)(hres:fn.results.toList=[])(ho:ops.toList=o::os)(hg:o.guard=none)(hd:o.dst=some d)(hdn:Nat.blt d n=true)(hx:∀(ρ:Operand->Value) (w:World),(execOp ρ o).run P w=.ok .recover w)
  (hs:Nat.ble args.size n=true)(hk:Nat.ble n 4294967296=true)
  (h:opsS P T n ops.toList os (upd (argF args.toList) d (recM u).1) (λF' w'=>S P T n rest (retKD (R (recM u).2)) F' w') (λ_ _ _=>False) w):SpD P g args u w R:=by
 have hn:=hF.hn
 subst hn
 obtain⟨c,hcc⟩:=Option.isSome_iff_exists.1 hF.hb
 have hc2:codeOf fn=c:=by simp [codeOf,hcc]
 rw [hc] at hc2
 refine⟨⟨fn,hF.hf,hF.hb,hF.hm⟩,callsDIn_of_wpSIn hF.hf hcc trivial λc₀ cs hu=>?_⟩
 rw [<-hc2]
 have hdn':d<fn.ntmps:=by rw [Nat.blt_eq] at hdn;exact hdn
 have hq:=zMw hT hr0 (i:=i) (K:=retKD (R (recM u).2)) (cs:=cs) (u:=u) ho hg hd hdn' hx hu (zHJ args fn.ntmps (Nat.le_of_ble_eq_true hs) (Nat.le_of_ble_eq_true hk)) h
 intro b k h1 h2 h3 h4
 obtain⟨e,a',cs',w',hl,⟨hq1,hcs⟩,harr⟩:=hq b k h1 h2 h3 h4
 refine⟨e,a',cs',w',hl,?_,harr⟩
 have hrun:∀tmps:Array Value,(results fn tmps).run P w'=.ok (.tuple #[]) w':=by
  intro tmps
  have:fn.results=#[]:=by apply Array.toList_inj.1;rw [hres]
  simp [results,this]
 cases e <;> simp only [KS.lift,retKD] at hq1 <;> simp only [bodyPostS]
 ·obtain⟨G,g1,_,g3,g4⟩:=hq1
  exact⟨by rw [g1.defers];exact g3,_,hcs,_,hrun _,g4⟩
 ·obtain⟨G,_,_,g3⟩:=hq1;exact g3.elim
 ·obtain⟨G,g1,_,g3,g4⟩:=hq1
  exact⟨by rw [g1.defers];exact g3,_,hcs,_,hrun _,g4⟩
 ·obtain⟨G,g1,_,g3⟩:=hq1;exact g3.elim
end
end Go.W
namespace Go.W
open Go Go.Proofs
open Enc (enc)
set_option maxRecDepth 10000
variable {B N hi i j k m n:Nat} {D:Nat -> Prop} {P:Program} {T:Tab} {a:Option Addr} {s:List UInt8} {u u' w w':World}
theorem zH4:∀{l:List UInt8} {c:UInt8},(∀x∈l,128<=x.toNat)->c.toNat<128->(OneB (l++[c])↔(l=[]\/c.toNat≠0))
 |[],c,_,hc=>by simp [OneB,hc]
 |[d],c,h,hc=>by
  have hd:=h d List.mem_cons_self
  simp [OneB,hc,hd]
 |d::e::r,c,h,hc=>by
  have ih:=zH4 (l:=e::r) (λx hx=>h x (List.mem_cons_of_mem _ hx)) hc
  have hd:=h d List.mem_cons_self
  show (128<=d.toNat/\OneB (e::(r++[c]))/\(r++[c]=[]->e.toNat≠0))↔_
  rw [show e::(r++[c])=(e::r)++[c] from rfl,ih]
  simp [hd]
theorem zMi{l t:List UInt8}{a:Nat}{c:UInt8}(hd:s.drop a=l++c::t)(hl:∀x∈l,128<=x.toNat)(hc:c.toNat<128)(n:Nat):RdAt s a n↔(n=valB (l++[c])/\n<=2147483647/\(l=[]\/c.toNat≠0)):=by
 have hd2:s.drop a=(l++[c])++t:=by rw [hd];simp
 rw [zJD hd2 (EndB.snoc hl hc) n,<-zH4 hl hc]
 constructor
 ·rintro⟨h1,h2,h3⟩;exact⟨h2,h1,by rw [<-h3];exact zCM n⟩
 ·rintro⟨h1,h2,h3⟩;exact⟨h2,h1,by rw [h1];exact zKX h3⟩
theorem pow7(k:Nat):(2:Nat) ^ (7*k)=128 ^ k:=by rw [Nat.pow_mul]
theorem zBI{a:Int}{b:Nat}(B:Bk w b [txt s,.int .i64 a,.bool false] E.qj)(hs:s.length<=4611686018427387904):
  Sp PP F.qu #[.pointer (some ⟨b,0,none⟩)] w λv w' =>
   ((∃A n:Nat,a=(A:Int)/\RdAt s A n/\v=.int .i64 (n:Int)/\Bk w' b [txt s,.int .i64 ((A+(numB n).length:Nat):Int),.bool false] E.qj) \/
   ((∀A n:Nat,a=(A:Int)->¬RdAt s A n)/\∃x a':Int,v=.int .i64 x/\Bk w' b [txt s,.int .i64 a',.bool true] E.qj))/\Fr (λi=>i=b) w w':=by
 have hsz:(⟨s.toArray⟩:ByteArray).size=s.length:=rfl
 refine en TBok rfl ?_
 refine drawR TBok mixed (λ_=>False) (upF 23 0) (by kernel_rfl) λu1 e1 _=>tld (B:=B) rfl nf (tld (B:=B) rfl nf (ite (λh0=>?_) (λh0=>?_)))
 ·have B1:=B.mv (w:=u1)
  refine rsto (B:=B1) (vs:=[.bool true]) rfl rfl rfl (zAo _) λu2 B2 f2 _=>?_
  exact⟨.inr ⟨λA n e=>by omega,0,a,rfl,B2⟩,(Fr.fr (Le.e (a:=w) (b:=u1))).trans f2⟩
 refine tld (B:=B) rfl nf (tld (B:=B) rfl nf (ite (λh1=>?_) (λh1=>?_)))
 ·have B1:=B.mv (w:=u1)
  refine rsto (B:=B1) (vs:=[.bool true]) rfl rfl rfl (zAo _) λu2 B2 f2 _=>?_
  refine⟨.inr ⟨λA n e hr=>?_,0,a,rfl,B2⟩,(Fr.fr (Le.e (a:=w) (b:=u1))).trans f2⟩
  have:=zN8 hr
  rw [hsz] at h1
  omega
 rw [hsz] at h1
 have q_:∃A:Nat,a=(A:Int):=⟨a.toNat,by omega⟩
 obtain⟨A,rfl⟩:=q_
 refine drawR TBok mixed (λ_=>False) (upF 12 0) (by kernel_rfl) λu2 e2 _=>tld (B:=B) rfl nf (tld (B:=B) rfl nf (rar (by rw [hsz];omega) (tmin ?_)))
 refine cnt1 TBok 44 [2,4,5] 3 43 5 (λk v u=>∃l t:List UInt8,v=.int .i64 (valB l:Nat)/\s.drop A=l++t/\l.length=k/\(∀x∈l,128<=x.toNat)/\Stp w u) rfl rfl ⟨[],s.drop A,rfl,rfl,rfl,by simp,stp⟩ ?_
 rintro k _ g u hk ⟨l,t,rfl,hd,hl,htop,e⟩
 have hlen:s.length - A=l.length+t.length:=by have:=congrArg List.length hd;simpa using this
 have hvb:valB l<128 ^ k:=by rw [<-hl];exact zLc l
 have hW:128 ^ k<=34359738368:=Nat.pow_le_pow_right (by decide) hk
 refine ite (λhlt=>?_) (λhge=>?_)
 ·rw [hsz] at hlt
  obtain⟨c,t',rfl⟩:∃c t',t=c::t':=by
   cases t with
   |nil=>simp at hlen;omega
   |cons c t'=>exact⟨c,t',rfl⟩
  have hget:s[A+k]? = some c:=by
   rw [<-List.getElem?_drop,hd,<-hl];simp
  have hk4:k<=4:=by omega
  have hW4:128 ^ k<=268435456:=Nat.pow_le_pow_right (by decide) hk4
  have hc256:=c.toNat_lt
  have hcm:c.toNat % 128<=127:=by omega
  have hprod:c.toNat % 128*128 ^ k<=127*128 ^ k:=Nat.mul_le_mul_right _ hcm
  have hvs:valB (l++[c])=valB l+c.toNat % 128*2 ^ (7*k):=by rw [zIl,hl,pow7,Nat.mul_comm]
  refine drawR TBok mixed (λ_=>False) (upF 13 0) (by kernel_rfl) λu3 e3 _=>tld (B:=B) rfl nf (tld (B:=B) rfl nf (rarE (y:=((A+k:Nat):Int)) (by omega) (by omega) (tsidx hget (tconvE (z:=(c.toNat:Int)) (zB2 (by omega) (by omega)) ?_))))
  refine rrem (by omega) (by omega) ?_
  refine rarE (y:=((7*k:Nat):Int)) (by omega) (by omega) (rshl (z:=((c.toNat % 128*2 ^ (7*k):Nat):Int)) (by omega) (by rw [Int.toNat_natCast];push_cast;rfl) (by rw [pow7];omega) ?_)
  refine SemV.of (v:=.int .i64 ((valB (l++[c]):Nat):Int)) (by rw [hvs];exact run_or (by rw [pow7];exact hvb) (by rw [pow7];omega) _) ?_
  clear hvs
  refine ite (λhc=>?_) (λhc=>?_)
  ·have hiff:=zMi hd htop (by omega:c.toNat<128)
   have B3:=B.mv (w:=u3)
   have F3:Fr (λi=>i=b) w u3:=Fr.fr (Le.e (a:=w) (b:=u3))
   refine ite (λhbig=>?pp) (λhbig=>?tt)
   case' pp =>
    have hno:∀n:Nat,¬RdAt s A n:=λn hr=>by have:=(hiff n).1 hr;omega
   case' tt=>refine ite (λhz=>?uu) (λhz=>?rr)
   case' uu=>refine ite (λhi=>?qq) (λhi=>?ss)
   case' qq =>
    have hno:∀n:Nat,¬RdAt s A n:=λn hr=>by
     have h3:=(hiff n).1 hr
     have q_:=h3.2.2
     rcases q_ with h|h
     ·subst h;simp at hl;omega
     ·omega
   case' rr =>
    have hyes:RdAt s A (valB (l++[c])):=(hiff _).2 ⟨rfl,by omega,.inr (by omega)⟩
   case' ss =>
    have hyes:RdAt s A (valB (l++[c])):=(hiff _).2 ⟨rfl,by omega,.inl (List.eq_nil_of_length_eq_zero (by omega))⟩
   case' pp|qq =>
    refine rsto (B:=B3) (vs:=[.bool true]) rfl rfl rfl (zAo _) λu4 B4 f4 _=>rld (B:=B4) rfl (rA (rA (rsto (B:=B4) (vs:=[.int .i64 _]) rfl rfl rfl (zAf _) λu5 B5 f5 _=>?_)))
    exact⟨.inr ⟨λA' n e hr=>hno n (Int.ofNat_inj.1 e ▸ hr),_,_,rfl,B5⟩,(F3.trans f4).trans f5⟩
   case' rr|ss =>
    refine rsto (B:=B3) (vs:=[.bool false]) rfl rfl rfl (zAo _) λu4 B4 f4 _=>rld (B:=B4) rfl (rA ?_)
    refine rarE (y:=((A+(numB (valB (l++[c]))).length:Nat):Int)) (by
     have h5:numB (valB (l++[c]))=l++[c]:=((zJD (by rw [hd];simp:s.drop A=(l++[c])++t') (EndB.snoc htop (by omega)) _).1 hyes).2.2
     rw [h5];simp;omega) (by
     have:=zD5 (n:=valB (l++[c])) hyes.1
     omega) ?_
    refine rsto (B:=B4) (vs:=[.int .i64 _]) rfl rfl rfl (zAf _) λu5 B5 f5 _=>?_
    exact⟨.inl ⟨A,_,rfl,hyes,rfl,B5⟩,(F3.trans f4).trans f5⟩
  ·refine rA ⟨rfl,by omega,l++[c],t',rfl,by rw [hd];simp,by simp [hl],λx hx=>?_,stp⟩
   have q_:=List.mem_append.1 hx
   rcases q_ with hx|hx
   ·exact htop x hx
   ·rw [List.mem_singleton.1 hx];omega
 ·rw [hsz] at hge
  have B3:=B.mv (w:=u)
  refine rsto (B:=B3) (vs:=[.bool true]) rfl rfl rfl (zAo _) λu4 B4 f4 _=>?_
  refine⟨.inr ⟨λA' n e hr=>?_,0,_,rfl,B4⟩,(Fr.fr (Le.e (a:=w) (b:=u))).trans f4⟩
  have hA:A'=A:=by omega
  subst hA
  refine zMh hd htop ?_ n hr
  by_cases h5:l.length=5
  ·exact .inl h5
  ·right;exact List.eq_nil_of_length_eq_zero (by omega)
theorem zEm{v:Value}:Sp PP F.q9 #[v] w λr w'=>r=.func (.func F.qu) #[v] #[]/\w'=w:=by
 refine en TBok rfl ?_
 exact⟨rfl,rfl⟩
theorem zGs{a:Int}(hs:s.length<=4611686018427387904):Sp PP F.dw #[txt s,.int .i64 a,.func (.func F.q9) #[] #[]] w λv w'=>RdV s a v/\Stp w w':=by
 refine en TBok rfl ?_
 refine rbuild (cs:=[txt s,.int .i64 a,.bool false]) rfl (rbx λb w1 n1 B1=>rcall (zEm) ?_)
 rintro _ _ ⟨rfl,rfl⟩
 refine rcall (zBI B1 hs) ?_
 rintro v w2 ⟨⟨A,n,rfl,hr,rfl,B2⟩|⟨hno,x,a',rfl,B2⟩,f2⟩
 ·have s2:Stp w w2:=⟨Fr.st Le.e f2 λi hi=>by subst hi;exact n1.lo⟩
  refine rld (B:=B2) rfl (drawR TBok mixed (λ_=>False) (upF 8 0) (by kernel_rfl) λu3 e3 _=>tld (B:=B2) rfl nf ?_)
  exact⟨.inl ⟨A,n,rfl,hr,rfl⟩,stp⟩
 ·have s2:Stp w w2:=⟨Fr.st Le.e f2 λi hi=>by subst hi;exact n1.lo⟩
  refine rld (B:=B2) rfl ?_
  exact⟨.inr ⟨hno,rfl⟩,stp⟩
theorem zCg{a:Int}(hs:s.length<=4611686018427387904):Sp PP F.yh #[txt s,.int .i64 a] w λv w'=>RdV s a v/\Stp w w':=by
 refine en TBok rfl ?_
 refine rcall (zGs hs) ?_
 rintro v w2 ⟨⟨A,n,rfl,hr,rfl⟩|⟨hno,rfl⟩,e2⟩
 ·exact⟨.inl ⟨A,n,rfl,hr,rfl⟩,stp⟩
 ·exact⟨.inr ⟨hno,rfl⟩,stp⟩
abbrev PanF:List PanicEntry:=[{ v:=.iface E.qk (.int .i64 220),recovered:=false }]
theorem zAb{b:Bool}:SpP PP F.cx #[.bool b] w (λv w'=>b=true/\v=.tuple #[]/\w'=w) (λc w'=>b=false/\c=PanF/\w'=w):=by
 refine enP TBok rfl ?_
 cases b
 ·refine rmki ?_
  exact rpanic ⟨rfl,rfl,rfl⟩
 ·exact⟨rfl,rfl,rfl⟩
theorem zAT{A b:Nat}(B:Bk w b [txt s,.int .i64 (A:Int)] E.qv)(hs:s.length<=4611686018427387904):
  SpP PP F.qq #[.pointer (some ⟨b,0,none⟩)] w (λv w'=>∃n:Nat,RdAt s A n/\v=.int .i64 (n:Int)/\Bk w' b [txt s,.int .i64 ((A+(numB n).length:Nat):Int)] E.qv/\Fr (λi=>i=b) w w')
   (λc w'=>c=PanF/\(∀n:Nat,¬RdAt s A n)/\Fr (λi=>i=b) w w'):=by
 refine enP TBok rfl ?_
 refine drawR TBok mixed (λ_=>False) (upF 16 0) (by kernel_rfl) λu1 e1 _=>tld (B:=B) rfl nf (tld (B:=B) rfl nf (rcall (zCg (a:=(A:Int)) hs) ?_))
 rintro v u2 ⟨⟨A',n,e,hr,rfl⟩|⟨hno,rfl⟩,e2⟩
 ·have q_:A=A':=Int.ofNat_inj.1 e
  obtain rfl:=q_
  refine⟨e2.e,?_⟩
  refine rcallP zAb ?_ ?_
  ·rintro _ u3 ⟨_,rfl,rfl⟩
   have B2:=B.mv (w:=u3)
   refine rsto (B:=B2) (vs:=[.int .i64 _]) rfl rfl rfl (zAf _) λu4 B4 f4 _=>?_
   exact⟨n,hr,rfl,B4,(Fr.fr (Le.e (a:=w) (b:=u3))).trans f4⟩
  ·rintro _ u3 ⟨h,_⟩;cases h
 ·refine⟨e2.e,?_⟩
  refine rcallP zAb ?_ ?_
  ·rintro _ u3 ⟨h,_⟩;cases h
  ·rintro _ u3 ⟨_,rfl,rfl⟩
   exact⟨rfl,λn=>hno A n rfl,Fr.fr (Le.e (a:=w) (b:=u3))⟩
theorem zDW{A b:Nat}(B:Bk w b [txt s,.int .i64 (A:Int)] E.qv)(hs:s.length<=4611686018427387904):
  SpP PP F.qw #[.pointer (some ⟨b,0,none⟩),.int .i64 (m:Int)] w (λv w'=>∃n:Nat,RdAt s A n/\n<=m/\v=.int .i64 (n:Int)/\Bk w' b [txt s,.int .i64 ((A+(numB n).length:Nat):Int)] E.qv/\Fr (λi=>i=b) w w')
   (λc w'=>c=PanF/\(∀n:Nat,RdAt s A n->¬n<=m)/\Fr (λi=>i=b) w w'):=by
 refine enP TBok rfl ?_
 refine rcallP (zAT B hs) ?_ ?_
 ·rintro _ u1 ⟨n,hr,rfl,B1,f1⟩
  refine ite (λh=>?_) (λh=>?_)
  ·refine rcallP zAb ?_ ?_
   ·rintro _ u2 ⟨_,rfl,rfl⟩
    exact⟨n,hr,by omega,rfl,B1,f1⟩
   ·rintro _ u3 ⟨h,_⟩;cases h
  ·refine rcallP zAb ?_ ?_
   ·rintro _ u3 ⟨h,_⟩;cases h
   ·rintro _ u2 ⟨_,rfl,rfl⟩
    refine⟨rfl,λk hk=>?_,f1⟩
    obtain⟨_,t,ht⟩:=hr
    obtain⟨_,t',ht'⟩:=hk
    have:=(zAc (ht.symm.trans ht')).1
    omega
 ·rintro _ u1 ⟨rfl,hno,f1⟩
  exact⟨rfl,λn hr=>(hno n hr).elim,f1⟩
theorem zBQ{A b:Nat}(B:Bk w b [txt s,.int .i64 (A:Int)] E.qv):
  SpP PP F.px #[.pointer (some ⟨b,0,none⟩)] w (λv w'=>v=.tuple #[]/\A=s.length/\Stp w w') (λc w'=>c=PanF/\A≠s.length/\Stp w w'):=by
 have hsz:(⟨s.toArray⟩:ByteArray).size=s.length:=rfl
 refine enP TBok rfl ?_
 refine drawR TBok mixed (λ_=>False) (upF 11 0) (by kernel_rfl) λu1 e1 _=>tld (B:=B) rfl nf (tld (B:=B) rfl nf (ite (λh=>?_) (λh=>?_)))
 ·refine rcallP zAb ?_ ?_
  ·rintro _ u2 ⟨_,rfl,rfl⟩
   exact⟨Fr.refl _ _,rfl,by rw [hsz] at h;omega,stp⟩
  ·rintro _ u3 ⟨h,_⟩;cases h
 ·refine rcallP zAb ?_ ?_
  ·rintro _ u3 ⟨h,_⟩;cases h
  ·rintro _ u2 ⟨_,rfl,rfl⟩
   exact panR rfl rfl ⟨rfl,by rw [hsz] at h;omega,stp⟩
theorem zAx{α:Type}{l:List α}(h:k<l.length)(z:α):l.getD k z=l[k]:=by simp [h]
theorem below{p:Nat->Prop}(h:∀j,j<k->p j)(hk:p k):∀j,j<k+1->p j:=λj hj=>by
 have q_:=Nat.lt_or_ge j k
 rcases q_ with h'|h'
 ·exact h j h'
 ·have q_:j=k:=by omega
  obtain rfl:=q_
  exact hk
theorem below2{p:(i:Nat)->i<n->Prop}(h:∀i,i<j->∀hl:i<n,p i hl)(hj:∀hl:j<n,p j hl):∀i,i<j+1->∀hl:i<n,p i hl:=λi hi hl=>by
 have q_:=Nat.lt_or_ge i j
 rcases q_ with h'|h'
 ·exact h i h' hl
 ·have q_:i=j:=by omega
  obtain rfl:=q_
  exact hj hl
end Go.W
namespace Go.W
variable {B N hi i j k m n:Nat} {D:Nat -> Prop} {P:Program} {T:Tab} {a:Option Addr} {s:List UInt8} {u u' w w':World}
structure KeyD where
 slot:Int
 dir:Int
 v:Int
deriving DecidableEq
structure PlD where
 key:KeyD
 n:Int
 used:Bool
def zKey:KeyD:=⟨0,0,0⟩
def zPl:PlD:=⟨zKey,0,false⟩
def mayK (k:KeyD):Prop:=0<=k.slot/\k.slot<=1000/\(k.dir=0\/k.dir=1)/\0<=k.v/\k.v<200
instance (k:KeyD):Decidable (mayK k):=by unfold mayK;exact inferInstance
def homeI (S:Nat) (k:KeyD):Int:=(k.slot*31+k.dir*17+k.v*7) % S
def homeN (S:Nat) (k:KeyD):Nat:=(homeI S k).toNat
theorem zI7{S:Nat}(hS:0<S)(k:KeyD):homeN S k<S:=by
 unfold homeN homeI
 have h1:=Int.emod_lt_of_pos (k.slot*31+k.dir*17+k.v*7) (show (0:Int)<S by omega)
 have h2:=Int.emod_nonneg (k.slot*31+k.dir*17+k.v*7) (show (S:Int)≠0 by omega)
 omega
abbrev RowF:=Nat->PlD
def upR1 (f:RowF) (i:Nat) (x:PlD):RowF:=λp=>if p=i then x else f p
theorem upR1_same(f:RowF)(i:Nat)(x:PlD):upR1 f i x i=x:=if_pos rfl
theorem zAd(f:RowF){p:Nat}(x:PlD)(h:p≠i):upR1 f i x p=f p:=if_neg h
def On (S a d p:Nat):Prop:=p<S/\(a+d=p\/a+d=p+S)
structure TabF (S:Nat) (f:RowF):Prop where
 path:∀i,i<S->(f i).used=true->∃d,d<S/\On S (homeN S (f i).key) d i/\∀e p,e<d->On S (homeN S (f i).key) e p->(f p).used=true
 uniq:∀i j,i<S->j<S->(f i).used=true->(f j).used=true->(f i).key=(f j).key->i=j
def FindAt (S:Nat) (f:RowF) (k:KeyD) (i:Nat):Prop:=
 ∃d,d<S/\On S (homeN S k) d i/\(∀e p,e<d->On S (homeN S k) e p->(f p).used=true/\(f p).key≠k)/\((f i).used=true->(f i).key=k)
def Has (S:Nat) (f:RowF) (k:KeyD) (n:Int):Prop:=∃i,i<S/\(f i).used=true/\(f i).key=k/\(f i).n=n
theorem Has.uniq{S:Nat}{f:RowF}(T:TabF S f){k:KeyD}{m n:Int}(h:Has S f k m)(h':Has S f k n):m=n:=by
 obtain⟨i,hi,u,e,rfl⟩:=h
 obtain⟨j,hj,u',e',rfl⟩:=h'
 rw [T.uniq i j hi hj u u' (e.trans e'.symm)]
theorem FindAt.lt{S:Nat}{f:RowF}{k:KeyD}(h:FindAt S f k i):i<S:=by obtain⟨d,_,h,_⟩:=h;exact h.1
theorem FindAt.has{S:Nat}{f:RowF}(T:TabF S f){k:KeyD}(h:FindAt S f k i){n:Int}:Has S f k n↔(f i).used=true/\(f i).n=n:=by
 obtain⟨d,hd,hi,hb,hk⟩:=h
 constructor
 ·rintro⟨j,hj,u,e,rfl⟩
  have q_:=T.path j hj u
  obtain⟨d',hd',hj',hp⟩:=q_
  rw [e] at hj' hp
  have q_:=Nat.lt_trichotomy d' d
  rcases q_ with hlt|rfl|hlt
  ·exact absurd e (hb d' j hlt hj').2
  ·have:i=j:=by unfold On at hi hj';omega
   subst this;exact⟨u,rfl⟩
  ·have hu:=hp d i hlt hi
   have:i=j:=T.uniq i j hi.1 hj hu u ((hk hu).trans e.symm)
   subst this;exact⟨u,rfl⟩
 ·rintro⟨u,rfl⟩
  exact⟨i,hi.1,u,hk u,rfl⟩
theorem TabF.put{S:Nat}{f:RowF}(T:TabF S f){k:KeyD}(h:FindAt S f k i)(n:Int):TabF S (upR1 f i ⟨k,n,true⟩):=by
 have hF:=h
 obtain⟨d,hd,hi,hb,hk⟩:=h
 have mono:∀p,(f p).used=true->(upR1 f i ⟨k,n,true⟩ p).used=true:=λp hp=>by
  by_cases e:p=i
  ·subst e;rw [upR1_same]
  ·rw [zAd _ _ e];exact hp
 have other:∀j,j<S->j≠i->(f j).used=true->(f j).key≠k:=λj hj hne u e=>by
  have:=(hF.has T (n:=(f j).n)).1 ⟨j,hj,u,e,rfl⟩
  exact hne (T.uniq j i hj hi.1 u this.1 (e.trans (hk this.1).symm))
 constructor
 ·intro j hj u
  by_cases e:j=i
  ·subst e
   rw [upR1_same]
   exact⟨d,hd,hi,λe p he hp=>mono p (hb e p he hp).1⟩
  ·rw [zAd _ _ e] at u ⊢
   have q_:=T.path j hj u
   obtain⟨d',h1,h2,h3⟩:=q_
   exact⟨d',h1,h2,λe p he hp=>mono p (h3 e p he hp)⟩
 ·intro a b ha hb' ua ub e
  by_cases ea:a=i <;> by_cases eb:b=i
  ·rw [ea,eb]
  ·subst ea
   rw [upR1_same] at e;rw [zAd _ _ eb] at e ub
   exact absurd e.symm (other b hb' eb ub)
  ·subst eb
   rw [upR1_same] at e;rw [zAd _ _ ea] at e ua
   exact absurd e (other a ha ea ua)
  ·rw [zAd _ _ ea,zAd _ _ eb] at e
   rw [zAd _ _ ea] at ua;rw [zAd _ _ eb] at ub
   exact T.uniq a b ha hb' ua ub e
theorem Has.put{S:Nat}{f:RowF}(T:TabF S f){k:KeyD}(h:FindAt S f k i)(n:Int){k':KeyD}{m:Int}:Has S (upR1 f i ⟨k,n,true⟩) k' m↔if k'=k then m=n else Has S f k' m:=by
 have hi:=h.lt
 by_cases e:k'=k
 ·subst e
  rw [if_pos rfl]
  have hT:=T.put h n
  constructor
  ·intro h'
   exact h'.uniq hT ⟨i,hi,by rw [upR1_same],by rw [upR1_same],by rw [upR1_same]⟩
  ·rintro rfl
   exact⟨i,hi,by rw [upR1_same],by rw [upR1_same],by rw [upR1_same]⟩
 ·rw [if_neg e]
  constructor
  ·rintro⟨j,hj,u,ek,en⟩
   have hne:j≠i:=by rintro rfl;rw [upR1_same] at ek;exact e ek.symm
   rw [zAd _ _ hne] at u ek en
   exact⟨j,hj,u,ek,en⟩
  ·rintro⟨j,hj,u,ek,en⟩
   have hne:j≠i:=by
    rintro rfl
    obtain⟨_,_,_,_,hk⟩:=h
    exact e (ek.symm.trans (hk u))
   exact⟨j,hj,by rw [zAd _ _ hne];exact u,by rw [zAd _ _ hne];exact ek,by rw [zAd _ _ hne];exact en⟩
structure GapF (S:Nat) (f:RowF) (g t:Nat):Prop where
 lt:g<S
 pos:1<=t
 gap:(f g).used=false
 path:∀i,i<S->(f i).used=true->∃d,d<S/\On S (homeN S (f i).key) d i/\(∀e p,e<d->On S (homeN S (f i).key) e p->p=g\/(f p).used=true)/\((∃s,1<=s/\s<t/\On S g s i)->∀e,e<d->¬On S (homeN S (f i).key) e g)
 run:∀s p,1<=s->s<t->On S g s p->(f p).used=true
 uniq:∀i j,i<S->j<S->(f i).used=true->(f j).used=true->(f i).key=(f j).key->i=j
theorem GapF.start{S:Nat}{f:RowF}(T:TabF S f){g:Nat}(hg:g<S):GapF S (upR1 f g zPl) g 1:=by
 refine⟨hg,Nat.le_refl _,by rw [upR1_same];rfl,λi hi u=>?_,λs p h1 h2=>by omega,λi j hi hj ui uj e=>?_⟩
 ·have hne:i≠g:=by rintro rfl;rw [upR1_same] at u;cases u
  rw [zAd _ _ hne] at u ⊢
  have q_:=T.path i hi u
  obtain⟨d,h1,h2,h3⟩:=q_
  refine⟨d,h1,h2,λe p he hp=>?_,λ⟨s,a,b,_⟩=>by omega⟩
  by_cases ep:p=g
  ·exact .inl ep
  ·rw [zAd _ _ ep];exact .inr (h3 e p he hp)
 ·have hi':i≠g:=by rintro rfl;rw [upR1_same] at ui;cases ui
  have hj':j≠g:=by rintro rfl;rw [upR1_same] at uj;cases uj
  rw [zAd _ _ hi',zAd _ _ hj'] at e
  rw [zAd _ _ hi'] at ui;rw [zAd _ _ hj'] at uj
  exact T.uniq i j hi hj ui uj e
theorem GapF.keep{S:Nat}{f:RowF}{g t d:Nat}(G:GapF S f g t)(hi:On S g t i)(ht:t<S)(hu:(f i).used=true)(hd:d<S)(ho:On S (homeN S (f i).key) d i)(hlt:d<t):GapF S f g (t+1):=by
 refine⟨G.lt,by omega,G.gap,λj hj u=>?_,λs p h1 h2 hp=>?_,G.uniq⟩
 ·have q_:=G.path j hj u
  obtain⟨d',h1,h2,h3,h4⟩:=q_
  refine⟨d',h1,h2,h3,?_⟩
  rintro⟨s,a,b,c⟩ e he hg
  have q_:=Nat.lt_or_ge s t
  rcases q_ with h|h
  ·exact h4 ⟨s,a,h,c⟩ e he hg
  ·have q_:s=t:=by omega
   obtain rfl:=q_
   have:j=i:=by unfold On at c hi;omega
   subst this
   unfold On at h2 ho hg hi
   omega
 ·have q_:=Nat.lt_or_ge s t
  rcases q_ with h|h
  ·exact G.run s p h1 h hp
  ·have q_:s=t:=by omega
   obtain rfl:=q_
   have:p=i:=by unfold On at hp hi;omega
   subst this;exact hu
theorem GapF.move{S:Nat}{f:RowF}{g t d:Nat}(G:GapF S f g t)(hi:On S g t i)(ht:t<S)(hu:(f i).used=true)(hd:d<S)(ho:On S (homeN S (f i).key) d i)(hge:t<=d):GapF S (upR1 (upR1 f g (f i)) i zPl) i 1:=by
 have hgi:g≠i:=by have:=G.lt;unfold On at hi;have:=G.pos;omega
 have h_i:upR1 (upR1 f g (f i)) i zPl i=zPl:=upR1_same _ _ _
 have h_g:upR1 (upR1 f g (f i)) i zPl g=f i:=by rw [zAd _ _ hgi,upR1_same]
 have h_o:∀p,p≠g->p≠i->upR1 (upR1 f g (f i)) i zPl p=f p:=λp h1 h2=>by rw [zAd _ _ h2,zAd _ _ h1]
 have hlt:=G.lt
 refine⟨hi.1,Nat.le_refl _,by rw [h_i];rfl,λj hj u=>?_,λs p h1 h2=>by omega,λa b ha hb ua ub e=>?_⟩
 ·have hji:j≠i:=by rintro rfl;rw [h_i] at u;cases u
  by_cases hjg:j=g
  ·subst hjg
   rw [h_g]
   have q_:=G.path i hi.1 hu
   obtain⟨d',h1,h2,h3,_⟩:=q_
   obtain rfl:d'=d:=by unfold On at h2 ho;omega
   refine⟨d' - t,by omega,?_,λe p he hp=>?_,λ⟨s,a,b,_⟩=>by omega⟩
   ·unfold On at *;omega
   ·right
    have hpg:p≠j:=by unfold On at *;omega
    have hpi:p≠i:=by unfold On at *;omega
    rw [h_o p hpg hpi]
    exact(h3 e p (by omega) hp).resolve_left hpg
  ·rw [h_o j hjg hji] at u ⊢
   have q_:=G.path j hj u
   obtain⟨d',h1,h2,h3,_⟩:=q_
   refine⟨d',h1,h2,λe p he hp=>?_,λ⟨s,a,b,_⟩=>by omega⟩
   by_cases hpi:p=i
   ·exact .inl hpi
   ·right
    by_cases hpg:p=g
    ·subst hpg;rw [h_g];exact hu
    ·rw [h_o p hpg hpi];exact(h3 e p he hp).resolve_left hpg
 ·have hai:a≠i:=by rintro rfl;rw [h_i] at ua;cases ua
  have hbi:b≠i:=by rintro rfl;rw [h_i] at ub;cases ub
  by_cases hag:a=g <;> by_cases hbg:b=g
  ·rw [hag,hbg]
  ·subst hag
   rw [h_g] at e;rw [h_o b hbg hbi] at e ub
   exact absurd (G.uniq i b hi.1 hb hu ub e).symm hbi
  ·subst hbg
   rw [h_g] at e;rw [h_o a hag hai] at e ua
   exact absurd (G.uniq a i ha hi.1 ua hu e) hai
  ·rw [h_o a hag hai,h_o b hbg hbi] at e
   rw [h_o a hag hai] at ua;rw [h_o b hbg hbi] at ub
   exact G.uniq a b ha hb ua ub e
theorem GapF.done{S:Nat}{f:RowF}{g t:Nat}(G:GapF S f g t)(hi:On S g t i)(ht:t<S)(hu:(f i).used=false):TabF S f:=by
 have hlt:=G.lt
 have hpos:=G.pos
 have hgi:g≠i:=by unfold On at hi;omega
 refine⟨λj hj u=>?_,G.uniq⟩
 have q_:=G.path j hj u
 obtain⟨d,h1,h2,h3,h4⟩:=q_
 refine⟨d,h1,h2,λe p he hp=>?_⟩
 have q_:=h3 e p he hp
 rcases q_ with rfl|h
 ·-- the way goes over the gap
  have hjp:j≠p:=by rintro rfl;rw [G.gap] at u;cases u
  have hji:j≠i:=by rintro rfl;rw [hu] at u;cases u
  obtain⟨s,hs1,hs2,hs⟩:∃s,1<=s/\s<S/\On S p s j:=by
   have q_:=Nat.lt_or_ge p j
   rcases q_ with h|h
   ·exact⟨j - p,by omega,by omega,hj,by omega⟩
   ·exact⟨j+S - p,by omega,by omega,hj,by omega⟩
  have q_:=Nat.lt_or_ge s t
  rcases q_ with hst|hst
  ·exact absurd hp (h4 ⟨s,hs1,hst,hs⟩ e he)
  ·have hse:d=e+s:=by unfold On at *;omega
   have hts:t≠s:=by rintro rfl;unfold On at *;omega
   have hq:=h3 (e+t) i (by omega) (by unfold On at *;omega)
   rcases hq with h|h
   ·exact absurd h.symm hgi
   ·rw [hu] at h;cases h
 ·exact h
abbrev rowF (R:List PlD):RowF:=λp=>R.getD p zPl
theorem zAX{R:List PlD}(h:i<R.length)(x:PlD):rowF (R.set i x)=upR1 (rowF R) i x:=by
 funext p
 unfold rowF upR1
 simp only [List.getD_eq_getElem?_getD,List.getElem?_set]
 by_cases e:p=i
 ·subst e;simp [h]
 ·rw [if_neg e,if_neg (Ne.symm e)]
theorem zA2{R:List PlD}(h:i<R.length):rowF R i=R[i]:=by unfold rowF;simp [h]
def usedN (R:List PlD):Nat:=R.countP (·.used)
theorem zDf{R:List PlD}(h:i<R.length)(x:PlD):usedN (R.set i x)+(if (rowF R i).used then 1 else 0)=usedN R+(if x.used then 1 else 0):=by
 unfold usedN
 rw [zA2 h,List.countP_set h]
 have hpos:R[i].used=true->0<R.countP (·.used):=λhu=>List.countP_pos_iff.2 ⟨R[i],List.getElem_mem h,hu⟩
 cases hu:R[i].used <;> simp only [hu,if_true,Bool.false_eq_true,if_false] <;> first|omega|(have:=hpos hu;omega)
theorem zGG{R:List PlD}(h:usedN R<R.length):∃p,p<R.length/\(rowF R p).used=false:=by
 have q_:=Classical.em (∃p,p<R.length/\(rowF R p).used=false)
 rcases q_ with h'|h'
 ·exact h'
 ·exfalso
  have:usedN R=R.length:=by
   unfold usedN
   rw [List.countP_eq_length]
   intro x hx
   have q_:=List.mem_iff_getElem.1 hx
   obtain⟨i,hi,rfl⟩:=q_
   cases hu:R[i].used with
   |true=>rfl
   |false=>exact absurd ⟨i,hi,by rw [zA2 hi];exact hu⟩ h'
  omega
theorem zKb{R:List PlD}{g:Nat}(hg:g<R.length)(h:usedN R<R.length)(hu:(rowF R g).used=true):∃s,1<=s/\s<R.length/\∃p,On R.length g s p/\(rowF R p).used=false:=by
 have q_:=zGG h
 obtain⟨p,hp,hf⟩:=q_
 have hne:p≠g:=by rintro rfl;rw [hu] at hf;cases hf
 have q_:=Nat.lt_or_ge g p
 rcases q_ with h'|h'
 ·exact⟨p - g,by omega,by omega,p,⟨hp,by omega⟩,hf⟩
 ·exact⟨p+R.length - g,by omega,by omega,p,⟨hp,by omega⟩,hf⟩
open Classical in
noncomputable def getT (R:List PlD) (k:KeyD):Option Int:=if h:∃n,Has R.length (rowF R) k n then some h.choose else none
abbrev TabL (R:List PlD):Prop:=TabF R.length (rowF R)
theorem zBx{R:List PlD}(T:TabL R){k:KeyD}{n:Int}:getT R k=some n↔Has R.length (rowF R) k n:=by
 unfold getT
 split
 ·rename_i h
  constructor
  ·intro e;injection e with e;rw [<-e];exact h.choose_spec
  ·intro e;rw [e.uniq T h.choose_spec]
 ·rename_i h
  exact⟨λe=>(by cases e),λe=>absurd ⟨n,e⟩ h⟩
theorem zF2{R:List PlD}(T:TabL R){M:KeyD->Option Int}(h:∀k n,Has R.length (rowF R) k n↔M k=some n):getT R=M:=by
 funext k
 cases hm:M k with
 |some n=>exact(zBx T).2 ((h k n).2 hm)
 |none =>
  cases hg:getT R k with
  |none=>rfl
  |some n=>have:=(h k n).1 ((zBx T).1 hg);rw [hm] at this;cases this
theorem zC1{R:List PlD}(T:TabL R){k:KeyD}(h:FindAt R.length (rowF R) k i):getT R k=if (rowF R i).used then some (rowF R i).n else none:=by
 cases hu:(rowF R i).used with
 |true=>rw [if_pos rfl];exact(zBx T).2 ((h.has T).2 ⟨hu,rfl⟩)
 |false =>
  rw [if_neg (by simp)]
  cases hg:getT R k with
  |none=>rfl
  |some n=>have:=(h.has T).1 ((zBx T).1 hg);rw [hu] at this;cases this.1
theorem zM8{R:List PlD}(T:TabL R){k:KeyD}(h:FindAt R.length (rowF R) k i)(n:Int):
  TabL (R.set i ⟨k,n,true⟩)/\getT (R.set i ⟨k,n,true⟩)=(λk'=>if k'=k then some n else getT R k')/\usedN (R.set i ⟨k,n,true⟩)=usedN R+(if getT R k=none then 1 else 0):=by
 have hi:=h.lt
 have hT:TabL (R.set i ⟨k,n,true⟩):=by
  unfold TabL;rw [List.length_set,zAX hi];exact T.put h n
 refine⟨hT,zF2 hT λk' m=>?_,?_⟩
 ·rw [List.length_set,zAX hi,Has.put T h n]
  by_cases e:k'=k
  ·rw [if_pos e,if_pos e];exact⟨λh=>by rw [h],λh=>by injection h with h;exact h.symm⟩
  ·rw [if_neg e,if_neg e];exact(zBx T).symm
 ·have:=zDf hi ⟨k,n,true⟩
  rw [zC1 T h]
  cases hu:(rowF R i).used
  ·rw [hu] at this;simp at this ⊢;omega
  ·rw [hu] at this;simp at this ⊢;omega
theorem Has.start{S:Nat}{f:RowF}(T:TabF S f){g:Nat}(hg:g<S)(hu:(f g).used=true){k:KeyD}{m:Int}:Has S (upR1 f g zPl) k m↔k≠(f g).key/\Has S f k m:=by
 constructor
 ·rintro⟨j,hj,u,e,en⟩
  have hne:j≠g:=by rintro rfl;rw [upR1_same] at u;cases u
  rw [zAd _ _ hne] at u e en
  exact⟨λe'=>hne (T.uniq j g hj hg u hu (e.trans e')),j,hj,u,e,en⟩
 ·rintro⟨hk,j,hj,u,e,en⟩
  have hne:j≠g:=by rintro rfl;exact hk e.symm
  exact⟨j,hj,by rw [zAd _ _ hne];exact u,by rw [zAd _ _ hne];exact e,by rw [zAd _ _ hne];exact en⟩
theorem Has.move{S:Nat}{f:RowF}{g t:Nat}(G:GapF S f g t)(hi:i<S)(hgi:g≠i)(hu:(f i).used=true){k:KeyD}{m:Int}:Has S (upR1 (upR1 f g (f i)) i zPl) k m↔Has S f k m:=by
 have h_i:upR1 (upR1 f g (f i)) i zPl i=zPl:=upR1_same _ _ _
 have h_g:upR1 (upR1 f g (f i)) i zPl g=f i:=by rw [zAd _ _ hgi,upR1_same]
 have h_o:∀p,p≠g->p≠i->upR1 (upR1 f g (f i)) i zPl p=f p:=λp h1 h2=>by rw [zAd _ _ h2,zAd _ _ h1]
 constructor
 ·rintro⟨j,hj,u,e,en⟩
  have hji:j≠i:=by rintro rfl;rw [h_i] at u;cases u
  by_cases hjg:j=g
  ·subst hjg;rw [h_g] at u e en;exact⟨i,hi,u,e,en⟩
  ·rw [h_o j hjg hji] at u e en;exact⟨j,hj,u,e,en⟩
 ·rintro⟨j,hj,u,e,en⟩
  have hjg:j≠g:=by rintro rfl;rw [G.gap] at u;cases u
  by_cases hji:j=i
  ·subst hji;exact⟨g,G.lt,by rw [h_g];exact u,by rw [h_g];exact e,by rw [h_g];exact en⟩
  ·exact⟨j,hj,by rw [h_o j hjg hji];exact u,by rw [h_o j hjg hji];exact e,by rw [h_o j hjg hji];exact en⟩
structure GapL (R:List PlD) (S:Nat) (M:KeyD->Option Int) (N g t:Nat):Prop where
 len:R.length=S
 gap:GapF S (rowF R) g t
 has:∀k m,Has S (rowF R) k m↔M k=some m
 n:usedN R=N
theorem GapL.start{R:List PlD}(T:TabL R){g:Nat}(hg:g<R.length)(hu:(rowF R g).used=true):
  GapL (R.set g zPl) R.length (λk=>if k=(rowF R g).key then none else getT R k) (usedN R - 1) g 1:=by
 refine⟨by simp,by rw [zAX hg];exact GapF.start T hg,λk m=>?_,?_⟩
 ·rw [zAX hg,Has.start T hg hu]
  by_cases e:k=(rowF R g).key
  ·rw [if_pos e];exact⟨λh=>absurd e h.1,λh=>by cases h⟩
  ·rw [if_neg e,zBx T];exact⟨λh=>h.2,λh=>⟨e,h⟩⟩
 ·have:=zDf hg zPl
  rw [hu] at this
  simp only [if_true,show zPl.used=false from rfl,Bool.false_eq_true,if_false] at this
  omega
theorem GapL.move{R:List PlD}{S:Nat}{M:KeyD->Option Int}{g t d:Nat}(G:GapL R S M N g t)(hi:On S g t i)(ht:t<S)(hu:(rowF R i).used=true)(hd:d<S)(ho:On S (homeN S (rowF R i).key) d i)(hge:t<=d):
  GapL ((R.set g (rowF R i)).set i zPl) S M N i 1:=by
 have hgl:=G.gap.lt
 have hil:=hi.1
 have hgi:g≠i:=by unfold On at hi;have:=G.gap.pos;omega
 have h1:g<R.length:=by rw [G.len];exact hgl
 have h2:i<(R.set g (rowF R i)).length:=by rw [List.length_set,G.len];exact hil
 have e:rowF ((R.set g (rowF R i)).set i zPl)=upR1 (upR1 (rowF R) g (rowF R i)) i zPl:=by rw [zAX h2,zAX h1]
 refine⟨by simp [G.len],by rw [e];exact G.gap.move hi ht hu hd ho hge,λk m=>?_,?_⟩
 ·rw [e,Has.move G.gap hil hgi hu];exact G.has k m
 ·have a:=zDf h1 (rowF R i)
  have b:=zDf h2 zPl
  rw [zAX h1,zAd _ _ (Ne.symm hgi),hu] at b
  rw [G.gap.gap,hu] at a
  simp only [if_true,show zPl.used=false from rfl,Bool.false_eq_true,if_false] at a b
  have:=G.n
  omega
theorem GapL.keep{R:List PlD}{S:Nat}{M:KeyD->Option Int}{g t d:Nat}(G:GapL R S M N g t)(hi:On S g t i)(ht:t<S)(hu:(rowF R i).used=true)(hd:d<S)(ho:On S (homeN S (rowF R i).key) d i)(hlt:d<t):GapL R S M N g (t+1):=
 ⟨G.len,G.gap.keep hi ht hu hd ho hlt,G.has,G.n⟩
theorem GapL.done{R:List PlD}{S:Nat}{M:KeyD->Option Int}{g t:Nat}(G:GapL R S M N g t)(hi:On S g t i)(ht:t<S)(hu:(rowF R i).used=false):TabL R/\getT R=M/\usedN R=N:=by
 have hT:TabL R:=by unfold TabL;rw [G.len];exact G.gap.done hi ht hu
 exact⟨hT,zF2 hT λk n=>by rw [G.len];exact G.has k n,G.n⟩
end Go.W
namespace Go.W
open Go Go.Proofs
open Enc (enc)
set_option maxRecDepth 10000
variable {B N hi i j k m n:Nat} {D:Nat -> Prop} {P:Program} {T:Tab} {a:Option Addr} {s:List UInt8} {u u' w w':World}
instance:Enc KeyD:=⟨3,λx=>[.int .i64 x.slot,.int .i64 x.dir,.int .i64 x.v],λ_=>rfl,by intro x u hu;simp at hu;rcases hu with rfl|rfl|rfl <;> rfl,by decide⟩
instance:Enc PlD:=⟨5,λx=>[.int .i64 x.key.slot,.int .i64 x.key.dir,.int .i64 x.key.v,.int .i64 x.n,.bool x.used],λ_=>rfl,by intro x u hu;simp at hu;rcases hu with rfl|rfl|rfl|rfl|rfl <;> rfl,by decide⟩
instance:EqT PP E.ql KeyD:=⟨by kernel_rfl,λd x y w=>⟨_,by
  rw [zG0 (l:=[(E.qa,0),(E.qa,1),(E.qa,2)]) (by kernel_rfl) (d+7)]
  exact zDl rfl rfl (zDl rfl rfl (zDl rfl rfl (zKK _ _ _ _))),by cases x;cases y;simp⟩⟩
theorem may_sp{k:KeyD}:Sp PP F.qaz #[agg k] w λv w'=>Tells (mayK k) v/\Stp w w':=by
 refine en TBok rfl ?_
 refine rbx λb w1 n1 B1=>?_
 refine rld rfl ?_
 refine ite (λh1=>?_) (λh1=>⟨.f λm=>h1 m.1,stp⟩)
 refine rld rfl ?_
 refine ite (λh2=>?_) (λh2=>⟨.f λm=>h2 m.2.1,stp⟩)
 refine rld rfl ?_
 refine ite (λh3=>?pos) (λh3=>?neg)
 case' neg =>
  refine rld rfl ?_
  refine ite (λh4=>?one) (λh4=>⟨.f λm=>by have:=m.2.2.1;omega,stp⟩)
 all_goals
  refine rld rfl ?_
  refine ite (λh5=>?_) (λh5=>⟨.f λm=>h5 m.2.2.2.1,stp⟩)
  refine rld rfl ?_
  refine ite (λh6=>?_) (λh6=>⟨.f λm=>h6 m.2.2.2.2,stp⟩)
  exact⟨.t ⟨h1,h2,by omega,h5,h6⟩,stp⟩
theorem zMV(hn:0<n)(k:KeyD):((homeN n k:Nat):Int)=(k.slot*31+k.dir*17+k.v*7) % n:=Int.toNat_of_nonneg (Int.emod_nonneg _ (by omega))
theorem zKR{b c:Nat}{m u:Int}{k:KeyD}(B:Bk w b [.slice a n c,.int .i64 m,.int .i64 u] E.qx)(hn:0<n/\n<=1000)(hk:mayK k):
  Sp PP F.p5 #[.pointer (some ⟨b,0,none⟩),agg k] w λv w'=>v=.int .i64 ((homeN n k:Nat):Int)/\Stp w w':=by
 have e:=zMV hn.1 k
 obtain⟨h1,h2,h3,h4,h5⟩:=hk
 refine en TBok rfl ?_
 refine rbx λbk w1 n1 B1=>drawR TBok mixed (λ_=>False) (upF 18 0) (by kernel_rfl) λu1 e1 _=>tld (B:=B1) rfl nf (rA ?_)
 refine tld (B:=B1) rfl nf (rA (rA ?_))
 refine tld (B:=B1) rfl nf (rA (rA ?_))
 refine tld (B:=B) rfl nf (rrem (by omega) (by omega) ?_)
 exact⟨congrArg (Value.int .i64) e.symm,stp⟩
def aftN (n i:Nat):Nat:=if i+1=n then 0 else i+1
theorem zG8(h:i<n):On n i 1 (aftN n i):=by unfold aftN On;split <;> omega
theorem zDN{b c:Nat}{m u:Int}(B:Bk w b [.slice a n c,.int .i64 m,.int .i64 u] E.qx)(hn:0<n/\n<=1000)(hi:i<n):
  Sp PP F.po #[.pointer (some ⟨b,0,none⟩),.int .i64 i] w λv w'=>v=.int .i64 ((aftN n i:Nat):Int)/\Stp w w':=by
 have e:((i:Int)+1) % (n:Int)=((aftN n i:Nat):Int):=by
  unfold aftN
  split
  ·rename_i h
   rw [show (i:Int)+1=(n:Int) by omega];simp
  ·rw [Int.emod_eq_of_lt (by omega) (by omega)];rfl
 refine en TBok rfl ?_
 refine rA ?_
 refine rld rfl ?_
 refine rrem (by omega) (by omega) ?_
 exact⟨congrArg (Value.int .i64) e,stp⟩
structure TabH (B:Nat) (w:World) (b:Nat) (a:Option Addr) (c most:Nat) (R:List PlD):Prop where
 cell:Bk w b [.slice a (2*most) c,.int .i64 most,.int .i64 (usedN R:Nat)] E.qx
 row:Own B E.q4 w (.slice a (2*most) c) R
 len:R.length=2*most
 tab:TabL R
 bnd:1<=most/\most<=400/\usedN R<=most
 may:∀x∈R,x.used=true->mayK x.key
 zero:∀x∈R,x.used=false->x=zPl
theorem TabH.up[L:Le w w']{b:Nat}{c most:Nat}{R:List PlD}(h:TabH B w b a c most R):TabH B w' b a c most R:=⟨h.cell.mv,h.row.up,h.len,h.tab,h.bnd,h.may,h.zero⟩
def distN (S a p:Nat):Nat:=if a<=p then p - a else p+S - a
theorem zCF{S a d p:Nat}(hd:d<S)(h:On S a d p):distN S a p=d:=by unfold distN;unfold On at h;split <;> omega
theorem zJl{S a p:Nat}(ha:a<S)(hp:p<S):distN S a p<S/\On S a (distN S a p) p:=by unfold distN On;split <;> omega
theorem zFk{b c most:Nat}{R:List PlD}{k:KeyD}(T:TabH B w b a c most R)(hk:mayK k):
  Sp PP F.p4 #[.pointer (some ⟨b,0,none⟩),agg k] w λv w'=>(∃i:Nat,v=.int .i64 i/\FindAt R.length (rowF R) k i)/\Stp w w':=by
 have q_:=T.bnd
 obtain⟨hm1,hm2,hm3⟩:=q_
 have hlen:=T.len
 have hfree:=zGG (R:=R) (by omega)
 obtain⟨p0,hp0,hf0⟩:=hfree
 have hh:=zI7 (S:=R.length) (by omega) k
 refine en TBok rfl ?_
 refine rbx λbk w1 n1 B1=>?_
 have C1:=T.cell.mv (w:=w1)
 refine rldG (B:=B1) rfl rfl ?_
 refine rcall (zKR (k:=k) C1 (by omega) hk) ?_
 rintro v w2 ⟨rfl,e2⟩
 rw [<-hlen]
 refine loop1 TBok 6 [] 5 (λv u=>∃i d:Nat,v=.int .i64 i/\d<R.length/\On R.length (homeN R.length k) d i/\(∀e p,e<d->On R.length (homeN R.length k) e p->(rowF R p).used=true/\(rowF R p).key≠k)/\Stp w1 u)
  (λv _=>R.length - distN R.length (homeN R.length k) (Go.RowKit.intOf v).toNat) rfl ⟨homeN R.length k,0,rfl,by omega,⟨hh,by omega⟩,λe p he=>by omega,stp⟩ ?_
 rintro v g u ⟨i,d,rfl,hd,hi,hb,e⟩
 have hil:=hi.1
 have hRi:rowF R i=R[i]:=zA2 hil
 have C:=T.cell.mv (w:=u)
 have O:=T.row.sl.up (w':=u)
 refine drawR TBok mixed (λ_=>False) (upF 20 0) (by kernel_rfl) λu1 e1 _=>?_
 by_cases hu:R[i].used=true
 ·refine tld (B:=C) rfl nf ?_
  refine tix (O.up (w':=u1)) (x:=R[i]) (by simp) λb4 o4 A4 _=>tload1 (v:=.bool true) (A4.cell 4 (by simp [enc,hu])) nf ?_
  refine tld (B:=C) rfl nf ?_
  refine tix (O.up (w':=u1)) (x:=R[i]) (by simp) λb5 o5 A5 _=>tloadA (cs:=enc R[i].key) (A5.sub 0 3) rfl nf ?_
  refine tldG (B:=B1) rfl rfl nf ?_
  refine tgne KeyD R[i].key k (λhne=>?_) (λhe=>?_)
  ·refine rcall (zDN (n:=2*most) (i:=i) (C.mv (w:=u1)) (by omega) (by omega)) ?_
   rintro v u2 ⟨rfl,e2'⟩
   have ha:=zG8 (n:=R.length) hil
   rw [<-hlen]
   have hlast:d+1<R.length:=by
    have q_:=Nat.lt_or_ge (d+1) R.length
    rcases q_ with h|h
    ·exact h
    ·exfalso
     have hd0:=zJl hh hp0
     have q_:=Nat.lt_or_ge (distN R.length (homeN R.length k) p0) d
     rcases q_ with h'|h'
     ·have:=(hb _ p0 h' hd0.2).1;rw [hf0] at this;cases this
     ·have:p0=i:=by have:=hd0.1;have:=hd0.2;unfold On at *;omega
      subst this;rw [hRi,hu] at hf0;cases hf0
   have ho:On R.length (homeN R.length k) (d+1) (aftN R.length i):=by unfold On at *;omega
   refine⟨⟨aftN R.length i,d+1,rfl,hlast,ho,λe p he hp=>?_,stp⟩,?_⟩
   ·have q_:=Nat.lt_or_ge e d
    rcases q_ with h'|h'
    ·exact hb e p h' hp
    ·have q_:e=d:=by omega
     obtain rfl:=q_
     obtain rfl:p=i:=by unfold On at hp hi;omega
     rw [hRi];exact⟨hu,hne⟩
   ·show R.length - distN R.length (homeN R.length k) (aftN R.length i)<R.length - distN R.length (homeN R.length k) i
    rw [zCF hlast ho,zCF hd hi];omega
  ·exact⟨⟨i,rfl,d,hd,hi,hb,λ_=>by rw [hRi];exact he⟩,stp⟩
 ·have hu:R[i].used=false:=by simpa using hu
  refine tld (B:=C) rfl nf ?_
  refine tix (O.up (w':=u1)) (x:=R[i]) (by simp) λb4 o4 A4 _=>tload1 (v:=.bool false) (A4.cell 4 (by simp [enc,hu])) nf ?_
  exact⟨⟨i,rfl,d,hd,hi,hb,λh=>by rw [hRi,hu] at h;cases h⟩,stp⟩
structure TS where
 M:KeyD->Option Int
 u:Nat
def putTS (most:Nat) (s:TS) (k:KeyD) (n:Int):TS×Int:=
 if mayK k then (match s.M k with
  |some _=>(⟨λk'=>if k'=k then some n else s.M k',s.u⟩,0)
  |none=>if s.u=most then (s,140) else (⟨λk'=>if k'=k then some n else s.M k',s.u+1⟩,0))
 else (s,1)
def getTS (s:TS) (k:KeyD):Int×Bool:=match s.M k with|some n=>(n,true)|none=>(0,false)
def dropTS (s:TS) (k:KeyD):TS×Bool:=match s.M k with|some _=>(⟨λk'=>if k'=k then none else s.M k',s.u - 1⟩,true)|none=>(s,false)
def zTS:TS:=⟨λ_=>none,0⟩
def TabS (B:Nat) (w:World) (b:Nat) (a:Option Addr) (c most:Nat) (s:TS):Prop:=B<=b/\∃R,TabH B w b a c most R/\getT R=s.M/\usedN R=s.u
def tabD (B b:Nat) (a:Option Addr) (c most:Nat):Nat->Prop:=λi=>i=b\/ownD B (.slice a (2*most) c) i
theorem TabS.up[L:Le w w']{b:Nat}{c most:Nat}{s:TS}(h:TabS B w b a c most s):TabS B w' b a c most s:=by
 obtain⟨h0,R,h1,h2⟩:=h;exact⟨h0,R,h1.up,h2⟩
theorem zEl(n:Nat):usedN (List.replicate n zPl)=0:=by
 unfold usedN;rw [List.countP_eq_zero];intro x hx;rw [(List.mem_replicate.1 hx).2];simp [zPl]
theorem rowF_zero(n p:Nat):rowF (List.replicate n zPl) p=zPl:=by
 unfold rowF;rw [List.getD_eq_getElem?_getD,List.getElem?_replicate];split <;> rfl
theorem zJV(n:Nat):TabL (List.replicate n zPl)/\getT (List.replicate n zPl)=λ_=>none:=by
 have hT:TabL (List.replicate n zPl):=by
  constructor
  ·intro i hi u;rw [rowF_zero] at u;cases u
  ·intro i j hi hj u;rw [rowF_zero] at u;cases u
 refine⟨hT,zF2 hT λk m=>⟨?_,λh=>by cases h⟩⟩
 rintro⟨i,_,u,_⟩
 rw [rowF_zero] at u;cases u
theorem zFe{most:Int}:Sp PP F.qam #[.int .i64 most] w λv w' =>
  ((most<1\/400<most)/\v=.tuple #[.pointer none,.int .i64 1]\/∃(N b:Nat) (a:Option Addr) (c:Nat),most=(N:Int)/\1<=N/\N<=400/\v=.tuple #[.pointer (some ⟨b,0,none⟩),.int .i64 0]/\TabS w.heap.size w' b a c N zTS)/\Stp w w':=by
 refine en TBok rfl ?_
 refine ite (λh1=>⟨.inl ⟨.inl h1,rfl⟩,stp⟩) (λh1=>?_)
 refine ite (λh2=>⟨.inl ⟨.inr h2,rfl⟩,stp⟩) (λh2=>?_)
 have q_:=Int.eq_ofNat_of_zero_le (show (0:Int)<=most by omega)
 obtain⟨N,rfl⟩:=q_
 refine rarE (y:=((2*N:Nat):Int)) (by omega) (by omega) (rmk zPl rfl rfl (by omega) λg w1 O1 s1 hg=>rbuild (cs:=[.slice (some ⟨g,0,none⟩) (2*N) (2*N),.int .i64 (N:Nat),.int .i64 0]) rfl (rbx λb w2 n2 B2=>?_))
 refine⟨.inr ⟨N,b,some ⟨g,0,none⟩,2*N,rfl,by omega,by omega,rfl,n2.lo,_,⟨?_,O1.up,by simp,(zJV _).1,⟨by omega,by omega,by rw [zEl];omega⟩,λx hx u=>?_,λx hx _=>(List.mem_replicate.1 hx).2⟩,(zJV _).2,zEl _⟩,stp⟩
 ·rw [zEl];exact B2
 ·rw [(List.mem_replicate.1 hx).2] at u;cases u
theorem zI3{b c most:Nat}{R:List PlD}(T:TabH B w b a c most R){k:KeyD}(h:¬mayK k):getT R k=none:=by
 cases hg:getT R k with
 |none=>rfl
 |some n =>
  have q_:=(zBx T.tab).1 hg
  obtain⟨i,hi,hu,hk,_⟩:=q_
  rw [zA2 hi] at hu hk
  exact absurd (hk ▸ T.may _ (List.getElem_mem hi) hu) h
theorem Get_sp{b c most:Nat}{s:TS}{k:KeyD}(T:TabS B w b a c most s):
  Sp PP F.de #[.pointer (some ⟨b,0,none⟩),agg k] w λv w'=>v=.tuple #[.int .i64 (getTS s k).1,.bool (getTS s k).2]/\Stp w w':=by
 obtain⟨_,R,T,hM,hu⟩:=T
 refine en TBok rfl ?_
 refine rbx λbk w1 n1 B1=>?_
 refine rpnil ?_
 refine rldG (B:=B1) rfl rfl ?_
 refine rcall may_sp ?_
 rintro v w2 ⟨⟨rfl,hk⟩|⟨rfl,hk⟩,e2⟩
 ·have T2:=T.up (w':=w2)
  have hlen:=T.len
  have base:∀i:Nat,FindAt R.length (rowF R) k i->∃hi:i<R.length,getTS s k=(R[i].n,R[i].used):=by
   intro i hF
   refine⟨hF.lt,?_⟩
   have h1:=zC1 T.tab hF
   rw [zA2 hF.lt,hM] at h1
   unfold getTS
   rw [h1]
   cases hui:(R[i]'(hF.lt)).used with
   |true=>simp only [if_true]
   |false =>
    have hz:=T.zero _ (List.getElem_mem hF.lt) hui
    simp only [Bool.false_eq_true,if_false]
    rw [hz];rfl
  have C:=T2.cell;have O:=T2.row
  refine drawRT TBok mixed (λi=>w2.heap.size<=i) (.one 0 (.one 1 (.one 2 (.one 3 (.one 4 (.one 5 (.two 6 (.one 7 (.one 8 (.one 9 (.one 10 .nil)))) 9 (.one 6 (.one 7 (.one 8 (.one 10 .nil))))))))))) (by kernel_rfl) λu1 e1 _=>?_
  have zC:=C.lt
  refine tld (B:=C) rfl (by omega) ?_
  refine tldG (B:=B1) rfl rfl (by have:=B1.lt;have:=Le.size (a:=w1) (b:=w2);omega) ?_
  have hOlt:∀g,Value.blk (.slice a (2*most) c)=some g->R≠[]->g<w2.heap.size:=λg hg hne=>by
   obtain⟨g',h1,_,h2⟩:=O.lt hne;rw [hg] at h1;cases h1;exact h2
  refine⟨?_,?_⟩
  ·refine rcall (zFk (T.up (w':=u1)) hk) ?_
   rintro v u2 ⟨⟨i,rfl,hF⟩,e2'⟩
   have hb:=base i hF;obtain⟨hi,hget⟩:=hb
   refine⟨e2'.e.fr,?_⟩
   refine tix (O.sl.up (w':=u2)) (x:=R[i]) (by simp) λb4 o4 A4 hb4=>tloadA A4 rfl (by have:=hOlt _ hb4 (by rintro rfl;simp at hi);omega) ?_
   refine ral λb5 u3 n5 z5=>⟨n5.e.fr,?_⟩
   refine rsto (B:=z5) (vs:=enc R[i]) rfl rfl rfl (Enc.one _) λu4 B5 f5 _=>?_
   have s5:Stp u2 u4:=⟨Fr.st Le.e f5 λi hi=>by subst hi;exact n5.lo⟩
   refine⟨f5.mono λi _ hi=>by subst hi;exact n5.lo,?_⟩
   clear z5
   refine drawR TBok mixed (λ_=>False) (upF 6 0) (by kernel_rfl) λu5 e5 _=>?_
   refine tld (B:=B5) rfl nf (tld (B:=B5) rfl nf ?_)
   rw [hget]
   exact⟨rfl,stp⟩
  ·refine ral λb5 u3 n5 z5=>⟨n5.e.fr,?_⟩
   refine rcall (zFk (T.up (w':=u3)) hk) ?_
   rintro v u2 ⟨⟨i,rfl,hF⟩,e2'⟩
   have hb:=base i hF;obtain⟨hi,hget⟩:=hb
   refine⟨e2'.e.fr,?_⟩
   refine tix (O.sl.up (w':=u2)) (x:=R[i]) (by simp) λb4 o4 A4 hb4=>tloadA A4 rfl (by have:=hOlt _ hb4 (by rintro rfl;simp at hi);omega) ?_
   have z5':=z5.mv (w:=u2)
   refine rsto (B:=z5') (vs:=enc R[i]) rfl rfl rfl (Enc.one _) λu4 B5 f5 _=>?_
   have s5:Stp u1 u4:=⟨Fr.st Le.e f5 λi hi=>by subst hi;exact n5.lo⟩
   refine⟨f5.mono λi _ hi=>by subst hi;exact n5.lo,?_⟩
   clear z5 z5'
   refine drawR TBok mixed (λ_=>False) (upF 6 0) (by kernel_rfl) λu5 e5 _=>?_
   refine tld (B:=B5) rfl nf (tld (B:=B5) rfl nf ?_)
   rw [hget]
   exact⟨rfl,stp⟩
 ·have hg:=zI3 T hk
  rw [hM] at hg
  unfold getTS;rw [hg]
  exact⟨rfl,stp⟩
theorem zAw{R:List PlD}{y x:PlD}(h:x∈R.set i y):x∈R\/x=y:=List.mem_or_eq_of_mem_set h
theorem Put_sp{b c most:Nat}{s:TS}{k:KeyD}{n:Int}(T:TabS B w b a c most s):
  Sp PP F.yl #[.pointer (some ⟨b,0,none⟩),agg k,.int .i64 n] w λv w'=>v=.int .i64 (putTS most s k n).2/\TabS B w' b a c most (putTS most s k n).1/\Fr (tabD B b a c most) w w':=by
 have TT:=T
 obtain⟨hB,R,T,hM,hu⟩:=T
 refine en TBok rfl ?_
 refine rbx λbk w1 n1 B1=>?_
 refine rpnil ?_
 refine rldG (B:=B1) rfl rfl ?_
 refine rcall may_sp ?_
 rintro v w2 ⟨⟨rfl,hk⟩|⟨rfl,hk⟩,e2⟩
 ·refine rldG (B:=B1) rfl rfl ?_
  refine rcall (zFk (T.up (w':=w2)) hk) ?_
  rintro v w3 ⟨⟨i,rfl,hF⟩,e3⟩
  have hi:=hF.lt
  have hlen:=T.len
  have hsp:=zM8 T.tab hF n
  obtain⟨hT',hM',hu'⟩:=hsp
  have hgf:=zC1 T.tab hF
  rw [zA2 hi] at hgf
  have C:=T.cell.mv (w:=w3);have O:=T.row.up (w':=w3)
  have hmay':∀x∈R.set i ⟨k,n,true⟩,x.used=true->mayK x.key:=λx hx hux=>by
   have q_:=zAw hx
   rcases q_ with h|rfl
   ·exact T.may x h hux
   ·exact hk
  have hzero':∀x∈R.set i ⟨k,n,true⟩,x.used=false->x=zPl:=λx hx hux=>by
   have q_:=zAw hx
   rcases q_ with h|rfl
   ·exact T.zero x h hux
   ·cases hux
  refine rld (B:=C) rfl ?_
  refine rix O.sl (x:=R[i]) (by simp) λb4 o4 A4=>?_
  have D3:Fr (tabD B b a c most) w w3:=Fr.fr Le.e
  by_cases hur:R[i].used=true
  case' neg =>
   have hur:R[i].used=false:=by simpa using hur
   rw [hur,if_neg (by simp)] at hgf
   rw [hgf,if_pos rfl] at hu'
   refine rload1 (v:=.bool false) (A4.cell 4 (by simp [enc,hur])) ?_
   refine drawR TBok mixed (λ_=>False) (upF 9 0) (by kernel_rfl) λu1 e1 _=>?_
   refine tld (B:=C) rfl nf (tld (B:=C) rfl nf ?_)
   refine ite (λhfull=>?_) (λhfull=>?_)
   ·have hp:putTS most s k n=(s,140):=by
     unfold putTS;rw [if_pos hk,<-hM,hgf];simp only;rw [if_pos (by omega)]
    rw [hp]
    exact⟨rfl,TT.up,Fr.fr Le.e⟩
   have hp:putTS most s k n=(⟨λk'=>if k'=k then some n else s.M k',s.u+1⟩,0):=by
    unfold putTS;rw [if_pos hk,<-hM,hgf];simp only;rw [if_neg (by omega)]
   rw [hp]
   have hb:=T.bnd
   refine rld (B:=C) rfl ?_
   refine rarE (y:=((usedN (R.set i ⟨k,n,true⟩):Nat):Int)) (by omega) (by omega) ?_
   have C2:=C.mv (w:=u1)
   refine rsto (B:=C2) (vs:=[.int .i64 ((usedN (R.set i ⟨k,n,true⟩):Nat):Int)]) rfl rfl rfl (by simp;rfl) λu2 C9 f2 _=>?_
   have O9:=(O.up (w':=u1)).frc f2 C2 (by decide)
   have D9:Fr (tabD B b a c most) w u2:=(Fr.fr Le.e:Fr (tabD B b a c most) w u1).trans (f2.mono λj _ hj=>.inl hj)
   have B9:=(B1.mv (w:=u1)).fr f2 (by have h1:=B1.h;have h2:=(T.cell.mv (w:=w1)).h;intro e;subst e;rw [h1] at h2;cases h2)
   have hb9:1<=most/\most<=400/\usedN (R.set i ⟨k,n,true⟩)<=most:=⟨hb.1,hb.2.1,by omega⟩
   have hu9:usedN (R.set i ⟨k,n,true⟩)=s.u+1:=by omega
   have hM9:getT (R.set i ⟨k,n,true⟩)=λk'=>if k'=k then some n else s.M k':=by rw [hM',hM]
   clear C2
  case' pos =>
   rw [hur,if_pos rfl] at hgf
   rw [hgf,if_neg (by simp)] at hu'
   refine rload1 (v:=.bool true) (A4.cell 4 (by simp [enc,hur])) ?_
   have hp:putTS most s k n=(⟨λk'=>if k'=k then some n else s.M k',s.u⟩,0):=by
    unfold putTS;rw [if_pos hk,<-hM,hgf]
   rw [hp]
   have hb:=T.bnd
   have C9:Bk w3 b [.slice a (2*most) c,.int .i64 most,.int .i64 ((usedN (R.set i ⟨k,n,true⟩):Nat):Int)] E.qx:=by rw [hu'];exact C
   have O9:=O
   have D9:=D3
   have B9:=B1.mv (w:=w3)
   have hb9:1<=most/\most<=400/\usedN (R.set i ⟨k,n,true⟩)<=most:=⟨hb.1,hb.2.1,by omega⟩
   have hu9:usedN (R.set i ⟨k,n,true⟩)=s.u:=by omega
   have hM9:getT (R.set i ⟨k,n,true⟩)=λk'=>if k'=k then some n else s.M k':=by rw [hM',hM]
  all_goals
   clear C
   refine drawR TBok mixed (ownD B (.slice a (2*most) c)) (upF 10 0) (by kernel_rfl) λu9 e9 _=>?_
   refine tld (B:=C9) rfl (C9.notOwn O9 (by decide)) ?_
   refine tldG (B:=B9) rfl rfl (B9.notOwn O9 (by decide)) ?_
   refine tbuild (cs:=enc (⟨k,n,true⟩:PlD)) rfl ?_
   refine tixO rfl (O9.up (w':=u9)) (x:=R[i]) (by simp) λg hg _ A=>?_
   refine rstO' rfl (⟨k,n,true⟩:PlD) (O9.up (w':=u9)) hg hi rfl λu10 O10 f10 _=>⟨f10,?_⟩
   have C10:=(C9.mv (w:=u9)).fro (O9.up (w':=u9)) f10 (by decide)
   refine⟨rfl,⟨hB,_,⟨C10,O10,by rw [List.length_set];exact hlen,hT',hb9,hmay',hzero'⟩,hM9,hu9⟩,?_⟩
   exact(D9.trans (Fr.fr e9.e)).trans (f10.mono λj _ hj=>.inr hj)
 ·have hp:putTS most s k n=(s,1):=by unfold putTS;rw [if_neg hk]
  rw [hp]
  exact⟨rfl,TT.up,Fr.fr Le.e⟩
theorem zIV{S a p:Nat}(ha:a<S)(hp:p<S):((p:Int) - a+S) % S=((distN S a p:Nat):Int):=by
 unfold distN
 split
 ·rename_i h
  rw [Int.add_emod_right,Int.emod_eq_of_lt (by omega) (by omega)];omega
 ·rw [Int.emod_eq_of_lt (by omega) (by omega)];omega
theorem zNC{b c most:Nat}{s:TS}{k:KeyD}(T:TabS B w b a c most s):
  Sp PP F.p0 #[.pointer (some ⟨b,0,none⟩),agg k] w λv w'=>v=.bool (dropTS s k).2/\TabS B w' b a c most (dropTS s k).1/\Fr (tabD B b a c most) w w':=by
 have TT:=T
 obtain⟨hB,R,T,hM,hu⟩:=T
 refine en TBok rfl ?_
 refine rbx λbk w1 n1 B1=>?_
 refine rpnil ?_
 refine rldG (B:=B1) rfl rfl ?_
 refine rcall may_sp ?_
 rintro v w2 ⟨⟨rfl,hk⟩|⟨rfl,hk⟩,e2⟩
 rotate_left
 ·have hg:=zI3 T hk
  rw [hM] at hg
  have hd:dropTS s k=(s,false):=by unfold dropTS;rw [hg]
  rw [hd]
  exact⟨rfl,TT.up,Fr.fr Le.e⟩
 refine rldG (B:=B1) rfl rfl ?_
 refine rcall (zFk (T.up (w':=w2)) hk) ?_
 rintro v w3 ⟨⟨g0,rfl,hF⟩,e3⟩
 have hi:=hF.lt
 have hlen:=T.len
 have hbnd:=T.bnd
 have hgf:=zC1 T.tab hF
 rw [zA2 hi] at hgf
 have C:=T.cell.mv (w:=w3);have O:=T.row.up (w':=w3)
 refine rld (B:=C) rfl ?_
 refine rix O.sl (x:=R[g0]) (by simp) λb4 o4 A4=>?_
 by_cases hur:R[g0].used=true
 rotate_left
 ·have hur:R[g0].used=false:=by simpa using hur
  rw [hur,if_neg (by simp),hM] at hgf
  have hd:dropTS s k=(s,false):=by unfold dropTS;rw [hgf]
  rw [hd]
  refine rload1 (v:=.bool false) (A4.cell 4 (by simp [enc,hur])) ?_
  exact⟨rfl,TT.up,Fr.fr Le.e⟩
 have hur':(rowF R g0).used=true:=by rw [zA2 hi];exact hur
 have hkey:(rowF R g0).key=k:=by obtain⟨_,_,_,_,h⟩:=hF;exact h hur'
 rw [hur,if_pos rfl,hM] at hgf
 have hd:dropTS s k=(⟨λk'=>if k'=k then none else s.M k',s.u - 1⟩,true):=by unfold dropTS;rw [hgf]
 rw [hd]
 have hpos:0<usedN R:=by
  unfold usedN;exact List.countP_pos_iff.2 ⟨_,List.getElem_mem hi,hur⟩
 refine rload1 (v:=.bool true) (A4.cell 4 (by simp [enc,hur])) ?_
 refine rld (B:=C) rfl ?_
 refine rarE (y:=((usedN R - 1:Nat):Int)) (by omega) (by omega) ?_
 refine rsto (B:=C) (vs:=[.int .i64 ((usedN R - 1:Nat):Int)]) rfl rfl rfl (by simp;rfl) λu1 C1 f1 _=>?_
 have O1:=O.frc f1 C (by decide)
 have D1:Fr (tabD B b a c most) w u1:=(Fr.fr Le.e:Fr (tabD B b a c most) w w3).trans (f1.mono λj _ hj=>.inl hj)
 clear C O
 refine rld (B:=C1) rfl ?_
 refine rbuild (cs:=enc zPl) rfl ?_
 refine rixO rfl O1 (x:=R[g0]) (by simp) λgg hgg _ A=>?_
 refine rstO' rfl zPl O1 hgg hi rfl λu2 O2 f2 _=>?_
 have C2:=C1.fro O1 f2 (by decide)
 have D2:Fr (tabD B b a c most) w u2:=D1.trans (f2.mono λj _ hj=>.inr hj)
 clear C1 O1
 have G:=GapL.start T.tab hi hur'
 rw [hkey,hM] at G
 have hfb:=zKb (R:=R) hi (by omega) hur'
 obtain⟨s0,hs1,hs2,p0,hp0,hpu⟩:=hfb
 have hne0:p0≠g0:=by rintro rfl;rw [hur'] at hpu;cases hpu
 have hpu':(rowF (R.set g0 zPl) p0).used=false:=by rw [zAX hi,zAd _ _ hne0];exact hpu
 refine rld (B:=C2) rfl ?_
 refine rcall (zDN (n:=2*most) (i:=g0) C2 (by omega) (by omega)) ?_
 rintro v u3 ⟨rfl,e3'⟩
 have ha0:=zG8 (n:=R.length) hi
 have hm0:∀x∈R.set g0 zPl,x.used=true->mayK x.key:=by
  intro x hx ux
  have q_:=zAw hx
  rcases q_ with h|rfl
  ·exact T.may x h ux
  ·cases ux
 have hz0:∀x∈R.set g0 zPl,x.used=false->x=zPl:=by
  intro x hx ux
  have q_:=zAw hx
  rcases q_ with h|rfl
  ·exact T.zero x h ux
  ·rfl
 rw [<-hlen]
 refine loop2 TBok 9 [8] 5 7 (λv5 v7 u=>∃(g t i δ:Nat) (R':List PlD),v5=.int .i64 g/\v7=.int .i64 i/\GapL R' R.length (λk'=>if k'=k then none else s.M k') (usedN R - 1) g t/\On R.length g t i/\t<R.length/\On R.length i δ p0/\t+δ<R.length/\(rowF R' p0).used=false /\
   Bk u b [.slice a (2*most) c,.int .i64 most,.int .i64 ((usedN R - 1:Nat):Int)] E.qx/\Own B E.q4 u (.slice a (2*most) c) R'/\(∀x∈R',x.used=true->mayK x.key)/\(∀x∈R',x.used=false->x=zPl)/\Fr (tabD B b a c most) w u)
  (λ_ v7 _=>distN R.length (Go.RowKit.intOf v7).toNat p0) rfl
  ⟨g0,1,aftN R.length g0,s0 - 1,_,rfl,rfl,G,ha0,by omega,by unfold On at *;omega,by omega,hpu',C2.mv,O2.up,hm0,hz0,D2.trans (Fr.fr e3'.e)⟩ ?_
 rintro _ _ gf u ⟨g,t,i,δ,R',rfl,rfl,G',hit,ht,hpd,htd,hpu2,C,O,hmay,hzero,D⟩
 clear C2 O2
 have hl':=G'.len
 have hil:i<R'.length:=by rw [hl'];exact hit.1
 have hRi:rowF R' i=R'[i]:=zA2 hil
 refine rld (B:=C) rfl ?_
 refine rix O.sl (x:=R'[i]) (by simp) λb5 o5 A5=>?_
 by_cases hui:R'[i].used=true
 rotate_left
 ·have hui:R'[i].used=false:=by simpa using hui
  refine rload1 (v:=.bool false) (A5.cell 4 (by simp [enc,hui])) ?_
  have hdone:=G'.done hit ht (by rw [hRi];exact hui)
  obtain⟨q1,q2,q3⟩:=hdone
  refine⟨rfl,⟨hB,R',⟨by rw [q3];exact C,O,by rw [hl'];exact hlen,q1,⟨hbnd.1,hbnd.2.1,by omega⟩,hmay,hzero⟩,q2,by rw [q3,hu]⟩,D⟩
 refine rload1 (v:=.bool true) (A5.cell 4 (by simp [enc,hui])) ?_
 have huiF:(rowF R' i).used=true:=by rw [hRi];exact hui
 have hnp:i≠p0:=by rintro rfl;rw [huiF] at hpu2;cases hpu2
 have hδ:1<=δ:=by unfold On at hpd;omega
 refine rld (B:=C) rfl ?_
 refine rix O.sl (x:=R'[i]) (by simp) λb6 o6 A6=>rloadA (cs:=enc R'[i].key) (A6.sub 0 3) rfl ?_
 have TH:=zKR (k:=R'[i].key) C (by omega) (hmay _ (List.getElem_mem hil) hui)
 rw [<-hlen] at TH
 refine rcall TH ?_
 rintro v u4 ⟨rfl,e4⟩
 have hh:=zI7 (S:=R.length) (by omega) R'[i].key
 have hgl:=G'.gap.lt
 have hdm:=zIV hh hit.1
 have hdg:=zIV hgl hit.1
 have hdt:distN R.length g i=t:=zCF ht hit
 have hod:=zJl hh hit.1
 have C4:=C.mv (w:=u4);have O4:=O.up (w':=u4)
 have ha:=zG8 (n:=R.length) hit.1
 have hdist:On R.length (aftN R.length i) (δ - 1) p0:=by unfold On at *;omega
 have hmeas:distN R.length (aftN R.length i) p0<distN R.length i p0:=by
  rw [zCF (by omega) hpd,zCF (by omega) hdist];omega
 refine drawR TBok mixed (λ_=>False) (upF 15 0) (by kernel_rfl) λu5 e5 _=>?_
 refine rA (rA (rrem (by omega) (by omega) ?_))
 refine rA (rA (rrem (by omega) (by omega) ?_))
 refine ite (λhlt=>?_) (λhge=>?_)
 ·have hlt':distN R.length (homeN R.length R'[i].key) i<t:=by omega
  have TH:=zDN (n:=2*most) (i:=i) (C4.mv (w:=u5)) (by omega) (by omega)
  rw [<-hlen] at TH
  refine rcall TH ?_
  rintro v u6 ⟨rfl,e6⟩
  refine⟨⟨g,t+1,aftN R.length i,δ - 1,R',rfl,rfl,G'.keep hit ht huiF hod.1 (by rw [hRi];exact hod.2) hlt',by unfold On at *;omega,by omega,hdist,by omega,hpu2,C4.mv,O4.up,hmay,hzero,D.trans (Fr.fr Le.e)⟩,hmeas⟩
 ·have hge':t<=distN R.length (homeN R.length R'[i].key) i:=by omega
  have hgR:g<R'.length:=by rw [hl'];exact hgl
  have hgi:g≠i:=by have:=G'.gap.pos;unfold On at hit;omega
  have Gm:=G'.move hit ht huiF hod.1 (by rw [hRi];exact hod.2) hge'
  rw [hRi] at Gm
  have hpg:p0≠g:=by unfold On at *;have:=G'.gap.pos;omega
  have C5:=C4.mv (w:=u5);have O5:=O4.up (w':=u5)
  refine drawRT TBok mixed (ownD B (.slice a (2*most) c)) (.one 0 (.one 1 (.one 2 (.one 3 (.one 4 (.one 5 (.one 6 (.one 7 (.one 8 (.one 9 (.one 10 (.one 11 (.one 12 (.one 13 (.one 14 (.one 15 (.one 17 (.lone 16 (.one 18 (.one 19 (.one 20 (.one 21 .nil)))))))))))))))))))))) (by kernel_rfl) λu6 e6 _=>?_
  refine tld (B:=C5) rfl (C5.notOwn O5 (by decide)) ?_
  refine tld (B:=C5) rfl (C5.notOwn O5 (by decide)) ?_
  refine tld (B:=C5) rfl (C5.notOwn O5 (by decide)) ?_
  refine tix (O5.sl.up (w':=u6)) (x:=R'[i]) (by simp) λb7 o7 A7 _=>?_
  refine tbuild (cs:=enc zPl) rfl ?_
  refine rloadA A7 rfl ⟨Fr.refl _ _,?_⟩
  refine tixO rfl (O5.up (w':=u6)) (x:=R'[g]) (by simp) λg1 hg1 _ A=>?_
  refine rstO' rfl R'[i] (O5.up (w':=u6)) hg1 hgR rfl λu7 O7 f7 _=>⟨f7,?_⟩
  refine tixO rfl O7 (x:=R'[i]) (by rw [List.getElem?_set_ne hgi];simp) λg2 hg2 _ A=>?_
  refine rstO' rfl zPl O7 hg2 (by rw [List.length_set];exact hil) rfl λu8 O8 f8 _=>⟨f8,?_⟩
  have C7:=(C5.mv (w:=u6)).fro (O5.up (w':=u6)) f7 (by decide)
  have C8:=C7.fro O7 f8 (by decide)
  have TH:=zDN (n:=2*most) (i:=i) C8 (by omega) (by omega)
  rw [<-hlen] at TH
  refine rcall TH ?_
  rintro v u9 ⟨rfl,e9⟩
  have hset1:g<R'.length:=hgR
  have hset2:i<(R'.set g R'[i]).length:=by rw [List.length_set];exact hil
  have hpu3:(rowF ((R'.set g R'[i]).set i zPl) p0).used=false:=by
   rw [zAX hset2,zAX hset1,zAd _ _ (Ne.symm hnp),zAd _ _ hpg];exact hpu2
  refine⟨⟨i,1,aftN R.length i,δ - 1,_,rfl,rfl,Gm,ha,by omega,hdist,by omega,hpu3,C8.mv,O8.up,λx hx ux=>?_,λx hx ux=>?_,((D.trans (Fr.fr (Le.e (a:=u) (b:=u6)))).trans (f7.mono λj _ hj=>.inr hj)).trans ((f8.mono λj _ hj=>.inr hj).trans (Fr.fr e9.e))⟩,hmeas⟩
  ·have q_:=zAw hx
   rcases q_ with h|rfl
   ·have q_:=zAw h
    rcases q_ with h|rfl
    ·exact hmay x h ux
    ·exact hmay _ (List.getElem_mem hil) ux
   ·cases ux
  ·have q_:=zAw hx
   rcases q_ with h|rfl
   ·have q_:=zAw h
    rcases q_ with h|rfl
    ·exact hzero x h ux
    ·rw [hui] at ux;cases ux
   ·rfl
end Go.W
namespace Go.W
open Go
variable {B N hi i j k m n:Nat} {D:Nat -> Prop} {P:Program} {T:Tab} {a:Option Addr} {s:List UInt8} {u u' w w':World}
def lessK (a b:KeyD):Prop:=a.slot<b.slot\/a.slot=b.slot/\(a.dir<b.dir\/a.dir=b.dir/\a.v<b.v)
instance (a b:KeyD):Decidable (lessK a b):=by unfold lessK;exact inferInstance
abbrev RisK (l:List KeyD):Prop:=l.Pairwise lessK
theorem zFl{a b:KeyD}(h1:a.slot=b.slot)(h2:a.dir=b.dir)(h3:a.v=b.v):a=b:=by cases a;cases b;simp_all
theorem zAL{a b:KeyD}(h:lessK a b):a≠b:=by rintro rfl;unfold lessK at h;omega
theorem zLz{a b:KeyD}(h:lessK a b):¬lessK b a:=by unfold lessK at *;omega
theorem zB4{a b c:KeyD}(h:lessK a b)(k:lessK b c):lessK a c:=by unfold lessK at *;omega
theorem zCb{a b:KeyD}(h:¬lessK a b)(h':a≠b):lessK b a:=by
 have q_:=Classical.em (lessK b a)
 rcases q_ with k|k
 ·exact k
 ·exfalso;apply h'
  unfold lessK at h k
  exact zFl (by omega) (by omega) (by omega)
theorem RisK.uniq:∀{l m:List KeyD},RisK l->RisK m->(∀k,k∈l↔k∈m)->l=m
 |[],[],_,_,_=>rfl
 |[],b::m,_,_,h=>by have:=(h b).2 (List.mem_cons_self ..);cases this
 |a::l,[],_,_,h=>by have:=(h a).1 (List.mem_cons_self ..);cases this
 |a::l,b::m,hl,hm,h=>by
  rw [RisK,List.pairwise_cons] at hl hm
  have hab:a=b:=by
   have q_:=List.mem_cons.1 ((h a).1 (List.mem_cons_self ..))
   rcases q_ with h1|h1
   ·exact h1
   ·have q_:=List.mem_cons.1 ((h b).2 (List.mem_cons_self ..))
    rcases q_ with h2|h2
    ·exact h2.symm
    ·exact absurd (hm.1 a h1) (zLz (hl.1 b h2))
  subst hab
  congr 1
  refine RisK.uniq hl.2 hm.2 λk=>⟨λhk=>?_,λhk=>?_⟩
  ·have q_:=List.mem_cons.1 ((h k).1 (List.mem_cons_of_mem _ hk))
   rcases q_ with rfl|h1
   ·exact absurd rfl (zAL (hl.1 k hk))
   ·exact h1
  ·have q_:=List.mem_cons.1 ((h k).2 (List.mem_cons_of_mem _ hk))
   rcases q_ with rfl|h1
   ·exact absurd rfl (zAL (hm.1 k hk))
   ·exact h1
end Go.W
namespace Go.W
variable {B N hi i j k m n:Nat} {D:Nat -> Prop} {P:Program} {T:Tab} {a:Option Addr} {s:List UInt8} {u u' w w':World}

end Go.W
namespace Go.W
open Go Go.Proofs
open Enc (enc)
set_option maxRecDepth 10000
variable {B N hi i j k m n:Nat} {D:Nat -> Prop} {P:Program} {T:Tab} {a:Option Addr} {s:List UInt8} {u u' w w':World}
def okP (sz:Int) (fr:List Int):Prop:=1<=sz/\sz<=400/\(∀x∈fr,0<=x/\x<sz)/\fr.Nodup
instance (sz:Int) (fr:List Int):Decidable (okP sz fr):=by unfold okP;exact inferInstance
abbrev PoolD:=Int×List Int
def zP:PoolD:=(0,[])
def takeP (p:PoolD):Int×PoolD×Int:=if okP p.1 p.2 then (match p.2.getLast? with|none=>(0,zP,140)|some x=>(x,(p.1,p.2.dropLast),0)) else (0,zP,130)
def giveP (p:PoolD) (n:Int):PoolD×Int:=if okP p.1 p.2 then (if n<0\/p.1<=n then (zP,1) else if n∈p.2 then (zP,150) else ((p.1,p.2++[n]),0)) else (zP,130)
def takesP (p:PoolD) (m:Int):List Int×PoolD×Int:=
 if okP p.1 p.2 then (if m<0 then ([],zP,1) else if (p.2.length:Int)<m then ([],zP,140) else ((p.2.drop (p.2.length - m.toNat)).reverse,(p.1,p.2.take (p.2.length - m.toNat)),0)) else ([],zP,130)
def downTo (n:Nat):List Int:=(List.range n).reverse.map λk:Nat=>(k:Int)
def newP (n:Int):PoolD×Int:=if n<1\/400<n then (zP,1) else ((n,downTo n.toNat),0)
abbrev plV (sz:Int) (a:Option Addr) (n c:Nat):Value:=.agg #[.int .i64 sz,.slice a n c]
theorem pl_one(sz:Int)(a:Option Addr)(n c:Nat):∀u∈[Value.int .i64 sz,.slice a n c],u.oneCell'=true:=by intro u hu;simp at hu;rcases hu with rfl|rfl <;> rfl
def PoolO (B:Nat) (w:World) (v:Value) (p:PoolD):Prop:=∃a c,v=plV p.1 a p.2.length c/\Own B E.qa w (.slice a p.2.length c) p.2
theorem PoolO.older[h:Le u' u]{v:Value}{p:PoolD}(a:PoolO u.heap.size w v p):PoolO u'.heap.size w v p:=by obtain⟨s,c,h1,h2⟩:=a;exact⟨s,c,h1,h2.older⟩
theorem PoolO.mk{sz:Int}{c:Nat}{l:List Int}(h:Own B E.qa w (.slice a n c) l):PoolO B w (plV sz a n c) (sz,l):=by
 have q_:=h.sl.len
 obtain rfl:=q_
 exact⟨a,c,rfl,h⟩
theorem zP_o(B:Nat)(w:World):PoolO B w (plV 0 none 0 0) zP:=⟨none,0,rfl,Own.nil _ _ _⟩
theorem zCr(n:Nat):(downTo n).length=n:=by simp [downTo]
theorem zLp(h:k<n):(downTo n)[k]? = some (((n - 1 - k:Nat)):Int):=by
 unfold downTo
 rw [List.getElem?_map,List.getElem?_reverse (by simpa using h),List.length_range,List.getElem?_range (by omega)];rfl
theorem zJ6(h:k<n):(downTo n).take (k+1)=(downTo n).take k++[((n - 1 - k:Nat):Int)]:=by
 have hl:=zCr n
 rw [zAa (by omega)]
 have:=zLp h
 have q_:=List.getElem?_eq_some_iff.1 this
 obtain⟨h1,h2⟩:=q_
 rw [h2]
end Go.W
namespace Go.W
open Go
variable {B N hi i j k m n:Nat} {D:Nat -> Prop} {P:Program} {T:Tab} {a:Option Addr} {s:List UInt8} {u u' w w':World}
structure StD where
 key:KeyD
 d:Int
deriving DecidableEq
def zSt:StD:=⟨zKey,0⟩
def mayX (x:StD):Prop:=mayK x.key/\0<=x.d/\x.d<=200
instance (x:StD):Decidable (mayX x):=by unfold mayX;exact inferInstance
abbrev SRis (L:List StD):Prop:=L.Pairwise (λa b=>lessK a.key b.key)
theorem SRis.nodup{L:List StD}(h:SRis L):L.Nodup:=by
 rw [List.nodup_iff_pairwise_ne]
 exact h.imp λ{a b} h e=>zAL h (congrArg StD.key e)
theorem SRis.inj{L:List StD}(h:SRis L){x y:StD}(hx:x∈L)(hy:y∈L)(e:x.key=y.key):x=y:=by
 have q_:=List.mem_iff_getElem.1 hx
 obtain⟨i,hi,rfl⟩:=q_
 have q_:=List.mem_iff_getElem.1 hy
 obtain⟨j,hj,rfl⟩:=q_
 have q_:=Nat.lt_trichotomy i j
 rcases q_ with h1|rfl|h1
 ·exact absurd e (zAL (List.pairwise_iff_getElem.1 h i j hi hj h1))
 ·rfl
 ·exact absurd e.symm (zAL (List.pairwise_iff_getElem.1 h j i hj hi h1))
theorem SRis.uniq{L M:List StD}(h:SRis L)(k:SRis M)(e:∀x,x∈L↔x∈M):L=M:=by
 have hk:L.map (·.key)=M.map (·.key):=RisK.uniq (List.pairwise_map.2 h) (List.pairwise_map.2 k) λq=>by
  simp only [List.mem_map]
  exact⟨λ⟨x,hx,hq⟩=>⟨x,(e x).1 hx,hq⟩,λ⟨x,hx,hq⟩=>⟨x,(e x).2 hx,hq⟩⟩
 have hl:L.length=M.length:=by have:=congrArg List.length hk;simpa using this
 apply List.ext_getElem hl
 intro i h1 h2
 refine k.inj ((e _).1 (List.getElem_mem h1)) (List.getElem_mem h2) ?_
 have:=congrArg (λl=>l[i]?) hk
 simpa [h1,h2] using this
def insS (x:StD):List StD->List StD
 |[]=>[x]
 |y::r=>if lessK y.key x.key then y::insS x r else x::y::r
theorem zBE(x:StD):∀L,(insS x L).Perm (x::L)
 |[]=>.refl _
 |y::r=>by
  unfold insS
  split
  ·exact((zBE x r).cons y).trans (.swap ..)
  ·exact .refl _
theorem zD2(x:StD):∀{L},SRis L->(∀y∈L,y.key≠x.key)->SRis (insS x L)
 |[],_,_=>by simp [insS]
 |y::r,h,hn=>by
  rw [SRis,List.pairwise_cons] at h
  unfold insS
  split
  ·rename_i hyx
   refine List.pairwise_cons.2 ⟨λz hz=>?_,zD2 x h.2 λz hz=>hn z (List.mem_cons_of_mem _ hz)⟩
   have q_:=List.mem_cons.1 ((zBE x r).mem_iff.1 hz)
   rcases q_ with rfl|hz
   ·exact hyx
   ·exact h.1 z hz
  ·rename_i hyx
   have hxy:=zCb hyx (hn y (List.mem_cons_self ..))
   refine List.pairwise_cons.2 ⟨λz hz=>?_,List.pairwise_cons.2 h⟩
   have q_:=List.mem_cons.1 hz
   rcases q_ with rfl|hz
   ·exact hxy
   ·exact zB4 hxy (h.1 z hz)
def hasS (L:List StD) (k:KeyD):Option StD:=L.find? λx=>decide (x.key=k)
theorem zHO{L:List StD}(h:SRis L){k:KeyD}{x:StD}:hasS L k=some x↔x∈L/\x.key=k:=by
 constructor
 ·intro e
  unfold hasS at e
  exact⟨List.mem_of_find?_eq_some e,by simpa using List.find?_some e⟩
 ·rintro⟨hx,hk⟩
  cases e:hasS L k with
  |none =>
   unfold hasS at e
   have:=List.find?_eq_none.1 e x hx
   simp [hk] at this
  |some y =>
   unfold hasS at e
   have hy:=List.mem_of_find?_eq_some e
   have hyk:y.key=k:=by simpa using List.find?_some e
   rw [h.inj hy hx (hyk.trans hk.symm)]
theorem zHN{L:List StD}{k:KeyD}:hasS L k=none↔∀x∈L,x.key≠k:=by
 unfold hasS;rw [List.find?_eq_none];simp
def putS' (size:Nat) (L:List StD) (x:StD):List StD×Int:=
 if mayX x then (match hasS L x.key with
  |some _=>(L,150)
  |none=>if size<=L.length then (L,140) else (insS x L,0))
 else (L,1)
def ofS (L:List StD) (s:Int):List StD:=L.filter λx=>decide (x.key.slot=s)
def dropS (L:List StD) (s:Int):List StD:=L.filter λx=>decide (x.key.slot≠s)
structure StoT (size:Nat) (ts:TS) (fr:List Int) (st:List StD):Prop where
 ok:okP size fr
 stl:st.length=size
 tell:∀k n,ts.M k=some n↔∃p:Nat,n=p/\(p:Int)∉fr/\∃x,st[p]? = some x/\x.key=k
 cnt:ts.u+fr.length=size
structure StoM (fr:List Int) (st L:List StD):Prop where
 ris:SRis L
 mem:∀x,x∈L↔∃p:Nat,(p:Int)∉fr/\st[p]? = some x
def ChI (fr:List Int) (st:List StD) (ch:Int->List Int):Prop:=∀s,(ch s).Nodup/\∀n,n∈ch s↔∃p:Nat,n=p/\(p:Int)∉fr/\∃x,st[p]? = some x/\x.key.slot=s
theorem StoT.inj{size:Nat}{ts:TS}{fr:List Int}{st:List StD}(T:StoT size ts fr st){p q:Nat}{x y:StD}(hp:(p:Int)∉fr)(hq:(q:Int)∉fr)(hx:st[p]? = some x)(hy:st[q]? = some y)(e:x.key=y.key):p=q:=by
 have h1:=(T.tell x.key p).2 ⟨p,rfl,hp,x,hx,rfl⟩
 have h2:=(T.tell x.key q).2 ⟨q,rfl,hq,y,hy,e.symm⟩
 rw [h1] at h2
 have:=Option.some.inj h2
 omega
def usedP (size:Nat) (fr:List Int):List Nat:=(List.range size).filter λp:Nat=>decide ((p:Int)∉fr)
theorem zIk{size:Nat}{fr:List Int}(h:okP size fr):(usedP size fr).length+fr.length=size:=by
 have h1:fr.Perm (((List.range size).filter λp:Nat=>decide ((p:Int)∈fr)).map λp:Nat=>(p:Int)):=by
  refine(List.perm_ext_iff_of_nodup h.2.2.2 ?_).2 λn=>?_
  ·rw [List.nodup_iff_pairwise_ne,List.pairwise_map]
   have hnd:((List.range size).filter λp:Nat=>decide ((p:Int)∈fr)).Nodup:=(List.nodup_range).filter _
   rw [List.nodup_iff_pairwise_ne] at hnd
   exact hnd.imp λ{a b} h e=>h (by omega)
  ·simp only [List.mem_map,List.mem_filter,List.mem_range,decide_eq_true_eq]
   constructor
   ·intro hn
    have:=h.2.2.1 n hn
    exact⟨n.toNat,⟨by omega,by rwa [show ((n.toNat:Nat):Int)=n by omega]⟩,by omega⟩
   ·rintro⟨p,⟨_,hp⟩,rfl⟩;exact hp
 have h2:=h1.length_eq
 rw [List.length_map] at h2
 have h3:∀(l:List Nat),(l.filter λp:Nat=>decide ((p:Int)∉fr)).length+(l.filter λp:Nat=>decide ((p:Int)∈fr)).length=l.length:=by
  intro l
  induction l with
  |nil=>rfl
  |cons a r ih =>
   by_cases ha:(a:Int)∈fr
   ·simp [ha] at ih ⊢;omega
   ·simp [ha] at ih ⊢;omega
 have:=h3 (List.range size)
 unfold usedP
 rw [List.length_range] at this
 omega
theorem StoT.len{size:Nat}{ts:TS}{fr:List Int}{st L:List StD}(T:StoT size ts fr st)(M:StoM fr st L):L.length=ts.u:=by
 have hl:=zIk T.ok
 have hc:=T.cnt
 have hp:L.Perm ((usedP size fr).map λp=>st.getD p zSt):=by
  refine(List.perm_ext_iff_of_nodup M.ris.nodup ?_).2 λx=>?_
  ·rw [List.nodup_iff_pairwise_ne,List.pairwise_map]
   have hnd:(usedP size fr).Nodup:=(List.nodup_range).filter _
   rw [List.nodup_iff_pairwise_ne] at hnd
   refine List.Pairwise.imp_of_mem (λ{a b} ha hb hne e=>hne ?_) hnd
   simp only [usedP,List.mem_filter,List.mem_range,decide_eq_true_eq] at ha hb
   have h1:a<st.length:=by rw [T.stl];exact ha.1
   have h2:b<st.length:=by rw [T.stl];exact hb.1
   have e1:st[a]? = some (st.getD a zSt):=by simp [h1]
   have e2:st[b]? = some (st.getD b zSt):=by simp [h2]
   exact T.inj ha.2 hb.2 e1 e2 (by rw [e])
  ·rw [M.mem x]
   simp only [List.mem_map,usedP,List.mem_filter,List.mem_range,decide_eq_true_eq]
   constructor
   ·rintro⟨p,hp,hx⟩
    have:=(List.getElem?_eq_some_iff.1 hx).1
    exact⟨p,⟨by rw [<-T.stl];exact this,hp⟩,by rw [List.getD_eq_getElem?_getD,hx];rfl⟩
   ·rintro⟨p,⟨h1,hp⟩,rfl⟩
    have h1:p<st.length:=by rw [T.stl];exact h1
    exact⟨p,hp,by simp [h1]⟩
 have:=hp.length_eq
 rw [List.length_map] at this
 omega
theorem StoT.get{size:Nat}{ts:TS}{fr:List Int}{st L:List StD}(T:StoT size ts fr st)(M:StoM fr st L)(k:KeyD):
  (∃(p:Nat) (x:StD),ts.M k=some (p:Int)/\(p:Int)∉fr/\st[p]? = some x/\x.key=k/\hasS L k=some x)\/(ts.M k=none/\hasS L k=none):=by
 cases hm:ts.M k with
 |some n =>
  have q_:=(T.tell k n).1 hm
  obtain⟨p,rfl,hp,x,hx,hk⟩:=q_
  exact .inl ⟨p,x,rfl,hp,hx,hk,(zHO M.ris).2 ⟨(M.mem x).2 ⟨p,hp,hx⟩,hk⟩⟩
 |none =>
  refine .inr ⟨rfl,zHN.2 λx hx e=>?_⟩
  have q_:=(M.mem x).1 hx
  obtain⟨p,hp,hpx⟩:=q_
  have:=(T.tell k p).2 ⟨p,rfl,hp,x,hpx,e⟩
  rw [hm] at this;cases this
theorem StoT.put{size:Nat}{ts:TS}{fr:List Int}{p:Nat}{st L:List StD}{ch:Int->List Int}{x:StD}(T:StoT size ts (fr++[(p:Int)]) st)(M:StoM (fr++[(p:Int)]) st L)(C:ChI (fr++[(p:Int)]) st ch)(hk:mayK x.key)(hn:ts.M x.key=none):
  (putTS size ts x.key p).2=0/\StoT size (putTS size ts x.key p).1 fr (st.set p x)/\StoM fr (st.set p x) (insS x L)/\ChI fr (st.set p x) (λs=>if s=x.key.slot then ch s++[(p:Int)] else ch s):=by
 have q_:=T.ok
 obtain⟨k1,k2,k3,k4⟩:=q_
 have hcnt:=T.cnt
 rw [List.length_append,List.length_singleton] at hcnt
 have hps:p<size:=by have:=k3 p (by simp);omega
 have hpl:p<st.length:=by rw [T.stl];exact hps
 rw [List.nodup_append] at k4
 have hpf:(p:Int)∉fr:=λh=>k4.2.2 _ h _ (List.mem_singleton.2 rfl) rfl
 have hput:putTS size ts x.key p=(⟨λk'=>if k'=x.key then some (p:Int) else ts.M k',ts.u+1⟩,0):=by
  unfold putTS;rw [if_pos hk,hn];simp only;rw [if_neg (by omega)]
 rw [hput]
 have use:∀(q:Nat) (y:StD),((q:Int)∉fr/\(st.set p x)[q]? = some y)↔(q=p/\y=x)\/((q:Int)∉fr++[(p:Int)]/\st[q]? = some y):=by
  intro q y
  rw [List.getElem?_set]
  by_cases e:p=q
  ·subst e
   rw [if_pos rfl,if_pos hpl]
   constructor
   ·rintro⟨_,h⟩;exact .inl ⟨rfl,(Option.some.inj h).symm⟩
   ·rintro(⟨_,rfl⟩|⟨h,_⟩)
    ·exact⟨hpf,rfl⟩
    ·exact absurd (by simp) h
  ·rw [if_neg e]
   simp only [List.mem_append,List.mem_singleton,not_or]
   constructor
   ·rintro⟨h1,h2⟩;exact .inr ⟨⟨h1,by omega⟩,h2⟩
   ·rintro(⟨h,_⟩|⟨h1,h2⟩)
    ·exact absurd h.symm e
    ·exact⟨h1.1,h2⟩
 have hnk:∀y∈L,y.key≠x.key:=λy hy e=>by
  have q_:=(M.mem y).1 hy
  obtain⟨q,hq,hqy⟩:=q_
  have:=(T.tell x.key q).2 ⟨q,rfl,hq,y,hqy,e⟩
  rw [hn] at this;cases this
 refine⟨rfl,⟨⟨k1,k2,λn hn'=>k3 n (List.mem_append_left _ hn'),k4.1⟩,by rw [List.length_set];exact T.stl,λk n=>?_,by show ts.u+1+fr.length=size;omega⟩,⟨zD2 x M.ris hnk,λy=>?_⟩,λs=>?_⟩
 ·show (if k=x.key then some (p:Int) else ts.M k)=some n↔_
  have:(∃q:Nat,n=q/\(q:Int)∉fr/\∃y,(st.set p x)[q]? = some y/\y.key=k)↔(n=p/\x.key=k)\/∃q:Nat,n=q/\(q:Int)∉fr++[(p:Int)]/\∃y,st[q]? = some y/\y.key=k:=by
   constructor
   ·rintro⟨q,rfl,h1,y,h2,h3⟩
    have q_:=(use q y).1 ⟨h1,h2⟩
    rcases q_ with ⟨rfl,rfl⟩|⟨h4,h5⟩
    ·exact .inl ⟨rfl,h3⟩
    ·exact .inr ⟨q,rfl,h4,y,h5,h3⟩
   ·rintro(⟨rfl,h⟩|⟨q,rfl,h1,y,h2,h3⟩)
    ·have:=(use p x).2 (.inl ⟨rfl,rfl⟩);exact⟨p,rfl,this.1,x,this.2,h⟩
    ·have:=(use q y).2 (.inr ⟨h1,h2⟩);exact⟨q,rfl,this.1,y,this.2,h3⟩
  rw [this,<-T.tell]
  split
  ·rename_i e;subst e
   rw [hn];simp;exact eq_comm
  ·rename_i e
   constructor
   ·exact .inr
   ·rintro(⟨_,h⟩|h)
    ·exact absurd h.symm e
    ·exact h
 ·rw [(zBE x L).mem_iff,List.mem_cons,M.mem]
  constructor
  ·rintro(rfl|⟨q,h1,h2⟩)
   ·exact⟨p,(use p y).2 (.inl ⟨rfl,rfl⟩)⟩
   ·exact⟨q,(use q y).2 (.inr ⟨h1,h2⟩)⟩
  ·rintro⟨q,h⟩
   have q_:=(use q y).1 h
   rcases q_ with ⟨_,rfl⟩|h
   ·exact .inl rfl
   ·exact .inr ⟨q,h⟩
 ·have hc:=C s
  have:∀n:Int,(∃q:Nat,n=q/\(q:Int)∉fr/\∃y,(st.set p x)[q]? = some y/\y.key.slot=s)↔(n=p/\x.key.slot=s)\/n∈ch s:=by
   intro n
   rw [hc.2 n]
   constructor
   ·rintro⟨q,rfl,h1,y,h2,h3⟩
    have q_:=(use q y).1 ⟨h1,h2⟩
    rcases q_ with ⟨rfl,rfl⟩|⟨h4,h5⟩
    ·exact .inl ⟨rfl,h3⟩
    ·exact .inr ⟨q,rfl,h4,y,h5,h3⟩
   ·rintro(⟨rfl,h⟩|⟨q,rfl,h1,y,h2,h3⟩)
    ·have:=(use p x).2 (.inl ⟨rfl,rfl⟩);exact⟨p,rfl,this.1,x,this.2,h⟩
    ·have:=(use q y).2 (.inr ⟨h1,h2⟩);exact⟨q,rfl,this.1,y,this.2,h3⟩
  have hpc:(p:Int)∉ch s:=λh=>by obtain⟨q,hq,h1,_⟩:=(hc.2 _).1 h;rw [<-hq] at h1;exact h1 (by simp)
  dsimp only
  split
  ·rename_i e
   refine⟨?_,λn=>?_⟩
   ·rw [List.nodup_append]
    refine⟨hc.1,by simp,λa ha b hb=>?_⟩
    rw [List.mem_singleton] at hb;subst hb
    rintro rfl;exact hpc ha
   ·rw [this,List.mem_append,List.mem_singleton]
    constructor
    ·rintro(h|h)
     ·exact .inr h
     ·exact .inl ⟨h,e.symm⟩
    ·rintro(⟨h,_⟩|h)
     ·exact .inr h
     ·exact .inl h
  ·rename_i e
   refine⟨hc.1,λn=>?_⟩
   rw [this]
   exact⟨.inr,λh=>h.elim (λh=>absurd h.2.symm e) id⟩
theorem StoT.drop{size:Nat}{ts:TS}{fr:List Int}{st:List StD}(T:StoT size ts fr st){p:Nat}{x:StD}(hp:(p:Int)∉fr)(hx:st[p]? = some x):
  StoT size (dropTS ts x.key).1 (fr++[(p:Int)]) st:=by
 have q_:=T.ok
 obtain⟨k1,k2,k3,k4⟩:=q_
 have hcnt:=T.cnt
 have hps:p<size:=by rw [<-T.stl];exact(List.getElem?_eq_some_iff.1 hx).1
 have hm:=(T.tell x.key p).2 ⟨p,rfl,hp,x,hx,rfl⟩
 have hd:dropTS ts x.key=(⟨λk'=>if k'=x.key then none else ts.M k',ts.u - 1⟩,true):=by unfold dropTS;rw [hm]
 rw [hd]
 have hok:okP size (fr++[(p:Int)]):=by
  refine⟨k1,k2,λn hn=>?_,?_⟩
  ·have q_:=List.mem_append.1 hn
   rcases q_ with hn|hn
   ·exact k3 n hn
   ·rw [List.mem_singleton] at hn;omega
  ·rw [List.nodup_append]
   refine⟨k4,by simp,λa ha b hb=>?_⟩
   rw [List.mem_singleton] at hb;subst hb
   rintro rfl;exact hp ha
 have hlen:=zIk hok
 rw [List.length_append,List.length_singleton] at hlen
 refine⟨hok,T.stl,λk n=>?_,by show ts.u - 1+(fr++[(p:Int)]).length=size;rw [List.length_append,List.length_singleton];omega⟩
 show (if k=x.key then none else ts.M k)=some n↔_
 split
 ·rename_i e;subst e
  constructor
  ·intro h;cases h
  ·rintro⟨q,rfl,h1,y,h2,h3⟩
   rw [List.mem_append,List.mem_singleton,not_or] at h1
   have:=T.inj h1.1 hp h2 hx h3
   exact absurd (by rw [this]) h1.2
 ·rename_i e
  rw [T.tell]
  constructor
  ·rintro⟨q,rfl,h1,y,h2,h3⟩
   refine⟨q,rfl,λh=>?_,y,h2,h3⟩
   have q_:=List.mem_append.1 h
   rcases q_ with h|h
   ·exact h1 h
   ·rw [List.mem_singleton] at h
    have:q=p:=by omega
    subst this;rw [hx] at h2;cases h2;exact e h3.symm
  ·rintro⟨q,rfl,h1,y,h2,h3⟩
   exact⟨q,rfl,λh=>h1 (List.mem_append_left _ h),y,h2,h3⟩
theorem StoM.drop{fr:List Int}{st L:List StD}{ch:Int->List Int}(M:StoM fr st L)(C:ChI fr st ch)(s:Int):
  StoM (fr++ch s) st (dropS L s)/\ChI (fr++ch s) st (λs'=>if s'=s then [] else ch s'):=by
 have key:∀(q:Nat) (y:StD),st[q]? = some y->((q:Int)∉fr++ch s↔(q:Int)∉fr/\y.key.slot≠s):=by
  intro q y hy
  rw [List.mem_append,not_or,(C s).2]
  constructor
  ·rintro⟨h1,h2⟩;exact⟨h1,λe=>h2 ⟨q,rfl,h1,y,hy,e⟩⟩
  ·rintro⟨h1,h2⟩
   refine⟨h1,λ⟨q',hq,_,y',hy',e⟩=>h2 ?_⟩
   have:q=q':=by omega
   subst this;rw [hy] at hy';cases hy';exact e
 refine⟨⟨M.ris.sublist (List.filter_sublist ..),λx=>?_⟩,λs'=>?_⟩
 ·unfold dropS
  rw [List.mem_filter,M.mem,decide_eq_true_eq]
  constructor
  ·rintro⟨⟨q,h1,h2⟩,h3⟩;exact⟨q,(key q x h2).2 ⟨h1,h3⟩,h2⟩
  ·rintro⟨q,h1,h2⟩;have:=(key q x h2).1 h1;exact⟨⟨q,this.1,h2⟩,this.2⟩
 ·dsimp only
  split
  ·rename_i e;subst e
   refine⟨by simp,λn=>⟨λh=>by simp at h,?_⟩⟩
   rintro⟨q,rfl,h1,y,h2,h3⟩
   exact absurd h3 ((key q y h2).1 h1).2
  ·rename_i e
   refine⟨(C s').1,λn=>?_⟩
   rw [(C s').2]
   constructor
   ·rintro⟨q,rfl,h1,y,h2,h3⟩;exact⟨q,rfl,(key q y h2).2 ⟨h1,λh=>e (h3.symm.trans h)⟩,y,h2,h3⟩
   ·rintro⟨q,rfl,h1,y,h2,h3⟩;exact⟨q,rfl,((key q y h2).1 h1).1,y,h2,h3⟩
theorem StoT.of{size:Nat}{ts:TS}{fr:List Int}{st L:List StD}{ch:Int->List Int}(T:StoT size ts fr st)(M:StoM fr st L)(C:ChI fr st ch)(s:Int):
  ((ch s).map λn=>st.getD n.toNat zSt).Perm (ofS L s):=by
 have hc:=C s
 refine(List.perm_ext_iff_of_nodup ?_ (M.ris.nodup.filter _)).2 λx=>?_
 ·rw [List.nodup_iff_pairwise_ne,List.pairwise_map]
  have hnd:=hc.1
  rw [List.nodup_iff_pairwise_ne] at hnd
  refine List.Pairwise.imp_of_mem (λ{a b} ha hb hne e=>hne ?_) hnd
  have q_:=(hc.2 a).1 ha
  obtain⟨p,rfl,h1,y,h2,_⟩:=q_
  have q_:=(hc.2 b).1 hb
  obtain⟨q,rfl,h3,z,h4,_⟩:=q_
  simp only [Int.toNat_natCast,List.getD_eq_getElem?_getD,h2,h4,Option.getD_some] at e
  subst e
  rw [T.inj h1 h3 h2 h4 rfl]
 ·rw [List.mem_filter,M.mem,decide_eq_true_eq,List.mem_map]
  constructor
  ·rintro⟨n,hn,rfl⟩
   have q_:=(hc.2 n).1 hn
   obtain⟨p,rfl,h1,y,h2,h3⟩:=q_
   simp only [Int.toNat_natCast,List.getD_eq_getElem?_getD,h2,Option.getD_some]
   exact⟨⟨p,h1,h2⟩,h3⟩
  ·rintro⟨⟨p,h1,h2⟩,h3⟩
   refine⟨p,(hc.2 _).2 ⟨p,rfl,h1,x,h2,h3⟩,?_⟩
   simp only [Int.toNat_natCast,List.getD_eq_getElem?_getD,h2,Option.getD_some]
structure EdN where
 f:Nat
 t:Nat
deriving DecidableEq
structure GrD where
 n:Nat
 es:List EdN
 ws:List (List ByteArray)
structure QyD where
 kind:Int
 frm:Int
 to:Int
 words:List ByteArray
 rad:Int
 most:Int
def nbL (g:GrD) (dir:Int) (u:Nat):List Nat:=if dir=1 then (g.es.filter λe=>e.t==u).map (·.f) else (g.es.filter λe=>e.f==u).map (·.t)
def src (q:QyD) (dir:Int):List Nat:=if dir=0 then [q.frm.toNat] else if q.kind=1 then [q.to.toNat] else []
def goesOn (q:QyD) (d:Nat):Bool:=!(decide (q.kind=3) && decide (q.rad<=d))
def levP (g:GrD) (q:QyD) (dir:Int):Nat->List Nat×List Nat
 |0=>([],src q dir)
 |d+1=>((levP g q dir d).1++(levP g q dir d).2,
  if goesOn q d then (List.range g.n).filter λv=>!((levP g q dir d).1++(levP g q dir d).2).contains v && (levP g q dir d).2.any λu=>(nbL g dir u).contains v else [])
def lv (g:GrD) (q:QyD) (dir:Int) (d:Nat):List Nat:=(levP g q dir d).2
def sn (g:GrD) (q:QyD) (dir:Int) (d:Nat):List Nat:=(levP g q dir d).1
structure GrOk (g:GrD):Prop where
 n1:1<=g.n
 n2:g.n<=200
 ed:∀e∈g.es,e.f<g.n/\e.t<g.n
structure QyOk (q:QyD) (n:Nat):Prop where
 kind:q.kind=1\/q.kind=2\/q.kind=3
 frm:0<=q.frm/\q.frm<n
 to:q.kind<3->0<=q.to/\q.to<n
 near:q.kind=3->1<=q.words.length/\q.words.length<=8/\0<=q.rad/\q.rad<=200/\1<=q.most/\q.most<=100
section
variable {g:GrD} {q:QyD} {dir:Int}
theorem zOu:sn g q dir 0=[]:=rfl
theorem zFn:lv g q dir 0=src q dir:=rfl
theorem zCz(d:Nat):sn g q dir (d+1)=sn g q dir d++lv g q dir d:=rfl
theorem zKT(d:Nat):lv g q dir (d+1)=if goesOn q d then (List.range g.n).filter λv=>!(sn g q dir (d+1)).contains v && (lv g q dir d).any λu=>(nbL g dir u).contains v else []:=rfl
theorem zAW{d v:Nat}:v∈lv g q dir (d+1)↔goesOn q d=true/\v<g.n/\v∉sn g q dir (d+1)/\∃u∈lv g q dir d,v∈nbL g dir u:=by
 rw [zKT]
 split
 ·rename_i h
  simp only [List.mem_filter,List.mem_range,Bool.and_eq_true,Bool.not_eq_true',List.any_eq_true,List.contains_iff_mem,h,true_and]
  simp only [<-Bool.not_eq_true,List.contains_iff_mem]
 ·rename_i h
  simp [h]
theorem mem_sn{d v:Nat}:v∈sn g q dir d↔∃j,j<d/\v∈lv g q dir j:=by
 induction d with
 |zero=>simp [zOu]
 |succ d ih =>
  rw [zCz,List.mem_append,ih]
  constructor
  ·rintro(⟨j,h1,h2⟩|h)
   ·exact⟨j,by omega,h2⟩
   ·exact⟨d,by omega,h⟩
  ·rintro⟨j,h1,h2⟩
   have q_:=Nat.lt_or_ge j d
   rcases q_ with h|h
   ·exact .inl ⟨j,h,h2⟩
   ·have q_:j=d:=by omega
    obtain rfl:=q_
    exact .inr h2
theorem lv_lt(hq:QyOk q g.n){d v:Nat}(h:v∈lv g q dir d):v<g.n:=by
 cases d with
 |zero =>
  rw [zFn] at h
  unfold src at h
  have h1:=hq.frm
  split at h
  ·simp at h;omega
  ·split at h
   ·rename_i h2
    have:=hq.to (by omega)
    simp at h;omega
   ·simp at h
 |succ d=>exact(zAW.1 h).2.1
theorem lv_ris(d:Nat):(lv g q dir d).Pairwise (· < ·):=by
 cases d with
 |zero =>
  rw [zFn];unfold src
  split <;> (try split) <;> simp
 |succ d =>
  rw [zKT]
  split
  ·exact List.pairwise_lt_range.filter _
  ·exact .nil
theorem zJg{v:Nat}(hi:v∈lv g q dir i)(hj:v∈lv g q dir j):i=j:=by
 have key:∀{i j:Nat},i<j->v∈lv g q dir i->v∈lv g q dir j->False:=by
  intro i j hij hi hj
  cases j with
  |zero=>omega
  |succ j=>exact(zAW.1 hj).2.2.1 (mem_sn.2 ⟨i,hij,hi⟩)
 have q_:=Nat.lt_trichotomy i j
 rcases q_ with h|h|h
 ·exact(key h hi hj).elim
 ·exact h
 ·exact(key h hj hi).elim
theorem zNp(d:Nat):(sn g q dir d).Nodup:=by
 induction d with
 |zero=>exact .nil
 |succ d ih =>
  rw [zCz,List.nodup_append]
  refine⟨ih,?_,λa ha b hb e=>?_⟩
  ·rw [List.nodup_iff_pairwise_ne];exact(lv_ris d).imp λh=>by omega
  ·subst e
   have q_:=mem_sn.1 ha
   obtain⟨j,h1,h2⟩:=q_
   have:=zJg h2 hb
   omega
theorem zCL{l:List Nat}(h:l.Nodup)(hl:∀x∈l,x<n):l.length<=n:=by
 have hp:l.Perm ((List.range n).filter λx=>decide (x∈l)):=by
  refine(List.perm_ext_iff_of_nodup h (List.nodup_range.filter _)).2 λx=>?_
  simp only [List.mem_filter,List.mem_range,decide_eq_true_eq]
  exact⟨λhx=>⟨hl x hx,hx⟩,λhx=>hx.2⟩
 rw [hp.length_eq]
 exact Nat.le_trans (List.length_filter_le _ _) (by simp)
theorem sn_le(hq:QyOk q g.n)(d:Nat):(sn g q dir d).length<=g.n:=
 zCL (zNp d) λx hx=>by obtain⟨j,_,h⟩:=mem_sn.1 hx;exact lv_lt hq h
theorem zKS{d:Nat}(h:lv g q dir (d+1)≠[]):lv g q dir d≠[]:=by
 have q_:=List.exists_mem_of_ne_nil _ h
 obtain⟨v,hv⟩:=q_
 have q_:=zAW.1 hv
 obtain⟨_,_,_,u,hu,_⟩:=q_
 exact List.ne_nil_of_mem hu
theorem sn_ge{d:Nat}(h:lv g q dir d≠[]):d<=(sn g q dir d).length:=by
 induction d with
 |zero=>omega
 |succ d ih =>
  have h1:=zKS h
  have:=ih h1
  rw [zCz,List.length_append]
  have:=List.length_pos_iff.2 h1
  omega
theorem zMY(hq:QyOk q g.n){d:Nat}(h:lv g q dir d≠[]):d<g.n:=by
 have h1:=sn_ge h
 have h2:=sn_le (dir:=dir) hq (d+1)
 rw [zCz,List.length_append] at h2
 have:=List.length_pos_iff.2 h
 omega
end
def mls1 (g:GrD) (q:QyD) (slot:Int) (i:Nat) (dir:Int):List StD:=(lv g q dir i).map λv:Nat=>⟨⟨slot,dir,v⟩,i⟩
def mls (g:GrD) (q:QyD) (slot:Int) (i:Nat):List StD:=mls1 g q slot i 0++mls1 g q slot i 1
def insAll (f S:List StD):List StD:=f.foldl (λL x=>insS x L) S
def sts (g:GrD) (q:QyD) (slot:Int):Nat->List StD
 |0=>[]
 |i+1=>insAll (mls g q slot i) (sts g q slot i)
section
variable {g:GrD} {q:QyD} {slot:Int}
theorem zAq{x:StD}:x∈mls g q slot i↔x.key.slot=slot/\x.d=i/\(x.key.dir=0\/x.key.dir=1)/\∃v:Nat,x.key.v=v/\v∈lv g q x.key.dir i:=by
 unfold mls mls1
 simp only [List.mem_append,List.mem_map]
 constructor
 ·rintro(⟨v,h,rfl⟩|⟨v,h,rfl⟩)
  ·exact⟨rfl,rfl,.inl rfl,v,rfl,h⟩
  ·exact⟨rfl,rfl,.inr rfl,v,rfl,h⟩
 ·obtain⟨⟨s,d,v⟩,e⟩:=x
  rintro⟨rfl,rfl,h,v,rfl,hv⟩
  rcases h with h|h
  ·dsimp only at h;subst h;exact .inl ⟨v,hv,rfl⟩
  ·dsimp only at h;subst h;exact .inr ⟨v,hv,rfl⟩
theorem zHl(i:Nat):SRis (mls g q slot i):=by
 unfold mls mls1
 rw [SRis,List.pairwise_append]
 refine⟨?_,?_,?_⟩
 ·rw [List.pairwise_map];exact(lv_ris i).imp λh=>.inr ⟨rfl,.inr ⟨rfl,Int.ofNat_lt.2 h⟩⟩
 ·rw [List.pairwise_map];exact(lv_ris i).imp λh=>.inr ⟨rfl,.inr ⟨rfl,Int.ofNat_lt.2 h⟩⟩
 ·intro a ha b hb
  have q_:=List.mem_map.1 ha
  obtain⟨u,_,rfl⟩:=q_
  have q_:=List.mem_map.1 hb
  obtain⟨v,_,rfl⟩:=q_
  exact .inr ⟨rfl,.inl (show (0:Int)<1 by decide)⟩
theorem zB3(f S:List StD):(insAll f S).Perm (S++f):=by
 unfold insAll
 induction f generalizing S with
 |nil=>simp
 |cons x r ih =>
  rw [List.foldl_cons]
  refine(ih _).trans (((zBE x S).append_right r).trans ?_)
  simpa using (List.perm_middle (l₁:=S) (a:=x) (l₂:=r)).symm
theorem zGL{f:List StD}:∀{S:List StD},SRis S->(f.Pairwise λa b=>a.key≠b.key)->(∀x∈f,∀y∈S,y.key≠x.key)->SRis (insAll f S):=by
 unfold insAll
 induction f with
 |nil=>intro S h _ _;exact h
 |cons x r ih =>
  intro S h hp hn
  rw [List.foldl_cons]
  rw [List.pairwise_cons] at hp
  refine ih (zD2 x h (hn x List.mem_cons_self)) hp.2 λz hz y hy=>?_
  have q_:=List.mem_cons.1 ((zBE x S).mem_iff.1 hy)
  rcases q_ with rfl|hy
  ·exact hp.1 z hz
  ·exact hn z (List.mem_cons_of_mem _ hz) y hy
theorem zAI{x:StD}:x∈sts g q slot i↔∃j,j<i/\x∈mls g q slot j:=by
 induction i with
 |zero=>simp [sts]
 |succ i ih =>
  rw [sts,(zB3 _ _).mem_iff,List.mem_append,ih]
  constructor
  ·rintro(⟨j,h1,h2⟩|h)
   ·exact⟨j,by omega,h2⟩
   ·exact⟨i,by omega,h⟩
  ·rintro⟨j,h1,h2⟩
   have q_:=Nat.lt_or_ge j i
   rcases q_ with h|h
   ·exact .inl ⟨j,h,h2⟩
   ·have q_:j=i:=by omega
    obtain rfl:=q_
    exact .inr h2
theorem zEZ{x y:StD}(hx:x∈mls g q slot i)(hy:y∈mls g q slot j)(e:x.key=y.key):i=j:=by
 have q_:=zAq.1 hx
 obtain⟨_,_,_,u,hu,h1⟩:=q_
 have q_:=zAq.1 hy
 obtain⟨_,_,_,v,hv,h2⟩:=q_
 rw [e] at hu h1
 have:u=v:=by omega
 subst this
 exact zJg h1 h2
theorem zGj{L:List StD}(h:SRis L):L.Pairwise λa b=>a.key≠b.key:=h.imp λh=>zAL h
theorem zDF(i:Nat):SRis (sts g q slot i):=by
 induction i with
 |zero=>exact .nil
 |succ i ih =>
  refine zGL ih (zGj (zHl i)) λx hx y hy e=>?_
  have q_:=zAI.1 hy
  obtain⟨j,h1,h2⟩:=q_
  have:=zEZ h2 hx e
  omega
theorem zKV(hq:QyOk q g.n)(hn:g.n<=200)(hs:0<=slot/\slot<=1000){x:StD}(hx:x∈mls g q slot i):mayX x/\x.key.v<g.n/\0<=x.d/\x.d<g.n:=by
 have q_:=zAq.1 hx
 obtain⟨h1,h2,h3,v,h4,h5⟩:=q_
 have h6:=lv_lt hq h5
 have h7:=zMY hq (List.ne_nil_of_mem h5)
 unfold mayX mayK
 omega
theorem zHy(hq:QyOk q g.n)(hn:g.n<=200)(hs:0<=slot/\slot<=1000){x:StD}(hx:x∈sts g q slot i):mayX x/\x.key.v<g.n/\0<=x.d/\x.d<g.n/\x.key.slot=slot:=by
 have q_:=zAI.1 hx
 obtain⟨j,_,h⟩:=q_
 have:=zKV hq hn hs h
 exact⟨this.1,this.2.1,this.2.2.1,this.2.2.2,(zAq.1 h).1⟩
theorem zK9(i:Nat):(sts g q slot i).length=(sn g q 0 i).length+(sn g q 1 i).length:=by
 induction i with
 |zero=>rfl
 |succ i ih =>
  rw [sts,(zB3 _ _).length_eq,List.length_append,ih,zCz,zCz]
  simp only [mls,mls1,List.length_append,List.length_map]
  omega
end
end Go.W
