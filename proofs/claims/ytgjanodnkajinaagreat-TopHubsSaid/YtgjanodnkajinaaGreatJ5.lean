/-
  Proved here: a part of the walks and plain laws of this claim (merged by a program of mine).
  Conditions: those that each fact names.
-/
import Derived.Test.YtgjanodnkajinaaGreatJ4
set_option maxHeartbeats 4000000
set_option linter.unusedVariables false
set_option linter.unusedSimpArgs false
namespace Go.W
open Go
variable {B i j k m n n3:Nat} {D R:Nat -> Prop} {P:Program} {a a3:Option Addr} {g:GrD} {ps:List Int} {q:QyD} {u u' w w' w1 w2:World}
section
variable {g:GrD} {W:Nat} {h:Hs}
theorem zCS{slot:Int}{x:StD}(h:x∈sts g q slot i):x.key.slot=slot:=by
 have q_:=zAI.1 h
 obtain⟨j,_,h⟩:=q_
 exact(zAq.1 h).1
theorem zBh{o:Option (RqD×Nat)}{x:StD}(h:x∈sts1 g o k):x.key.slot=(k:Int):=by
 cases o with
 |none=>cases h
 |some p=>obtain⟨r,i⟩:=p;exact zCS h
theorem zEh(g:GrD)(o:Option (RqD×Nat))(k:Nat):SRis (sts1 g o k):=by
 cases o with
 |none=>exact .nil
 |some p=>obtain⟨r,i⟩:=p;exact zDF _
theorem zGb{x:StD}:x∈allS g h↔∃k,k<h.length/\x∈sts1 g (h.getD k none) k:=by
 unfold allS;rw [List.mem_flatMap];simp only [List.mem_range]
theorem zMA(g:GrD)(h:Hs):SRis (allS g h):=by
 unfold allS
 rw [SRis,List.pairwise_flatMap]
 refine⟨λk _=>zEh g _ k,?_⟩
 exact List.pairwise_lt_range.imp λhlt x hx y hy=>.inl (by rw [zBh hx,zBh hy];omega)
theorem zBL{x:StD}(hk:k<h.length)(hx:x.key.slot=(k:Int)):x∈allS g h↔x∈sts1 g (h.getD k none) k:=by
 rw [zGb]
 constructor
 ·rintro⟨j,_,h2⟩
  have:=zBh h2
  have q_:j=k:=by omega
  obtain rfl:=q_
  exact h2
 ·exact λh2=>⟨k,hk,h2⟩
theorem zBt{x:StD}{o:Option (RqD×Nat)}(hk:k<h.length)(hx:x.key.slot≠(k:Int)):x∈allS g (h.set k o)↔x∈allS g h:=by
 rw [zGb,zGb]
 simp only [List.length_set]
 constructor
 ·rintro⟨j,h1,h2⟩
  have:=zBh h2
  rw [zAO hk,if_neg (by rintro rfl;exact hx this)] at h2
  exact⟨j,h1,h2⟩
 ·rintro⟨j,h1,h2⟩
  have:=zBh h2
  refine⟨j,h1,?_⟩
  rw [zAO hk,if_neg (by rintro rfl;exact hx this)]
  exact h2
def wkS (g:GrD) (W:Nat) (h:Hs) (k:Nat):List StD:=(allS g h).filter λx=>decide (homW W x.key.v=k)
theorem zAJ{x:StD}:x∈wkS g W h k↔x∈allS g h/\homW W x.key.v=k:=by simp [wkS]
theorem zBp(g:GrD)(W:Nat)(h:Hs)(k:Nat):SRis (wkS g W h k):=(zMA g h).filter _
theorem zLe(g:GrD)(W:Nat)(h:Hs)(k:Nat):(wkS g W h k).length=liveW g W h k:=rfl
def ButS (g:GrD) (W:Nat) (h:Hs) (k0:Nat) (Ls:Nat->List StD):Prop:=∀k,SRis (Ls k)/\∀x,x.key.slot≠(k0:Int)->(x∈Ls k↔x∈wkS g W h k)
theorem zMH(k0:Nat):ButS g W h k0 (wkS g W h):=λk=>⟨zBp g W h k,λ_ _=>Iff.rfl⟩
theorem ButS.drop{k0:Nat}{Ls:Nat->List StD}(H:ButS g W h k0 Ls)(hk:k0<h.length)(k:Nat):dropS (Ls k) (k0:Int)=wkS g W (h.set k0 none) k:=by
 refine SRis.uniq ((H k).1.filter _) (zBp ..) λx=>?_
 unfold dropS
 rw [List.mem_filter,decide_eq_true_eq,zAJ]
 constructor
 ·rintro⟨h1,h2⟩
  have q_:=zAJ.1 (((H k).2 x h2).1 h1)
  obtain⟨h3,h4⟩:=q_
  exact⟨(zBt hk h2).2 h3,h4⟩
 ·rintro⟨h1,h2⟩
  have hs:x.key.slot≠(k0:Int):=λe=>by
   have h3:=(zBL (h:=h.set k0 none) (by simpa using hk) e).1 h1
   rw [zAO hk,if_pos rfl] at h3
   cases h3
  exact⟨((H k).2 x hs).2 (zAJ.2 ⟨(zBt hk hs).1 h1,h2⟩),hs⟩
theorem of_wkS{k0:Nat}(hk:k0<h.length)(k:Nat):ofS (wkS g W h k) (k0:Int)=(sts1 g (h.getD k0 none) k0).filter λx=>decide (homW W x.key.v=k):=by
 refine SRis.uniq ((zBp ..).filter _) ((zEh ..).filter _) λx=>?_
 unfold ofS
 simp only [List.mem_filter,decide_eq_true_eq,zAJ]
 constructor
 ·rintro⟨⟨h1,h2⟩,h3⟩;exact⟨(zBL hk h3).1 h1,h2⟩
 ·rintro⟨h1,h2⟩
  have h3:=zBh h1
  exact⟨⟨(zBL hk h3).2 h1,h2⟩,h3⟩
theorem sts1_v{o:Option (RqD×Nat)}{x:StD}(h:x∈sts1 g o k):0<=x.key.v:=by
 cases o with
 |none=>cases h
 |some p =>
  obtain⟨r,i⟩:=p
  have q_:=zAI.1 h
  obtain⟨j,_,h⟩:=q_
  have q_:=zAq.1 h
  obtain⟨_,_,_,v,hv,_⟩:=q_
  omega
theorem zI6{v:Int}(hW:1<=W):0<=homW W v/\homW W v<W:=by
 unfold homW
 exact⟨Int.emod_nonneg _ (by omega),Int.emod_lt_of_pos _ (by omega)⟩
theorem of_all{k0:Nat}(hk:k0<h.length)(hW:1<=W):((List.range W).flatMap λk=>ofS (wkS g W h k) (k0:Int)).Perm (sts1 g (h.getD k0 none) k0):=by
 refine(List.perm_ext_iff_of_nodup ?_ (zEh ..).nodup).2 λx=>?_
 ·rw [List.nodup_iff_pairwise_ne,List.pairwise_flatMap]
  refine⟨λk _=>?_,List.pairwise_lt_range.imp λhlt x hx y hy e=>?_⟩
  ·rw [<-List.nodup_iff_pairwise_ne];exact((zBp ..).nodup).filter _
  ·subst e
   have h1:=(zAJ.1 (List.mem_filter.1 hx).1).2
   have h2:=(zAJ.1 (List.mem_filter.1 hy).1).2
   omega
 ·rw [List.mem_flatMap]
  simp only [of_wkS hk,List.mem_filter,decide_eq_true_eq,List.mem_range]
  constructor
  ·rintro⟨k,_,h1,_⟩;exact h1
  ·intro h1
   have h2:=zI6 (W:=W) (v:=x.key.v) hW
   exact⟨(homW W x.key.v).toNat,by omega,h1,by omega⟩
def KeepI (g:GrD) (W:Nat) (h:Hs) (l:List StD) (j:Nat) (Ls:Nat->List StD):Prop:=∀k,SRis (Ls k)/\∀x,x∈Ls k↔x∈wkS g W h k\/(x∈l.take j/\homW W x.key.v=k)
theorem zL1(l:List StD):KeepI g W h l 0 (wkS g W h):=λk=>⟨zBp ..,λx=>by simp⟩
variable {x0:RqD} {i k0 j:Nat} {Ls:Nat->List StD}
abbrev aftS (h:Hs) (k0:Nat) (x0:RqD) (i:Nat):Hs:=h.set k0 (some (x0,i+1))
theorem aft_at(hk:k0<h.length){x:StD}(hs:x.key.slot=(k0:Int)):x∈allS g (aftS h k0 x0 i)↔x∈sts g x0.q k0 (i+1):=by
 rw [zBL (by simpa using hk) hs,zAO hk,if_pos rfl];rfl
theorem zNE(e:h.getD k0 none=some (x0,i)){x:StD}(hx:x∈allS g h):x∈allS g (aftS h k0 x0 i):=by
 have q_:=zAp e
 obtain⟨hk,_⟩:=q_
 by_cases hs:x.key.slot=(k0:Int)
 ·rw [aft_at hk hs]
  rw [zBL hk hs,e] at hx
  have q_:=zAI.1 hx
  obtain⟨j,h1,h2⟩:=q_
  exact zAI.2 ⟨j,by omega,h2⟩
 ·exact(zBt hk hs).2 hx
theorem KeepI.sub(e:h.getD k0 none=some (x0,i))(H:KeepI g W h (sts g x0.q k0 (i+1)) j Ls){x:StD}(hx:x∈Ls k):x∈wkS g W (aftS h k0 x0 i) k:=by
 have q_:=zAp e
 obtain⟨hk,_⟩:=q_
 have q_:=((H k).2 x).1 hx
 rcases q_ with h1|⟨h1,h2⟩
 ·have q_:=zAJ.1 h1
  obtain⟨h3,h4⟩:=q_
  exact zAJ.2 ⟨zNE e h3,h4⟩
 ·have h3:=List.mem_of_mem_take h1
  exact zAJ.2 ⟨(aft_at hk (zCS h3)).2 h3,h2⟩
theorem KeepI.but(H:KeepI g W h (sts g x0.q k0 (i+1)) j Ls):ButS g W h k0 Ls:=λk=>⟨(H k).1,λx hs=>by
 rw [(H k).2]
 exact⟨λh1=>h1.elim id λh2=>absurd (zCS (List.mem_of_mem_take h2.1)) hs,.inl⟩⟩
def updL (Ls:Nat->List StD) (k:Nat) (L:List StD):Nat->List StD:=λj=>if j=k then L else Ls j
theorem KeepI.put(e:h.getD k0 none=some (x0,i))(H:KeepI g W h (sts g x0.q k0 (i+1)) j Ls)(hj:j<(sts g x0.q k0 (i+1)).length){x:StD}(hx:(sts g x0.q k0 (i+1))[j]=x)(hm:mayX x)(hh:homW W x.key.v=k):
  ((putS' n (Ls k) x).2=140/\(putS' n (Ls k) x).1=Ls k/\n<liveW g W (aftS h k0 x0 i) k)\/((putS' n (Ls k) x).2≠140/\KeepI g W h (sts g x0.q k0 (i+1)) (j+1) (updL Ls k (putS' n (Ls k) x).1)):=by
 have q_:=zAp e
 obtain⟨hk,_⟩:=q_
 have hxm:x∈sts g x0.q k0 (i+1):=hx ▸ List.getElem_mem hj
 have hxw:x∈wkS g W (aftS h k0 x0 i) k:=zAJ.2 ⟨(aft_at hk (zCS hxm)).2 hxm,hh⟩
 have htake:(sts g x0.q k0 (i+1)).take (j+1)=(sts g x0.q k0 (i+1)).take j++[x]:=by rw [List.take_succ_eq_append_getElem hj,hx]
 unfold putS'
 rw [if_pos hm]
 cases hs:hasS (Ls k) x.key with
 |some y =>
  right
  have q_:=zHO (H k).1 |>.1 hs
  obtain⟨hy,hyk⟩:=q_
  have hyx:y=x:=(zBp ..).inj (H.sub e hy) hxw hyk
  subst hyx
  refine⟨by dsimp only;decide,λk'=>?_⟩
  dsimp only
  have e1:updL Ls k (Ls k) k'=Ls k':=by unfold updL;split <;> simp_all
  rw [e1]
  refine⟨(H k').1,λz=>?_⟩
  rw [(H k').2,htake]
  constructor
  ·rintro(h1|⟨h1,h2⟩)
   ·exact .inl h1
   ·exact .inr ⟨List.mem_append_left _ h1,h2⟩
  ·rintro(h1|⟨h1,h2⟩)
   ·exact .inl h1
   ·have q_:=List.mem_append.1 h1
    rcases q_ with h3|h3
    ·exact .inr ⟨h3,h2⟩
    ·rw [List.mem_singleton] at h3;subst h3
     have:k'=k:=by omega
     subst this
     exact((H _).2 _).1 hy
 |none =>
  have hn:=zHN.1 hs
  dsimp only
  by_cases hf:n<=(Ls k).length
  ·left
   rw [if_pos hf]
   refine⟨rfl,rfl,?_⟩
   have e2:Ls k=(wkS g W (aftS h k0 x0 i) k).filter λy=>decide (y∈Ls k):=by
    refine SRis.uniq (H k).1 ((zBp ..).filter _) λz=>?_
    rw [List.mem_filter,decide_eq_true_eq]
    exact⟨λhz=>⟨H.sub e hz,hz⟩,λhz=>hz.2⟩
   have h3:((wkS g W (aftS h k0 x0 i) k).filter λy=>decide (y∈Ls k)).length<(wkS g W (aftS h k0 x0 i) k).length:=by
    rw [List.length_filter_lt_length_iff_exists]
    exact⟨x,hxw,by simpa using λhm=>hn x hm rfl⟩
   rw [<-e2,zLe] at h3
   omega
  ·right
   rw [if_neg hf]
   refine⟨by dsimp only;decide,λk'=>?_⟩
   by_cases hkk:k'=k
   ·subst hkk
    have e1:updL Ls k' (insS x (Ls k')) k'=insS x (Ls k'):=if_pos rfl
    rw [e1]
    refine⟨zD2 x (H k').1 hn,λz=>?_⟩
    rw [(zBE x _).mem_iff,List.mem_cons,(H k').2,htake,List.mem_append,List.mem_singleton]
    constructor
    ·rintro(rfl|h1|⟨h1,h2⟩)
     ·exact .inr ⟨.inr rfl,hh⟩
     ·exact .inl h1
     ·exact .inr ⟨.inl h1,h2⟩
    ·rintro(h1|⟨h1|h1,h2⟩)
     ·exact .inr (.inl h1)
     ·exact .inr (.inr ⟨h1,h2⟩)
     ·exact .inl h1
   ·have e1:updL Ls k (insS x (Ls k)) k'=Ls k':=if_neg hkk
    rw [e1]
    refine⟨(H k').1,λz=>?_⟩
    rw [(H k').2,htake,List.mem_append,List.mem_singleton]
    constructor
    ·rintro(h1|⟨h1,h2⟩)
     ·exact .inl h1
     ·exact .inr ⟨.inl h1,h2⟩
    ·rintro(h1|⟨h1|h1,h2⟩)
     ·exact .inl h1
     ·exact .inr ⟨h1,h2⟩
     ·subst h1;omega
theorem KeepI.end(e:h.getD k0 none=some (x0,i))(H:KeepI g W h (sts g x0.q k0 (i+1)) (sts g x0.q k0 (i+1)).length Ls):Ls=wkS g W (aftS h k0 x0 i):=by
 have q_:=zAp e
 obtain⟨hk,_⟩:=q_
 funext k
 refine SRis.uniq (H k).1 (zBp ..) λx=>⟨λhx=>H.sub e hx,λhx=>?_⟩
 rw [(H k).2,List.take_length]
 have q_:=zAJ.1 hx
 obtain⟨h1,h2⟩:=q_
 by_cases hs:x.key.slot=(k0:Int)
 ·exact .inr ⟨(aft_at hk hs).1 h1,h2⟩
 ·exact .inl (zAJ.2 ⟨(zBt hk hs).1 h1,h2⟩)
end
theorem zNV{c:CfD}{s:SvD}(h:SvOk g c s){x:RqD}(e:s.held.getD k none=some (x,i)):SvOk g c ⟨s.wait,s.held.set k none⟩:=by
 have q_:=zAp e
 obtain⟨hk,hm⟩:=q_
 refine⟨by simpa using h.len,h.wl,h.wait,λy j hy=>?_,?_,zDt (zC8 hk) h.pool⟩
 ·have q_:=zAZ hy
  rcases q_ with h2|h2
  ·exact h.held y j h2
  ·cases h2
 ·have:=((zC2 hk e).append_right (idsW s.wait)).nodup_iff.2 h.ids
  rw [List.cons_append,List.nodup_cons] at this
  exact this.2
theorem zFH{α β:Type}{f:α->Option Int}{f':β->Option Int}{p:α->Bool}{p':β->Bool}{l:List α}{m:List β}{id:Int}(hp:∀x,p x=decide (f x=some id))(hp':∀x,p' x=decide (f' x=some id))(h:l.map f=m.map f'):l.findIdx? p=m.findIdx? p':=by
 have h1:l.findIdx? p=(l.map f).findIdx? λo=>decide (o=some id):=by rw [List.findIdx?_map];congr 1;funext x;exact hp x
 have h2:m.findIdx? p'=(m.map f').findIdx? λo=>decide (o=some id):=by rw [List.findIdx?_map];congr 1;funext x;exact hp' x
 rw [h1,h2,h]
theorem zHk{α β γ:Type}{f:α->γ}{f':β->γ}{l:List α}{m:List β}(hl:l.length=m.length)(h:∀i (h:i<l.length) (h':i<m.length),f l[i]=f' m[i]):l.map f=m.map f':=by
 apply List.ext_getElem (by simpa using hl)
 intro i h1 h2
 simp only [List.getElem_map]
 exact h i (by simpa using h1) (by simpa using h2)
theorem zMB{h:Hs}(hk:k<h.length)(e:h.getD k none=none)(x:RqD):allS g (h.set k (some (x,0)))=allS g h:=by
 unfold allS
 rw [List.length_set]
 congr 1
 funext j
 rw [zAO hk]
 by_cases hj:j=k
 ·subst hj;rw [if_pos rfl,e];rfl
 ·rw [if_neg hj]
theorem zOH{W:Nat}{h:Hs}(hk:k<h.length)(e:h.getD k none=none)(x:RqD):wkS g W (h.set k (some (x,0)))=wkS g W h:=by
 funext j;unfold wkS;rw [zMB hk e]
theorem zLP{c:CfD}(hc:CfOk c){x:RqD}{r:List RqD}{h:Hs}(s:SvOk g c ⟨x::r,h⟩)(e:freeS h=some k):SvOk g c ⟨r,h.set k (some (x,0))⟩:=by
 have q_:=zET e
 obtain⟨hk,hn⟩:=q_
 have hp:(idsH (h.set k (some (x,0)))++idsW r).Perm (idsH h++idsW (x::r)):=by
  refine((zI8 hk hn x 0).symm.append_right _).trans ?_
  show (x.id::idsH h++idsW r).Perm (idsH h++(x.id::idsW r))
  exact List.perm_middle.symm
 refine⟨by simpa using s.len,by have:=s.wl;simp at this ⊢;omega,λy hy=>s.wait y (List.mem_cons_of_mem _ hy),λy i hy=>?_,hp.nodup_iff.2 s.ids,?_⟩
 ·have q_:=zAZ hy
  rcases q_ with h1|h1
  ·exact s.held y i h1
  ·cases h1;exact⟨s.wait x List.mem_cons_self,by have:=hc.budget.1;omega⟩
 ·refine zDt (λw=>?_) s.pool
  have:=zCJ (g:=g) (W:=c.workers) (w:=w) hk (some (x,0))
  rw [zIS] at this;dsimp only;omega
end Go.W
namespace Go.W
open Go Go.Proofs
open Enc (enc)
set_option maxRecDepth 10000
variable {B i j k m n n3:Nat} {D R:Nat -> Prop} {P:Program} {a a3:Option Addr} {g:GrD} {ps:List Int} {q:QyD} {u u' w w' w1 w2:World}

def zeroQ:RQ:=⟨0,0,0,⟨none,0,0⟩,0,0⟩
def zeroR:RReq:=⟨0,0,zeroQ⟩
def zeroH:RHeld:=⟨false,zeroR⟩
def freeAt (l:List RHeld):Option Nat:=l.findIdx? (λh=>!h.used)
def putH (l:List RHeld) (x:RReq):Int×List RHeld×Int:=match freeAt l with
 |some k=>(k,l.set k ⟨true,x⟩,0)
 |none=>(0,[],140)
def dropH (l:List RHeld) (i:Int):List RHeld×Int:=
 if i<0\/(l.length:Int)<=i then ([],1) else if (l.getD i.toNat zeroH).used then (l.set i.toNat zeroH,0) else ([],141)
def foundAt (l:List RHeld) (id:Int):Option Nat:=l.findIdx? (λh=>h.used && decide (h.r.id=id))
def findV (o:Option Nat):Int×Bool:=match o with
 |some k=>(k,true)
 |none=>(0,false)
def newH (n:Int):List RHeld×Int:=if n<1\/64<n then ([],1) else (List.replicate n.toNat zeroH,0)
def usedAt (l:List RHeld) (n:Nat):List Nat:=selN (λi=>(l.getD i zeroH).used) n
def usedH (l:List RHeld):List Int:=(usedAt l l.length).map λk:Nat=>(k:Int)
theorem zHL{α:Type}{p:α->Bool}{l:List α}(hk:k<l.length)(h1:p l[k]=true)(h2:∀j,(hj:j<k)->p (l[j]'(by omega))=false):l.findIdx? p=some k:=by
 rw [List.findIdx?_eq_some_iff_getElem];exact⟨hk,h1,λj hj=>by simpa using h2 j hj⟩
theorem zHK{α:Type}{p:α->Bool}{l:List α}(h:∀j,(hj:j<l.length)->p l[j]=false):l.findIdx? p=none:=by
 rw [List.findIdx?_eq_none_iff]
 intro x hx
 have q_:=List.mem_iff_getElem.1 hx
 obtain⟨j,hj,rfl⟩:=q_
 exact h j hj
theorem zJM{n:Int}:Sp PP F.qai #[.int .i64 n] w λv w'=>(∃v',v=.tuple #[v',.int .i64 (newH n).2]/\Own w.heap.size E.q6 w' v' (newH n).1)/\Stp w w':=by
 refine en TBok rfl ?_
 unfold newH
 refine ite (λh1=>?_) (λh1=>?_)
 ·rw [if_pos (.inl h1)];exact⟨⟨_,rfl,Own.nil _ _ _⟩,stp⟩
 refine ite (λh2=>?_) (λh2=>?_)
 ·rw [if_pos (.inr h2)];exact⟨⟨_,rfl,Own.nil _ _ _⟩,stp⟩
 rw [if_neg (by omega)]
 have q_:=Int.eq_ofNat_of_zero_le (show (0:Int)<=n by omega)
 obtain⟨k,rfl⟩:=q_
 rw [Int.toNat_natCast]
 refine rmk zeroH rfl rfl (by omega) λg w1 O1 s1 _=>?_
 exact⟨⟨_,rfl,O1⟩,stp⟩
def plc (l:List RReq) (id:Int):Option Nat:=l.findIdx? (λr=>decide (r.id=id))
theorem zM4{l:List RReq}{id:Int}(h:∀r∈l,r.id≠id):plc l id=none:=by
 unfold plc;rw [List.findIdx?_eq_none_iff];simpa using h
theorem zM5{l:List RReq}{id:Int}(hk:k<l.length)(h1:l[k].id=id)(h2:∀j,(hj:j<k)->(l[j]'(by omega)).id≠id):plc l id=some k:=by
 unfold plc;rw [List.findIdx?_eq_some_iff_getElem];exact⟨hk,by simpa using h1,λj hj=>by simpa using h2 j hj⟩
theorem plc_lt{l:List RReq}{id:Int}(h:plc l id=some k):∃hk:k<l.length,l[k].id=id:=by
 unfold plc at h;rw [List.findIdx?_eq_some_iff_getElem] at h;obtain⟨hk,h1,_⟩:=h;exact⟨hk,by simpa using h1⟩
def plcV (o:Option Nat):Value:=match o with
 |some k=>.tuple #[.int .i64 k,.bool true]
 |none=>.tuple #[.int .i64 0,.bool false]
def putR (l:List RReq) (most:Int) (x:RReq):List RReq×Int:=
 if (plc l x.id).isSome then ([],150) else if most<=l.length then ([],252) else (l++[x],0)
def takeR (l:List RReq) (id:Int):List RReq×Bool:=match plc l id with
 |some k=>(l.take k++l.drop (k+1),true)
 |none=>(l,false)
theorem zJ2{r:RReq}{id:Int}:Sp PP F.yp #[.int .i64 id,agg r] w λv w'=>Tells (r.id=id) v/\Ext w w':=by
 refine en TBok rfl ?_
 refine rbox λb w1 n=>?_
 exact rload1 ((At.blk n.blk).cell 0 rfl) (ite (λh=>⟨.t h,n.ext⟩) (λh=>⟨.f h,n.ext⟩))
theorem zDL{c:Nat}{l:List RReq}{g:FuncId}{first cap:List Value}{p:RReq->Prop}(h:SlF w (.slice a n c) l)(hn:l.length<=1000000)
  (hf:∀r w1,r∈l->Ext w w1->Sp PP g (first++[agg r]++cap).toArray w1 λv w2=>Tells (p r) v/\Ext w1 w2):
  Sp PP F.y2 #[.slice a n c,.func (.func g) first.toArray cap.toArray] w λv w' =>
   ((∃k:Nat,v=.int .i64 k/\∃hk:k<l.length,p l[k]/\∀j,(hj:j<k)->¬p (l[j]'(by omega)))\/(v=.int .i64 (-1)/\∀r∈l,¬p r))/\Ext w w':=by
 have q_:=h.len
 obtain rfl:=q_
 refine en TBok rfl ?_
 refine loop1 TBok 6 [4,5,7] 8 (λi w'=>∃k:Nat,k<=l.length/\i=.int .i64 k/\(∀j,(hj:j<k)->(hl:j<l.length)->¬p l[j])/\Ext w w') (λi _=>l.length - (Go.RowKit.intOf i).toNat) rfl ⟨0,by omega,rfl,by omega,Fr.refl _ _⟩ ?_
 rintro i g w' ⟨k,hk,rfl,hb,e⟩
 refine ite (λhlt=>?_) (λhge=>?_)
 ·have hka:k<l.length:=by omega
  refine rix (h.ext e) (x:=l[k]) (by simp) λb o A=>rloadA A rfl (rcall (hf l[k] w' (by simp) e) ?_)
  rintro v w2 ⟨⟨rfl,hp⟩|⟨rfl,hp⟩,e2⟩
  ·exact⟨.inl ⟨k,rfl,hka,hp,λj hj=>hb j hj (by omega)⟩,e.t e2⟩
  ·refine rA ⟨⟨k+1,by omega,rfl,λj hj hl=>?_,e.t e2⟩,?_⟩
   ·have q_:=Nat.lt_or_ge j k
    rcases q_ with h'|h'
    ·exact hb j h' hl
    ·have q_:j=k:=by omega
     obtain rfl:=q_
     exact hp
   ·show _ - (k+1)<_ - k;omega
 ·refine⟨.inr ⟨rfl,λr hr=>?_⟩,e⟩
  have q_:=List.mem_iff_getElem.1 hr
  obtain⟨j,hj,rfl⟩:=q_
  exact hb j (by omega) hj
theorem zEz{c:Nat}{l:List RReq}{id:Int}(h:SlF w (.slice a n c) l)(hn:l.length<=1000000):
  Sp PP F.c7 #[.slice a n c,.int .i64 id] w λv w'=>v=plcV (plc l id)/\Ext w w':=by
 have q_:=h.len
 obtain rfl:=q_
 refine en TBok rfl ?_
 refine rcall (zDL (g:=F.yp) (first:=[.int .i64 id]) (cap:=[]) (p:=λr=>r.id=id) h hn λr w1 _ _=>zJ2) ?_
 rintro v w' ⟨⟨k,rfl,hk,h1,h2⟩|⟨rfl,h1⟩,e⟩
 ·refine rmax (iT (Int.natCast_nonneg k) ?_)
  rw [zM5 hk h1 h2,Int.max_eq_left (by omega)];exact⟨rfl,e⟩
 ·refine rmax (iF (by decide) ?_)
  rw [zM4 h1];exact⟨rfl,e⟩
theorem zBo{b:Option Addr}{na ca nb cb:Nat}{la lb:List RReq}(ha:SlF w (.slice a na ca) la)(hb:SlF w (.slice b nb cb) lb)(hn:la.length<=1000000/\lb.length<=1000000):
  Sp PP F.cp #[.slice a na ca,.slice b nb cb] w λv w'=>Own w.heap.size E.qd w' v (la++lb)/\Ext w w':=by
 have q_:=ha.len
 obtain rfl:=q_
 have q_:=hb.len
 obtain rfl:=q_
 refine en TBok rfl ?_
 refine rA (rmk' (n:=la.length+lb.length) (B:=w.heap.size) zeroR rfl rfl (Nat.le_refl _) (by omega) λg w1 O1 e1 hg=>rcp (u:=w) (lo:=0) rfl O1 (ha.ext e1) (.inr ⟨g,rfl,by simp⟩) (by simp) (by omega) λw2 O2 f2 _ _=>?_)
 have e2:=Fr.st e1 f2 λi hi=>hi.1
 refine rslO (P:=PP) (t:=E.ys) (n:=la.length+lb.length) (some la.length) none O2 (by simp) (by simp) λa' c' hd=>?_
 refine rcp (u:=w) (lo:=la.length) rfl O2 (hb.ext e2) hd (by simp) (by simp) λw3 O3 f3 _ _=>?_
 refine⟨?_,Fr.st e2 f3 λi hi=>hi.1⟩
 have:List.take la.length (List.take 0 (List.replicate (la.length+lb.length) zeroR)++la++List.drop (0+la.length) (List.replicate (la.length+lb.length) zeroR))++lb ++
   List.drop (la.length+lb.length) (List.take 0 (List.replicate (la.length+lb.length) zeroR)++la++List.drop (0+la.length) (List.replicate (la.length+lb.length) zeroR))=la++lb:=by
  simp
 rw [this] at O3
 exact O3
theorem zGS(l:List RReq)(id:Int):(plc l id=none/\plcV (plc l id)=.tuple #[.int .i64 0,.bool false])\/∃k,plc l id=some k/\plcV (plc l id)=.tuple #[.int .i64 (k:Nat),.bool true]:=by
 cases h:plc l id with
 |none=>exact .inl ⟨rfl,rfl⟩
 |some k=>exact .inr ⟨k,rfl,rfl⟩
theorem zKt{c:Nat}{l:List RReq}{most:Int}{x:RReq}(h:SlF w (.slice a n c) l)(hn:l.length<=100000):
  Sp PP F.qa6 #[.slice a n c,.int .i64 most,agg x] w λv w'=>(∃v',v=.tuple #[v',.int .i64 (putR l most x).2]/\Own w.heap.size E.qd w' v' (putR l most x).1)/\Ext w w':=by
 have q_:=h.len
 obtain rfl:=q_
 refine en TBok rfl ?_
 refine rbox λb w1 n1=>?_
 have A1:At w1 b 0 (enc x):=At.blk n1.blk
 refine rload1 (A1.cell 0 rfl) (rcall (zEz (h.ext n1.ext) (by omega)) ?_)
 rintro v w2 ⟨rfl,e2⟩
 have E2:=n1.ext.t e2
 unfold putR
 have q_:=zGS l x.id
 rcases q_ with ⟨hp,hv⟩|⟨k,hp,hv⟩ <;> rw [hv,hp]
 ·refine ite (λhm=>?_) (λhm=>?_)
  ·simp only [Option.isSome_none,Bool.false_eq_true,if_false,hm,if_true]
   exact⟨⟨_,rfl,Own.nil _ _ _⟩,E2⟩
  ·simp only [Option.isSome_none,Bool.false_eq_true,if_false,hm]
   refine rloadA (A1.ext e2) rfl (rbs1 x rfl rfl (by decide) λb4 w4 e4 _ S4=>rcall (zBo (lb:=[x]) (h.ext (E2.t e4.e)) S4 ⟨by omega,by simp⟩) ?_)
   rintro v5 w5 ⟨O5,e5⟩
   exact⟨⟨_,rfl,O5.mono (E2.t e4.e).size⟩,(E2.t e4.e).t e5⟩
 ·simp only [Option.isSome_some,if_true]
  exact⟨⟨_,rfl,Own.nil _ _ _⟩,E2⟩
def nextR (l:List RReq):RReq×List RReq×Bool:=match l with
 |[]=>(zeroR,[],false)
 |x::r=>(x,r,true)
theorem zMt{α:Type}(l:List α):(l.drop 1).take (l.length - 1)=l.tail:=by
 rw [List.take_of_length_le (by simp),List.drop_one]
theorem zJ0{c:Nat}{l:List RReq}(h:SlF w (.slice a n c) l)(hn:l.length<=100000):
  Sp PP F.qap #[.slice a n c] w λv w'=>(∃v',v=.tuple #[agg (nextR l).1,v',.bool (nextR l).2.2]/\Own w.heap.size E.qd w' v' (nextR l).2.1)/\Ext w w':=by
 have q_:=h.len
 obtain rfl:=q_
 refine en TBok rfl ?_
 refine ralloc λb w1 n1=>?_
 refine ite (λh0=>?_) (λh0=>?_)
 ·have q_:l=[]:=List.eq_nil_of_length_eq_zero (by omega)
  obtain rfl:=q_
  refine rbuild (cs:=enc zeroR) rfl (rst n1.blk (vs:=enc zeroR) rfl rfl (by decide) (Enc.one _) λw2 h2 f2 _=>?_)
  refine rresA (cs:=enc zeroR) (At.blk h2) rfl ?_
  exact⟨⟨_,rfl,Own.nil _ _ _⟩,Fr.st n1.ext f2 λi hi=>by rw [hi];exact n1.lo⟩
 ·obtain⟨x,r,rfl⟩:∃x r,l=x::r:=by cases l;exact absurd rfl h0;exact⟨_,_,rfl⟩
  refine drawR TBok mixed (λi=>i=b) (upF 9 0) (by kernel_rfl) λw2 e2 _=>?_
  have E2:=n1.ext.t e2.e
  refine tix (i:=0) (h.ext E2) (x:=x) rfl λbb o A hbb=>?_
  have hne:bb≠b:=by
   have q_:=h.lt (by simp)
   obtain⟨b',h1,h2⟩:=q_
   rw [hbb] at h1;cases h1;have:=n1.lo;omega
  refine tloadA A rfl hne (tsl (some 1) none (h.ext E2) (by simp) (by simp) λa' c' S'=>?_)
  have S':SlF w2 (.slice a' ((x::r).length - 1) c') r:=by
   have:=S';simp only [Option.getD_none,Option.getD_some] at this;rw [zMt] at this;exact this
  refine rcall (zBo (la:=[]) (lb:=r) (SlF.nil w2) S' ⟨by simp,by simp at hn;omega⟩) ?_
  rintro v3 w3 ⟨O3,e3⟩
  refine⟨Fr.fr e3,?_⟩
  have hb2:=(e2.e.t e3).blk n1.blk
  refine rst hb2 (vs:=enc x) rfl rfl (Nat.le_refl 8) (Enc.one _) λw4 h4 f4 _=>⟨f4,?_⟩
  refine rresA (cs:=enc x) (At.blk h4) rfl ?_
  refine⟨⟨v3,rfl,?_⟩,Fr.st (E2.t e3) f4 λi hi=>by rw [hi];exact n1.lo⟩
  refine Own.mono (Own.fr (show Own _ _ _ _ r by simpa using O3) f4 λi hi hv hd=>?_) E2.size
  have:=blk_lt (e2.e.blk n1.blk);omega
theorem zMc{α:Type}(l:List α)(k:Nat):(l.drop 0).take (k - 0)=l.take k:=by simp
theorem zMb{α:Type}(l:List α)(k:Nat):(l.drop k).take (l.length - k)=l.drop k:=by rw [List.take_of_length_le (by simp)]
theorem zJ1{c:Nat}{l:List RReq}{id:Int}(h:SlF w (.slice a n c) l)(hn:l.length<=100000):
  Sp PP F.qao #[.slice a n c,.int .i64 id] w λv w'=>(∃v',v=.tuple #[v',.bool (takeR l id).2]/\Own w.heap.size E.qd w' v' (takeR l id).1)/\Ext w w':=by
 have q_:=h.len
 obtain rfl:=q_
 refine en TBok rfl ?_
 refine rcall (zEz h (by omega)) ?_
 rintro v w1 ⟨rfl,e1⟩
 unfold takeR
 have q_:=zGS l id
 rcases q_ with ⟨hp,hv⟩|⟨k,hp,hv⟩ <;> rw [hv,hp]
 ·refine rcall (zBo (lb:=[]) (h.ext e1) (SlF.nil w1) ⟨by omega,by simp⟩) ?_
  rintro v2 w2 ⟨O2,e2⟩
  exact⟨⟨v2,rfl,by simpa using O2.mono e1.size⟩,e1.t e2⟩
 ·have q_:=plc_lt hp
  obtain⟨hk,_⟩:=q_
  refine drawR TBok mixed (λ_=>False) (upF 10 0) (by kernel_rfl) λw2 e2 _=>?_
  have E2:=e1.t e2.e
  refine tsl none (some k) (h.ext E2) (by simp) (by simp;omega) λa1 c1 S1=>?_
  refine rA (tsl (some (k+1)) none (h.ext E2) (by simp;omega) (by simp) λa2 c2 S2=>?_)
  simp only [Option.getD_none,Option.getD_some,zMc,zMb] at S1 S2
  refine rcall (zBo S1 S2 ⟨by simp;omega,by simp;omega⟩) ?_
  rintro v3 w3 ⟨O3,e3⟩
  exact⟨e3,⟨v3,rfl,O3.mono E2.size⟩,E2.t e3⟩
theorem zEo{c:Nat}{l:List RHeld}(h:SlF w (.slice a n c) l)(hn:l.length<=100000):
  Sp PP F.pk #[.slice a n c] w λv w'=>Own w.heap.size E.q6 w' v l/\Stp w w':=by
 have q_:=h.len
 obtain rfl:=q_
 refine en TBok rfl ?_
 refine rsnil (λh0=>?_) (λh0=>?_)
 ·obtain⟨a',c',hv,hc,hh⟩:=h
  cases hv
  have:l=[]:=by rcases hh with h|⟨b,o,h,_⟩;exact h;rw [h0] at h;cases h
  subst this
  exact⟨Own.nil _ _ _,stp⟩
 ·refine rbs (n:=0) (vs:=[]) ([]:List RHeld) rfl rfl rfl (by omega) λb w1 n1 S1=>rapp (u:=w) ⟨rfl,rfl⟩ (Own.nil' w.heap.size E.q6 w1 _) h.up (by simp;omega) λv3 w3 O3 f3 s3=>?_
  rw [List.nil_append] at O3
  exact⟨O3,stp⟩
theorem zNY{h:RHeld}:Sp PP F.yk #[agg h] w λv w'=>Tells (h.used=false) v/\Stp w w':=by
 refine en TBok rfl ?_
 refine rbx λb w1 n1 B1=>rld rfl ?_
 cases hu:h.used
 ·exact⟨.t rfl,stp⟩
 ·exact⟨.f (by simp),stp⟩
theorem zLb{h:RHeld}:Sp PP F.qx #[agg h] w λv w'=>Tells (h.used=true) v/\Stp w w':=by
 refine en TBok rfl ?_
 refine rbx λb w1 n1 B1=>rld rfl ?_
 cases hu:h.used
 ·exact⟨.f (by simp),stp⟩
 ·exact⟨.t rfl,stp⟩
structure PlDat (l:List RHeld) (a:Option Addr) (c:Nat) (g:FuncId) (bl bs:Nat) (u:World):Prop where
 sl:SlF u (.slice a l.length c) l
 l:Bk u bl [.slice a l.length c] E.yo
 s:u.cell? ⟨bs,0,none⟩=some (.func (.func g) #[] #[])
def plXs (p:RHeld->Bool) (l:List RHeld):List (List Value):=(selN (λi=>p (l.getD i zeroH)) l.length).map λk:Nat=>[.int .i64 k]
theorem zD7{l:List RHeld}{c:Nat}{g:FuncId}{bl bs:Nat}(hn:l.length<=100000)(p:RHeld->Bool)
  (hg:∀h w,Sp PP g #[agg h] w λv w'=>Tells (p h=true) v/\Stp w w'):
  SeqOf PP F.qs [] [.pointer (some ⟨bl,0,none⟩),.pointer (some ⟨bs,0,none⟩)] (PlDat l a c g bl bs) (plXs p l):=by
 refine⟨λy J Jx w hJ hJx hD hY h0=>?_⟩
 refine en TBok rfl ?_
 refine rload1 ((hD 0 w h0).l.at.cell0 rfl) ?_
 refine cnt TBok 8 [4,5] 8 l.length (λk u=>J (selN (λi=>p (l.getD i zeroH)) k).length u) rfl rfl h0 ?_
 intro k G u hk hj
 have hd:=hD _ u hj
 refine ite (λhlt=>?_) (λhge=>?_)
 ·have hka:k<l.length:=by omega
  have hs:=zIb (λi=>p (l.getD i zeroH)) k
  refine rix hd.sl (x:=l[k]) (by simp) λb2 o2 A2=>?_
  refine rloadA A2 rfl ?_
  refine ral λb3 w3 n3 B3=>?_
  refine rsto (vs:=enc l[k]) rfl rfl rfl (Enc.one _) λw4 B4 f4 _=>?_
  have s4:Stw u w3 w4:=f4.one n3.lo
  refine rload1 (by have:=Ext.cell (Le.e (a:=u) (b:=w4)) hd.s;exact this) ?_
  refine rldG rfl rfl ?_
  refine rcall (hg l[k] w4) ?_
  rintro v w5 ⟨⟨rfl,hp⟩|⟨rfl,hp⟩,e5⟩
  ·have hq:p (l.getD k zeroH)=true:=by rw [zAx hka];exact hp
   have hx:(plXs p l)[(selN (λi=>p (l.getD i zeroH)) k).length]? = some [.int .i64 (k:Nat)]:=by
    unfold plXs;rw [List.getElem?_map,zBF (q:=λi=>p (l.getD i zeroH)) hka hq];rfl
   refine ryield rfl rfl rfl rfl (hY _ w5 _ hx (hJ _ _ _ hj (Le.e (a:=u) (b:=w5)))) ?_
   rintro b u' (⟨rfl,hu'⟩|⟨rfl,hu'⟩)
   ·refine rA ⟨rfl,hka,?_⟩
    rw [hs,if_pos hq];simpa using hu'
   ·exact .inr hu'
  ·have hq:¬p (l.getD k zeroH)=true:=by rw [zAx hka];exact hp
   refine rA ⟨rfl,hka,?_⟩
   rw [hs,if_neg hq];exact hJ _ _ _ hj (Le.e (a:=u) (b:=w5))
 ·have q_:k=l.length:=by omega
  obtain rfl:=q_
  refine .inl ?_
  unfold plXs;rw [List.length_map];exact hj
theorem zE1{c:Nat}{l:List RHeld}{g:FuncId}(h:SlF w (.slice a n c) l):
  Sp PP F.d7 #[.slice a n c,.func (.func g) #[] #[]] w λv w'=>(∃bl bs,v=.func (.func F.qs) #[] #[.pointer (some ⟨bl,0,none⟩),.pointer (some ⟨bs,0,none⟩)]/\PlDat l a c g bl bs w')/\Stp w w':=by
 have q_:=h.len
 obtain rfl:=q_
 refine en TBok rfl ?_
 refine rbx λb1 w1 n1 B1=>rbx λb2 w2 n2 B2=>?_
 exact⟨⟨b1,b2,rfl,h.up,B1.mv,B2.at.cell0 rfl⟩,stp⟩
theorem PlDat.up{l:List RHeld}{c:Nat}{g:FuncId}{bl bs:Nat}(h:PlDat l a c g bl bs u)[L:Le u u']:PlDat l a c g bl bs u':=⟨h.sl.up,h.l.mv,Ext.cell L.e h.s⟩
theorem zJu{p:RHeld->Bool}{l:List RHeld}:∀x∈plXs p l,x.length=1:=by
 intro x hx;unfold plXs at hx;obtain⟨k,_,rfl⟩:=List.mem_map.1 hx;rfl
theorem sel0{p:RHeld->Bool}{l:List RHeld}(h:(selN (λi=>p (l.getD i zeroH)) l.length)[0]? = some k):∃hk:k<l.length,p l[k]=true/\l.findIdx? p=some k:=by
 have hm:=List.mem_of_getElem? h
 have q_:=zGo.1 hm
 obtain⟨hk,hp⟩:=q_
 rw [zAx hk] at hp
 refine⟨hk,hp,zHL hk hp λj hj=>?_⟩
 cases hq:p (l[j]'(by omega)) with
 |false=>rfl
 |true =>
  have h1:=zBF (q:=λi=>p (l.getD i zeroH)) hk (by simpa [hk] using hp)
  have h2:=zBF (q:=λi=>p (l.getD i zeroH)) (n:=k) hj (by simp only [zAx (show j<l.length by omega)];exact hq)
  have hlen:=(List.getElem?_eq_some_iff.1 h2).1
  have h3:(selN (λi=>p (l.getD i zeroH)) l.length)[(selN (λi=>p (l.getD i zeroH)) k).length]? = (selN (λi=>p (l.getD i zeroH)) l.length)[0]?:=by rw [h1,h]
  have hnd:(selN (λi=>p (l.getD i zeroH)) l.length).Nodup:=(List.nodup_range).filter _
  have hlt:=(List.getElem?_eq_some_iff.1 h1).1
  have:=(List.getElem?_inj hlt hnd).1 h3
  omega
theorem zJN{c:Nat}{l:List RHeld}{x:RReq}(h:SlF w (.slice a n c) l)(hn:l.length<=100000):
  Sp PP F.qaq #[.slice a n c,agg x] w λv w'=>(∃v',v=.tuple #[.int .i64 (putH l x).1,v',.int .i64 (putH l x).2.2]/\Own w.heap.size E.q6 w' v' (putH l x).2.1)/\Stp w w':=by
 have q_:=h.len
 obtain rfl:=q_
 refine en TBok rfl ?_
 refine rbx λb1 w1 n1 B1=>rbx λb2 w2 n2 B2=>ral λb4 w4 n4 B4=>ral λb5 w5 n5 B5=>ral λb6 w6 n6 B6=>rld rfl (rcall (zE1 h.up) ?_)
 rintro v w7 ⟨⟨bl,bs,rfl,D7⟩,e7⟩
 have C4:=B4.mv (w:=w7);have C5:=B5.mv (w:=w7);have C6:=B6.mv (w:=w7)
 have hb4:=n4.b;have hs4:=n4.s;have hb5:=n5.b;have hs5:=n5.s;have hb6:=n6.b;have hs6:=n6.s;have z7:=e7.e.size
 refine rrange TBok rfl (gf:=F.qs) (first:=[]) (cap:=[.pointer (some ⟨bl,0,none⟩),.pointer (some ⟨bs,0,none⟩)]) rfl rfl
  (zD7 (g:=F.yk) (a:=a) (c:=c) (bl:=bl) (bs:=bs) hn (λh=>!h.used) λh w=>by simpa using zNY (h:=h) (w:=w)) zJu
  (λi u=>i=0/\Stp w7 u)
  (λj u=>j=.ret/\∃k v',freeAt l=some k/\Bk u b4 [.int .i64 (k:Nat)] E.qa/\Bk u b5 [v'] E.yo/\Bk u b6 [.int .i64 0] E.qk/\Own w.heap.size E.q6 u v' (l.set k ⟨true,x⟩)/\Stp w u)
  ?_ ?_ ?_ ⟨rfl,stp⟩ ?_ ?_ ?_
 ·rintro i u u' ⟨hi,s⟩ q;exact⟨hi,s.qt q⟩
 ·rintro j u u' ⟨hj,k,v',h1,h2,h3,h4,h5,h6⟩ q
  exact⟨hj,k,v',h1,h2.qt q,h3.qt q,h4.qt q,h5.qt q,h6.qt (q.mono (by have:=Le.size (a:=w) (b:=w7);omega))⟩
 ·rintro i u ⟨_,s⟩;exact D7.up
 ·rintro i y u hx ⟨rfl,s⟩
  unfold plXs at hx
  rw [List.getElem?_map,Option.map_eq_some_iff] at hx
  obtain⟨k,hk,rfl⟩:=hx
  have q_:=sel0 (p:=λh=>!h.used) hk
  obtain⟨hkl,hp,hf⟩:=q_
  refine⟨Fr.refl _ _,λu1 q=>?_⟩
  have s1:Stp w7 u1:=s.qt q
  refine rld rfl (rcall (zEo h.up hn) ?_)
  rintro v2 w8 ⟨O8,e8⟩
  have q_:=O8.shape
  obtain⟨oa,oc,rfl⟩:=q_
  refine rldG rfl rfl (rbuild (cs:=enc (⟨true,x⟩:RHeld)) rfl (rixO rfl O8 (x:=l[k]) (by simp) λg' hg hgB A=>rstO rfl (⟨true,x⟩:RHeld) O8 hg hkl rfl λw9 O9 f9 s9 _=>?_))
  have z8:=s1.e.size
  refine rsto (B:=C4) (vs:=[.int .i64 (k:Nat)]) rfl rfl rfl (by simp;rfl) λw10 G4 f10 _=>?_
  have s10:Stw w2 w9 w10:=f10.one n4.lo
  have G5:=(C5.mv (w:=w9)).fr f10 (by omega)
  have G6:=(C6.mv (w:=w9)).fr f10 (by omega)
  refine rsto (vs:=[_]) rfl rfl rfl (by simp;rfl) λw11 H5 f11 _=>?_
  have s11:Stw w2 w10 w11:=f11.one (by have:=n4.lo (u:=w2);omega)
  have H4:=G4.fr f11 (by omega)
  have H6:=G6.fr f11 (by omega)
  refine rsto (vs:=[.int .i64 0]) rfl rfl rfl (by simp;rfl) λw12 I6 f12 _=>?_
  have s12:Stw w2 w11 w12:=f12.one (by have:=n4.lo (u:=w2);omega)
  have I4:=H4.fr f12 (by omega)
  have I5:=H5.fr f12 (by omega)
  refine⟨⟨rfl,k,_,hf,I4,I5,I6,?_,stp⟩,λi=>w2.heap.size<=i,?_⟩
  ·have P1:=O9.fr f10 (λb hb hv=>by have:=blk_lt C4.h;omega)
   have P2:=P1.fr f11 (λb hb hv=>by have:=blk_lt C4.h;omega)
   have P3:=P2.fr f12 (λb hb hv=>by have:=blk_lt C4.h;omega)
   exact P3.older
  ·have E9:Ext u1 w9:=Le.e
   exact(((Fr.fr E9).trans s10.e).trans s11.e).trans s12.e
 ·rintro D u ⟨hi,s⟩ hD hd
  have hno:freeAt l=none:=by
   refine zHK λj hj=>?_
   cases hq:!(l[j].used) with
   |false=>rfl
   |true =>
    have:=zBF (q:=λi=>!(l.getD i zeroH).used) hj (by simp only [zAx hj];exact hq)
    have h1:=(List.getElem?_eq_some_iff.1 this).1
    have hi':(selN (λi=>!(l.getD i zeroH).used) l.length).length=0:=by unfold plXs at hi;rw [List.length_map] at hi;exact hi
    omega
  have hp:putH l x=(0,[],140):=by unfold putH;rw [hno]
  rw [hp]
  have z8:=s.e.size
  refine rsto (B:=C4) (vs:=[.int .i64 0]) rfl rfl rfl (by simp;rfl) λw10 G4 f10 _=>?_
  have s10:Stw w2 u w10:=f10.one n4.lo
  have G5:=(C5.mv (w:=u)).fr f10 (by omega)
  have G6:=(C6.mv (w:=u)).fr f10 (by omega)
  refine rsto (vs:=[.slice none 0 0]) rfl rfl rfl (by simp;rfl) λw11 H5 f11 _=>?_
  have s11:Stw w2 w10 w11:=f11.one (by have:=n4.lo (u:=w2);omega)
  have H4:=G4.fr f11 (by omega)
  have H6:=G6.fr f11 (by omega)
  refine rsto (vs:=[.int .i64 140]) rfl rfl rfl (by simp;rfl) λw12 I6 f12 _=>?_
  have s12:Stw w2 w11 w12:=f12.one (by have:=n4.lo (u:=w2);omega)
  have I4:=H4.fr f12 (by omega)
  have I5:=H5.fr f12 (by omega)
  have hd':=f12.nc _ _ (f11.nc _ _ (f10.nc _ _ hd rfl) rfl) rfl
  refine leave1 hd' λu' q=>?_
  have J4:=I4.qt (q 0 (by omega));have J5:=I5.qt (q 0 (by omega));have J6:=I6.qt (q 0 (by omega))
  refine rres rfl ?_
  refine rres rfl ?_
  refine rres rfl ?_
  have S:Stp w w12:=stp
  exact⟨⟨_,rfl,Own.nil _ _ _⟩,S.qt (q _ (by have:=Le.size (a:=w) (b:=w7);omega))⟩
 ·rintro j D u ⟨rfl,k,v',hf,h4,h5,h6,hO,hS⟩ hD hd
  have hp:putH l x=((k:Int),l.set k ⟨true,x⟩,0):=by unfold putH;rw [hf]
  rw [hp]
  refine leave1 hd λu' q=>?_
  have J4:=h4.qt (q 0 (by omega));have J5:=h5.qt (q 0 (by omega));have J6:=h6.qt (q 0 (by omega))
  refine rres rfl ?_
  refine rres rfl ?_
  refine rres rfl ?_
  exact⟨⟨_,rfl,hO.qt (q 0 (by omega))⟩,hS.qt (q _ (by have:=Le.size (a:=w) (b:=w7);omega))⟩
theorem zEy{c:Nat}{l:List RHeld}{id:Int}(h:SlF w (.slice a n c) l)(hn:l.length<=100000):
  Sp PP F.zh #[.slice a n c,.int .i64 id] w λv w'=>v=.tuple #[.int .i64 (findV (foundAt l id)).1,.bool (findV (foundAt l id)).2]/\Stp w w':=by
 have q_:=h.len
 obtain rfl:=q_
 refine en TBok rfl ?_
 refine rbx λb1 w1 n1 B1=>rbx λb2 w2 n2 B2=>?_
 refine ral λb4 w4 n4 B4=>ral λb5 w5 n5 B5=>?_
 refine rld rfl ?_
 refine rcall (zE1 h.up) ?_
 rintro v w7 ⟨⟨bl,bs,rfl,D7⟩,e7⟩
 have C4:=B4.mv (w:=w7);have C5:=B5.mv (w:=w7)
 have hb4:=n4.b;have hs4:=n4.s;have hb5:=n5.b;have hs5:=n5.s;have z7:=e7.e.size
 refine rrange TBok rfl (gf:=F.qs) (first:=[]) (cap:=[.pointer (some ⟨bl,0,none⟩),.pointer (some ⟨bs,0,none⟩)]) rfl rfl
  (zD7 (g:=F.qx) (a:=a) (c:=c) (bl:=bl) (bs:=bs) hn (λh=>h.used) λh w=>zLb (h:=h) (w:=w)) zJu
  (λi u=>(∀j k,j<i->(usedAt l l.length)[j]? = some k->¬(l.getD k zeroH).r.id=id)/\Stp w7 u)
  (λj u=>j=.ret/\∃k:Nat,foundAt l id=some k/\Bk u b4 [.int .i64 k] E.qa/\Bk u b5 [.bool true] E.q2/\Stp w u)
  ?_ ?_ ?_ ⟨by omega,stp⟩ ?_ ?_ ?_
 ·rintro i u u' ⟨hi,s⟩ q;exact⟨hi,s.qt q⟩
 ·rintro j u u' ⟨hj,k,h1,h2,h3,h6⟩ q
  exact⟨hj,k,h1,h2.qt q,h3.qt q,h6.qt (q.mono (by have:=Le.size (a:=w) (b:=w7);omega))⟩
 ·rintro i u ⟨_,s⟩;exact D7.up
 ·rintro i y u hx ⟨hb,s⟩
  unfold plXs at hx
  rw [List.getElem?_map,Option.map_eq_some_iff] at hx
  obtain⟨k,hk,rfl⟩:=hx
  have q_:=zOq hk
  obtain⟨hkl,hu,hi⟩:=q_
  simp only [zAx hkl] at hu
  refine⟨Fr.refl _ _,λu1 q=>?_⟩
  have s1:Stp w7 u1:=s.qt q
  refine drawR TBRok mixed (λ_=>False) (upF 8 0) (by kernel_rfl) λu2 e2 _=>?_
  refine tld rfl (λh=>h) ?_
  refine tix h.up (x:=l[k]) (by simp) λb8 o8 A8 _=>?_
  refine tload1 (A8.cell 1 rfl) (λh=>h) ?_
  refine tld rfl (λh=>h) ?_
  refine ite (λhe=>?_) (λhne=>?_)
  ·have hf:foundAt l id=some k:=zHL hkl (by simp [hu,he]) λj hj=>by
    cases huj:(l[j]'(by omega)).used with
    |false=>rfl
    |true =>
     have hq:(λi=>(l.getD i zeroH).used) j=true:=by show (l.getD j zeroH).used=true;rw [zAx (show j<l.length by omega)];exact huj
     have h1:=hb (selN (λi=>(l.getD i zeroH).used) j).length j (by rw [hi];exact zOr hj hq) (zBF (n:=l.length) (by omega) hq)
     rw [zAx (show j<l.length by omega)] at h1
     simp [h1]
   have s2:Stp w7 u2:=stp
   refine rsto (B:=C4) (vs:=[.int .i64 (k:Nat)]) rfl rfl rfl (by simp;rfl) λw10 G4 f10 _=>?_
   have s10:Stw w2 u2 w10:=f10.one n4.lo
   have G5:=(C5.mv (w:=u2)).fr f10 (by omega)
   refine rsto (vs:=[.bool true]) rfl rfl rfl (by simp;rfl) λw11 H5 f11 _=>?_
   have s11:Stw w2 w10 w11:=f11.one (by have:=n4.lo (u:=w2);omega)
   exact⟨⟨rfl,k,hf,G4.fr f11 (by omega),H5,stp⟩,_,((Fr.fr e2.e).trans (s10.e.trans s11.e):Fr (λi=>w2.heap.size<=i) u1 w11)⟩
  ·refine⟨⟨λj k' hj hk'=>?_,stp⟩,λ_=>False,e2.e⟩
   have q_:=Nat.lt_or_ge j i
   rcases q_ with h'|h'
   ·exact hb j k' h' hk'
   ·have q_:j=i:=by omega
    obtain rfl:=q_
    unfold usedAt at hk'
    rw [hk] at hk';cases hk'
    rw [zAx hkl];exact hne
 ·rintro D u ⟨hi,s⟩ hD hd
  have hno:foundAt l id=none:=by
   refine zHK λj hj=>?_
   cases huj:l[j].used with
   |false=>rfl
   |true =>
    have hq:(λi=>(l.getD i zeroH).used) j=true:=by show (l.getD j zeroH).used=true;rw [zAx hj];exact huj
    have h0:=zBF (q:=λi=>(l.getD i zeroH).used) (n:=l.length) hj hq
    have h1:=hi _ j (by unfold plXs;rw [List.length_map];exact(List.getElem?_eq_some_iff.1 h0).1) h0
    rw [zAx hj] at h1
    simp [h1]
  rw [hno]
  refine rsto (B:=C4) (vs:=[.int .i64 0]) rfl rfl rfl (by simp;rfl) λw10 G4 f10 _=>?_
  have s10:Stw w2 u w10:=f10.one n4.lo
  have G5:=(C5.mv (w:=u)).fr f10 (by omega)
  refine rsto (vs:=[.bool false]) rfl rfl rfl (by simp;rfl) λw11 c5 f11 _=>?_
  have s11:Stw w2 w10 w11:=f11.one (by have:=n4.lo (u:=w2);omega)
  have c4:=G4.fr f11 (by omega)
  have su:Stp w w11:=stp
  have hd':=f11.nc _ _ (f10.nc _ _ hd rfl) rfl
  refine leave1 hd' λu' q=>?_
  have J4:=c4.qt (q 0 (by omega));have J5:=c5.qt (q 0 (by omega))
  refine rres rfl ?_
  refine rres rfl ?_
  exact⟨rfl,su.qt (q _ (by have:=Le.size (a:=w) (b:=w7);omega))⟩
 ·rintro j D u ⟨rfl,k,hf,h4,h5,hS⟩ hD hd
  rw [hf]
  refine leave1 hd λu' q=>?_
  have J4:=h4.qt (q 0 (by omega));have J5:=h5.qt (q 0 (by omega))
  refine rres rfl ?_
  refine rres rfl ?_
  exact⟨rfl,hS.qt (q _ (by have:=Le.size (a:=w) (b:=w7);omega))⟩
theorem zFW{g:FuncId}{first cap:List Value}{Dat:World->Prop}{xs:List Int}(hseq:SeqOf PP g first cap Dat (xs.map λx=>[.int .i64 x]))(hD:∀u,Ext w u->Dat u)(hn:xs.length<=1000000):
  Sp PP F.zj #[.slice none 0 0,.func (.func g) first.toArray cap.toArray] w λv w'=>Own w.heap.size E.qa w' v xs/\Stp w w':=by
 refine en TBok rfl ?_
 refine rbx λb1 w1 n1 B1=>?_
 have hb1:=n1.b;have hs1:=n1.s
 refine rrange TBok rfl (gf:=g) (first:=first) (cap:=cap) rfl rfl hseq (by intro x hx;obtain⟨y,_,rfl⟩:=List.mem_map.1 hx;rfl)
  (λi u=>∃v,Bk u b1 [v] E.q7/\Own w.heap.size E.qa u v (xs.take i)/\Stp w u) (λ_ _=>False) ?_ ?_ ?_ ⟨.slice none 0 0,B1,by rw [List.take_zero];exact Own.nil _ _ _,stp⟩ ?_ ?_ ?_
 ·rintro i u u' ⟨v,h1,h2,h3⟩ q;exact⟨v,h1.qt q,h2.qt q,h3.qt (q.mono (by omega))⟩
 ·rintro c u u' h;exact h.elim
 ·rintro i u ⟨v,_,_,s⟩;exact hD u s.e
 ·rintro i y u hx ⟨v,c1,O,s⟩
  rw [List.getElem?_map,Option.map_eq_some_iff] at hx
  obtain⟨x,hx,rfl⟩:=hx
  have q_:=List.getElem?_eq_some_iff.1 hx
  obtain⟨hi,rfl⟩:=q_
  refine⟨Fr.refl _ _,λu1 q=>?_⟩
  have c1:=c1.qt q;have O:=O.qt q;have s:=s.qt (q.mono (by omega))
  refine rld rfl (rbs1 xs[i] rfl rfl (by decide) λb4 w4 e4 _ S4=>rapp1 (u:=w) ⟨rfl,rfl⟩ O.up S4 (by simp;omega) λv5 w5 O5 f5 s5=>?_)
  have c5:=(c1.mv (w:=w4)).fro O.up f5 (by decide)
  refine rsto (vs:=[v5]) ?_ rfl rfl (by obtain⟨oa,oc,rfl⟩:=O5.shape;simp;rfl) λw6 c6 f6 _=>?_
  ·obtain⟨oa,oc,rfl⟩:=O5.shape;rfl
  have s6:Stw w w5 w6:=f6.one (by omega)
  refine⟨⟨v5,c6,?_,stp⟩,λi=>w.heap.size<=i,((Fr.fr e4.e).trans s5.e).trans s6.e⟩
  rw [zAa hi];exact O5.frc f6 c5 (by decide)
 ·rintro D u ⟨v,c1,O,s⟩ hD' hd
  refine rld rfl (leave1 hd λu' q=>?_)
  rw [List.take_of_length_le (by simp)] at O
  exact⟨O.qt (q 0 (by omega)),s.qt (q _ (by omega))⟩
 ·rintro c D u h;exact h.elim
theorem zG7{g:FuncId}{first cap:List Value}{Dat:World->Prop}{xs:List Int}(hseq:SeqOf PP g first cap Dat (xs.map λx=>[.int .i64 x]))(hD:∀u,Ext w u->Dat u)(hn:xs.length<=1000000):
  Sp PP F.z8 #[.func (.func g) first.toArray cap.toArray] w λv w'=>Own w.heap.size E.qa w' v xs/\Stp w w':=by
 refine en TBok rfl ?_
 refine rcall (zFW hseq hD hn) ?_
 rintro v w1 ⟨O1,e1⟩
 exact⟨O1,stp⟩
theorem zIy{c:Nat}{l:List RHeld}(h:SlF w (.slice a n c) l)(hn:l.length<=100000):
  Sp PP F.cy #[.slice a n c] w λv w'=>Own w.heap.size E.qa w' v (usedH l)/\Stp w w':=by
 have q_:=h.len
 obtain rfl:=q_
 refine en TBok rfl ?_
 refine rcall (zE1 h) ?_
 rintro v w1 ⟨⟨bl,bs,rfl,D1⟩,e1⟩
 have hs:=zD7 (g:=F.qx) (a:=a) (c:=c) (bl:=bl) (bs:=bs) hn (λh=>h.used) λh w=>zLb (h:=h) (w:=w)
 have he:plXs (λh=>h.used) l=(usedH l).map λx=>[.int .i64 x]:=by unfold plXs usedH usedAt;rw [List.map_map];rfl
 rw [he] at hs
 refine rcall (zG7 (first:=[]) hs (λu eu=>by have:=Stp.mk eu;exact D1.up) (by unfold usedH usedAt;rw [List.length_map];have:=zHs (λi=>(l.getD i zeroH).used) l.length;omega)) ?_
 rintro v w2 ⟨O2,e2⟩
 exact⟨O2.older,stp⟩
theorem zIx{c:Nat}{l:List RHeld}{i:Int}(h:SlF w (.slice a n c) l)(hn:l.length<=100000):
  Sp PP F.c4 #[.slice a n c,.int .i64 i] w λv w'=>(∃v',v=.tuple #[v',.int .i64 (dropH l i).2]/\Own w.heap.size E.q6 w' v' (dropH l i).1)/\Stp w w':=by
 have q_:=h.len
 obtain rfl:=q_
 refine en TBok rfl ?_
 unfold dropH
 refine ite (λh1=>?_) (λh1=>?_)
 ·rw [if_pos (.inl h1)];exact⟨⟨_,rfl,Own.nil _ _ _⟩,stp⟩
 refine ite (λh2=>?_) (λh2=>?_)
 ·rw [if_pos (.inr h2)];exact⟨⟨_,rfl,Own.nil _ _ _⟩,stp⟩
 rw [if_neg (by omega)]
 have q_:=Int.eq_ofNat_of_zero_le (Int.not_lt.1 h1)
 obtain⟨k,rfl⟩:=q_
 have hk:k<l.length:=by omega
 rw [Int.toNat_natCast,zAx hk]
 refine rix h (x:=l[k]) (by simp) λb2 o2 A2=>rload1 (A2.cell0 rfl) ?_
 cases hu:l[k].used
 ·rw [if_neg (by simp)];exact⟨⟨_,rfl,Own.nil _ _ _⟩,stp⟩
 ·rw [if_pos rfl]
  refine rcall (zEo h hn) ?_
  rintro v w2 ⟨O2,e2⟩
  have q_:=O2.shape
  obtain⟨oa,oc,rfl⟩:=q_
  refine rbuild (cs:=enc zeroH) rfl (rixO rfl O2 (x:=l[k]) (by simp) λg' hg _ A=>rstO rfl zeroH O2 hg hk rfl λw3 O3 f3 s3 _=>?_)
  exact⟨⟨_,rfl,O3.older⟩,stp⟩
def Fz (M R:Nat->Prop) (w:World) (Φ:World->Prop):Prop:=∀w',Fr (λi=>M i\/¬R i) w w'->Φ w'
theorem Fr.join{E H:Nat->Prop}{a b c:World}(f:Fr D a b)(k:Fr E b c)(h1:∀i,i<a.heap.size->D i->H i)(h2:∀i,i<a.heap.size->E i->H i):Fr H a c:=
 ⟨k.os.trans f.os,k.tape.trans f.tape,k.output.trans f.output,Nat.le_trans f.size k.size,λi hi hn=>(k.block i (Nat.lt_of_lt_of_le hi f.size) λhx=>hn (h2 i hi hx)).trans (f.block i hi λhx=>hn (h1 i hi hx)),λi o hi ho=>k.nc i o (f.nc i o hi ho) ho⟩
section
variable {M M' R R':Nat->Prop} {w w':World} {Φ Ψ:World->Prop}
theorem Fz.at(h:Fz M R w Φ)[L:Le w w']:Φ w':=h w' (Fr.fr L.e)
theorem Fz.here(h:Fz M R w Φ):Φ w:=h w (Fr.refl _ _)
theorem Fz.step(h:Fz M R w Φ)(f:Fr M w w')(hM:∀i,i<w.heap.size->M' i->M i)(hR:∀i,i<w.heap.size->R i->R' i):Fz M' R' w' Φ:=λ_ k =>
 h _ (f.join k (λ_ _ hi=>.inl hi) λi hi hx=>hx.elim (λh1=>.inl (hM i hi h1)) λh1=>.inr λh2=>h1 (hR i hi h2))
theorem Fz.away(h:Fz M R w Φ)(f:Fr D w w')(hD:∀i,D i->¬R i):Fz M R w' Φ:=λ_ k =>
 h _ (f.join k (λi _ hi=>.inr (hD i hi)) λ_ _ hx=>hx)
theorem Fz.and(h:Fz M R w Φ)(k:Fz M R w Ψ):Fz M R w λu=>Φ u/\Ψ u:=λu f=>⟨h u f,k u f⟩
theorem Fz.imp(h:Fz M R w Φ)(k:∀u,Φ u->Ψ u):Fz M R w Ψ:=λu f=>k u (h u f)
theorem tixF{α:Type}[Enc α]{t e:TypeId}{z:Value}{by':Nat}[ht:SlT P t e][he:Elem P e z (Enc.sz α) by']{k:Value->Prop}{c:Nat}{l:List α}{x:α}(h:∀w',Fr D w w'->SlF w' (.slice a n c) l)(hi:l[i]? = some x)
  (hk:∀b o,(∀w',Fr D w w'->At w' b o (enc x))->k (.pointer (some ⟨b,o,none⟩))):TakeS P (Instr.indexAt t (.slice a n c) (.int .i64 i)) D k w:=by
 have q_:=(h w (Fr.refl _ _)).at hi
 obtain⟨rfl,b,o,rfl,_⟩:=q_
 have hl:i<l.length:=(List.getElem?_eq_some_iff.1 hi).1
 rw [zAg]
 refine⟨_,λw' _=>zDy ht he (by omega) (by omega) w',hk _ _ λw' f=>?_⟩
 have q_:=(h w' f).at hi
 obtain⟨_,b',o',h1,h2⟩:=q_
 cases h1;exact h2
theorem tload1F{t:TypeId}[ht:One P t]{k:Value->Prop}{b o:Nat}{v:Value}(h:∀w',Fr D w w'->At w' b o [v])(hk:k v):TakeS P (Instr.loadAt t (.pointer (some ⟨b,o,none⟩))) D k w:=by
 rw [zAg]
 exact⟨v,λw' hw'=>by simp [Instr.loadAt,Instr.sureAddr,zCd ht ((h w' hw').cell0 rfl)],hk⟩
theorem Own.fz{α:Type}[Enc α]{e:TypeId}{v:Value}{l:List α}(O:Own B e w v l)(h:∀i,B<=i->i<w.heap.size->R i/\¬M i):Fz M R w λu=>SlF u v l:=λu f=>by
 by_cases hl:l=[]
 ·subst hl
  have q_:=O.shape
  obtain⟨a,c,rfl⟩:=q_
  exact SlF.nil' u a c
 ·refine O.sl.fr f λb hb hd=>?_
  have q_:=O.lt hl
  obtain⟨g,h1,h2,h3⟩:=q_
  rw [hb] at h1;cases h1
  have h4:=h b h2 h3
  exact hd.elim h4.2 λh5=>h5 h4.1
end
theorem Own.fzB{M:Nat->Prop}{α:Type}[Enc α]{e:TypeId}{v:Value}{l:List α}(O:Own B e u v l)(O':SlF w v l)(h:∀i,B<=i->i<u.heap.size->R i/\¬M i):Fz M R w λu=>SlF u v l:=λu' f=>by
 by_cases hl:l=[]
 ·subst hl
  have q_:=O.shape
  obtain⟨a,c,rfl⟩:=q_
  exact SlF.nil' u' a c
 ·refine O'.fr f λb hb hd=>?_
  have q_:=O.lt hl
  obtain⟨g,h1,h2,h3⟩:=q_
  rw [hb] at h1;cases h1
  have h4:=h b h2 h3
  exact hd.elim h4.2 λh5=>h5 h4.1
structure RCfg where
 workers:Int
 slots:Int
 queue:Int
 pool:Int
 budget:Int
instance:Enc RCfg:=⟨5,λx=>[.int .i64 x.workers,.int .i64 x.slots,.int .i64 x.queue,.int .i64 x.pool,.int .i64 x.budget],λ_=>rfl,by intro x u hu;simp at hu;rcases hu with rfl|rfl|rfl|rfl|rfl <;> rfl,by decide⟩
structure RJob where
 mails:SV
 steps:Int
instance:Enc RJob:=⟨2,λx=>[.slice x.mails.a x.mails.n x.mails.c,.int .i64 x.steps],λ_=>rfl,by intro x u hu;simp at hu;rcases hu with rfl|rfl <;> rfl,by decide⟩
def zJob:RJob:=⟨⟨none,0,0⟩,0⟩
structure RPtr where
 b:Nat
instance:Enc RPtr:=⟨1,λx=>[.pointer (some ⟨x.b,0,none⟩)],λ_=>rfl,by intro x u hu;simp at hu;subst hu;rfl,by decide⟩
structure SrvK where
 bj:Nat
 jc:Nat
 xr:RRow
 r:List EdN
 ws:SV
 wl:List ByteArray
 ps:List RPo
 wk:SV
 sb:Nat->Nat
 sg:Nat->Nat
abbrev srvL (c : CfD) (K : SrvK) (wt hd : SV) : List Value :=
  [.int .i64 (c.workers : Nat), .int .i64 (c.slots : Nat), .int .i64 (c.queue : Nat), .int .i64 (c.pool : Nat), .int .i64 (c.budget : Nat),
   .slice K.xr.off.a K.xr.off.n K.xr.off.c, .slice K.xr.to.a K.xr.to.n K.xr.to.c, .slice K.xr.rof.a K.xr.rof.n K.xr.rof.c, .slice K.xr.rev.a K.xr.rev.n K.xr.rev.c,
   .slice K.ws.a K.ws.n K.ws.c, .slice wt.a wt.n wt.c, .slice hd.a hd.n hd.c, .slice (some ⟨K.bj, 0, none⟩) c.slots K.jc, .slice K.wk.a K.wk.n K.wk.c]
def HeldOk (kx:Nat) (w:World) (g:GrD) (x:RHeld) (j:RJob) (o:Option (RqD×Nat)) (k:Nat):Prop:=match o with
 |none=>x.used=false
 |some (d,i)=>x.used=true/\RqV w x.r d/\(k≠kx->SlF w j.mails.v (mls g d.q k i)/\j.steps=i)
structure SrvF (kx:Nat) (g:GrD) (c:CfD) (K:SrvK) (wt hd:SV) (lw:List RReq) (lh:List RHeld) (lj:List RJob) (s:SvD) (w:World):Prop where
 rows:RwF w K.xr g K.r
 pos:PosM w g K.wl K.ps
 words:SlF w (.slice K.ws.a K.ws.n K.ws.c) K.ps
 wk:SlF w (.slice K.wk.a K.wk.n K.wk.c) ((List.range c.workers).map λk=>(⟨K.sb k⟩:RPtr))
 fw:SlF w (.slice wt.a wt.n wt.c) lw
 fh:SlF w (.slice hd.a hd.n hd.c) lh
 lwn:lw.length=s.wait.length
 waits:∀i (h:i<lw.length) (h':i<s.wait.length),RqV w lw[i] s.wait[i]
 lhn:lh.length=s.held.length
 ljn:lj.length=s.held.length
 helds:∀k (h:k<lh.length) (h':k<lj.length),HeldOk kx w g lh[k] lj[k] (s.held.getD k none) k
def mutS (bs bj W:Nat) (RW:Nat->Nat->Prop):Nat->Prop:=λi=>i=bs\/i=bj\/∃k,k<W/\RW k i
structure Stos (B:Nat) (w:World) (W:Nat) (K:SrvK) (pool:Nat) (RW:Nat->Nat->Prop) (Ls:Nat->List StD):Prop where
 dis:∀k j,k<W->j<W->k≠j->∀i,RW k i->¬RW j i
 sto:∀k,k<W->StoP (RW k) B w (K.sb k) (K.sg k) pool (Ls k)
 lt:∀k,k<W->∀i,RW k i->i<w.heap.size
def updR (RW:Nat->Nat->Prop) (k:Nat) (X:Nat->Prop):Nat->Nat->Prop:=λj=>if j=k then X else RW j
def GrowR (W:Nat) (RW RW':Nat->Nat->Prop) (n:Nat):Prop:=∀k,k<W->∀i,RW' k i->RW k i\/n<=i
section
variable {B:Nat} {w w':World} {W:Nat} {K:SrvK} {pool:Nat} {RW RW':Nat->Nat->Prop} {Ls:Nat->List StD}
theorem GrowR.refl(n:Nat):GrowR W RW RW n:=λ_ _ _ h=>.inl h
theorem Stos.away(T:Stos B w W K pool RW Ls)(f:Fr D w w')(hD:∀k,k<W->∀i,RW k i->¬D i):Stos B w' W K pool RW Ls:=
 ⟨T.dis,λk hk=>(T.sto k hk).fr f (hD k hk),λk hk i hi=>Nat.lt_of_lt_of_le (T.lt k hk i hi) f.size⟩
theorem Stos.up[L:Le w w'](T:Stos B w W K pool RW Ls):Stos B w' W K pool RW Ls:=T.away L.e λ_ _ _ _ h=>h
theorem Stos.put{L:List StD}(T:Stos B w W K pool RW Ls)(hk:k<W)(S:StoP (gR (RW k) w w') B w' (K.sb k) (K.sg k) pool L)(f:Fr (RW k) w w'):
  Stos B w' W K pool (updR RW k (gR (RW k) w w')) (updL Ls k L):=by
 have e:∀j,j≠k->updR RW k (gR (RW k) w w') j=RW j:=λj h=>if_neg h
 have ek:updR RW k (gR (RW k) w w') k=gR (RW k) w w':=if_pos rfl
 refine⟨λj j' hj hj' hne i hi=>?_,λj hj=>?_,λj hj i hi=>?_⟩
 ·by_cases h1:j=k
  ·subst h1
   rw [ek] at hi
   rw [e j' (λh=>hne h.symm)]
   rcases hi with hi|hi
   ·exact T.dis _ _ hj hj' hne i hi
   ·intro h2;have:=T.lt j' hj' i h2;omega
  ·rw [e j h1] at hi
   by_cases h2:j'=k
   ·subst h2
    rw [ek]
    rintro(h3|h3)
    ·exact T.dis _ _ hj hj' hne i hi h3
    ·have:=T.lt j hj i hi;omega
   ·rw [e j' h2];exact T.dis _ _ hj hj' hne i hi
 ·by_cases h1:j=k
  ·subst h1
   rw [ek,show updL Ls j L j=L from if_pos rfl];exact S
  ·rw [e j h1,show updL Ls k L j=Ls j from if_neg h1]
   exact(T.sto j hj).fr f λi hi h2=>T.dis _ _ hj hk h1 i hi h2
 ·by_cases h1:j=k
  ·subst h1
   rw [ek] at hi
   rcases hi with hi|hi
   ·exact Nat.lt_of_lt_of_le (T.lt j hj i hi) f.size
   ·exact hi.2
  ·rw [e j h1] at hi
   exact Nat.lt_of_lt_of_le (T.lt j hj i hi) f.size
theorem GrowR.put(h:GrowR W RW RW' n)(hn:n<=w.heap.size):GrowR W RW (updR RW' k (gR (RW' k) w w')) n:=λj hj i hi=>by
 by_cases h1:j=k
 ·subst h1
  rw [show updR RW' j (gR (RW' j) w w') j=gR (RW' j) w w' from if_pos rfl] at hi
  rcases hi with hi|hi
  ·exact h j hj i hi
  ·exact .inr (by omega)
 ·rw [show updR RW' k (gR (RW' k) w w') j=RW' j from if_neg h1] at hi
  exact h j hj i hi
def anyR (W:Nat) (RW:Nat->Nat->Prop):Nat->Prop:=λi=>∃k,k<W/\RW k i
theorem GrowR.fr(h:GrowR W RW RW' w.heap.size)(f:Fr (anyR W RW) w u)(hk:k<W)(f2:Fr (RW' k) u u'):Fr (anyR W RW) w u':=
 f.join f2 (λ_ _ hi=>hi) λi hi hx=>(h k hk i hx).elim (λh1=>⟨k,hk,h1⟩) λh1=>by omega
end
structure SrvR (kx:Nat) (R:Nat->Prop) (B:Nat) (w:World) (bs:Nat) (g:GrD) (c:CfD) (s:SvD) (Ls:Nat->List StD) (K:SrvK) (wt hd:SV) (lw:List RReq) (lh:List RHeld) (lj:List RJob) (RW:Nat->Nat->Prop):Prop where
 reg:∀i,R i->B<=i/\i<w.heap.size
 rs:R bs
 rj:R K.bj
 ne:bs≠K.bj
 rw:∀k,k<c.workers->∀i,RW k i->R i/\i≠bs/\i≠K.bj
 cell:Bk w bs (srvL c K wt hd) E.qm
 jobs:Own B E.q5 w (.slice (some ⟨K.bj,0,none⟩) c.slots K.jc) lj
 st:Stos B w c.workers K c.pool RW Ls
 fz:Fz (mutS bs K.bj c.workers RW) R w (SrvF kx g c K wt hd lw lh lj s)
 gi:GrIs g
 ci:CfOk c
 ps:K.ps.length<=2000
 so:SvOk g c s
def SrvX (R:Nat->Prop) (B:Nat) (w:World) (bs:Nat) (g:GrD) (c:CfD) (s:SvD) (Ls:Nat->List StD):Prop:=
 ∃K wt hd lw lh lj RW,SrvR 1000 R B w bs g c s Ls K wt hd lw lh lj RW
def SrvZ (R:Nat->Prop) (B:Nat) (w:World) (bs:Nat) (g:GrD) (c:CfD) (s:SvD) (Ls:Nat->List StD) (k0:Nat):Prop:=
 ∃K wt hd lw lh lj RW,SrvR k0 R B w bs g c s Ls K wt hd lw lh lj RW
def SrvP (R:Nat->Prop) (B:Nat) (w:World) (bs:Nat) (g:GrD) (c:CfD) (s:SvD):Prop:=SrvX R B w bs g c s (wkS g c.workers s.held)
section
variable {kx kx':Nat} {R:Nat->Prop} {B:Nat} {w w':World} {bs:Nat} {g:GrD} {c:CfD} {s:SvD} {Ls:Nat->List StD} {K:SrvK} {wt hd:SV} {lw:List RReq} {lh:List RHeld} {lj:List RJob} {RW:Nat->Nat->Prop}
theorem SrvR.mut(S:SrvR kx R B w bs g c s Ls K wt hd lw lh lj RW)(h:mutS bs K.bj c.workers RW i):R i:=by
 rcases h with rfl|rfl|⟨k,hk,h⟩
 ·exact S.rs
 ·exact S.rj
 ·exact(S.rw k hk i h).1
theorem SrvR.away(S:SrvR kx R B w bs g c s Ls K wt hd lw lh lj RW)(f:Fr D w w')(hD:∀i,D i->¬R i):SrvR kx R B w' bs g c s Ls K wt hd lw lh lj RW:=
 ⟨λi hi=>⟨(S.reg i hi).1,Nat.lt_of_lt_of_le (S.reg i hi).2 f.size⟩,S.rs,S.rj,S.ne,S.rw,S.cell.fr f λh=>hD _ h S.rs,S.jobs.fr f λg _ hg h=>by cases hg;exact hD _ h S.rj,
  S.st.away f λk hk i hi h=>hD i h (S.rw k hk i hi).1,S.fz.away f hD,S.gi,S.ci,S.ps,S.so⟩
theorem SrvP.away(S:SrvP R B w bs g c s)(f:Fr D w w')(hD:∀i,D i->¬R i):SrvP R B w' bs g c s:=by
 obtain⟨K,wt,hd,lw,lh,lj,RW,S⟩:=S
 exact⟨K,wt,hd,lw,lh,lj,RW,S.away f hD⟩
theorem SrvR.up[L:Le w w'](S:SrvR kx R B w bs g c s Ls K wt hd lw lh lj RW):SrvR kx R B w' bs g c s Ls K wt hd lw lh lj RW:=S.away L.e λ_ h=>h.elim
theorem SrvP.up[L:Le w w'](S:SrvP R B w bs g c s):SrvP R B w' bs g c s:=S.away L.e λ_ h=>h.elim
theorem SrvR.wide{R':Nat->Prop}(S:SrvR kx R B w bs g c s Ls K wt hd lw lh lj RW)(h:∀i,R i->R' i)(hr:∀i,R' i->B<=i/\i<w.heap.size):SrvR kx R' B w bs g c s Ls K wt hd lw lh lj RW:=
 ⟨hr,h _ S.rs,h _ S.rj,S.ne,λk hk i hi=>⟨h _ (S.rw k hk i hi).1,(S.rw k hk i hi).2⟩,S.cell,S.jobs,S.st,λu f=>S.fz u (f.mono λi _ hx=>hx.imp id λh1 h2=>h1 (h i h2)),S.gi,S.ci,S.ps,S.so⟩
theorem SrvX.wide{R':Nat->Prop}(S:SrvX R B w bs g c s Ls)(h:∀i,R i->R' i)(hr:∀i,R' i->B<=i/\i<w.heap.size):SrvX R' B w bs g c s Ls:=by
 obtain⟨K,wt,hd,lw,lh,lj,RW,S⟩:=S
 exact⟨K,wt,hd,lw,lh,lj,RW,S.wide h hr⟩
theorem SrvX.reg(S:SrvX R B w bs g c s Ls):(∀i,R i->B<=i/\i<w.heap.size)/\GrIs g/\CfOk c/\SvOk g c s:=by
 obtain⟨K,wt,hd,lw,lh,lj,RW,S⟩:=S
 exact⟨S.reg,S.gi,S.ci,S.so⟩
theorem SrvR.mutN(S:SrvR kx R B w bs g c s Ls K wt hd lw lh lj RW){RW':Nat->Nat->Prop}(h:GrowR c.workers RW RW' n):∀i,i<n->mutS bs K.bj c.workers RW' i->mutS bs K.bj c.workers RW i:=λi hi hm=>by
 rcases hm with h1|h1|⟨k,hk,h1⟩
 ·exact .inl h1
 ·exact .inr (.inl h1)
 ·exact(h k hk i h1).elim (λh2=>.inr (.inr ⟨k,hk,h2⟩)) λh2=>by omega
theorem SrvR.fin{s':SvD}{Ls':Nat->List StD}{wt' hd':SV}{lw':List RReq}{lh':List RHeld}{lj':List RJob}{RW':Nat->Nat->Prop}(S:SrvR kx R B w bs g c s Ls K wt hd lw lh lj RW)(e:w.heap.size<=w1.heap.size)
  (f:Fr (mutS bs K.bj c.workers RW) w1 w')(hB:B<=w.heap.size)(C:Bk w' bs (srvL c K wt' hd') E.qm)(J:Own B E.q5 w' (.slice (some ⟨K.bj,0,none⟩) c.slots K.jc) lj')(T:Stos B w' c.workers K c.pool RW' Ls')(G:GrowR c.workers RW RW' w1.heap.size)
  (so:SvOk g c s')(Z:Fz (mutS bs K.bj c.workers RW) (gR R w w1) w1 (SrvF kx' g c K wt' hd' lw' lh' lj' s')):SrvR kx' (gR R w w') B w' bs g c s' Ls' K wt' hd' lw' lh' lj' RW':=by
 have f2:=f.size
 refine⟨λi hi=>?_,.inl S.rs,.inl S.rj,S.ne,λk hk i hi=>?_,C,J,T,?_,S.gi,S.ci,S.ps,so⟩
 ·rcases hi with hi|hi
  ·have:=S.reg i hi;omega
  ·omega
 ·have h1:=S.reg bs S.rs
  have h2:=S.reg K.bj S.rj
  have q_:=G k hk i hi
  rcases q_ with h3|h3
  ·exact⟨.inl (S.rw k hk i h3).1,(S.rw k hk i h3).2⟩
  ·have:=T.lt k hk i hi
   exact⟨.inr ⟨by omega,this⟩,by omega,by omega⟩
 ·refine Z.step f (λi hi hm=>S.mutN G i hi hm) λi hi hr=>?_
  rcases hr with hr|hr
  ·exact .inl hr
  ·exact .inr (by omega)
theorem SrvR.loose(S:SrvR 1000 R B w bs g c s Ls K wt hd lw lh lj RW)(k0:Nat):SrvR k0 R B w bs g c s Ls K wt hd lw lh lj RW:=by
 have h1:=S.so.len;have h2:=S.ci.slots
 refine⟨S.reg,S.rs,S.rj,S.ne,S.rw,S.cell,S.jobs,S.st,S.fz.imp λu Fa=>⟨Fa.rows,Fa.pos,Fa.words,Fa.wk,Fa.fw,Fa.fh,Fa.lwn,Fa.waits,Fa.lhn,Fa.ljn,λk h h'=>?_⟩,S.gi,S.ci,S.ps,S.so⟩
 have h3:=Fa.helds k h h'
 have h4:=Fa.lhn
 cases e:s.held.getD k none with
 |none=>rw [e] at h3;exact h3
 |some p=>obtain⟨d,i⟩:=p;rw [e] at h3;exact⟨h3.1,h3.2.1,λ_=>h3.2.2 (by omega)⟩
theorem SrvX.z(S:SrvX R B w bs g c s Ls)(k0:Nat):SrvZ R B w bs g c s Ls k0:=by
 obtain⟨K,wt,hd,lw,lh,lj,RW,S⟩:=S
 exact⟨K,wt,hd,lw,lh,lj,RW,S.loose k0⟩
theorem SrvR.fz1[L:Le w w'](S:SrvR kx R B w bs g c s Ls K wt hd lw lh lj RW):Fz (mutS bs K.bj c.workers RW) (gR R w w') w' (SrvF kx g c K wt hd lw lh lj s):=
 S.fz.step (Fr.fr L.e) (λ_ _ h=>h) λ_ _ h=>.inl h
theorem SrvR.fzO{α:Type}[Enc α]{C:Nat}{e:TypeId}{v:Value}{l:List α}(S:SrvR kx R B w bs g c s Ls K wt hd lw lh lj RW)(O:Own C e w' v l)(hC:w.heap.size<=C):Fz (mutS bs K.bj c.workers RW) (gR R w w') w' λu=>SlF u v l:=
 O.fz λi h1 h2=>⟨.inr ⟨by omega,h2⟩,λh=>by have:=S.reg i (S.mut h);omega⟩
theorem gR_gR(h1:w.heap.size<=u.heap.size)(h2:u.heap.size<=u'.heap.size):∀i,gR (gR R w u) u u' i->gR R w u' i:=λi hi=>by
 rcases hi with (hi|hi)|hi
 ·exact .inl hi
 ·exact .inr (by omega)
 ·exact .inr (by omega)
theorem zBw{bs bj W:Nat}{RW:Nat->Nat->Prop}(h:anyR W RW i):mutS bs bj W RW i:=.inr (.inr h)
end
section
variable {kx:Nat} {R:Nat->Prop} {B:Nat} {w0 w w':World} {bs:Nat} {g:GrD} {c:CfD} {s:SvD} {Ls:Nat->List StD} {K:SrvK} {wt hd:SV} {lw:List RReq} {lh:List RHeld} {lj:List RJob} {RW:Nat->Nat->Prop}
theorem zLY{hs:Hs}{k0:Nat}{a:RHeld}{j:RJob}{o:Option (RqD×Nat)}(hk:k0<hs.length)(H:∀k (h:k<lh.length) (h':k<lj.length),HeldOk kx u g lh[k] lj[k] (hs.getD k none) k)(h:HeldOk kx u g a j o k0):
  ∀k (h:k<(lh.set k0 a).length) (h':k<(lj.set k0 j).length),HeldOk kx u g (lh.set k0 a)[k] (lj.set k0 j)[k] ((hs.set k0 o).getD k none) k:=λk h1 h2=>by
 rw [zAO hk]
 by_cases e:k=k0
 ·subst e
  rw [if_pos rfl,List.getElem_set_self,List.getElem_set_self];exact h
 ·rw [if_neg e,List.getElem_set_ne (Ne.symm e),List.getElem_set_ne (Ne.symm e)]
  exact H k (by simpa using h1) (by simpa using h2)
theorem heldsZ{hs:Hs}{k0:Nat}{a:RHeld}{j:RJob}(hk:k0<hs.length)(H:∀k (h:k<lh.length) (h':k<lj.length),HeldOk k0 u g lh[k] lj[k] (hs.getD k none) k)(ha:a.used=false:=by rfl):
  ∀k (h:k<(lh.set k0 a).length) (h':k<(lj.set k0 j).length),HeldOk 1000 u g (lh.set k0 a)[k] (lj.set k0 j)[k] ((hs.set k0 none).getD k none) k:=λk h1 h2=>by
 rw [zAO hk]
 by_cases e:k=k0
 ·subst e
  rw [if_pos rfl,List.getElem_set_self,List.getElem_set_self];exact ha
 ·rw [if_neg e,List.getElem_set_ne (Ne.symm e),List.getElem_set_ne (Ne.symm e)]
  have h3:=H k (by simpa using h1) (by simpa using h2)
  cases e2:hs.getD k none with
  |none=>rw [e2] at h3;exact h3
  |some p=>obtain⟨d,i⟩:=p;rw [e2] at h3;exact⟨h3.1,h3.2.1,λ_=>h3.2.2 e⟩
theorem Stos.congr{W pool:Nat}{Ls':Nat->List StD}(T:Stos B w W K pool RW Ls)(h:∀k,k<W->Ls k=Ls' k):Stos B w W K pool RW Ls':=
 ⟨T.dis,λk hk=>h k hk ▸ T.sto k hk,T.lt⟩
theorem bjD{v:Nat}(h:ownD B (.slice (some ⟨v,0,none⟩) n m) i):i=v:=by have:=h.2.1;cases this;rfl
theorem zDd{k0:Nat}{x:RqD}(S:SrvR k0 R B w bs g c s Ls K wt hd lw lh lj RW)(H:ButS g c.workers s.held k0 Ls)(hu:s.held.getD k0 none=some (x,i))(hB:B<=w.heap.size):
  Sp PP F.q5 #[.pointer (some ⟨bs,0,none⟩),.int .i64 (k0:Int)] w λ_ w'=>SrvP (gR R w w') B w' bs g c ⟨s.wait,s.held.set k0 none⟩/\Fr (mutS bs K.bj c.workers RW) w w':=by
 have hk:=(zAp hu).1
 have F0:=S.fz.here
 have hlen:=S.so.len
 have hsl:=S.ci.slots
 have hW:=S.ci.workers
 have hkh:k0<lh.length:=by rw [F0.lhn];exact hk
 have hkj:k0<lj.length:=by rw [F0.ljn];exact hk
 have hus:lh[k0].used=true:=by
  have:=F0.helds k0 hkh hkj
  rw [hu] at this;exact this.1
 have hln:lh.length<=64:=by rw [F0.lhn];omega
 have D:=zIx (i:=(k0:Int)) F0.fh (by omega)
 have hdr:dropH lh (k0:Int)=(lh.set k0 zeroH,0):=by
  unfold dropH
  rw [if_neg (by omega),Int.toNat_natCast,zAx hkh,if_pos hus]
 rw [hdr] at D
 have hbj:=S.reg _ S.rj
 refine en TBok rfl ?_
 refine rld (B:=S.cell) rfl (rcall D ?_)
 rintro _ w1 ⟨⟨v',rfl,O1⟩,e1⟩
 have q_:=O1.shape
 obtain⟨a1,c1,rfl⟩:=q_
 refine iT rfl (rsto (B:=S.cell) (vs:=[.slice a1 (lh.set k0 zeroH).length c1]) rfl rfl rfl (sv1 _ _ _) λw2 C2 f2 _=>?_)
 have C2:Bk w2 bs (srvL c K wt ⟨a1,(lh.set k0 zeroH).length,c1⟩) E.qm:=C2
 refine rld (B:=C2) rfl (rbuild (cs:=enc zJob) rfl ?_)
 have J2:=(S.jobs.up (w':=w1)).fr f2 (λg _ hg h=>by cases hg;exact S.ne h.symm)
 refine rixO rfl J2 (x:=lj[k0]) (by simp) λgj hgj _ _=>rstO' rfl zJob J2 hgj hkj rfl λw3 J3 f3 _=>?_
 have f3:Fr (λi=>i=K.bj) w2 w3:=f3.mono λi _ hi=>bjD hi
 have f13:Fr (λi=>i=bs\/i=K.bj) w1 w3:=(f2.mono λi _ hi=>.inl hi).trans (f3.mono λi _ hi=>.inr hi)
 have C3:=C2.fr f3 S.ne
 have Z1:Fz (mutS bs K.bj c.workers RW) (gR R w w1) w1 (SrvF 1000 g c K wt ⟨a1,(lh.set k0 zeroH).length,c1⟩ lw (lh.set k0 zeroH) (lj.set k0 zJob) ⟨s.wait,s.held.set k0 none⟩):=
  ((S.fz1 (w':=w1)).and (S.fzO O1 (Nat.le_refl _))).imp λu ⟨Fa,Sh⟩ =>
   ⟨Fa.rows,Fa.pos,Fa.words,Fa.wk,Fa.fw,Sh,Fa.lwn,Fa.waits,by simp [Fa.lhn],by simp [Fa.ljn],heldsZ hk Fa.helds⟩
 have m13:Fr (mutS bs K.bj c.workers RW) w1 w3:=f13.mono λi _ hi=>hi.elim .inl λh=>.inr (.inl h)
 have z13:=f13.size
 have Z3:Fz (mutS bs K.bj c.workers RW) (gR R w w3) w3 _:=Z1.step m13 (λ_ _ h=>h) (λi _ h=>h.imp id λh=>by omega)
 have T3:Stos B w3 c.workers K c.pool RW Ls:=(S.st.up (w':=w1)).away f13 λk hk i hi h=>by have:=(S.rw k hk i hi).2;omega
 have F3:=Z3.here
 have hwn:K.wk.n=c.workers:=by have:=F3.wk.len;simpa using this
 refine rld (B:=C3) rfl ?_
 refine cnt TBok 35 [7] 35 c.workers (λj u=>∃RW',Stos B u c.workers K c.pool RW' (λk=>if k<j then dropS (Ls k) k0 else Ls k)/\GrowR c.workers RW RW' w3.heap.size/\Fr (anyR c.workers RW) w3 u) rfl rfl
  ⟨RW,T3.congr λk _=>by simp,.refl _,Fr.refl _ _⟩ ?_
 rintro j G u hj ⟨RW',T,GR,f⟩
 have Fu:=Z3 u (f.mono λi _ h=>.inl (zBw h))
 refine ite (λhlt=>?_) (λhge=>?_)
 ·have hja:j<c.workers:=by (try dsimp only at hlt);omega
  refine rix Fu.wk (x:=⟨K.sb j⟩) (by simp [hja]) λb1 o1 A1=>rload1 (A1.cell0 rfl) ?_
  have Tj:StoP (RW' j) B u (K.sb j) (K.sg j) c.pool (Ls j):=by have:=T.sto j hja;rwa [if_neg (Nat.lt_irrefl _)] at this
  refine rcall (zIA (s:=(k0:Int)) Tj) ?_
  rintro _ u1 ⟨rfl,S1,_,f1⟩
  refine rA ⟨rfl,hja,updR RW' j (gR (RW' j) u u1),(T.put hja S1 f1).congr λk _=>?_,GR.put f.size,GR.fr f hja f1⟩
  unfold updL
  dsimp only
  by_cases h1:k=j
  ·subst h1;rw [if_pos rfl,if_pos (by omega)]
  ·rw [if_neg h1]
   by_cases h2:k<j
   ·rw [if_pos h2,if_pos (by omega)]
   ·rw [if_neg h2,if_neg (by omega)]
 ·have hjw:j=c.workers:=by (try dsimp only at hge);omega
  subst hjw
  have T':Stos B u c.workers K c.pool RW' (wkS g c.workers (s.held.set k0 none)):=T.congr λk hk2=>by rw [if_pos hk2];exact H.drop hk k
  have nbs:¬anyR c.workers RW bs:=λ⟨k,hk,h⟩=>(S.rw k hk _ h).2.1 rfl
  have nbj:¬anyR c.workers RW K.bj:=λ⟨k,hk,h⟩=>(S.rw k hk _ h).2.2 rfl
  have z1:=Le.size (a:=w) (b:=w1)
  refine⟨⟨K,wt,_,lw,_,_,RW',S.fin (w1:=w3) (by omega) (f.mono λi _ h=>zBw h) hB (C3.fr f nbs) (J3.fr f λg _ hg h=>by cases hg;exact nbj h) T' GR (zNV S.so hu) Z3⟩,?_⟩
  exact((Fr.fr (Le.e (a:=w) (b:=w1))).trans m13).trans (f.mono λi _ h=>zBw h)
theorem zHu{k0:Nat}{x:RqD}(S:SrvZ R B w bs g c s Ls k0)(H:ButS g c.workers s.held k0 Ls)(hu:s.held.getD k0 none=some (x,i))(hB:B<=w.heap.size):
  Sp PP F.q5 #[.pointer (some ⟨bs,0,none⟩),.int .i64 (k0:Int)] w λ_ w'=>SrvP (gR R w w') B w' bs g c ⟨s.wait,s.held.set k0 none⟩/\Fr R w w':=by
 obtain⟨K,wt,hd,lw,lh,lj,RW,S⟩:=S
 exact(zDd S H hu hB).mono λv w' h=>⟨h.1,h.2.mono λi _ h=>S.mut h⟩
theorem zM6{lw:List RReq}{l:List RqD}(hl:lw.length=l.length)(h:∀i (h:i<lw.length) (h':i<l.length),lw[i].id=l[i].id)(id:Int):plc lw id=waitAt l id:=
 zFH (f:=λr:RReq=>some r.id) (f':=λr:RqD=>some r.id) (id:=id) (λx=>by simp) (λx=>by simp) (zHk hl λi h1 h2=>by rw [h i h1 h2])
theorem zLt{h:Hs}(h1:lh.length=h.length)(h2:lj.length=h.length)(H:∀k (h3:k<lh.length) (h':k<lj.length),HeldOk kx w g lh[k] lj[k] (h.getD k none) k)(id:Int):foundAt lh id=heldAt h id:=by
 refine zFH (f:=λr:RHeld=>if r.used then some r.r.id else none) (f':=λo=>o.map λp=>p.1.id) (id:=id) (λx=>?_) (λx=>?_) (zHk h1 λi h3 h4=>?_)
 ·cases x.used <;> simp
 ·cases x <;> simp
 ·have:=H i h3 (by omega)
  rw [List.getD_eq_getElem?_getD,List.getElem?_eq_getElem h4,Option.getD_some] at this
  cases e:h[i] with
  |none=>rw [e] at this;simp only [HeldOk] at this;simp [this]
  |some p =>
   obtain⟨d,j⟩:=p
   rw [e] at this
   simp [this.1,this.2.1.id]
theorem SrvF.plc(Fa:SrvF kx g c K wt hd lw lh lj s u)(id:Int):plc lw id=waitAt s.wait id:=zM6 Fa.lwn (λi h h'=>(Fa.waits i h h').id) id
theorem SrvF.found(Fa:SrvF kx g c K wt hd lw lh lj s u)(id:Int):foundAt lh id=heldAt s.held id:=zLt Fa.lhn Fa.ljn Fa.helds id
theorem SrvR.small(S:SrvR kx R B w bs g c s Ls K wt hd lw lh lj RW):lw.length<=1000/\lh.length<=64:=by
 have Fa:=S.fz.here
 have:=S.so.len;have:=S.so.wl;have:=S.ci.slots;have:=S.ci.queue
 rw [Fa.lwn,Fa.lhn];omega
theorem SrvR.waits[L:Le w w1]{s':SvD}{a1:Option Addr}{c1:Nat}{lw':List RReq}(S:SrvR 1000 R B w bs g c s (wkS g c.workers s.held) K wt hd lw lh lj RW)(hB:B<=w.heap.size)(hs:s'.held=s.held)
  (C2:Bk w2 bs (srvL c K ⟨a1,lw'.length,c1⟩ hd) E.qm)(f2:Fr (λi=>i=bs) w1 w2)(so:SvOk g c s')
  (Z1:Fz (mutS bs K.bj c.workers RW) (gR R w w1) w1 (SrvF 1000 g c K ⟨a1,lw'.length,c1⟩ hd lw' lh lj s')):SrvP (gR R w w2) B w2 bs g c s'/\∀u,Le u w1->Fr R u w2:=by
 have z:=L.e.size
 refine⟨⟨K,⟨a1,lw'.length,c1⟩,hd,lw',lh,lj,RW,?_⟩,λu L2=>(Fr.fr L2.e).trans (f2.mono λi _ h=>h ▸ S.rs)⟩
 rw [hs]
 refine S.fin z (f2.mono λi _ h=>.inl h) hB C2 ?_ ?_ (.refl _) so Z1
 ·exact(S.jobs.up (w':=w1)).fr f2 λg _ hg h=>by cases hg;exact S.ne h.symm
 ·exact(S.st.up (w':=w1)).away f2 λk hk i hi h=>(S.rw k hk i hi).2.1 h
theorem SrvP.new[L:Le w w'](S:SrvP R B w bs g c s)(hB:B<=w.heap.size):SrvP (gR R w w') B w' bs g c s/\Fr R w w':=by
 have h:=SrvX.reg S
 refine⟨SrvX.wide (SrvP.up S) (λi hi=>.inl hi) λi hi=>?_,Fr.fr L.e⟩
 have:=L.e.size
 rcases hi with hi|hi
 ·have:=h.1 i hi;omega
 ·omega
theorem SrvP.gr[L:Le w w1](S:SrvP (gR R w1 w') B w' bs g c s)(h:w1.heap.size<=w'.heap.size)(hB:B<=w.heap.size):SrvP (gR R w w') B w' bs g c s:=by
 have h0:=SrvX.reg S
 have:=L.e.size
 refine SrvX.wide S (λi hi=>hi.imp id λh=>by omega) λi hi=>?_
 rcases hi with hi|hi
 ·exact h0.1 i (.inl hi)
 ·omega
theorem SrvP.lo(S:SrvP R B w bs g c s):∀i,R i->i<w.heap.size:=λi hi=>((SrvX.reg S).1 i hi).2
theorem zHt{x:RReq}(S:SrvP R B w0 bs g c s)[L:Le w0 w](hB:B<=w0.heap.size):
  Sp PP F.qk #[.pointer (some ⟨bs,0,none⟩),agg x] w λv w'=>v=.int .i64 (backS s x.id).2/\SrvP (gR R w0 w') B w' bs g c (backS s x.id).1/\Fr R w w':=by
 have SP:=S
 obtain⟨K,wt,hd,lw,lh,lj,RW,S⟩:=S
 have F0:=S.fz.here
 have hsm:=S.small
 have hpl:=F0.plc x.id
 have hfd:=F0.found x.id
 have ok:=(zKB S.so x.id).1
 have hwn:=F0.fw.len
 refine en TBok rfl ?_
 refine rbx λb1 w1 n1 B1=>drawR TBok mixed (λ_=>False) (upF 12 0) (by kernel_rfl) λw2 e2 _=>tld (B:=S.cell) rfl nf (tld (B:=B1) rfl nf ?_)
 refine rcall (zJ1 (id:=x.id) (S.fz.at (w':=w2)).fw (by omega)) ?_
 rintro _ w3 ⟨⟨v',rfl,O3⟩,e3⟩
 refine⟨Fr.fr e3,?_⟩
 have s3:Stp w2 w3:=⟨e3⟩
 unfold takeR at O3 ⊢
 unfold backS at ok ⊢
 rw [hpl] at O3 ⊢
 cases hw:waitAt s.wait x.id with
 |some k =>
  rw [hw] at O3 ok
  have q_:=zLd hw
  obtain⟨hk,hid⟩:=q_
  dsimp only at O3 ok ⊢
  have q_:=O3.shape
  obtain⟨a3,c3,rfl⟩:=q_
  refine rsto (B:=S.cell) (vs:=[.slice a3 (lw.take k++lw.drop (k+1)).length c3]) rfl rfl rfl (sv1 _ _ _) λw4 C4 f4 _=>?_
  have C4:Bk w4 bs (srvL c K ⟨a3,(lw.take k++lw.drop (k+1)).length,c3⟩ hd) E.qm:=C4
  have hW:=S.waits (w1:=w3) (s':=⟨s.wait.eraseIdx k,s.held⟩) hB rfl C4 f4 ok ?_
  exact⟨rfl,hW.1,hW.2 w inferInstance⟩
  refine((S.fz1 (w':=w3)).and (S.fzO O3 (Le.size (a:=w0) (b:=w2)))).imp λu ⟨Fa,Sw⟩=>⟨Fa.rows,Fa.pos,Fa.words,Fa.wk,Sw,Fa.fh,?_,λi h h'=>?_,Fa.lhn,Fa.ljn,Fa.helds⟩
  ·have:=Fa.lwn;simp only [List.length_append,List.length_take,List.length_drop,List.length_eraseIdx];split <;> omega
  ·have hl:=Fa.lwn
   dsimp only at h'
   have hle:s.wait.eraseIdx k=s.wait.take k++s.wait.drop (k+1):=List.eraseIdx_eq_take_drop_succ ..
   simp only [hle,List.getElem_append,List.length_take]
   have hm1:min k lw.length=k:=by omega
   have hm2:min k s.wait.length=k:=by omega
   simp only [hm1,hm2]
   split
   ·simp only [List.getElem_take];exact Fa.waits i (by omega) (by omega)
   ·simp only [List.getElem_drop]
    have:i<(lw.take k++lw.drop (k+1)).length:=h
    simp only [List.length_append,List.length_take,List.length_drop] at this
    exact Fa.waits (k+1+(i - k)) (by omega) (by omega)
 |none =>
  rw [hw] at ok
  dsimp only at ok ⊢
  refine drawR TBok mixed (λ_=>False) (upF 12 0) (by kernel_rfl) λw4 e4 _=>tld (B:=S.cell) rfl nf (tld (B:=B1) rfl nf ?_)
  refine rcall (zEy (id:=x.id) (S.fz.at (w':=w4)).fh (by omega)) ?_
  rintro _ w5 ⟨rfl,e5⟩
  refine⟨e5.e,?_⟩
  rw [hfd]
  cases hh:heldAt s.held x.id with
  |some k =>
   have q_:=zKN hh
   obtain⟨y,i,hy,hyid⟩:=q_
   refine rcall (zHu (k0:=k) (SrvX.z (SrvP.up (w':=w5) SP) k) (zMH k) hy (Nat.le_trans hB (Le.size (a:=w0) (b:=w5)))) ?_
   rintro _ w6 ⟨S6,f6⟩
   exact⟨rfl,SrvP.gr (w:=w0) S6 f6.size hB,(Fr.fr (Le.e (a:=w) (b:=w5))).trans f6⟩
  |none =>
   exact⟨rfl,(SrvP.new (w':=w5) SP hB).1,Fr.fr (Le.e (a:=w) (b:=w5))⟩
theorem RqIs.small{d:RqD}(h:RqIs d):d.q.words.length<=8/\∀s∈d.q.words,s.size<=12:=by
 obtain⟨h1,h2,h3⟩:=h
 by_cases h4:d.kind=4
 ·rw [if_pos h4] at h3
  rw [h3];simp [zQy]
 ·rw [if_neg h4] at h3
  rcases h1 with h1|⟨h1,h5⟩
  ·exact absurd h1 h4
  ·by_cases h6:d.kind=3
   ·have:=h5.2.2.2 (by omega)
    exact⟨this.1.2,λs hs=>(this.2.2.2 s hs).2.2⟩
   ·rw [if_neg h6] at h3
    rw [h3.1];simp
theorem RqO.up{B:Nat}[L:Le w w']{x:RReq}{d:RqD}(h:RqO B w x d):RqO B w' x d:=⟨h.1,h.2.1,h.2.2.1,h.2.2.2.1,h.2.2.2.2.1,h.2.2.2.2.2.1.up,h.2.2.2.2.2.2⟩
theorem RqO.fz{M R:Nat->Prop}{B:Nat}{x:RReq}{d:RqD}(h:RqO B w x d)(hM:∀i,B<=i->i<w.heap.size->R i/\¬M i):Fz M R w λu=>RqV u x d:=λu f =>
 ⟨h.1,h.2.1,⟨h.2.2.1,h.2.2.2.1,h.2.2.2.2.1,h.2.2.2.2.2.1.fz hM u f,h.2.2.2.2.2.2.1,h.2.2.2.2.2.2.2⟩⟩
theorem SrvF.off(Fa:SrvF kx g c K wt hd lw lh lj s u):K.xr.off.n=g.n+1:=by
 have:=Fa.rows.off.len
 rw [zAM] at this;exact this
theorem zIw{x:RReq}{d:RqD}(S:SrvP R B w0 bs g c s)[L:Le w0 w](hB:B<=w0.heap.size)(O:RqO w0.heap.size w x d)(hd4:RqIs d):
  Sp PP F.ql #[.pointer (some ⟨bs,0,none⟩),agg x] w λv w'=>v=.int .i64 (askS g c s d (QyIs d.q g.n)).2/\SrvP (gR R w0 w') B w' bs g c (askS g c s d (QyIs d.q g.n)).1/\Fr R w w':=by
 have SP:=S
 obtain⟨K,wt,hd,lw,lh,lj,RW,S⟩:=S
 have F0:=S.fz.here
 have hsm:=S.small
 have hsml:=hd4.small
 have hidx:x.id=d.id:=O.1
 have hpl:=F0.plc x.id
 have hfd:=F0.found x.id
 rw [hidx] at hpl hfd
 have hoff:=F0.off
 have hn2:=S.gi.ok.n2
 have hask:=ask_ok (x:=d) S.so hd4.2.1
 have q_:∃s' code,askS g c s d (QyIs d.q g.n)=(s',code):=⟨_,_,rfl⟩
 obtain⟨s',code,hA⟩:=q_
 have hA1:¬QyIs d.q g.n->s'=s/\code=180:=λh=>by
  unfold askS at hA;rw [if_neg h] at hA;cases hA;exact⟨rfl,rfl⟩
 have hA2:QyIs d.q g.n->∀k,heldAt s.held d.id=some k->s'=s/\code=150:=λh k hk=>by
  unfold askS at hA;rw [if_pos h,hk] at hA;cases hA;exact⟨rfl,rfl⟩
 have hA3:QyIs d.q g.n->heldAt s.held d.id=none->∃L,putR lw c.queue x=(L,code)/\(code=0/\L=lw++[x]/\s'=⟨s.wait++[d],s.held⟩\/code≠0/\s'=s):=λh hk=>by
  unfold askS at hA
  rw [if_pos h,hk,if_neg (by simp)] at hA
  unfold putR
  rw [hidx,hpl]
  cases hw:waitAt s.wait d.id with
  |some k=>rw [hw] at hA;cases hA;exact⟨[],rfl,.inr ⟨by decide,rfl⟩⟩
  |none =>
   rw [hw,if_neg (by simp)] at hA
   rw [if_neg (by simp)]
   have e:((c.queue:Int)<=(lw.length:Nat))↔c.queue<=s.wait.length:=by rw [F0.lwn];omega
   by_cases hqu:c.queue<=s.wait.length
   ·rw [if_pos hqu] at hA;cases hA;rw [if_pos (e.2 hqu)];exact⟨[],rfl,.inr ⟨by decide,rfl⟩⟩
   ·rw [if_neg hqu] at hA;cases hA;rw [if_neg (λh=>hqu (e.1 h))];exact⟨_,rfl,.inl ⟨rfl,rfl,rfl⟩⟩
 rw [hA] at hask ⊢
 dsimp only at hask ⊢
 refine en TBok rfl ?_
 refine rbx λb1 w1 n1 B1=>drawR TBok mixed (λ_=>False) (upF 11 0) (by kernel_rfl) λw2 e2 _=>tldG (ds:=enc x.q) (B:=B1) rfl (Enc.len _) nf (tld (B:=S.cell) rfl nf ?_)
 rw [hoff]
 refine rarE (y:=(g.n:Int)) (by push_cast;omega) (by omega) ?_
 have V2:QyV w2 x.q d.q:=((RqO.up (w':=w2) O).v).q
 refine rcall (zEt (n:=(g.n:Int)) V2 (by omega) (λs hs=>by have:=hsml.2 s hs;omega)) ?_
 rintro _ w3 ⟨hchk,e3⟩
 refine⟨e3.e,?_⟩
 rcases hchk with ⟨hq,rfl⟩|⟨hq,rfl⟩
 case inr =>
  have q_:=hA1 hq
  obtain⟨rfl,rfl⟩:=q_
  refine iT (by first|omega|decide|(dsimp only <;> omega)) ?_
  exact⟨rfl,(SrvP.new (w':=w3) SP hB).1,Fr.fr (Le.e (a:=w) (b:=w3))⟩
 refine iF (· rfl) (drawR TBok mixed (λ_=>False) (upF 12 0) (by kernel_rfl) λw4 e4 _=>tld (B:=S.cell) rfl nf (tld (B:=B1) rfl nf ?_))
 have D:=zEy (id:=x.id) (S.fz.at (w':=w4)).fh (by omega)
 rw [hidx,hfd] at D
 refine rcall (f:=F.zh) (by rw [hidx];exact D) ?_
 rintro _ w5 ⟨rfl,e5⟩
 refine⟨e5.e,?_⟩
 cases hh:heldAt s.held d.id with
 |some k =>
  have q_:=hA2 hq k hh
  obtain⟨rfl,rfl⟩:=q_
  exact⟨rfl,(SrvP.new (w':=w5) SP hB).1,Fr.fr (Le.e (a:=w) (b:=w5))⟩
 |none =>
  have q_:=hA3 hq hh
  obtain⟨L,hput,hL⟩:=q_
  have hwn:=F0.fw.len
  refine drawR TBok mixed (λ_=>False) (upF 16 0) (by kernel_rfl) λw6 e6 _=>tld (B:=S.cell) rfl nf (tld (B:=S.cell) rfl nf ?_)
  refine tldG (ds:=enc x) (B:=B1) rfl (Enc.len _) nf ?_
  have D:=zKt (most:=(c.queue:Int)) (x:=x) (S.fz.at (w':=w6)).fw (by omega)
  rw [hput] at D
  refine rcall D ?_
  rintro _ w7 ⟨⟨v',rfl,O7⟩,e7⟩
  refine⟨Fr.fr e7,?_⟩
  have s7:Stp w6 w7:=⟨e7⟩
  rcases hL with ⟨rfl,rfl,rfl⟩|⟨hne,rfl⟩
  case inr =>
   refine iF hne ?_
   exact⟨rfl,(SrvP.new (w':=w7) SP hB).1,Fr.fr (Le.e (a:=w) (b:=w7))⟩
  refine iT rfl ?_
  dsimp only at O7
  have q_:=O7.shape
  obtain⟨a7,c7,rfl⟩:=q_
  refine rsto (B:=S.cell) (vs:=[.slice a7 (lw++[x]).length c7]) rfl rfl rfl (sv1 _ _ _) λw8 C8 f8 _=>?_
  have C8:Bk w8 bs (srvL c K ⟨a7,(lw++[x]).length,c7⟩ hd) E.qm:=C8
  have ok:SvOk g c ⟨s.wait++[d],s.held⟩:=by
   rcases hask with ⟨_,_,h3,_⟩|⟨h1,_⟩
   ·exact h3
   ·omega
  have hW:=S.waits (w1:=w7) (s':=⟨s.wait++[d],s.held⟩) hB rfl C8 f8 ok ?_
  exact⟨rfl,hW.1,hW.2 w inferInstance⟩
  have ZO:=(RqO.up (w':=w7) O).fz (M:=mutS bs K.bj c.workers RW) (R:=gR R w0 w7) λi h1 h2=>⟨.inr ⟨h1,h2⟩,λh=>by have:=S.reg i (S.mut h);omega⟩
  refine((S.fz1 (w':=w7)).and ((S.fzO O7 (Le.size (a:=w0) (b:=w6))).and ZO)).imp λu ⟨Fa,Sw,V⟩=>⟨Fa.rows,Fa.pos,Fa.words,Fa.wk,Sw,Fa.fh,?_,λi h h'=>?_,Fa.lhn,Fa.ljn,Fa.helds⟩
  ·simp [Fa.lwn]
  ·have hl:=Fa.lwn
   simp only [List.getElem_append]
   by_cases hi:i<lw.length
   ·rw [dif_pos hi,dif_pos (by omega)];exact Fa.waits i hi (by omega)
   ·rw [dif_neg hi,dif_neg (by omega)]
    simp only [List.getElem_singleton];exact V
end
section
variable {kx:Nat} {R:Nat->Prop} {B:Nat} {w0 w w':World} {bs:Nat} {g:GrD} {c:CfD} {s:SvD} {Ls:Nat->List StD} {K:SrvK} {wt hd:SV} {lw:List RReq} {lh:List RHeld} {lj:List RJob} {RW:Nat->Nat->Prop}
theorem SrvF.wkn(Fa:SrvF kx g c K wt hd lw lh lj s u):K.wk.n=c.workers:=by have:=Fa.wk.len;simpa using this
theorem SrvF.usedH(Fa:SrvF kx g c K wt hd lw lh lj s u):usedH lh=(usedS s.held).map λk:Nat=>(k:Int):=by
 unfold Go.W.usedH usedAt usedS
 rw [Fa.lhn]
 congr 1
 unfold selN
 refine List.filter_congr λk hk=>?_
 have hk:=List.mem_range.1 hk
 have h1:k<lh.length:=by rw [Fa.lhn];exact hk
 have:=Fa.helds k h1 (by rw [Fa.ljn];exact hk)
 rw [zAx h1]
 cases e:s.held.getD k none with
 |none=>rw [e] at this;simp only [HeldOk] at this;simp [this]
 |some p=>obtain⟨d,i⟩:=p;rw [e] at this;simp [this.1]
theorem SrvF.free(Fa:SrvF kx g c K wt hd lw lh lj s u):freeAt lh=freeS s.held:=by
 have h1:freeAt lh=(lh.map (·.used)).findIdx? λb=>!b:=by unfold freeAt;rw [List.findIdx?_map];rfl
 have h2:freeS s.held=(s.held.map (·.isSome)).findIdx? λb=>!b:=by unfold freeS;rw [List.findIdx?_map];congr 1;funext o;cases o <;> rfl
 rw [h1,h2]
 congr 1
 refine zHk Fa.lhn λk h3 h4=>?_
 have:=Fa.helds k h3 (by rw [Fa.ljn];exact h4)
 rw [List.getD_eq_getElem?_getD,List.getElem?_eq_getElem h4,Option.getD_some] at this
 cases e:s.held[k] with
 |none=>rw [e] at this;simpa [HeldOk] using this
 |some p=>obtain⟨d,j⟩:=p;rw [e] at this;simpa using this.1
theorem zG2(S:SrvP R B w bs g c s)(hB:B<=w.heap.size):
  Sp PP F.zp #[.pointer (some ⟨bs,0,none⟩)] w λ_ w'=>SrvP (gR R w w') B w' bs g c ⟨(admitS s.wait s.held).1,(admitS s.wait s.held).2⟩/\Fr R w w':=by
 refine en TBok rfl ?_
 have S0:SrvP (gR R w w) B w bs g c ⟨s.wait,s.held⟩:=SrvX.wide S (λi hi=>.inl hi) λi hi=>hi.elim ((SrvX.reg S).1 i) λh=>by omega
 refine loop0G TBok 8 [2,3,4,5,6,7] (λi u=>∃l h,l.length=i/\admitS l h=admitS s.wait s.held/\SrvP (gR R w u) B u bs g c ⟨l,h⟩/\Fr R w u) rfl ⟨_,s.wait,s.held,rfl,rfl,S0,Fr.refl _ _⟩ ?_
 rintro i G u ⟨l,h,hi,hadm,S,f⟩
 clear S0
 have z0:=f.size
 have SP:=S
 obtain⟨K,wt,hd,lw,lh,lj,RW,S⟩:=S
 have F0:=S.fz.here
 have hsm:=S.small
 have hlw:=F0.lwn
 have hwtn:=F0.fw.len
 have hbs:=S.reg _ S.rs
 have hbj:=S.reg _ S.rj
 have hfree:=F0.free
 dsimp only at hlw hfree
 refine rld (B:=S.cell) rfl (rcall (zJ0 F0.fw (by omega)) ?_)
 rintro _ u1 ⟨⟨v1,rfl,O1⟩,e1⟩
 have s1:Stp u u1:=⟨e1⟩
 refine ral λbx u2 n2 X2=>?_
 have hbx:=n2.lo (u:=u)
 have hbx2:=n2.lt
 refine rsto (B:=X2) (vs:=enc (nextR lw).1) rfl rfl rfl (Enc.one _) λu3 X3 f3 _=>?_
 have X3:Bk u3 bx (enc (nextR lw).1) E.qd:=X3
 have s3:Stp u1 u3:=⟨Fr.st Le.e f3 λi hi=>by subst hi;exact n2.lo⟩
 clear X2 f3
 refine drawR TBok mixed (λ_=>False) (upF 13 0) (by kernel_rfl) λu4 e4 _=>tld (B:=S.cell) rfl nf (tldG (ds:=enc (nextR lw).1) (B:=X3) rfl (Enc.len _) nf (rcall (zJN (x:=(nextR lw).1) (S.fz.at (w':=u4)).fh (by omega)) ?_))
 rintro _ u5 ⟨⟨v5,rfl,O5⟩,e5⟩
 refine⟨e5.e,?_⟩
 have out:admitS l h=(l,h)->SrvP (gR R w u5) B u5 bs g c ⟨(admitS s.wait s.held).1,(admitS s.wait s.held).2⟩/\Fr R w u5:=λhe=>by
  rw [<-hadm,he]
  have h1:=Le.size (a:=u) (b:=u5)
  refine⟨SrvX.wide (SrvP.up (w':=u5) SP) (λi hi=>hi.imp id λh=>by omega) λi hi=>?_,f.trans (Fr.fr (Le.e (a:=u) (b:=u5)))⟩
  have h2:=(SrvX.reg SP).1
  rcases hi with hi|hi
  ·have:=h2 i (.inl hi);omega
  ·omega
 cases hl:lw with
 |nil =>
  subst hl
  have hl0:l=[]:=List.eq_nil_of_length_eq_zero (by simpa using hlw.symm)
  subst hl0
  exact out rfl
 |cons x r =>
  cases l with
  |nil=>rw [hl] at hlw;simp at hlw
  |cons d l =>
  rw [hl] at O1 O5 X3
  dsimp only [nextR] at O1 O5 X3 ⊢
  unfold putH at O5 ⊢
  rw [hfree] at O5 ⊢
  cases hf:freeS h with
  |none =>
   dsimp only
   refine iT (by first|omega|decide|(dsimp only <;> omega)) (out ?_)
   unfold admitS;rw [hf]
  |some k =>
   have q_:=zET hf
   obtain⟨hk,hn⟩:=q_
   rw [hf] at O5
   dsimp only at O5 ⊢
   refine iF (· rfl) ?_
   have hkj:k<lj.length:=by rw [F0.ljn];exact hk
   have hV:Fz (mutS bs K.bj c.workers RW) (gR R w u) u λu'=>RqV u' x d:=S.fz.imp λu' Fa=>by
    have:=Fa.waits 0 (by rw [hl];simp) (by simp)
    simp only [hl,List.getElem_cons_zero] at this
    exact this
   have V5:=hV.at (w':=u5)
   have hrok:=S.so.wait d (by simp)
   have ok:=zLP S.ci S.so hf
   have q_:=O1.shape
   obtain⟨a1,c1,rfl⟩:=q_
   have q_:=O5.shape
   obtain⟨a5,c5,rfl⟩:=q_
   refine rsto (B:=S.cell) (vs:=[.slice a1 r.length c1]) rfl rfl rfl (sv1 _ _ _) λu6 C6 f6 _=>?_
   have C6:Bk u6 bs (srvL c K ⟨a1,r.length,c1⟩ hd) E.qm:=C6
   refine rsto (B:=C6) (vs:=[.slice a5 (lh.set k ⟨true,x⟩).length c5]) rfl rfl rfl (sv1 _ _ _) λu7 C7 f7 _=>?_
   have C7:Bk u7 bs (srvL c K ⟨a1,r.length,c1⟩ ⟨a5,(lh.set k ⟨true,x⟩).length,c5⟩) E.qm:=C7
   have f57:Fr (λi=>i=bs) u5 u7:=f6.trans f7
   have z57:=f57.size
   have z5:=Le.size (a:=u) (b:=u5)
   have z3:=Le.size (a:=u3) (b:=u5)
   have m57:Fr (mutS bs K.bj c.workers RW) u5 u7:=f57.mono λi _ hi=>.inl hi
   have X7:=(X3.mv (w:=u5)).fr f57 (by omega)
   have J7:=(S.jobs.up (w':=u5)).fr f57 λg _ hg h=>by cases hg;exact S.ne h.symm
   have T7:=(S.st.up (w':=u5)).away f57 λk hk i hi h=>(S.rw k hk i hi).2.1 h
   have Z5:=((S.fz1 (w':=u5)).and ((S.fzO (w':=u5) (O1.up (w':=u5)) (Nat.le_refl _)).and (S.fzO O5 (Le.size (a:=u) (b:=u4)))))
   have Z7:Fz (mutS bs K.bj c.workers RW) (gR (gR R w u) u u7) u7 _:=Z5.step m57 (λ_ _ h=>h) λi _ h=>h.imp id λh=>by omega
   have hV7:RqV u7 x d:=hV u7 (((Fr.fr (Le.e (a:=u) (b:=u5))).trans m57).mono λi _ h=>.inl h)
   refine drawR TBok mixed (λi=>i=K.bj) [0,1,2,3,4,5,6,7,8,9,10,11] (by kernel_rfl) λu8 e8 _=>tld (B:=C7) rfl (λh=>S.ne h) (tldG (ds:=enc x.q) (B:=X7) rfl (Enc.len _) (by omega) (rcall (zIu (g:=g) (q:=d.q) (slot:=(k:Int)) ⟨hV7.q.kind,hV7.q.frm,hV7.q.to⟩ hrok.q.ok) ?_))
   rintro v9 u9 ⟨O9,e9⟩
   refine⟨Fr.fr e9.e,?_⟩
   have q_:=O9.shape
   obtain⟨a9,c9,rfl⟩:=q_
   refine tbuild (cs:=enc (⟨⟨a9,(mls g d.q k 0).length,c9⟩,0⟩:RJob)) rfl ?_
   have J9:=J7.up (w':=u9)
   refine tixO rfl J9 (x:=lj[k]) (by simp) λgj hgj _ _=>rstO' rfl (⟨⟨a9,(mls g d.q k 0).length,c9⟩,0⟩:RJob) J9 hgj hkj rfl λu10 J10 f10 _=>?_
   have f10:Fr (λi=>i=K.bj) u9 u10:=f10.mono λi _ hi=>bjD hi
   refine⟨f10,?_⟩
   have z9:=Le.size (a:=u7) (b:=u9)
   have Z9:=(Z7.step (M':=mutS bs K.bj c.workers RW) (R':=gR (gR R w u) u u9) (w':=u9) (Fr.fr (Le.e (a:=u7) (b:=u9))) (λ_ _ h=>h) (λi _ h=>h.imp id λh=>by omega)).and (S.fzO (w':=u9) O9 (by have:=Le.size (a:=u7) (b:=u8);omega))
   have Zn:Fz (mutS bs K.bj c.workers RW) (gR (gR R w u) u u9) u9 (SrvF 1000 g c K ⟨a1,r.length,c1⟩ ⟨a5,(lh.set k ⟨true,x⟩).length,c5⟩ r (lh.set k ⟨true,x⟩) (lj.set k ⟨⟨a9,(mls g d.q k 0).length,c9⟩,0⟩) ⟨l,h.set k (some (d,0))⟩):=
    Z9.imp λu' ⟨⟨Fa,Sw,Sh⟩,Sm⟩=>by
     have hlw:=Fa.lwn
     refine⟨Fa.rows,Fa.pos,Fa.words,Fa.wk,Sw,Sh,?_,λi h1 h2=>?_,by simp [Fa.lhn],by simp [Fa.ljn],zLY hk Fa.helds ⟨rfl,?_,λ_=>⟨Sm,rfl⟩⟩⟩
     ·rw [hl] at hlw;simpa using hlw
     ·have:=Fa.waits (i+1) (by rw [hl];simpa using h1) (by simpa using h2)
      simp only [hl,List.getElem_cons_succ] at this
      exact this
     ·have:=Fa.waits 0 (by rw [hl];simp) (by simp)
      simp only [hl,List.getElem_cons_zero] at this
      exact this
   have fin:=S.fin (w1:=u9) (w':=u10) (s':=⟨l,h.set k (some (d,0))⟩) (by omega) (f10.mono λi _ h=>.inr (.inl h)) (Nat.le_trans hB z0) ((C7.mv (w:=u9)).fr f10 S.ne) J10 (((T7.up (w':=u9)).away f10 λk hk i hi h=>(S.rw k hk i hi).2.2 h)) (.refl _) ok Zn
   have z10:=f10.size
   have hm:Fr R w u10:=by
    refine f.join (E:=gR R w u) (D:=R) (((Fr.fr (Le.e (a:=u) (b:=u5))).trans (f57.mono λi _ h=>h ▸ S.rs)).trans ((Fr.fr (Le.e (a:=u7) (b:=u9))).trans (f10.mono λi _ h=>h ▸ S.rj))) (λ_ _ h=>h) λi hi h=>h.elim id λh=>by omega
   refine⟨l.length,by rw [<-hi];simp,l,h.set k (some (d,0)),rfl,?_,?_,hm⟩
   ·rw [<-hadm]
    conv=>rhs;unfold admitS
    rw [hf]
   ·have e2:wkS g c.workers h=wkS g c.workers (h.set k (some (d,0))):=(zOH hk hn d).symm
    dsimp only at fin
    rw [e2] at fin
    refine SrvX.wide (R:=gR (gR R w u) u u10) ⟨K,_,_,_,_,_,RW,fin⟩ (gR_gR z0 (by omega)) λi hi=>?_
    ·have h2:=(SrvX.reg SP).1
     rcases hi with hi|hi
     ·have:=h2 i (.inl hi);omega
     ·omega
end
section
variable {kx:Nat} {R:Nat->Prop} {B:Nat} {w0 w w':World} {bs:Nat} {g:GrD} {c:CfD} {s:SvD} {Ls:Nat->List StD} {K:SrvK} {wt hd:SV} {lw:List RReq} {lh:List RHeld} {lj:List RJob} {RW:Nat->Nat->Prop}
theorem zFc{a b:StD}{w:World}:Sp PP F.y7 #[agg a,agg b] w λv w'=>v=.int .i64 (cfS a b)/\Gw w w':=by
 refine en TBok rfl ?_
 refine rbx λba w1 n1 B1=>rbx λbb w2 n2 B2=>drawRE TBok mixed (λ_=>False) (.one 0 (.one 1 (.one 2 (.one 3 (.one 4 (.one 5 (.one 7 (.one 8 (.one 9 (.one 10 (.one 11 (.one 12 (.one 6 (.one 13 (.one 14 (.one 15 (.one 16 .nil))))))))))))))))) (by kernel_rfl) λw3 e3 g3=>?_
 refine tld (B:=B1) rfl nf (tld (B:=B2) rfl nf ?_)
 refine tld (B:=B1) rfl nf (tld (B:=B2) rfl nf ?_)
 refine rcall zAe ?_
 rintro v w4 ⟨rfl,rfl⟩
 refine⟨Fr.refl _ _,?_⟩
 refine rcall zAe ?_
 rintro v w5 ⟨rfl,rfl⟩
 refine⟨Fr.refl _ _,?_⟩
 refine rbsN [cmpI a.key.dir b.key.dir,cmpI a.key.v b.key.v] rfl (vs:=[.int .i64 (cmpI a.key.dir b.key.dir),.int .i64 (cmpI a.key.v b.key.v)]) rfl rfl (by decide) λb7 w7 n7 S7=>⟨n7.e,?_⟩
 refine rcall (zBB S7 (by simp)) ?_
 rintro v w8 ⟨rfl,rfl⟩
 refine⟨Fr.refl _ _,?_⟩
 exact⟨rfl,n1.gw.trans (n2.gw.trans (g3.trans n7.gw))⟩
theorem zKp{l':List StD}{o:Option (RqD×Nat)}(hp:l'.Perm (sts1 g o k))(hs:l'.Pairwise λa b=>¬cfS b a<0):l'=sts1 g o k:=by
 have M:=zEh g o k
 refine SRis.uniq ?_ M λx=>hp.mem_iff
 have hnd:l'.Nodup:=hp.nodup_iff.2 M.nodup
 rw [List.nodup_iff_pairwise_ne] at hnd
 refine List.Pairwise.imp_of_mem (λ{a b} ha hb hh=>?_) (hs.and hnd)
 have ha':=hp.mem_iff.1 ha
 have hb':=hp.mem_iff.1 hb
 have hsa:=zBh ha'
 have hsb:=zBh hb'
 refine zCb (λhl=>hh.1 ((zHb _ _).2 ?_)) (λhe=>hh.2 (M.inj ha' hb' he.symm))
 unfold lessK at hl;omega
theorem SrvP.lens(S:SrvP R B w bs g c s):∀k,k<c.workers->(wkS g c.workers s.held k).length<=c.pool:=λk hk=>by
 obtain⟨K,wt,hd,lw,lh,lj,RW,S⟩:=S
 exact(S.st.sto k hk).lt.2.2.2.1
theorem zCP{k0:Nat}(S:SrvP R B w bs g c s)(hk:k0<s.held.length):
  Sp PP F.zi #[.pointer (some ⟨bs,0,none⟩),.int .i64 (k0:Int)] w λv w'=>Own w.heap.size E.qh w' v (sts1 g (s.held.getD k0 none) k0)/\Stp w w':=by
 have hlens:=S.lens
 obtain⟨K,wt,hd,lw,lh,lj,RW,S⟩:=S
 have hW:=S.ci.workers
 have hpo:=S.ci.pool
 have hwn:=S.fz.here.wkn
 have hfl:∀j,j<=c.workers->((List.range j).flatMap λk=>ofS (wkS g c.workers s.held k) (k0:Int)).length<=j*400:=by
  intro j
  induction j with
  |zero=>intro _;simp
  |succ j ih =>
   intro hj
   have h1:=ih (by omega)
   rw [List.range_succ,List.flatMap_append,List.length_append]
   have h2:(ofS (wkS g c.workers s.held j) (k0:Int)).length<=(wkS g c.workers s.held j).length:=List.length_filter_le _ _
   have h3:=hlens j (by omega)
   simp only [List.flatMap_cons,List.flatMap_nil,List.append_nil]
   rw [Nat.add_mul];omega
 refine en TBok rfl ?_
 refine rld (B:=S.cell) rfl (cnt1 TBok 14 [7,8] 5 14 c.workers (λj v u=>Own w.heap.size E.qh u v ((List.range j).flatMap λk=>ofS (wkS g c.workers s.held k) (k0:Int))/\Stp w u) rfl rfl ⟨Own.nil _ _ _,stp⟩ ?_)
 rintro j v G u hj ⟨O,su⟩
 refine ite (λhlt=>?_) (λhge=>?_)
 ·have hja:j<c.workers:=by (try dsimp only at hlt);omega
  refine rix (S.fz.at (w':=u)).wk (x:=⟨K.sb j⟩) (by simp [hja]) λb1 o1 A1=>rload1 (A1.cell0 rfl) (rcall (zKo (s:=(k0:Int)) ((S.st.sto j hja).up (w':=u))) ?_)
  rintro v1 u1 ⟨O1,e1⟩
  have h1:=hfl j hj
  have h2:(ofS (wkS g c.workers s.held j) (k0:Int)).length<=(wkS g c.workers s.held j).length:=List.length_filter_le _ _
  have h3:=hlens j (by omega)
  refine rapp (u:=w) ⟨rfl,rfl⟩ (O.up (w':=u1)) O1.sl (by omega) λv2 u2 O2 f2 s2=>rA ⟨rfl,hja,?_,stp⟩
  rw [List.range_succ,List.flatMap_append]
  simp only [List.flatMap_cons,List.flatMap_nil,List.append_nil]
  exact O2
 ·obtain rfl:j=c.workers:=by (try dsimp only at hge);omega
  have h1:=hfl c.workers (Nat.le_refl _)
  refine rcall (zCA Tryz.sortS (k:=4) (show Agg PP E.qh 4 from inferInstance) rfl cfS zKF (f:=F.qn) rfl (λx y W=>zFc) O (by omega)) ?_
  rintro r u1 ⟨rfl,l',hp,hs,O1,f1⟩
  have s1:Stw w u u1:=zAz f1
  have hl':=zKp (hp.trans (of_all hk (by omega))) hs
  rw [<-hl']
  exact⟨O1,stp⟩
theorem zDB{k0:Nat}{x0:RqD}{C:Nat}{e:TypeId}{n':Nat}(S:SrvR 1000 R B w bs g c s (wkS g c.workers s.held) K wt hd lw lh lj RW)(hB:B<=w.heap.size)(hu:s.held.getD k0 none=some (x0,i))(O:Own C e w (.slice a n n') (sts g x0.q k0 (i+1)))(hC:∀i,R i->i<C):
  Sp PP F.z9 #[.pointer (some ⟨bs,0,none⟩),.slice a n n'] w λv w'=>(∃b Ls RW',v=.bool b/\SrvR 1000 (gR R w w') B w' bs g c s Ls K wt hd lw lh lj RW'/\GrowR c.workers RW RW' w.heap.size/\overS g c (aftS s.held k0 x0 i) = !b/\ButS g c.workers s.held k0 Ls/\(b=true->Ls=wkS g c.workers (aftS s.held k0 x0 i)))/\Fr (anyR c.workers RW) w w':=by
 have q_:=zAp hu
 obtain⟨hk,hm⟩:=q_
 have hlen:=S.so.len
 have hrq:=(S.so.held x0 i hm).1
 have hg2:=S.gi.ok.n2
 have hW:=S.ci.workers
 have hsl:=S.ci.slots
 have hwn:=S.fz.here.wkn
 have hln:=O.sl.len
 have hsm:(sts g x0.q k0 (i+1)).length<=400:=by
  rw [zK9]
  have:=sn_le (dir:=0) hrq.q.ok (i+1)
  have:=sn_le (dir:=1) hrq.q.ok (i+1)
  omega
 have hbs:=S.reg _ S.rs
 have hbj:=S.reg _ S.rj
 have fin:∀{u:World} {RW':Nat->Nat->Prop} {Ls:Nat->List StD},Stos B u c.workers K c.pool RW' Ls->GrowR c.workers RW RW' w.heap.size->Fr (anyR c.workers RW) w u->SrvR 1000 (gR R w u) B u bs g c s Ls K wt hd lw lh lj RW':=λ{u RW' Ls} T GR f=>by
  have nbs:¬anyR c.workers RW bs:=λ⟨k,hk,h⟩=>(S.rw k hk _ h).2.1 rfl
  have nbj:¬anyR c.workers RW K.bj:=λ⟨k,hk,h⟩=>(S.rw k hk _ h).2.2 rfl
  exact S.fin (w1:=w) (Nat.le_refl _) (f.mono λi _ h=>zBw h) hB (S.cell.fr f nbs) (S.jobs.fr f λg _ hg h=>by cases hg;exact nbj h) T GR S.so (S.fz1 (w':=w))
 refine en TBok rfl ?_
 refine cnt TBok 12 [4,6,7,8,9] 12 (sts g x0.q k0 (i+1)).length (λj u=>∃RW' Ls',Stos B u c.workers K c.pool RW' Ls'/\GrowR c.workers RW RW' w.heap.size/\Fr (anyR c.workers RW) w u/\KeepI g c.workers s.held (sts g x0.q k0 (i+1)) j Ls') rfl rfl
  ⟨RW,_,S.st,.refl _,Fr.refl _ _,zL1 _⟩ ?_
 rintro j G u hj ⟨RW',Ls',T,GR,f,H⟩
 refine ite (λhlt=>?_) (λhge=>?_)
 ·have hja:j<(sts g x0.q k0 (i+1)).length:=by (try dsimp only at hlt);omega
  have q_:∃x,(sts g x0.q k0 (i+1))[j]=x:=⟨_,rfl⟩
  obtain⟨x,hx⟩:=q_
  have hxm:x∈sts g x0.q k0 (i+1):=hx ▸ List.getElem_mem hja
  have hmay:=zHy hrq.q.ok hg2 (by omega) hxm
  have hv:=sts1_v (g:=g) (o:=some (x0,i+1)) (k:=k0) hxm
  have hhome:=zI6 (W:=c.workers) (v:=x.key.v) (by omega)
  have q_:∃p:Nat,homW c.workers x.key.v=(p:Int):=⟨(homW c.workers x.key.v).toNat,by omega⟩
  obtain⟨p,hp⟩:=q_
  have hpW:p<c.workers:=by omega
  have Ou:=O.fr f λb hb _ ⟨k,hk,h⟩=>by have:=hC b (S.rw k hk b h).1;omega
  refine rix Ou.sl (x:=x) (by rw [List.getElem?_eq_getElem hja,hx]) λb1 o1 A1=>rloadA A1 rfl (ral λbx u2 n2 X2=>?_)
  have hbx:=n2.lo (u:=u)
  refine rsto (B:=X2) (vs:=enc x) rfl rfl rfl (Enc.one _) λu3 X3 f3 _=>?_
  have X3:Bk u3 bx (enc x) E.qh:=X3
  have s3:Stp u u3:=⟨Fr.st Le.e f3 λi hi=>by subst hi;exact n2.lo⟩
  clear X2 f3
  have zf:=f.size
  have Cu:=S.cell.fr f λ⟨k,hk,h⟩=>(S.rw k hk _ h).2.1 rfl
  refine drawR TBok mixed (λ_=>False) (upF 14 0) (by kernel_rfl) λu4 e4 _=>tld (B:=X3) rfl nf (tld (B:=Cu) rfl nf ?_)
  refine rcall (zCi (v:=x.key.v) (W:=c.workers)) ?_
  rintro _ u5 ⟨rfl,rfl⟩
  have e5:homV c.workers x.key.v=.tuple #[.int .i64 (p:Int),.bool true]:=by
   rw [<-hp];exact if_pos ⟨hv,by have:=hmay.2.1;omega,hW⟩
  rw [e5]
  refine⟨Fr.refl _ _,?_⟩
  have nD:∀b,b<w.heap.size->¬anyR c.workers RW b->¬anyR c.workers RW' b:=λb hb hn ⟨k,hk,h⟩=>(GR k hk b h).elim (λh1=>hn ⟨k,hk,h1⟩) λh1=>by omega
  refine drawR TBok mixed (anyR c.workers RW') [0,1,2,3,4,5,6,7,8,9] (by kernel_rfl) λu6 e6 _=>tld (B:=Cu) rfl (nD _ hbs.2 λ⟨k,hk,h⟩=>(S.rw k hk _ h).2.1 rfl) (tixF (l:=(List.range c.workers).map λk=>(⟨K.sb k⟩:RPtr)) (x:=⟨K.sb p⟩) (λw' f'=>?_) (by simp [hpW]) λb2 o2 A2=>tload1F A2 ?_)
  ·exact(S.fz w' ((f.join ((Fr.fr (D:=anyR c.workers RW') (Le.e (a:=u) (b:=u6))).trans f') (λ_ _ h=>h) λi hi ⟨k,hk,h⟩=>(GR k hk i h).elim (λh1=>⟨k,hk,h1⟩) λh1=>by omega).mono λi _ h=>.inl (zBw h))).wk
  refine tldG (ds:=enc x) (B:=X3) rfl (Enc.len _) (λ⟨k,hk,h⟩=>by have:=T.lt k hk _ h;omega) (rcall (zJT (x:=x) ((T.sto p hpW).up (w':=u6))) ?_)
  rintro _ u7 ⟨rfl,S7,_,f7⟩
  refine⟨f7.mono λi _ h=>⟨p,hpW,h⟩,?_⟩
  have T6:=T.up (w':=u6)
  have T7:=T6.put hpW S7 f7
  have z6:=Le.size (a:=u) (b:=u6)
  have GR7:GrowR c.workers RW (updR RW' p (gR (RW' p) u6 u7)) w.heap.size:=GR.put (by omega)
  have f6:Fr (anyR c.workers RW) w u6:=f.trans (Fr.fr (Le.e (a:=u) (b:=u6)))
  have f67:=GR.fr f6 hpW f7
  have q_:=H.put hu hja hx hmay.1 (n:=c.pool) hp
  rcases q_ with ⟨h1,h2,h3⟩|⟨h1,h2⟩
  ·refine iT h1 ?_
   have hq:=fin T7 GR7 f67
   have hov:overS g c (aftS s.held k0 x0 i) = !false:=zCN.2 ⟨p,hpW,h3⟩
   have he:updL Ls' p (putS' c.pool (Ls' p) x).1=Ls':=by
    funext k;unfold updL;split
    ·rename_i hkp;rw [h2,hkp]
    ·rfl
   rw [he] at hq
   exact⟨⟨false,Ls',_,rfl,hq,GR7,hov,H.but,λh=>by cases h⟩,f67⟩
  ·refine iF h1 ?_
   exact rA ⟨rfl,hja,_,_,T7,GR7,f67,h2⟩
 ·have hjl:j=(sts g x0.q k0 (i+1)).length:=by (try dsimp only at hge);omega
  subst hjl
  have he:=H.end hu
  have hq:=fin T GR f
  have hov:overS g c (aftS s.held k0 x0 i) = !true:=by
   show _=false
   rw [<-Bool.not_eq_true,zCN]
   rintro⟨k,hk,h1⟩
   have h2:=(T.sto k hk).lt.2.2.2.1
   rw [he,zLe] at h2
   omega
  exact⟨⟨true,Ls',_,rfl,hq,GR,hov,H.but,λ_=>he⟩,f⟩
end
end Go.W
namespace Go.W
open Go
variable {B i j k m n n3:Nat} {D R:Nat -> Prop} {P:Program} {a a3:Option Addr} {g:GrD} {ps:List Int} {q:QyD} {u u' w w' w1 w2:World}
theorem zGC{k:Int}{l:List HitD}:(firstK k l).length<=k.toNat/\∀h∈firstK k l,h∈l:=by
 unfold firstK
 split
 ·simp
 ·rename_i hk
  have q_:=Int.eq_ofNat_of_zero_le (show (0:Int)<=k by omega)
  obtain⟨m,rfl⟩:=q_
  rw [zJ8]
  refine⟨by simp;omega,λh hm=>?_⟩
  exact(zLK l).2.mem_iff.1 (List.mem_of_mem_take hm)
theorem zMP(hg:GrOk g)(hq:QyOk q g.n)(hk:k<=1000){id:Int}(hid:0<=id/\id<=2147483647):
  RepOk (repOf id 0 (doneL g q (sts g q k i) (mls g q k i)).1) (doneL g q (sts g q k i) (mls g q k i)).1.hits:=by
 have hn:=hg.n2
 have hS:∀x∈sts g q k i,0<=x.key.v/\x.key.v<200/\0<=x.d/\x.d<200:=λx hx=>by
  have h1:=zHy hq hn (by omega) hx
  have h2:=h1.1.1
  unfold mayK at h2
  omega
 have zr:RepOk (repOf id 0 zAn) zAn.hits:=⟨hid,by simp [repOf],by simp [repOf,zAn],by simp [zAn],by simp [repOf],by simp [repOf,zAn],by simp [zAn],by simp [zAn]⟩
 unfold doneL
 split
 ·unfold distL
  split
  ·rename_i m hm
   have h1:=(zEY.1 hm).1
   have q_:=zCK.1 h1
   obtain⟨x,hx,y,hy,_,_,_,rfl⟩:=q_
   have:=hS x hx;have:=hS y hy
   exact⟨hid,by simp [repOf],by simp only [repOf];omega,by simp,by simp [repOf],by simp [repOf],by simp,by simp⟩
  ·exact zr
 split
 ·unfold reachL
  split
  ·exact⟨hid,by simp [repOf],by simp [repOf],by simp,by simp [repOf],by simp [repOf],by simp,by simp⟩
  ·exact zr
 split
 ·rename_i h3
  have hq3:=hq.near h3
  unfold nearL
  split
  ·have hf:=zGC (k:=q.most) (l:=hitsL (placesL g q.words) (sts g q k i))
   refine⟨hid,by simp [repOf],by simp [repOf],by dsimp only;omega,by simp [repOf],λhe=>?_,.inr rfl,λh hh=>?_⟩
   ·refine⟨rfl,?_⟩
    simpa [repOf] using he
   ·have h1:=hf.2 h hh
    unfold hitsL at h1
    have q_:=List.mem_map.1 h1
    obtain⟨x,hx,rfl⟩:=q_
    have:=hS x (List.mem_filter.1 hx).1
    exact⟨by show 0<=x.key.v;omega,by show x.key.v<200;omega,by show 0<=x.d;omega,by show x.d<=200;omega⟩
  ·exact zr
 ·exact zr
theorem zIT{id code:Int}(hid:0<=id/\id<=2147483647)(hc:0<=code/\code<=1000):RepOk (repOf id code zAn) zAn.hits:=
 ⟨hid,hc,by simp [repOf,zAn],by simp [zAn],λ_=>by simp [repOf,zAn],by simp [repOf,zAn],by simp [zAn],by simp [zAn]⟩
def shf (s:Int) (x:StD):StD:=⟨⟨s,x.key.dir,x.key.v⟩,x.d⟩
section
variable {g:GrD} {q:QyD}
theorem zHm(a b:Int)(i:Nat):(mls g q a i).map (shf b)=mls g q b i:=by
 unfold mls mls1
 rw [List.map_append,List.map_map,List.map_map]
 rfl
theorem zOs{S:List StD}{a b:Int}(h:SRis S)(hs:∀x∈S,x.key.slot=a):SRis (S.map (shf b)):=by
 rw [SRis,List.pairwise_map]
 refine h.imp_of_mem λ{x y} hx hy hl=>?_
 have h1:=hs x hx;have h2:=hs y hy
 unfold lessK at hl ⊢
 show b<b\/b=b/\(x.key.dir<y.key.dir\/x.key.dir=y.key.dir/\x.key.v<y.key.v)
 omega
theorem zLa(a b:Int)(i:Nat):(sts g q a i).map (shf b)=sts g q b i:=by
 refine SRis.uniq (zOs (zDF i) λx hx=>zCS hx) (zDF i) λx=>?_
 rw [List.mem_map,zAI]
 constructor
 ·rintro⟨y,hy,rfl⟩
  have q_:=zAI.1 hy
  obtain⟨j,h1,h2⟩:=q_
  refine⟨j,h1,?_⟩
  rw [<-zHm a b]
  exact List.mem_map_of_mem h2
 ·rintro⟨j,h1,h2⟩
  rw [<-zHm a b] at h2
  have q_:=List.mem_map.1 h2
  obtain⟨y,hy,rfl⟩:=q_
  exact⟨y,zAI.2 ⟨j,h1,hy⟩,rfl⟩
theorem zNw(b:Int)(S:List StD):sums (S.map (shf b))=sums S:=by
 unfold sums
 rw [List.flatMap_map]
 congr 1
 funext x
 show (if x.key.dir=0 then ((S.map (shf b)).filter λy=>decide (y.key.dir=1/\y.key.v=x.key.v)).map λy=>x.d+y.d else [])=if x.key.dir=0 then (S.filter λy=>decide (y.key.dir=1/\y.key.v=x.key.v)).map λy=>x.d+y.d else []
 rw [List.filter_map,List.map_map];rfl
theorem zMQ(b:Int)(S M:List StD):doneL g q (S.map (shf b)) (M.map (shf b))=doneL g q S M:=by
 have h1:∀d,hasDir (M.map (shf b)) d=hasDir M d:=λd=>by unfold hasDir;rw [List.any_map];rfl
 have h2:∀to:Int,((S.map (shf b)).any λx=>decide (x.key.dir=0/\x.key.v=to))=S.any λx=>decide (x.key.dir=0/\x.key.v=to):=λto=>by rw [List.any_map];rfl
 have h3:∀pl,hitsL pl (S.map (shf b))=hitsL pl S:=λpl=>by unfold hitsL;rw [List.filter_map,List.map_map];rfl
 have h4:(M.map (shf b)).isEmpty=M.isEmpty:=by cases M <;> rfl
 unfold doneL distL reachL nearL
 simp only [zNw,h1,h2,h3,h4]
theorem zHH(a b:Int)(i:Nat):doneL g q (sts g q a i) (mls g q a i)=doneL g q (sts g q b i) (mls g q b i):=by
 rw [<-zLa a b,<-zHm a b,zMQ]
theorem zNv(a b:Int)(i W:Nat)(w:Nat):((sts g q a i).filter λx=>decide (homW W x.key.v=w)).length=((sts g q b i).filter λx=>decide (homW W x.key.v=w)).length:=by
 rw [<-zLa a b,List.filter_map,List.length_map];rfl
end
section
variable {g:GrD} {c:CfD}
theorem zLL{h:Hs}(hj:j≠k):(stepS g c h k).1.getD j none=h.getD j none:=by
 have q_:=zB5 (g:=g) (c:=c) (h:=h) (k:=k)
 rcases q_ with ⟨_,h1⟩|⟨x2,i2,e2,h1⟩
 ·rw [h1]
 ·have q_:=zAp e2
  obtain⟨hk,_⟩:=q_
  rcases h1 with ⟨_,h2⟩|⟨_,_,h2⟩|⟨_,_,_,h2⟩|⟨_,_,_,h2⟩ <;> rw [h2] <;> dsimp only <;> rw [zAO hk,if_neg hj]
theorem zMv{h:Hs}(hk:k∈usedS h):∃x i,h.getD k none=some (x,i):=by
 unfold usedS at hk
 have q_:=zGo.1 hk
 obtain⟨_,h1⟩:=q_
 cases e:h.getD k none with
 |none=>rw [e] at h1;cases h1
 |some p=>exact⟨p.1,p.2,rfl⟩
theorem zOF(h:Hs):(usedS h).Nodup:=List.nodup_range.filter _
end
noncomputable def stepR (g:GrD) (c:CfD) (h:Hs) (k:Nat):Option (Int×Int×AnP):=match h.getD k none with
 |none=>none
 |some (x,i) =>
  if overS g c (h.set k (some (x,i+1))) then some (x.id,250,zAn)
  else if (doneL g x.q (sts g x.q k (i+1)) (mls g x.q k (i+1))).2 then some (x.id,0,(doneL g x.q (sts g x.q k (i+1)) (mls g x.q k (i+1))).1)
  else if c.budget<=i+1 then some (x.id,251,zAn) else none
noncomputable def stepsR (g:GrD) (c:CfD):List Nat->Hs->List (Int×Int×AnP)
 |[],_=>[]
 |k::r,h=>(stepR g c h k).toList++stepsR g c r (stepS g c h k).1
noncomputable def bytR (p:Int×Int×AnP):List UInt8:=repB p.1 p.2.1 p.2.2
section
variable {g:GrD} {c:CfD}
theorem zCR(h:Hs)(k:Nat):(stepS g c h k).2=(stepR g c h k).map bytR/\repIds g c h k=((stepR g c h k).map (·.1)).toList:=by
 unfold repIds stepS stepR
 cases e:h.getD k none with
 |none=>exact⟨rfl,rfl⟩
 |some p =>
  obtain⟨x,i⟩:=p
  dsimp only
  split
  ·exact⟨rfl,rfl⟩
  ·split
   ·exact⟨rfl,rfl⟩
   ·split
    ·exact⟨rfl,rfl⟩
    ·exact⟨rfl,rfl⟩
theorem zG4:∀(ks:List Nat) (h:Hs),(stepsS g c ks h).2=(stepsR g c ks h).map bytR/\tickIds g c ks h=(stepsR g c ks h).map (·.1)
 |[],h=>⟨rfl,rfl⟩
 |k::r,h=>by
  have q_:=zG4 r (stepS g c h k).1
  obtain⟨h1,h2⟩:=q_
  have q_:=zCR (g:=g) (c:=c) h k
  obtain⟨h3,h4⟩:=q_
  constructor
  ·show (stepS g c h k).2.toList++(stepsS g c r (stepS g c h k).1).2=((stepR g c h k).toList++stepsR g c r (stepS g c h k).1).map bytR
   rw [h1,h3,List.map_append]
   cases stepR g c h k <;> rfl
  ·show repIds g c h k++tickIds g c r (stepS g c h k).1=((stepR g c h k).toList++stepsR g c r (stepS g c h k).1).map (·.1)
   rw [h2,h4,List.map_append]
   cases stepR g c h k <;> rfl
def TickRep (g:GrD) (c:CfD) (h:Hs) (p:Int×Int×AnP):Prop:=
 ∃x k i,k<h.length/\h.getD k none=some (x,i)/\RqOk g x/\x.id=p.1/\i+1<=c.budget/\k<=1000 /\
  (p.2=(250,zAn)\/p.2=(251,zAn) \/
   (doneL g x.q (sts g x.q k (i+1)) (mls g x.q k (i+1))).2=true/\p.2=(0,(doneL g x.q (sts g x.q k (i+1)) (mls g x.q k (i+1))).1))
theorem zJP{l:List RqD}{h:Hs}(hc:CfOk c)(s:SvOk g c ⟨l,h⟩){p:Int×Int×AnP}(hp:stepR g c h k=some p):TickRep g c h p:=by
 unfold stepR at hp
 cases e:h.getD k none with
 |none=>rw [e] at hp;cases hp
 |some q =>
  obtain⟨x,i⟩:=q
  rw [e] at hp
  have q_:=zAp e
  obtain⟨hk,hm⟩:=q_
  have hx:=s.held x i hm
  have hl:=s.len
  have hsl:=hc.slots.2
  dsimp only at hp hl hk
  refine⟨x,k,i,hk,e,hx.1,?_⟩
  split at hp
  ·cases hp;exact⟨rfl,by omega,by omega,.inl rfl⟩
  ·split at hp
   ·rename_i h2
    cases hp;exact⟨rfl,by omega,by omega,.inr (.inr ⟨h2,rfl⟩)⟩
   ·split at hp
    ·cases hp;exact⟨rfl,by omega,by omega,.inr (.inl rfl)⟩
    ·cases hp
theorem TickRep.ok(hg:GrOk g){h:Hs}{p:Int×Int×AnP}(t:TickRep g c h p):RepOk (repOf p.1 p.2.1 p.2.2) p.2.2.hits/\(p.2.1=0\/p.2.1=250\/p.2.1=251):=by
 obtain⟨id,code,a⟩:=p
 obtain⟨x,k,i,hk,e,hr,rfl,_,hk2,h1⟩:=t
 rcases h1 with h1|h1|⟨_,h1⟩
 ·cases h1;exact⟨zIT hr.id (by dsimp only;decide),by simp⟩
 ·cases h1;exact⟨zIT hr.id (by dsimp only;decide),by simp⟩
 ·cases h1;exact⟨zMP hg hr.q.ok hk2 hr.id,by simp⟩
theorem zIf(hc:CfOk c){l:List RqD}(P:Int×Int×AnP->Prop)(hP:∀h p,SvOk g c ⟨l,h⟩->TickRep g c h p->P p):∀(ks:List Nat) (h:Hs),SvOk g c ⟨l,h⟩->∀p∈stepsR g c ks h,P p
 |[],_,_,p,hp=>nomatch hp
 |k::r,h,s,p,hp=>by
  have q_:=List.mem_append.1 (show p∈(stepR g c h k).toList++stepsR g c r (stepS g c h k).1 from hp)
  rcases q_ with h1|h1
  ·cases e:stepR g c h k with
   |none=>rw [e] at h1;cases h1
   |some q =>
    rw [e] at h1
    have:p=q:=by simpa using h1
    subst this
    exact hP h p s (zJP hc s e)
  ·exact zIf hc P hP r _ (zDD k s).1 p h1
noncomputable def tickR (g:GrD) (c:CfD) (s:SvD):List (Int×Int×AnP):=stepsR g c (usedS (admitS s.wait s.held).2) (admitS s.wait s.held).2
theorem zJW(s:SvD):(tickS g c s).2=(tickR g c s).map bytR:=(zG4 _ _).1
theorem zKr(hg:GrOk g)(hc:CfOk c){s:SvD}(h:SvOk g c s){p:Int×Int×AnP}(hp:p∈tickR g c s):RepOk (repOf p.1 p.2.1 p.2.2) p.2.2.hits/\(p.2.1=0\/p.2.1=250\/p.2.1=251):=
 zIf hc _ (λ_ _ _ t=>t.ok hg) _ _ (zCD hc s.wait s.held h).1 p hp
end
section
variable {g:GrD} {c:CfD} {h:Hs} {k:Nat} {x:RqD} {i:Nat}
theorem zId(e:h.getD k none=some (x,i))(ho:overS g c (h.set k (some (x,i+1)))=true):stepR g c h k=some (x.id,250,zAn)/\(stepS g c h k).1=h.set k none:=by
 unfold stepR stepS;rw [e];dsimp only;rw [if_pos ho,if_pos ho];exact⟨rfl,rfl⟩
theorem zCe(e:h.getD k none=some (x,i))(ho:overS g c (h.set k (some (x,i+1)))=false)(hd:(doneL g x.q (sts g x.q k (i+1)) (mls g x.q k (i+1))).2=true):
  stepR g c h k=some (x.id,0,(doneL g x.q (sts g x.q k (i+1)) (mls g x.q k (i+1))).1)/\(stepS g c h k).1=h.set k none:=by
 have hn:¬overS g c (h.set k (some (x,i+1)))=true:=by rw [ho];simp
 unfold stepR stepS;rw [e];dsimp only;rw [if_neg hn,if_neg hn,if_pos hd,if_pos hd];exact⟨rfl,rfl⟩
theorem zEe(e:h.getD k none=some (x,i))(ho:overS g c (h.set k (some (x,i+1)))=false)(hd:(doneL g x.q (sts g x.q k (i+1)) (mls g x.q k (i+1))).2=false)(hb:c.budget<=i+1):
  stepR g c h k=some (x.id,251,zAn)/\(stepS g c h k).1=h.set k none:=by
 have hn:¬overS g c (h.set k (some (x,i+1)))=true:=by rw [ho];simp
 have hn2:¬(doneL g x.q (sts g x.q k (i+1)) (mls g x.q k (i+1))).2=true:=by rw [hd];simp
 unfold stepR stepS;rw [e];dsimp only;rw [if_neg hn,if_neg hn,if_neg hn2,if_neg hn2,if_pos hb,if_pos hb];exact⟨rfl,rfl⟩
theorem zDE(e:h.getD k none=some (x,i))(ho:overS g c (h.set k (some (x,i+1)))=false)(hd:(doneL g x.q (sts g x.q k (i+1)) (mls g x.q k (i+1))).2=false)(hb:¬c.budget<=i+1):
  stepR g c h k=none/\(stepS g c h k).1=h.set k (some (x,i+1)):=by
 have hn:¬overS g c (h.set k (some (x,i+1)))=true:=by rw [ho];simp
 have hn2:¬(doneL g x.q (sts g x.q k (i+1)) (mls g x.q k (i+1))).2=true:=by rw [hd];simp
 unfold stepR stepS;rw [e];dsimp only;rw [if_neg hn,if_neg hn,if_neg hn2,if_neg hn2,if_neg hb,if_neg hb];exact⟨rfl,rfl⟩
end
end Go.W
namespace Go.W
open Go Go.Proofs
open Enc (enc)
set_option maxRecDepth 10000
variable {B i j k m n n3:Nat} {D R:Nat -> Prop} {P:Program} {a a3:Option Addr} {g:GrD} {ps:List Int} {q:QyD} {u u' w w' w1 w2:World}
section
variable {kx:Nat} {R:Nat->Prop} {B:Nat} {w0 w w':World} {bs:Nat} {g:GrD} {c:CfD} {s:SvD} {Ls:Nat->List StD} {K:SrvK} {wt hd:SV} {lw:List RReq} {lh:List RHeld} {lj:List RJob} {RW:Nat->Nat->Prop}
theorem zHQ{hs:Hs}{k0:Nat}{j':RJob}{d:RqD}{i':Nat}(hk:k0<hs.length)(e:hs.getD k0 none=some (d,i))(H:∀k (h:k<lh.length) (h':k<lj.length),HeldOk 1000 u g lh[k] lj[k] (hs.getD k none) k)(h:SlF u j'.mails.v (mls g d.q k0 i')/\j'.steps=i'):
  ∀k (h:k<lh.length) (h':k<(lj.set k0 j').length),HeldOk 1000 u g lh[k] (lj.set k0 j')[k] ((hs.set k0 (some (d,i'))).getD k none) k:=λk h1 h2=>by
 have h3:=H k h1 (by simpa using h2)
 rw [zAO hk]
 by_cases e1:k=k0
 ·subst e1
  rw [if_pos rfl,List.getElem_set_self]
  rw [e] at h3
  exact⟨h3.1,h3.2.1,λ_=>h⟩
 ·rw [if_neg e1,List.getElem_set_ne (Ne.symm e1)]
  exact h3
theorem zFK{hs:Hs}{k0:Nat}{j':RJob}(hl:lh.length<=64)(H:∀k (h:k<lh.length) (h':k<lj.length),HeldOk 1000 u g lh[k] lj[k] (hs.getD k none) k):
  ∀k (h:k<lh.length) (h':k<(lj.set k0 j').length),HeldOk k0 u g lh[k] (lj.set k0 j')[k] (hs.getD k none) k:=λk h1 h2=>by
 have h3:=H k h1 (by simpa using h2)
 cases e2:hs.getD k none with
 |none=>rw [e2] at h3;exact h3
 |some p =>
  obtain⟨d,i⟩:=p
  rw [e2] at h3
  refine⟨h3.1,h3.2.1,λhne=>?_⟩
  rw [List.getElem_set_ne (Ne.symm hne)]
  exact h3.2.2 (by omega)
def StepT (R : Nat -> Prop) (B : Nat) (bs : Nat) (g : GrD) (c : CfD) (s : SvD) (k0 : Nat) (w : World) (v : Value) (w' : World) : Prop :=
  (∃ (y : RepD) (all : Bool), v = .tuple #[agg y, .bool all] /\
    ((all = true /\ ∃ p Ls K wt hd lw lh lj RW, stepR g c s.held k0 = some p /\ y.id = p.1 /\ y.code = p.2.1 /\ y.a.found = p.2.2.found /\ y.a.num = p.2.2.num /\ Fz (mutS bs K.bj c.workers RW) (gR R w w') w' (λu => SlF u (.slice y.a.s.a y.a.s.n y.a.s.c) p.2.2.hits) /\
        SrvR k0 (gR R w w') B w' bs g c s Ls K wt hd lw lh lj RW /\ ButS g c.workers s.held k0 Ls /\ (stepS g c s.held k0).1 = s.held.set k0 none) \/
     (all = false /\ stepR g c s.held k0 = none /\ SrvP (gR R w w') B w' bs g c ⟨s.wait, (stepS g c s.held k0).1⟩))) /\ Fr R w w'
def zRp (id code:Int):RepD:=⟨id,code,⟨false,0,⟨none,0,0⟩⟩⟩
theorem zBb{k0:Nat}{x0:RqD}(hk:k0<s.held.length):ButS g c.workers s.held k0 (wkS g c.workers (aftS s.held k0 x0 i)):=λk=>⟨zBp ..,λx hs=>by rw [zAJ,zAJ,zBt hk hs]⟩
theorem zHv{k0:Nat}{x0:RqD}{c3:Nat}(S:SrvP R B w bs g c s)(hB:B<=w.heap.size)(hu:s.held.getD k0 none=some (x0,i))(h3:SlF w (.slice a3 n3 c3) ps):
  Sp PP F.z6 #[.pointer (some ⟨bs,0,none⟩),.int .i64 (k0:Int),.slice a3 n3 c3] w (StepT R B bs g c s k0 w):=by
 have SP:=S
 obtain⟨K,wt,hd,lw,lh,lj,RW,S⟩:=S
 have q_:=zAp hu
 obtain⟨hk,hm⟩:=q_
 have F0:=S.fz.here
 have hlen:=S.so.len
 have hrq:=(S.so.held x0 i hm).1
 have hib:=(S.so.held x0 i hm).2
 have hg2:=S.gi.ok.n2
 have hW:=S.ci.workers
 have hsl:=S.ci.slots
 have hbu:=S.ci.budget
 have hgi:=S.gi
 have hps:=S.ps
 have hkh:k0<lh.length:=by rw [F0.lhn];exact hk
 have hkj:k0<lj.length:=by rw [F0.ljn];exact hk
 have hHd:=F0.helds k0 hkh hkj
 rw [hu] at hHd
 obtain⟨hus,hrv,hjb⟩:=hHd
 have hjb:=hjb (by omega)
 have hsteps:=hjb.2
 have hwn:=F0.wkn
 have hhn:=F0.fh.len
 have hRlt:=SP.lo
 have hmay:∀{j:Nat} {x:StD},x∈sts g x0.q k0 j->mayX x/\x.key.v<g.n/\0<=x.d/\x.d<g.n:=λ{j x} hx=>by
  have:=zHy hrq.q.ok hg2 (by omega) hx
  exact⟨this.1,this.2.1,this.2.2.1,this.2.2.2.1⟩
 have hmm:∀{j:Nat} {x:StD},x∈mls g x0.q k0 j->mayX x/\x.key.v<g.n/\0<=x.d/\x.d<g.n:=λ{j x} hx=>zKV hrq.q.ok hg2 (by omega) hx
 have hsn:∀j,(sts g x0.q k0 j).length<=400:=λj=>by
  rw [zK9]
  have:=sn_le (dir:=0) hrq.q.ok j
  have:=sn_le (dir:=1) hrq.q.ok j
  omega
 have hmn:∀j,(mls g x0.q k0 j).length<=400:=λj=>by
  have h1:=hsn (j+1)
  have h2:=(zB3 (mls g x0.q k0 j) (sts g x0.q k0 j)).length_eq
  have h4:sts g x0.q k0 (j+1)=insAll (mls g x0.q k0 j) (sts g x0.q k0 j):=rfl
  rw [<-h4,List.length_append] at h2;omega
 have hlaw:=zNu (g:=g) (q:=x0.q) (slot:=(k0:Int)) hgi.ok i
 have q_:∃rr,lh[k0]? = some rr:=⟨lh[k0],List.getElem?_eq_getElem hkh⟩
 obtain⟨rr,hrr⟩:=q_
 have q_:∃jj,lj[k0]? = some jj:=⟨lj[k0],List.getElem?_eq_getElem hkj⟩
 obtain⟨jj,hjj⟩:=q_
 have er:lh[k0]=rr:=by rw [List.getElem?_eq_getElem hkh] at hrr;exact Option.some.inj hrr
 have ej:lj[k0]=jj:=by rw [List.getElem?_eq_getElem hkj] at hjj;exact Option.some.inj hjj
 rw [er] at hus hrv
 rw [ej] at hjb hsteps
 have hmailn:jj.mails.n=(mls g x0.q k0 i).length:=SlF.len (a:=jj.mails.a) (c:=jj.mails.c) hjb.1
 have hHd2:Fz (mutS bs K.bj c.workers RW) R w λu=>RqV u rr.r x0/\SlF u jj.mails.v (mls g x0.q k0 i):=S.fz.imp λu Fa=>by
  have:=Fa.helds k0 hkh hkj
  rw [hu,er,ej] at this
  exact⟨this.2.1,(this.2.2 (by omega)).1⟩
 have hjbl:=(S.reg _ S.rj).2
 have hbsl:=(S.reg _ S.rs).2
 refine en TBok rfl ?_
 refine ral λb6 w1 n1 Y1=>?_
 have hb6:=n1.lo (u:=w)
 have hb6l:=n1.lt
 have hrow:=F0.fh.lt (λh=>by rw [h] at hkh;simp at hkh)
 refine drawRT TBok mixed (λi=>w.heap.size<=i) (.one 0 (.one 1 (.one 2 (.one 3 (.one 4 (.one 5 (.one 6 (.one 7 (.one 8 (.one 9 (.one 10 (.one 11 (.one 12 (.one 13 (.one 14 (.two 15 (.one 16 (.one 17 (.one 18 .nil))) 16 (.one 15 (.one 17 (.one 18 .nil))))))))))))))))))) (by kernel_rfl) λw2 e2 _=>tld (B:=S.cell) rfl (by omega) (tix (S.fz.at (w':=w2)).fh hrr λb o A hb=>tloadA (cs:=enc rr.r) (A.sub 1 8) (Enc.len _) ?_ ?_)
 ·obtain⟨b',h1,h2⟩:=hrow
  rw [hb] at h1;cases h1;omega
 refine tld (B:=S.cell) rfl (by omega) (tix (S.jobs.up (w':=w2)).sl hjj λb o A hb=>tloadA A (Enc.len _) ?_ ?_)
 ·cases hb;exact Nat.not_le.2 hjbl
 refine⟨?_,?_⟩
 ·refine ral λbx w3 n3 X3=>⟨Fr.fr n3.e,?_⟩
  refine ral λbJ w4 n4 JJ4=>⟨Fr.fr n4.e,?_⟩
  have hbx:=n3.lo (u:=w)
  have hbJ:=n4.lo (u:=w)
  have hbx1:=n3.lo (u:=w1)
  have hbJ1:=n4.lo (u:=w1)
  have hbxj:¬bJ=bx:=by have:=n4.b;have:=n3.lt;omega
  have X4:=X3.mv (w:=w4)
  refine rsto (B:=X4) (vs:=enc rr.r) rfl rfl rfl (Enc.one _) λw5 X5 f5 _=>?_
  have X5:Bk w5 bx (enc rr.r) E.qd:=X5
  have s5:Stp w1 w5:=⟨Fr.st (Le.e (a:=w1) (b:=w4)) f5 λi hi=>by omega⟩
  have JJ5:=JJ4.fr f5 hbxj
  refine⟨f5.mono λi _ hi=>by omega,?_⟩
  refine rsto (B:=JJ5) (vs:=enc jj) rfl rfl rfl (Enc.one _) λw6 JJ6 f6 _=>?_
  have JJ6:Bk w6 bJ (enc jj) E.q5:=JJ6
  have s6:Stp w1 w6:=⟨Fr.st s5.e f6 λi hi=>by omega⟩
  have X6:=X5.fr f6 (λh=>hbxj h.symm)
  refine⟨f6.mono λi _ hi=>by omega,?_⟩
  clear X4 JJ4 X5 JJ5
  refine rld (B:=X6) rfl (rbuild (cs:=enc (zRp rr.r.id 0)) rfl (ral λby' w7 n7 Y7=>?_))
  have hby:=n7.lo (u:=w)
  have hby6:b6<by':=by have:=n7.b;have:=Le.size (a:=w1) (b:=w6);omega
  refine rsto (B:=Y7) (vs:=enc (zRp rr.r.id 0)) rfl rfl rfl (Enc.one _) λw8 Y8 f8 _=>?_
  have Y8:Bk w8 by' (enc (zRp rr.r.id 0)) E.qc:=Y8
  have s8:Stp w6 w8:=⟨Fr.st (Le.e (a:=w6) (b:=w7)) f8 λi hi=>by have:=n7.b;omega⟩
  clear Y7 f8
  have X8:=X6.mv (w:=w8)
  have JJ8:=JJ6.mv (w:=w8)
  refine drawR TBok mixed (λ_=>False) [0,1,2,3,4,5,6,7,9,10,11,12,13,14,15,16,8,17,18,19,20,21,22,23,24] (by kernel_rfl) λw9 e9 _=>tldG (ds:=enc rr.r.q) (B:=X8) rfl (Enc.len _) nf (tldG (ds:=enc K.xr) (B:=S.cell) rfl (Enc.len _) nf (tld (B:=JJ8) rfl nf (tld (B:=S.cell) rfl nf ?_)))
  refine rcall (zCP (SrvP.up (w':=w9) SP) hk) ?_
  rintro _ w10 ⟨O10,e10⟩
  rw [hu] at O10
  have O10:Own w9.heap.size E.qh w10 _ (sts g x0.q k0 i):=O10
  have q_:=O10.shape
  obtain⟨sa,sc,rfl⟩:=q_
  refine⟨e10.e,?_⟩
  have Fu:=S.fz.at (w':=w10)
  have hV:=(hHd2.at (w':=w10))
  have D:=zEu (W:=c.workers) (xq:=rr.r.q) (S:=sts g x0.q k0 i) (M:=mls g x0.q k0 i) hgi Fu.rows ⟨hV.1.q.kind,hV.1.q.rad⟩ O10.sl hV.2 (h3.up (w':=w10)) hW (zDF i) (λx hx=>⟨(hmay hx).1,(hmay hx).2.1⟩) (λx hx=>⟨(hmm hx).1,(hmm hx).2.1⟩) (by have:=hsn i;omega) (hmn i)
  rw [hlaw] at D
  refine rcall D ?_
  rintro _ w11 ⟨⟨v1,v2,rfl,O11,M11⟩,e11⟩
  dsimp only at O11 M11
  refine⟨e11.e,?_⟩
  have q_:=O11.shape
  obtain⟨sa2,sc2,rfl⟩:=q_
  have q_:=M11.shape
  obtain⟨ma2,mc2,rfl⟩:=q_
  refine iF (· rfl) ?_
  have z9:=Le.size (a:=w) (b:=w9)
  have z10:=e10.e.size
  have z11:=e11.e.size
  have ly:=(Y8.mv (w:=w9)).lt
  have lq:=(Y1.mv (w:=w9)).lt
  have lx:=(X8.mv (w:=w9)).lt
  have lJ:=(JJ8.mv (w:=w9)).lt
  refine rcall (zDB (S.up (w':=w11)) (Nat.le_trans hB (Le.size (a:=w) (b:=w11))) hu O11 (λi hi=>by have:=hRlt i hi;omega)) ?_
  rintro _ w12 ⟨⟨b,Ls,RW2,rfl,S2,GR2,hov,hbut,hall⟩,fa12⟩
  have f12:Fr R w11 w12:=fa12.mono λi _ ⟨k,hk,h⟩=>(S.rw k hk i h).1
  have m12:Fr (mutS bs K.bj c.workers RW) w w12:=(Fr.fr (Le.e (a:=w) (b:=w11))).trans (fa12.mono λi _ h=>zBw h)
  have hnR:∀{b:Nat},w.heap.size<=b->¬R b:=λ{b} hb h=>by have:=hRlt b h;omega
  have Y12:=(Y8.mv (w:=w11)).fr f12 (hnR hby)
  have Q12:=(Y1.mv (w:=w11)).fr f12 (hnR hb6)
  have X12:=(X8.mv (w:=w11)).fr f12 (hnR hbx)
  have JJ12:=(JJ8.mv (w:=w11)).fr f12 (hnR hbJ)
  have O12:=O11.fr f12 λb hb _=>hnR (by omega)
  have M12:=M11.fr f12 λb hb _=>hnR (by omega)
  have z12:=f12.size
  have fR12:Fr R w w12:=(Fr.fr (Le.e (a:=w) (b:=w11))).trans f12
  have hov2:overS g c (s.held.set k0 (some (x0,i+1))) = !b:=hov
  cases b with
  |false =>
   have q_:=zId hu hov2
   obtain⟨q1,q2⟩:=q_
   refine rsto (B:=Y12) (vs:=[.int .i64 250]) rfl rfl rfl (zAf _) λw13 Y13 f13 _=>?_
   have Y13:Bk w13 by' (enc (zRp rr.r.id 250)) E.qc:=Y13
   have Q13:=Q12.fr f13 (by omega)
   refine rldG (ds:=enc (zRp rr.r.id 250)) (B:=Y13) rfl (Enc.len _) (rsto (B:=Q13) (vs:=enc (zRp rr.r.id 250)) rfl rfl rfl (Enc.one _) λw14 Q14 f14 _=>?_)
   have Q14:Bk w14 b6 (enc (zRp rr.r.id 250)) E.qc:=Q14
   refine rresG (B:=Q14) rfl ?_
   have f1214:Fr (λi=>w.heap.size<=i/\i<w9.heap.size) w12 w14:=(f13.mono λi _ hi=>by omega).trans (f14.mono λi _ hi=>by omega)
   have fR14:Fr R w w14:=fR12.join f1214 (λ_ _ h=>h) λi hi h=>by omega
   have z14:=f1214.size
   have SX2:=(S2.away f1214 (λi hi h=>by rcases h with h|h;exact hnR hi.1 h;omega)).wide (R':=gR R w w14) (λi hi=>hi.imp id λh=>by omega) λi hi=>by
    have:=(SrvX.reg SP).1
    rcases hi with hi|hi
    ·have:=this i hi;omega
    ·omega
   exact⟨⟨zRp rr.r.id 250,true,rfl,.inl ⟨rfl,_,Ls,K,wt,hd,lw,lh,lj,RW2,q1,hrv.id,rfl,rfl,rfl,(λu _=>SlF.nil u),SX2.loose k0,hbut,q2⟩⟩,fR14⟩
  |true =>
   have hLs:=hall rfl
   subst hLs
   have hreg:=(SrvX.reg SP).1
   have hM2:∀i,mutS bs K.bj c.workers RW2 i->mutS bs K.bj c.workers RW i\/w11.heap.size<=i:=λi h=>by
    rcases h with h|h|⟨k,hk,h⟩
    ·exact .inl (.inl h)
    ·exact .inl (.inr (.inl h))
    ·exact(GR2 k hk i h).imp (λh1=>.inr (.inr ⟨k,hk,h1⟩)) id
   have S2:=S2.wide (R':=gR R w9 w12) (λi hi=>hi.imp id λh=>by omega) λi hi=>by
    rcases hi with hi|hi
    ·have:=hreg i hi;omega
    ·omega
   have F2:=S2.fz.here
   have hkj2:k0<lj.length:=by rw [F2.ljn];exact hk
   have hlh:lh.length<=64:=by rw [F2.lhn];omega
   have hnb:∀{b:Nat},w.heap.size<=b->¬b=K.bj:=λ{b} h1 h=>by omega
   have q_:∃nj:RJob,nj=⟨⟨ma2,(mls g x0.q k0 (i+1)).length,mc2⟩,((i+1:Nat):Int)⟩:=⟨_,rfl⟩
   obtain⟨nj,hnj⟩:=q_
   refine drawR TBok mixed (λi=>i=K.bj) [0,1,2,3,4,5,6,7,8,9,10,11] (by kernel_rfl) λw13 e13 _=>tld (B:=S2.cell) rfl (λh=>S2.ne h) (tld (B:=JJ12) rfl (hnb hbJ) (rarE (y:=((i+1:Nat):Int)) (by rw [hsteps];push_cast;rfl) (by omega) (tbuild (cs:=enc nj) (by rw [hnj];rfl) ?_)))
   have J13:=S2.jobs.up (w':=w13)
   refine tixO rfl J13 (x:=lj[k0]) (by simp) λgj hgj _ _=>rstO' rfl nj J13 hgj hkj rfl λw14 J14 f14 _=>?_
   have f14:Fr (λi=>i=K.bj) w13 w14:=f14.mono λi _ hi=>bjD hi
   refine⟨f14,?_⟩
   have Y14:=(Y12.mv (w:=w13)).fr f14 (hnb hby)
   have Q14:=(Q12.mv (w:=w13)).fr f14 (hnb hb6)
   have X14:=(X12.mv (w:=w13)).fr f14 (hnb hbx)
   have JJ14:=(JJ12.mv (w:=w13)).fr f14 (hnb hbJ)
   have C14:=(S2.cell.mv (w:=w13)).fr f14 S2.ne
   have f1214:Fr (λi=>i=K.bj) w12 w14:=(Fr.fr (Le.e (a:=w12) (b:=w13))).trans f14
   have m1214:Fr (mutS bs K.bj c.workers RW2) w12 w14:=f1214.mono λi _ h=>.inr (.inl h)
   have O14:SlF w14 (.slice sa2 (sts g x0.q k0 (i+1)).length sc2) (sts g x0.q k0 (i+1)):=by
    by_cases hl:sts g x0.q k0 (i+1)=[]
    ·rw [hl];exact SlF.nil' _ _ _
    ·have q_:=O11.lt hl
     obtain⟨gq,g1,g2,g3⟩:=q_
     exact O12.sl.fr f1214 λb hb h=>by rw [g1] at hb;cases hb;omega
   have M14:SlF w14 (.slice ma2 (mls g x0.q k0 (i+1)).length mc2) (mls g x0.q k0 (i+1)):=by
    by_cases hl:mls g x0.q k0 (i+1)=[]
    ·rw [hl];exact SlF.nil' _ _ _
    ·have q_:=M11.lt hl
     obtain⟨gq,g1,g2,g3⟩:=q_
     exact M12.sl.fr f1214 λb hb h=>by rw [g1] at hb;cases hb;omega
   have T14:=S2.st.away f1214 λk hk i hi h=>(S2.rw k hk i hi).2.2 h
   have F14:=S2.fz w14 (m1214.mono λi _ h=>.inl h)
   have hV14:RqV w14 rr.r x0:=(hHd2 w14 ((m12.trans (f1214.mono λi _ h=>.inr (.inl h))).mono λi _ h=>.inl h)).1
   have z14:=f1214.size
   have hwn2:=F2.words.len
   have hBw:B<=w12.heap.size:=by omega
   have wide:∀{u:World},w14.heap.size<=u.heap.size->(∀i,gR (gR R w9 w12) w12 w14 i->gR R w u i)/\∀i,gR R w u i->B<=i/\i<u.heap.size:=λ{u} hz=>by
    refine⟨λi hi=>?_,λi hi=>?_⟩
    ·rcases hi with (hi|hi)|hi
     ·exact .inl hi
     ·exact .inr (by omega)
     ·exact .inr (by omega)
    ·rcases hi with hi|hi
     ·have:=hreg i hi;omega
     ·omega
   have apart:∀i,(w.heap.size<=i/\i<w9.heap.size)\/w14.heap.size<=i->¬gR (gR R w9 w12) w12 w14 i:=λi h hi=>by
    rcases hi with (hi|hi)|hi
    ·have:=hRlt i hi;omega
    ·omega
    ·omega
   have fR14:Fr R w w14:=fR12.trans (f1214.mono λi _ h=>h ▸ S.rj)
   have mF:∀{u:World},Fr (λi=>(w.heap.size<=i/\i<w9.heap.size)\/w14.heap.size<=i) w14 u->Fr R w u:=λ{u} f=>fR14.join f (λ_ _ h=>h) λi hi h=>by omega
   have mZ:∀{u:World},Fr (λi=>(w.heap.size<=i/\i<w9.heap.size)\/w14.heap.size<=i) w14 u->SrvR k0 (gR R w u) B u bs g c s (wkS g c.workers (aftS s.held k0 x0 i)) K wt hd lw lh (lj.set k0 nj) RW2:=λ{u} f =>
    ((S2.fin (w1:=w12) (w':=w14) (kx':=k0) (s':=s) (Ls':=wkS g c.workers (aftS s.held k0 x0 i)) (Nat.le_refl _) m1214 hBw C14 J14 T14 (.refl _) S2.so
     ((S2.fz1 (w':=w12)).imp λu Fa=>⟨Fa.rows,Fa.pos,Fa.words,Fa.wk,Fa.fw,Fa.fh,Fa.lwn,Fa.waits,Fa.lhn,by simp [Fa.ljn],zFK hlh Fa.helds⟩)).away f apart).wide (wide f.size).1 (wide f.size).2
   have Zm:Fz (mutS bs K.bj c.workers RW2) (gR (gR R w9 w12) w12 w12) w12 λu=>SlF u (.slice ma2 (mls g x0.q k0 (i+1)).length mc2) (mls g x0.q k0 (i+1)):=
    M11.fzB M12.sl λi h1 h2=>⟨.inl (.inr (by omega)),λh=>by
     have q_:=hM2 i h
     rcases q_ with h4|h4
     ·have:=hRlt i (S.mut h4);omega
     ·omega⟩
   have mP:∀{u:World},Fr (λi=>(w.heap.size<=i/\i<w9.heap.size)\/w14.heap.size<=i) w14 u->SvOk g c ⟨s.wait,aftS s.held k0 x0 i⟩->SrvP (gR R w u) B u bs g c ⟨s.wait,aftS s.held k0 x0 i⟩:=λ{u} f hok =>
    ⟨K,wt,hd,lw,lh,lj.set k0 nj,RW2,((S2.fin (w1:=w12) (w':=w14) (kx':=1000) (s':=⟨s.wait,aftS s.held k0 x0 i⟩) (Ls':=wkS g c.workers (aftS s.held k0 x0 i)) (Nat.le_refl _) m1214 hBw C14 J14 T14 (.refl _) hok
     (((S2.fz1 (w':=w12)).and Zm).imp λu ⟨Fa,Sm⟩=>⟨Fa.rows,Fa.pos,Fa.words,Fa.wk,Fa.fw,Fa.fh,Fa.lwn,Fa.waits,by simp [Fa.lhn],by simp [Fa.ljn],zHQ hk hu Fa.helds ⟨by rw [hnj];exact Sm,by rw [hnj]⟩⟩)).away f apart).wide (wide f.size).1 (wide f.size).2⟩
   clear wide Zm
   have hok:=(zDD k0 S.so).1
   have q_:∃an,an=(doneL g x0.q (sts g x0.q k0 (i+1)) (mls g x0.q k0 (i+1))).1:=⟨_,rfl⟩
   obtain⟨an,han⟩:=q_
   have q_:∃dn,dn=(doneL g x0.q (sts g x0.q k0 (i+1)) (mls g x0.q k0 (i+1))).2:=⟨_,rfl⟩
   obtain⟨dn,hdn⟩:=q_
   have DD:∀{u:World},Le w14 u->Sp PP F.yr #[agg rr.r.q,.slice K.ws.a K.ws.n K.ws.c,.slice sa2 (sts g x0.q k0 (i+1)).length sc2,.slice ma2 (mls g x0.q k0 (i+1)).length mc2] u λv w'=>(∃v1,v=.tuple #[v1,.bool dn]/\AnsO u.heap.size w' v1 an)/\Stp u w':=λ{u} L=>by
    have D:=zE3 (hV14.q.up (w':=u)) hrq.q.ok hgi (F14.words.up (w':=u)) (F14.pos.up (w':=u)) (by omega) (O14.up (w':=u)) (by have:=hsn (i+1);omega) (λx hx=>by have:=hmay hx;omega) (M14.up (w':=u)) (by have:=hmn (i+1);omega)
    rw [<-han,<-hdn] at D
    exact D
   have lbs:bs<w14.heap.size:=by omega
   have lbx:bx<w14.heap.size:=by omega
   have lbJ:bJ<w14.heap.size:=by omega
   refine drawRT TBok mixed (λi=>w14.heap.size<=i) (.one 0 (.one 1 (.one 2 (.one 3 (.one 4 (.one 5 (.one 6 (.one 7 (.two 8 (.one 9 (.one 10 (.one 11 (.one 12 (.one 13 (.one 14 .nil)))))) 12 (.one 8 (.one 9 (.one 10 (.one 11 (.one 13 (.one 14 .nil))))))))))))))) (by kernel_rfl) λw15 e15 _=>tldG (ds:=enc rr.r.q) (B:=X14) rfl (Enc.len _) (by omega) (tld (B:=C14) rfl (by omega) ?_)
   refine⟨?_,?_⟩
   ·refine rcall (DD (u:=w15) inferInstance) ?_
    rintro _ w16 ⟨⟨v1,rfl,ax,rfl,ha1,ha2,OA⟩,e16⟩
    refine⟨Fr.fr e16.e,?_⟩
    refine ral λba w17 n17 A17=>⟨Fr.fr n17.e,?_⟩
    have hba:=n17.lo (u:=w14)
    refine rsto (B:=A17) (vs:=enc ax) rfl rfl rfl (Enc.one _) λw18 A18 f18 _=>?_
    have A18:Bk w18 ba (enc ax) E.qi:=A18
    refine⟨f18.mono λi _ h=>by omega,?_⟩
    have s18:Stp w14 w18:=⟨Fr.st (Le.e (a:=w14) (b:=w17)) f18 λi h=>by omega⟩
    have hn17:=n17.b
    have OA18:=((OA.up (w':=w17)).frc f18 A17 (by decide)).mono (B':=w14.heap.size) (Le.size (a:=w14) (b:=w15))
    have Y18:=Y14.mv (w:=w18)
    have Q18:=Q14.mv (w:=w18)
    have z18:=Le.size (a:=w14) (b:=w18)
    have fl18:Fr (λi=>(w.heap.size<=i/\i<w9.heap.size)\/w14.heap.size<=i) w14 w18:=Fr.fr (Le.e (a:=w14) (b:=w18))
    cases dn with
    |true =>
     have q_:=zCe hu hov2 hdn.symm
     obtain⟨q1,q2⟩:=q_
     rw [<-han] at q1
     refine rldG (ds:=enc ax) (B:=A18) rfl (Enc.len _) (rsto (B:=Y18) (vs:=enc ax) rfl rfl rfl (Enc.one _) λw19 Y19 f19 _=>?_)
     have Y19:Bk w19 by' (enc (⟨rr.r.id,0,ax⟩:RepD)) E.qc:=Y19
     have Q19:=Q18.fr f19 (by omega)
     refine rldG (ds:=enc (⟨rr.r.id,0,ax⟩:RepD)) (B:=Y19) rfl (Enc.len _) (rsto (B:=Q19) (vs:=enc (⟨rr.r.id,0,ax⟩:RepD)) rfl rfl rfl (Enc.one _) λw20 Q20 f20 _=>?_)
     have Q20:Bk w20 b6 (enc (⟨rr.r.id,0,ax⟩:RepD)) E.qc:=Q20
     refine rresG (B:=Q20) rfl ?_
     have fl:=(fl18.trans (f19.mono λi _ h=>.inl (by omega))).trans (f20.mono λi _ h=>.inl (by omega))
     have OA20:=((OA18.fr f19 λb hb _ h=>by omega).fr f20 λb hb _ h=>by omega)
     have SZ:=mZ fl
     exact⟨⟨⟨rr.r.id,0,ax⟩,true,rfl,.inl ⟨rfl,_,_,K,wt,hd,lw,lh,_,RW2,q1,hrv.id,rfl,ha1,ha2,OA20.fz (λi h1 h2=>⟨.inr ⟨by omega,h2⟩,λh=>by have:=(S2.reg i (S2.mut h)).2;omega⟩),SZ,zBb hk,q2⟩⟩,mF fl⟩
    |false =>
     refine drawR TBok mixed (λ_=>False) (upF 10 0) (by kernel_rfl) λw19 e19 _=>tld (B:=JJ14) rfl nf (rarE (y:=((i+1:Nat):Int)) (by rw [hsteps];push_cast;rfl) (by omega) (tld (B:=C14) rfl nf ?_))
     have Y19:=Y18.mv (w:=w19)
     have Q19:=Q18.mv (w:=w19)
     have fl19:=fl18.trans (Fr.fr (Le.e (a:=w18) (b:=w19)))
     refine ite (λhbd=>?_) (λhbd=>?_)
     ·have q_:=zEe hu hov2 hdn.symm (by omega)
      obtain⟨q1,q2⟩:=q_
      refine rsto (B:=Y19) (vs:=[.int .i64 251]) rfl rfl rfl (zAf _) λw20 Y20 f20 _=>?_
      have Y20:Bk w20 by' (enc (zRp rr.r.id 251)) E.qc:=Y20
      have Q20:=Q19.fr f20 (by omega)
      refine rldG (ds:=enc (zRp rr.r.id 251)) (B:=Y20) rfl (Enc.len _) (rsto (B:=Q20) (vs:=enc (zRp rr.r.id 251)) rfl rfl rfl (Enc.one _) λw21 Q21 f21 _=>?_)
      have Q21:Bk w21 b6 (enc (zRp rr.r.id 251)) E.qc:=Q21
      refine rresG (B:=Q21) rfl ?_
      have fl:=(fl19.trans (f20.mono λi _ h=>.inl (by omega))).trans (f21.mono λi _ h=>.inl (by omega))
      exact⟨⟨zRp rr.r.id 251,true,rfl,.inl ⟨rfl,_,_,K,wt,hd,lw,lh,_,RW2,q1,hrv.id,rfl,rfl,rfl,(λu _=>SlF.nil u),mZ fl,zBb hk,q2⟩⟩,mF fl⟩
     ·have q_:=zDE hu hov2 hdn.symm (by omega)
      obtain⟨q1,q2⟩:=q_
      refine rldG (ds:=enc (zRp rr.r.id 0)) (B:=Y19) rfl (Enc.len _) (rsto (B:=Q19) (vs:=enc (zRp rr.r.id 0)) rfl rfl rfl (Enc.one _) λw20 Q20 f20 _=>?_)
      have Q20:Bk w20 b6 (enc (zRp rr.r.id 0)) E.qc:=Q20
      refine rresG (B:=Q20) rfl ?_
      have fl:=fl19.trans (f20.mono λi _ h=>.inl (by omega))
      rw [q2] at hok
      have q3:=mP fl hok
      rw [show aftS s.held k0 x0 i=(stepS g c s.held k0).1 from q2.symm] at q3
      exact⟨⟨zRp rr.r.id 0,false,rfl,.inr ⟨rfl,q1,q3⟩⟩,mF fl⟩
   ·refine ral λba w16 n16 A16=>⟨Fr.fr n16.e,?_⟩
    have hba:=n16.lo (u:=w14)
    refine rcall (DD (u:=w16) inferInstance) ?_
    rintro _ w17 ⟨⟨v1,rfl,ax,rfl,ha1,ha2,OA⟩,e17⟩
    refine⟨Fr.fr e17.e,?_⟩
    refine rsto (B:=A16) (vs:=enc ax) rfl rfl rfl (Enc.one _) λw18 A18 f18 _=>?_
    have A18:Bk w18 ba (enc ax) E.qi:=A18
    refine⟨f18.mono λi _ h=>by omega,?_⟩
    have s18:Stp w14 w18:=⟨Fr.st (Le.e (a:=w14) (b:=w17)) f18 λi h=>by omega⟩
    have hn16:=n16.lt
    have OA18:=(OA.fr f18 λb hb _ h=>by omega).mono (B':=w14.heap.size) (Le.size (a:=w14) (b:=w16))
    have Y18:=Y14.mv (w:=w18)
    have Q18:=Q14.mv (w:=w18)
    have z18:=Le.size (a:=w14) (b:=w18)
    have fl18:Fr (λi=>(w.heap.size<=i/\i<w9.heap.size)\/w14.heap.size<=i) w14 w18:=Fr.fr (Le.e (a:=w14) (b:=w18))
    cases dn with
    |true =>
     have q_:=zCe hu hov2 hdn.symm
     obtain⟨q1,q2⟩:=q_
     rw [<-han] at q1
     refine rldG (ds:=enc ax) (B:=A18) rfl (Enc.len _) (rsto (B:=Y18) (vs:=enc ax) rfl rfl rfl (Enc.one _) λw19 Y19 f19 _=>?_)
     have Y19:Bk w19 by' (enc (⟨rr.r.id,0,ax⟩:RepD)) E.qc:=Y19
     have Q19:=Q18.fr f19 (by omega)
     refine rldG (ds:=enc (⟨rr.r.id,0,ax⟩:RepD)) (B:=Y19) rfl (Enc.len _) (rsto (B:=Q19) (vs:=enc (⟨rr.r.id,0,ax⟩:RepD)) rfl rfl rfl (Enc.one _) λw20 Q20 f20 _=>?_)
     have Q20:Bk w20 b6 (enc (⟨rr.r.id,0,ax⟩:RepD)) E.qc:=Q20
     refine rresG (B:=Q20) rfl ?_
     have fl:=(fl18.trans (f19.mono λi _ h=>.inl (by omega))).trans (f20.mono λi _ h=>.inl (by omega))
     have OA20:=((OA18.fr f19 λb hb _ h=>by omega).fr f20 λb hb _ h=>by omega)
     have SZ:=mZ fl
     exact⟨⟨⟨rr.r.id,0,ax⟩,true,rfl,.inl ⟨rfl,_,_,K,wt,hd,lw,lh,_,RW2,q1,hrv.id,rfl,ha1,ha2,OA20.fz (λi h1 h2=>⟨.inr ⟨by omega,h2⟩,λh=>by have:=(S2.reg i (S2.mut h)).2;omega⟩),SZ,zBb hk,q2⟩⟩,mF fl⟩
    |false =>
     refine drawR TBok mixed (λ_=>False) (upF 10 0) (by kernel_rfl) λw19 e19 _=>tld (B:=JJ14) rfl nf (rarE (y:=((i+1:Nat):Int)) (by rw [hsteps];push_cast;rfl) (by omega) (tld (B:=C14) rfl nf ?_))
     have Y19:=Y18.mv (w:=w19)
     have Q19:=Q18.mv (w:=w19)
     have fl19:=fl18.trans (Fr.fr (Le.e (a:=w18) (b:=w19)))
     refine ite (λhbd=>?_) (λhbd=>?_)
     ·have q_:=zEe hu hov2 hdn.symm (by omega)
      obtain⟨q1,q2⟩:=q_
      refine rsto (B:=Y19) (vs:=[.int .i64 251]) rfl rfl rfl (zAf _) λw20 Y20 f20 _=>?_
      have Y20:Bk w20 by' (enc (zRp rr.r.id 251)) E.qc:=Y20
      have Q20:=Q19.fr f20 (by omega)
      refine rldG (ds:=enc (zRp rr.r.id 251)) (B:=Y20) rfl (Enc.len _) (rsto (B:=Q20) (vs:=enc (zRp rr.r.id 251)) rfl rfl rfl (Enc.one _) λw21 Q21 f21 _=>?_)
      have Q21:Bk w21 b6 (enc (zRp rr.r.id 251)) E.qc:=Q21
      refine rresG (B:=Q21) rfl ?_
      have fl:=(fl19.trans (f20.mono λi _ h=>.inl (by omega))).trans (f21.mono λi _ h=>.inl (by omega))
      exact⟨⟨zRp rr.r.id 251,true,rfl,.inl ⟨rfl,_,_,K,wt,hd,lw,lh,_,RW2,q1,hrv.id,rfl,rfl,rfl,(λu _=>SlF.nil u),mZ fl,zBb hk,q2⟩⟩,mF fl⟩
     ·have q_:=zDE hu hov2 hdn.symm (by omega)
      obtain⟨q1,q2⟩:=q_
      refine rldG (ds:=enc (zRp rr.r.id 0)) (B:=Y19) rfl (Enc.len _) (rsto (B:=Q19) (vs:=enc (zRp rr.r.id 0)) rfl rfl rfl (Enc.one _) λw20 Q20 f20 _=>?_)
      have Q20:Bk w20 b6 (enc (zRp rr.r.id 0)) E.qc:=Q20
      refine rresG (B:=Q20) rfl ?_
      have fl:=fl19.trans (f20.mono λi _ h=>.inl (by omega))
      rw [q2] at hok
      have q3:=mP fl hok
      rw [show aftS s.held k0 x0 i=(stepS g c s.held k0).1 from q2.symm] at q3
      exact⟨⟨zRp rr.r.id 0,false,rfl,.inr ⟨rfl,q1,q3⟩⟩,mF fl⟩
 ·refine ral λbJ w3 n3 JJ3=>⟨Fr.fr n3.e,?_⟩
  refine ral λbx w4 n4 X4=>⟨Fr.fr n4.e,?_⟩
  have hbx:=n4.lo (u:=w)
  have hbJ:=n3.lo (u:=w)
  have hbx1:=n4.lo (u:=w1)
  have hbJ1:=n3.lo (u:=w1)
  have hbxj:¬bJ=bx:=by have:=n4.b;have:=n3.lt;omega
  have JJ4:=JJ3.mv (w:=w4)
  refine rsto (B:=X4) (vs:=enc rr.r) rfl rfl rfl (Enc.one _) λw5 X5 f5 _=>?_
  have X5:Bk w5 bx (enc rr.r) E.qd:=X5
  have s5:Stp w1 w5:=⟨Fr.st (Le.e (a:=w1) (b:=w4)) f5 λi hi=>by omega⟩
  have JJ5:=JJ4.fr f5 hbxj
  refine⟨f5.mono λi _ hi=>by omega,?_⟩
  refine rsto (B:=JJ5) (vs:=enc jj) rfl rfl rfl (Enc.one _) λw6 JJ6 f6 _=>?_
  have JJ6:Bk w6 bJ (enc jj) E.q5:=JJ6
  have s6:Stp w1 w6:=⟨Fr.st s5.e f6 λi hi=>by omega⟩
  have X6:=X5.fr f6 (λh=>hbxj h.symm)
  refine⟨f6.mono λi _ hi=>by omega,?_⟩
  clear X4 JJ4 X5 JJ5
  refine rld (B:=X6) rfl (rbuild (cs:=enc (zRp rr.r.id 0)) rfl (ral λby' w7 n7 Y7=>?_))
  have hby:=n7.lo (u:=w)
  have hby6:b6<by':=by have:=n7.b;have:=Le.size (a:=w1) (b:=w6);omega
  refine rsto (B:=Y7) (vs:=enc (zRp rr.r.id 0)) rfl rfl rfl (Enc.one _) λw8 Y8 f8 _=>?_
  have Y8:Bk w8 by' (enc (zRp rr.r.id 0)) E.qc:=Y8
  have s8:Stp w6 w8:=⟨Fr.st (Le.e (a:=w6) (b:=w7)) f8 λi hi=>by have:=n7.b;omega⟩
  clear Y7 f8
  have X8:=X6.mv (w:=w8)
  have JJ8:=JJ6.mv (w:=w8)
  refine drawR TBok mixed (λ_=>False) [0,1,2,3,4,5,6,7,9,10,11,12,13,14,15,16,8,17,18,19,20,21,22,23,24] (by kernel_rfl) λw9 e9 _=>tldG (ds:=enc rr.r.q) (B:=X8) rfl (Enc.len _) nf (tldG (ds:=enc K.xr) (B:=S.cell) rfl (Enc.len _) nf (tld (B:=JJ8) rfl nf (tld (B:=S.cell) rfl nf ?_)))
  refine rcall (zCP (SrvP.up (w':=w9) SP) hk) ?_
  rintro _ w10 ⟨O10,e10⟩
  rw [hu] at O10
  have O10:Own w9.heap.size E.qh w10 _ (sts g x0.q k0 i):=O10
  have q_:=O10.shape
  obtain⟨sa,sc,rfl⟩:=q_
  refine⟨e10.e,?_⟩
  have Fu:=S.fz.at (w':=w10)
  have hV:=(hHd2.at (w':=w10))
  have D:=zEu (W:=c.workers) (xq:=rr.r.q) (S:=sts g x0.q k0 i) (M:=mls g x0.q k0 i) hgi Fu.rows ⟨hV.1.q.kind,hV.1.q.rad⟩ O10.sl hV.2 (h3.up (w':=w10)) hW (zDF i) (λx hx=>⟨(hmay hx).1,(hmay hx).2.1⟩) (λx hx=>⟨(hmm hx).1,(hmm hx).2.1⟩) (by have:=hsn i;omega) (hmn i)
  rw [hlaw] at D
  refine rcall D ?_
  rintro _ w11 ⟨⟨v1,v2,rfl,O11,M11⟩,e11⟩
  dsimp only at O11 M11
  refine⟨e11.e,?_⟩
  have q_:=O11.shape
  obtain⟨sa2,sc2,rfl⟩:=q_
  have q_:=M11.shape
  obtain⟨ma2,mc2,rfl⟩:=q_
  refine iF (· rfl) ?_
  have z9:=Le.size (a:=w) (b:=w9)
  have z10:=e10.e.size
  have z11:=e11.e.size
  have ly:=(Y8.mv (w:=w9)).lt
  have lq:=(Y1.mv (w:=w9)).lt
  have lx:=(X8.mv (w:=w9)).lt
  have lJ:=(JJ8.mv (w:=w9)).lt
  refine rcall (zDB (S.up (w':=w11)) (Nat.le_trans hB (Le.size (a:=w) (b:=w11))) hu O11 (λi hi=>by have:=hRlt i hi;omega)) ?_
  rintro _ w12 ⟨⟨b,Ls,RW2,rfl,S2,GR2,hov,hbut,hall⟩,fa12⟩
  have f12:Fr R w11 w12:=fa12.mono λi _ ⟨k,hk,h⟩=>(S.rw k hk i h).1
  have m12:Fr (mutS bs K.bj c.workers RW) w w12:=(Fr.fr (Le.e (a:=w) (b:=w11))).trans (fa12.mono λi _ h=>zBw h)
  have hnR:∀{b:Nat},w.heap.size<=b->¬R b:=λ{b} hb h=>by have:=hRlt b h;omega
  have Y12:=(Y8.mv (w:=w11)).fr f12 (hnR hby)
  have Q12:=(Y1.mv (w:=w11)).fr f12 (hnR hb6)
  have X12:=(X8.mv (w:=w11)).fr f12 (hnR hbx)
  have JJ12:=(JJ8.mv (w:=w11)).fr f12 (hnR hbJ)
  have O12:=O11.fr f12 λb hb _=>hnR (by omega)
  have M12:=M11.fr f12 λb hb _=>hnR (by omega)
  have z12:=f12.size
  have fR12:Fr R w w12:=(Fr.fr (Le.e (a:=w) (b:=w11))).trans f12
  have hov2:overS g c (s.held.set k0 (some (x0,i+1))) = !b:=hov
  cases b with
  |false =>
   have q_:=zId hu hov2
   obtain⟨q1,q2⟩:=q_
   refine rsto (B:=Y12) (vs:=[.int .i64 250]) rfl rfl rfl (zAf _) λw13 Y13 f13 _=>?_
   have Y13:Bk w13 by' (enc (zRp rr.r.id 250)) E.qc:=Y13
   have Q13:=Q12.fr f13 (by omega)
   refine rldG (ds:=enc (zRp rr.r.id 250)) (B:=Y13) rfl (Enc.len _) (rsto (B:=Q13) (vs:=enc (zRp rr.r.id 250)) rfl rfl rfl (Enc.one _) λw14 Q14 f14 _=>?_)
   have Q14:Bk w14 b6 (enc (zRp rr.r.id 250)) E.qc:=Q14
   refine rresG (B:=Q14) rfl ?_
   have f1214:Fr (λi=>w.heap.size<=i/\i<w9.heap.size) w12 w14:=(f13.mono λi _ hi=>by omega).trans (f14.mono λi _ hi=>by omega)
   have fR14:Fr R w w14:=fR12.join f1214 (λ_ _ h=>h) λi hi h=>by omega
   have z14:=f1214.size
   have SX2:=(S2.away f1214 (λi hi h=>by rcases h with h|h;exact hnR hi.1 h;omega)).wide (R':=gR R w w14) (λi hi=>hi.imp id λh=>by omega) λi hi=>by
    have:=(SrvX.reg SP).1
    rcases hi with hi|hi
    ·have:=this i hi;omega
    ·omega
   exact⟨⟨zRp rr.r.id 250,true,rfl,.inl ⟨rfl,_,Ls,K,wt,hd,lw,lh,lj,RW2,q1,hrv.id,rfl,rfl,rfl,(λu _=>SlF.nil u),SX2.loose k0,hbut,q2⟩⟩,fR14⟩
  |true =>
   have hLs:=hall rfl
   subst hLs
   have hreg:=(SrvX.reg SP).1
   have hM2:∀i,mutS bs K.bj c.workers RW2 i->mutS bs K.bj c.workers RW i\/w11.heap.size<=i:=λi h=>by
    rcases h with h|h|⟨k,hk,h⟩
    ·exact .inl (.inl h)
    ·exact .inl (.inr (.inl h))
    ·exact(GR2 k hk i h).imp (λh1=>.inr (.inr ⟨k,hk,h1⟩)) id
   have S2:=S2.wide (R':=gR R w9 w12) (λi hi=>hi.imp id λh=>by omega) λi hi=>by
    rcases hi with hi|hi
    ·have:=hreg i hi;omega
    ·omega
   have F2:=S2.fz.here
   have hkj2:k0<lj.length:=by rw [F2.ljn];exact hk
   have hlh:lh.length<=64:=by rw [F2.lhn];omega
   have hnb:∀{b:Nat},w.heap.size<=b->¬b=K.bj:=λ{b} h1 h=>by omega
   have q_:∃nj:RJob,nj=⟨⟨ma2,(mls g x0.q k0 (i+1)).length,mc2⟩,((i+1:Nat):Int)⟩:=⟨_,rfl⟩
   obtain⟨nj,hnj⟩:=q_
   refine drawR TBok mixed (λi=>i=K.bj) [0,1,2,3,4,5,6,7,8,9,10,11] (by kernel_rfl) λw13 e13 _=>tld (B:=S2.cell) rfl (λh=>S2.ne h) (tld (B:=JJ12) rfl (hnb hbJ) (rarE (y:=((i+1:Nat):Int)) (by rw [hsteps];push_cast;rfl) (by omega) (tbuild (cs:=enc nj) (by rw [hnj];rfl) ?_)))
   have J13:=S2.jobs.up (w':=w13)
   refine tixO rfl J13 (x:=lj[k0]) (by simp) λgj hgj _ _=>rstO' rfl nj J13 hgj hkj rfl λw14 J14 f14 _=>?_
   have f14:Fr (λi=>i=K.bj) w13 w14:=f14.mono λi _ hi=>bjD hi
   refine⟨f14,?_⟩
   have Y14:=(Y12.mv (w:=w13)).fr f14 (hnb hby)
   have Q14:=(Q12.mv (w:=w13)).fr f14 (hnb hb6)
   have X14:=(X12.mv (w:=w13)).fr f14 (hnb hbx)
   have JJ14:=(JJ12.mv (w:=w13)).fr f14 (hnb hbJ)
   have C14:=(S2.cell.mv (w:=w13)).fr f14 S2.ne
   have f1214:Fr (λi=>i=K.bj) w12 w14:=(Fr.fr (Le.e (a:=w12) (b:=w13))).trans f14
   have m1214:Fr (mutS bs K.bj c.workers RW2) w12 w14:=f1214.mono λi _ h=>.inr (.inl h)
   have O14:SlF w14 (.slice sa2 (sts g x0.q k0 (i+1)).length sc2) (sts g x0.q k0 (i+1)):=by
    by_cases hl:sts g x0.q k0 (i+1)=[]
    ·rw [hl];exact SlF.nil' _ _ _
    ·have q_:=O11.lt hl
     obtain⟨gq,g1,g2,g3⟩:=q_
     exact O12.sl.fr f1214 λb hb h=>by rw [g1] at hb;cases hb;omega
   have M14:SlF w14 (.slice ma2 (mls g x0.q k0 (i+1)).length mc2) (mls g x0.q k0 (i+1)):=by
    by_cases hl:mls g x0.q k0 (i+1)=[]
    ·rw [hl];exact SlF.nil' _ _ _
    ·have q_:=M11.lt hl
     obtain⟨gq,g1,g2,g3⟩:=q_
     exact M12.sl.fr f1214 λb hb h=>by rw [g1] at hb;cases hb;omega
   have T14:=S2.st.away f1214 λk hk i hi h=>(S2.rw k hk i hi).2.2 h
   have F14:=S2.fz w14 (m1214.mono λi _ h=>.inl h)
   have hV14:RqV w14 rr.r x0:=(hHd2 w14 ((m12.trans (f1214.mono λi _ h=>.inr (.inl h))).mono λi _ h=>.inl h)).1
   have z14:=f1214.size
   have hwn2:=F2.words.len
   have hBw:B<=w12.heap.size:=by omega
   have wide:∀{u:World},w14.heap.size<=u.heap.size->(∀i,gR (gR R w9 w12) w12 w14 i->gR R w u i)/\∀i,gR R w u i->B<=i/\i<u.heap.size:=λ{u} hz=>by
    refine⟨λi hi=>?_,λi hi=>?_⟩
    ·rcases hi with (hi|hi)|hi
     ·exact .inl hi
     ·exact .inr (by omega)
     ·exact .inr (by omega)
    ·rcases hi with hi|hi
     ·have:=hreg i hi;omega
     ·omega
   have apart:∀i,(w.heap.size<=i/\i<w9.heap.size)\/w14.heap.size<=i->¬gR (gR R w9 w12) w12 w14 i:=λi h hi=>by
    rcases hi with (hi|hi)|hi
    ·have:=hRlt i hi;omega
    ·omega
    ·omega
   have fR14:Fr R w w14:=fR12.trans (f1214.mono λi _ h=>h ▸ S.rj)
   have mF:∀{u:World},Fr (λi=>(w.heap.size<=i/\i<w9.heap.size)\/w14.heap.size<=i) w14 u->Fr R w u:=λ{u} f=>fR14.join f (λ_ _ h=>h) λi hi h=>by omega
   have mZ:∀{u:World},Fr (λi=>(w.heap.size<=i/\i<w9.heap.size)\/w14.heap.size<=i) w14 u->SrvR k0 (gR R w u) B u bs g c s (wkS g c.workers (aftS s.held k0 x0 i)) K wt hd lw lh (lj.set k0 nj) RW2:=λ{u} f =>
    ((S2.fin (w1:=w12) (w':=w14) (kx':=k0) (s':=s) (Ls':=wkS g c.workers (aftS s.held k0 x0 i)) (Nat.le_refl _) m1214 hBw C14 J14 T14 (.refl _) S2.so
     ((S2.fz1 (w':=w12)).imp λu Fa=>⟨Fa.rows,Fa.pos,Fa.words,Fa.wk,Fa.fw,Fa.fh,Fa.lwn,Fa.waits,Fa.lhn,by simp [Fa.ljn],zFK hlh Fa.helds⟩)).away f apart).wide (wide f.size).1 (wide f.size).2
   have Zm:Fz (mutS bs K.bj c.workers RW2) (gR (gR R w9 w12) w12 w12) w12 λu=>SlF u (.slice ma2 (mls g x0.q k0 (i+1)).length mc2) (mls g x0.q k0 (i+1)):=
    M11.fzB M12.sl λi h1 h2=>⟨.inl (.inr (by omega)),λh=>by
     have q_:=hM2 i h
     rcases q_ with h4|h4
     ·have:=hRlt i (S.mut h4);omega
     ·omega⟩
   have mP:∀{u:World},Fr (λi=>(w.heap.size<=i/\i<w9.heap.size)\/w14.heap.size<=i) w14 u->SvOk g c ⟨s.wait,aftS s.held k0 x0 i⟩->SrvP (gR R w u) B u bs g c ⟨s.wait,aftS s.held k0 x0 i⟩:=λ{u} f hok =>
    ⟨K,wt,hd,lw,lh,lj.set k0 nj,RW2,((S2.fin (w1:=w12) (w':=w14) (kx':=1000) (s':=⟨s.wait,aftS s.held k0 x0 i⟩) (Ls':=wkS g c.workers (aftS s.held k0 x0 i)) (Nat.le_refl _) m1214 hBw C14 J14 T14 (.refl _) hok
     (((S2.fz1 (w':=w12)).and Zm).imp λu ⟨Fa,Sm⟩=>⟨Fa.rows,Fa.pos,Fa.words,Fa.wk,Fa.fw,Fa.fh,Fa.lwn,Fa.waits,by simp [Fa.lhn],by simp [Fa.ljn],zHQ hk hu Fa.helds ⟨by rw [hnj];exact Sm,by rw [hnj]⟩⟩)).away f apart).wide (wide f.size).1 (wide f.size).2⟩
   clear wide Zm
   have hok:=(zDD k0 S.so).1
   have q_:∃an,an=(doneL g x0.q (sts g x0.q k0 (i+1)) (mls g x0.q k0 (i+1))).1:=⟨_,rfl⟩
   obtain⟨an,han⟩:=q_
   have q_:∃dn,dn=(doneL g x0.q (sts g x0.q k0 (i+1)) (mls g x0.q k0 (i+1))).2:=⟨_,rfl⟩
   obtain⟨dn,hdn⟩:=q_
   have DD:∀{u:World},Le w14 u->Sp PP F.yr #[agg rr.r.q,.slice K.ws.a K.ws.n K.ws.c,.slice sa2 (sts g x0.q k0 (i+1)).length sc2,.slice ma2 (mls g x0.q k0 (i+1)).length mc2] u λv w'=>(∃v1,v=.tuple #[v1,.bool dn]/\AnsO u.heap.size w' v1 an)/\Stp u w':=λ{u} L=>by
    have D:=zE3 (hV14.q.up (w':=u)) hrq.q.ok hgi (F14.words.up (w':=u)) (F14.pos.up (w':=u)) (by omega) (O14.up (w':=u)) (by have:=hsn (i+1);omega) (λx hx=>by have:=hmay hx;omega) (M14.up (w':=u)) (by have:=hmn (i+1);omega)
    rw [<-han,<-hdn] at D
    exact D
   have lbs:bs<w14.heap.size:=by omega
   have lbx:bx<w14.heap.size:=by omega
   have lbJ:bJ<w14.heap.size:=by omega
   refine drawRT TBok mixed (λi=>w14.heap.size<=i) (.one 0 (.one 1 (.one 2 (.one 3 (.one 4 (.one 5 (.one 6 (.one 7 (.two 8 (.one 9 (.one 10 (.one 11 (.one 12 (.one 13 (.one 14 .nil)))))) 12 (.one 8 (.one 9 (.one 10 (.one 11 (.one 13 (.one 14 .nil))))))))))))))) (by kernel_rfl) λw15 e15 _=>tldG (ds:=enc rr.r.q) (B:=X14) rfl (Enc.len _) (by omega) (tld (B:=C14) rfl (by omega) ?_)
   refine⟨?_,?_⟩
   ·refine rcall (DD (u:=w15) inferInstance) ?_
    rintro _ w16 ⟨⟨v1,rfl,ax,rfl,ha1,ha2,OA⟩,e16⟩
    refine⟨Fr.fr e16.e,?_⟩
    refine ral λba w17 n17 A17=>⟨Fr.fr n17.e,?_⟩
    have hba:=n17.lo (u:=w14)
    refine rsto (B:=A17) (vs:=enc ax) rfl rfl rfl (Enc.one _) λw18 A18 f18 _=>?_
    have A18:Bk w18 ba (enc ax) E.qi:=A18
    refine⟨f18.mono λi _ h=>by omega,?_⟩
    have s18:Stp w14 w18:=⟨Fr.st (Le.e (a:=w14) (b:=w17)) f18 λi h=>by omega⟩
    have hn17:=n17.b
    have OA18:=((OA.up (w':=w17)).frc f18 A17 (by decide)).mono (B':=w14.heap.size) (Le.size (a:=w14) (b:=w15))
    have Y18:=Y14.mv (w:=w18)
    have Q18:=Q14.mv (w:=w18)
    have z18:=Le.size (a:=w14) (b:=w18)
    have fl18:Fr (λi=>(w.heap.size<=i/\i<w9.heap.size)\/w14.heap.size<=i) w14 w18:=Fr.fr (Le.e (a:=w14) (b:=w18))
    cases dn with
    |true =>
     have q_:=zCe hu hov2 hdn.symm
     obtain⟨q1,q2⟩:=q_
     rw [<-han] at q1
     refine rldG (ds:=enc ax) (B:=A18) rfl (Enc.len _) (rsto (B:=Y18) (vs:=enc ax) rfl rfl rfl (Enc.one _) λw19 Y19 f19 _=>?_)
     have Y19:Bk w19 by' (enc (⟨rr.r.id,0,ax⟩:RepD)) E.qc:=Y19
     have Q19:=Q18.fr f19 (by omega)
     refine rldG (ds:=enc (⟨rr.r.id,0,ax⟩:RepD)) (B:=Y19) rfl (Enc.len _) (rsto (B:=Q19) (vs:=enc (⟨rr.r.id,0,ax⟩:RepD)) rfl rfl rfl (Enc.one _) λw20 Q20 f20 _=>?_)
     have Q20:Bk w20 b6 (enc (⟨rr.r.id,0,ax⟩:RepD)) E.qc:=Q20
     refine rresG (B:=Q20) rfl ?_
     have fl:=(fl18.trans (f19.mono λi _ h=>.inl (by omega))).trans (f20.mono λi _ h=>.inl (by omega))
     have OA20:=((OA18.fr f19 λb hb _ h=>by omega).fr f20 λb hb _ h=>by omega)
     have SZ:=mZ fl
     exact⟨⟨⟨rr.r.id,0,ax⟩,true,rfl,.inl ⟨rfl,_,_,K,wt,hd,lw,lh,_,RW2,q1,hrv.id,rfl,ha1,ha2,OA20.fz (λi h1 h2=>⟨.inr ⟨by omega,h2⟩,λh=>by have:=(S2.reg i (S2.mut h)).2;omega⟩),SZ,zBb hk,q2⟩⟩,mF fl⟩
    |false =>
     refine drawR TBok mixed (λ_=>False) (upF 10 0) (by kernel_rfl) λw19 e19 _=>tld (B:=JJ14) rfl nf (rarE (y:=((i+1:Nat):Int)) (by rw [hsteps];push_cast;rfl) (by omega) (tld (B:=C14) rfl nf ?_))
     have Y19:=Y18.mv (w:=w19)
     have Q19:=Q18.mv (w:=w19)
     have fl19:=fl18.trans (Fr.fr (Le.e (a:=w18) (b:=w19)))
     refine ite (λhbd=>?_) (λhbd=>?_)
     ·have q_:=zEe hu hov2 hdn.symm (by omega)
      obtain⟨q1,q2⟩:=q_
      refine rsto (B:=Y19) (vs:=[.int .i64 251]) rfl rfl rfl (zAf _) λw20 Y20 f20 _=>?_
      have Y20:Bk w20 by' (enc (zRp rr.r.id 251)) E.qc:=Y20
      have Q20:=Q19.fr f20 (by omega)
      refine rldG (ds:=enc (zRp rr.r.id 251)) (B:=Y20) rfl (Enc.len _) (rsto (B:=Q20) (vs:=enc (zRp rr.r.id 251)) rfl rfl rfl (Enc.one _) λw21 Q21 f21 _=>?_)
      have Q21:Bk w21 b6 (enc (zRp rr.r.id 251)) E.qc:=Q21
      refine rresG (B:=Q21) rfl ?_
      have fl:=(fl19.trans (f20.mono λi _ h=>.inl (by omega))).trans (f21.mono λi _ h=>.inl (by omega))
      exact⟨⟨zRp rr.r.id 251,true,rfl,.inl ⟨rfl,_,_,K,wt,hd,lw,lh,_,RW2,q1,hrv.id,rfl,rfl,rfl,(λu _=>SlF.nil u),mZ fl,zBb hk,q2⟩⟩,mF fl⟩
     ·have q_:=zDE hu hov2 hdn.symm (by omega)
      obtain⟨q1,q2⟩:=q_
      refine rldG (ds:=enc (zRp rr.r.id 0)) (B:=Y19) rfl (Enc.len _) (rsto (B:=Q19) (vs:=enc (zRp rr.r.id 0)) rfl rfl rfl (Enc.one _) λw20 Q20 f20 _=>?_)
      have Q20:Bk w20 b6 (enc (zRp rr.r.id 0)) E.qc:=Q20
      refine rresG (B:=Q20) rfl ?_
      have fl:=fl19.trans (f20.mono λi _ h=>.inl (by omega))
      rw [q2] at hok
      have q3:=mP fl hok
      rw [show aftS s.held k0 x0 i=(stepS g c s.held k0).1 from q2.symm] at q3
      exact⟨⟨zRp rr.r.id 0,false,rfl,.inr ⟨rfl,q1,q3⟩⟩,mF fl⟩
   ·refine ral λba w16 n16 A16=>⟨Fr.fr n16.e,?_⟩
    have hba:=n16.lo (u:=w14)
    refine rcall (DD (u:=w16) inferInstance) ?_
    rintro _ w17 ⟨⟨v1,rfl,ax,rfl,ha1,ha2,OA⟩,e17⟩
    refine⟨Fr.fr e17.e,?_⟩
    refine rsto (B:=A16) (vs:=enc ax) rfl rfl rfl (Enc.one _) λw18 A18 f18 _=>?_
    have A18:Bk w18 ba (enc ax) E.qi:=A18
    refine⟨f18.mono λi _ h=>by omega,?_⟩
    have s18:Stp w14 w18:=⟨Fr.st (Le.e (a:=w14) (b:=w17)) f18 λi h=>by omega⟩
    have hn16:=n16.lt
    have OA18:=(OA.fr f18 λb hb _ h=>by omega).mono (B':=w14.heap.size) (Le.size (a:=w14) (b:=w16))
    have Y18:=Y14.mv (w:=w18)
    have Q18:=Q14.mv (w:=w18)
    have z18:=Le.size (a:=w14) (b:=w18)
    have fl18:Fr (λi=>(w.heap.size<=i/\i<w9.heap.size)\/w14.heap.size<=i) w14 w18:=Fr.fr (Le.e (a:=w14) (b:=w18))
    cases dn with
    |true =>
     have q_:=zCe hu hov2 hdn.symm
     obtain⟨q1,q2⟩:=q_
     rw [<-han] at q1
     refine rldG (ds:=enc ax) (B:=A18) rfl (Enc.len _) (rsto (B:=Y18) (vs:=enc ax) rfl rfl rfl (Enc.one _) λw19 Y19 f19 _=>?_)
     have Y19:Bk w19 by' (enc (⟨rr.r.id,0,ax⟩:RepD)) E.qc:=Y19
     have Q19:=Q18.fr f19 (by omega)
     refine rldG (ds:=enc (⟨rr.r.id,0,ax⟩:RepD)) (B:=Y19) rfl (Enc.len _) (rsto (B:=Q19) (vs:=enc (⟨rr.r.id,0,ax⟩:RepD)) rfl rfl rfl (Enc.one _) λw20 Q20 f20 _=>?_)
     have Q20:Bk w20 b6 (enc (⟨rr.r.id,0,ax⟩:RepD)) E.qc:=Q20
     refine rresG (B:=Q20) rfl ?_
     have fl:=(fl18.trans (f19.mono λi _ h=>.inl (by omega))).trans (f20.mono λi _ h=>.inl (by omega))
     have OA20:=((OA18.fr f19 λb hb _ h=>by omega).fr f20 λb hb _ h=>by omega)
     have SZ:=mZ fl
     exact⟨⟨⟨rr.r.id,0,ax⟩,true,rfl,.inl ⟨rfl,_,_,K,wt,hd,lw,lh,_,RW2,q1,hrv.id,rfl,ha1,ha2,OA20.fz (λi h1 h2=>⟨.inr ⟨by omega,h2⟩,λh=>by have:=(S2.reg i (S2.mut h)).2;omega⟩),SZ,zBb hk,q2⟩⟩,mF fl⟩
    |false =>
     refine drawR TBok mixed (λ_=>False) (upF 10 0) (by kernel_rfl) λw19 e19 _=>tld (B:=JJ14) rfl nf (rarE (y:=((i+1:Nat):Int)) (by rw [hsteps];push_cast;rfl) (by omega) (tld (B:=C14) rfl nf ?_))
     have Y19:=Y18.mv (w:=w19)
     have Q19:=Q18.mv (w:=w19)
     have fl19:=fl18.trans (Fr.fr (Le.e (a:=w18) (b:=w19)))
     refine ite (λhbd=>?_) (λhbd=>?_)
     ·have q_:=zEe hu hov2 hdn.symm (by omega)
      obtain⟨q1,q2⟩:=q_
      refine rsto (B:=Y19) (vs:=[.int .i64 251]) rfl rfl rfl (zAf _) λw20 Y20 f20 _=>?_
      have Y20:Bk w20 by' (enc (zRp rr.r.id 251)) E.qc:=Y20
      have Q20:=Q19.fr f20 (by omega)
      refine rldG (ds:=enc (zRp rr.r.id 251)) (B:=Y20) rfl (Enc.len _) (rsto (B:=Q20) (vs:=enc (zRp rr.r.id 251)) rfl rfl rfl (Enc.one _) λw21 Q21 f21 _=>?_)
      have Q21:Bk w21 b6 (enc (zRp rr.r.id 251)) E.qc:=Q21
      refine rresG (B:=Q21) rfl ?_
      have fl:=(fl19.trans (f20.mono λi _ h=>.inl (by omega))).trans (f21.mono λi _ h=>.inl (by omega))
      exact⟨⟨zRp rr.r.id 251,true,rfl,.inl ⟨rfl,_,_,K,wt,hd,lw,lh,_,RW2,q1,hrv.id,rfl,rfl,rfl,(λu _=>SlF.nil u),mZ fl,zBb hk,q2⟩⟩,mF fl⟩
     ·have q_:=zDE hu hov2 hdn.symm (by omega)
      obtain⟨q1,q2⟩:=q_
      refine rldG (ds:=enc (zRp rr.r.id 0)) (B:=Y19) rfl (Enc.len _) (rsto (B:=Q19) (vs:=enc (zRp rr.r.id 0)) rfl rfl rfl (Enc.one _) λw20 Q20 f20 _=>?_)
      have Q20:Bk w20 b6 (enc (zRp rr.r.id 0)) E.qc:=Q20
      refine rresG (B:=Q20) rfl ?_
      have fl:=fl19.trans (f20.mono λi _ h=>.inl (by omega))
      rw [q2] at hok
      have q3:=mP fl hok
      rw [show aftS s.held k0 x0 i=(stepS g c s.held k0).1 from q2.symm] at q3
      exact⟨⟨zRp rr.r.id 0,false,rfl,.inr ⟨rfl,q1,q3⟩⟩,mF fl⟩
end
section
variable {kx:Nat} {R:Nat->Prop} {B:Nat} {w0 w w':World} {bs:Nat} {g:GrD} {c:CfD} {s:SvD} {Ls:Nat->List StD} {K:SrvK} {wt hd:SV} {lw:List RReq} {lh:List RHeld} {lj:List RJob} {RW:Nat->Nat->Prop}
theorem zFU(k:Nat):∀(ks:List Nat) (h:Hs),stepsS g c (ks++[k]) h=((stepS g c (stepsS g c ks h).1 k).1,(stepsS g c ks h).2++(stepS g c (stepsS g c ks h).1 k).2.toList)
 |[],h=>by simp [stepsS]
 |a::r,h=>by
  have:=zFU k r (stepS g c h a).1
  show ((stepsS g c (r++[k]) (stepS g c h a).1).1,(stepS g c h a).2.toList++(stepsS g c (r++[k]) (stepS g c h a).1).2)=_
  rw [this]
  refine Prod.ext rfl ?_
  show _++(_++_)=(_++_)++_
  rw [List.append_assoc];rfl
theorem zEf:∀(ks:List Nat) (h:Hs),(stepsS g c ks h).2.length<=ks.length
 |[],h=>Nat.le_refl _
 |a::r,h=>by
  have:=zEf r (stepS g c h a).1
  show ((stepS g c h a).2.toList++(stepsS g c r (stepS g c h a).1).2).length<=r.length+1
  rw [List.length_append]
  cases (stepS g c h a).2 <;> simp <;> omega
theorem zFV:∀(ks:List Nat) (h:Hs),j∉ks->(stepsS g c ks h).1.getD j none=h.getD j none
 |[],h,_=>rfl
 |a::r,h,hn=>by
  rw [List.mem_cons,not_or] at hn
  show (stepsS g c r (stepS g c h a).1).1.getD j none=_
  rw [zFV r _ hn.2,zLL hn.1]
theorem zNd{y:RepD}{p:Int×Int×AnP}(h1:y.id=p.1)(h2:y.code=p.2.1)(h3:y.a.found=p.2.2.found)(h4:y.a.num=p.2.2.num):(RepOk y p.2.2.hits↔RepOk (repOf p.1 p.2.1 p.2.2) p.2.2.hits)/\encR y p.2.2.hits=encR (repOf p.1 p.2.1 p.2.2) p.2.2.hits:=by
 obtain⟨id,code,found,num,s⟩:=y
 obtain⟨pid,pc,pa⟩:=p
 dsimp only at h1 h2 h3 h4
 subst h1 h2 h3 h4
 exact⟨Iff.rfl,rfl⟩
theorem zB0{c3:Nat}(S:SrvP R B w bs g c s)(hB:B<=w.heap.size)(h3:∀u,Fr R w u->SlF u (.slice a3 n3 c3) ps):
  Sp PP F.z2 #[.pointer (some ⟨bs,0,none⟩),.slice a3 n3 c3] w λv w'=>∃R':Nat->Prop,Own w.heap.size E.qg w' v ((tickS g c s).2.map bsOf)/\(∀b,Value.blk v=some b->b<w'.heap.size/\¬R' b)/\SrvP R' B w' bs g c (tickS g c s).1/\(∀i,R' i->gR R w w' i)/\Fr R w w':=by
 have hR:=(SrvX.reg S).1
 refine en TBok rfl ?_
 refine rpnil (rcall (zG2 S hB) ?_)
 rintro _ w1 ⟨S1,f1⟩
 have z1:=f1.size
 have q_:∃s1:SvD,s1=⟨(admitS s.wait s.held).1,(admitS s.wait s.held).2⟩:=⟨_,rfl⟩
 obtain⟨s1,hs1⟩:=q_
 rw [<-hs1] at S1
 have hR1:=(SrvX.reg S1).1
 have S1':=S1
 obtain⟨K,wt,hd,lw,lh,lj,RW,S2⟩:=S1'
 have hsm:=S2.small
 have F2:=S2.fz.here
 have hu:=F2.usedH
 have hhn:=F2.fh.len
 have hul:(usedS s1.held).length<=lh.length:=by rw [F2.lhn];exact zHs _ _
 refine rld (B:=S2.cell) rfl ?_
 have D:=zIy F2.fh (by omega)
 rw [hu] at D
 refine rcall D ?_
 rintro v w2 ⟨O2,e2⟩
 have q_:=O2.shape
 obtain⟨ua,uc,rfl⟩:=q_
 have z2:=e2.e.size
 have hlen:((usedS s1.held).map λk:Nat=>(k:Int)).length=(usedS s1.held).length:=by simp
 have P0:SrvP (gR R w w1) B w2 bs g c ⟨s1.wait,(stepsS g c ((usedS s1.held).take 0) s1.held).1⟩:=SrvP.up (w':=w2) S1
 refine cnt1 TBok 22 [7,8,9,10,11] 5 22 (usedS s1.held).length (λj v u=>∃Rj:Nat->Prop,Own w2.heap.size E.qg u v ((stepsS g c ((usedS s1.held).take j) s1.held).2.map bsOf)/\(∀b,Value.blk v=some b->b<u.heap.size/\¬Rj b) /\
   SrvP Rj B u bs g c ⟨s1.wait,(stepsS g c ((usedS s1.held).take j) s1.held).1⟩/\(∀i,Rj i->gR R w w1 i\/w2.heap.size<=i)/\Fr (λi=>Rj i/\i<w2.heap.size) w2 u) rfl rfl
  ⟨gR R w w1,Own.nil _ _ _,(λb hb=>by cases hb),P0,(λi hi=>.inl hi),Fr.refl _ _⟩ ?_
 clear P0
 rintro j v G u hj ⟨Rj,O,hoff,P,hRj,f⟩
 have zu:=f.size
 have ff:Fr (λi=>gR R w w1 i/\i<w2.heap.size) w2 u:=f.mono λi hi h=>⟨(hRj i h.1).elim id λh2=>by omega,h.2⟩
 have fR:Fr R w u:=(f1.join (H:=λi=>R i) ((Fr.fr (D:=λi=>gR R w w1 i/\i<w2.heap.size) e2.e).trans ff) (λ_ _ h=>h) λi hi h=>h.1.elim id λh=>by omega)
 have Ou:=O2.fr ff λb hb hb2 h=>by rcases h.1 with h4|h4;(have:=hR b h4;omega);omega
 refine ite (λhlt=>?_) (λhge=>?_)
 ·have hja:j<(usedS s1.held).length:=by (try dsimp only at hlt);omega
  have q_:∃k,k=(usedS s1.held)[j]:=⟨_,rfl⟩
  obtain⟨k,hk⟩:=q_
  have hkm:k∈usedS s1.held:=by rw [hk];exact List.getElem_mem hja
  have q_:=zMv hkm
  obtain⟨x0,i,hx0⟩:=q_
  have hkn:k∉(usedS s1.held).take j:=λh=>by
   have q_:=List.mem_iff_getElem.1 h
   obtain⟨m,hm,he⟩:=q_
   rw [List.length_take] at hm
   rw [List.getElem_take,hk] at he
   have:=(List.getElem_inj (zOF s1.held)).1 he
   omega
  have hx:(stepsS g c ((usedS s1.held).take j) s1.held).1.getD k none=some (x0,i):=by rw [zFV _ _ hkn];exact hx0
  have hsnoc:=zFU (g:=g) (c:=c) k ((usedS s1.held).take j) s1.held
  rw [show (usedS s1.held).take j++[k]=(usedS s1.held).take (j+1) by rw [hk,<-List.take_succ_eq_append_getElem hja]] at hsnoc
  have q_:∃hj1,hj1=(stepsS g c ((usedS s1.held).take j) s1.held).1:=⟨_,rfl⟩
  obtain⟨hj1,hhj⟩:=q_
  have q_:∃lo,lo=(stepsS g c ((usedS s1.held).take j) s1.held).2:=⟨_,rfl⟩
  obtain⟨lo,hlo⟩:=q_
  rw [<-hhj] at hx P hsnoc
  rw [<-hlo] at O hsnoc
  have hBu:B<=u.heap.size:=by omega
  have hRu:=(SrvX.reg P).1
  refine rix Ou.sl (x:=(k:Int)) (by simp [hja,hk]) λb1 o1 A1=>rload1 (A1.cell0 rfl) (rcall (zHv P hBu hx (h3 u fR)) ?_)
  rintro _ u1 ⟨⟨y,all,rfl,hcase⟩,fs⟩
  have zs:=fs.size
  refine ral λby' u2 n2 Y2=>?_
  have hby:=n2.lo (u:=u1)
  have hbyl:=n2.lt
  refine rsto (B:=Y2) (vs:=enc y) rfl rfl rfl (Enc.one _) λu3 Y3 f3 _=>?_
  have Y3:Bk u3 by' (enc y) E.qc:=Y3
  have s3:Stp u1 u3:=⟨Fr.st Le.e f3 λi hi=>by subst hi;exact hby⟩
  clear Y2 f3
  have z3:=Le.size (a:=u1) (b:=u3)
  have grow:∀{b:Nat},b<u.heap.size->¬Rj b->∀{x y:World},u.heap.size<=x.heap.size->¬gR Rj x y b:=λ{b} hb hn {x y} hx h=>h.elim hn λh=>by omega
  have hlol:lo.length<=64:=by
   have:=zEf (g:=g) (c:=c) ((usedS s1.held).take j) s1.held
   rw [<-hlo,List.length_take] at this;omega
  have Os:Own w2.heap.size E.qg u1 v (lo.map bsOf):=O.fr fs λb _ hb=>(hoff b hb).2
  have hf1:Fr (λi=>gR Rj u u1 i/\i<w2.heap.size) w2 u1:=f.join fs (λi _ h=>⟨.inl h.1,h.2⟩) λi hi h=>⟨.inl h,hi⟩
  have hR1j:∀{y x:World},w2.heap.size<=x.heap.size->∀i,gR Rj x y i->gR R w w1 i\/w2.heap.size<=i:=λ{y x} hx i hi=>hi.elim (hRj i) λh=>.inr (by omega)
  rcases hcase with ⟨rfl,p,Ls,K,wt,hd,lw,lh,lj,RW,q1,hy1,hy2,hy3,hy4,HZ,SZ,hbut,q2⟩|⟨rfl,q1,P1⟩
  ·have SZ3:=SZ.up (w':=u3)
   refine rcall (zDd SZ3 hbut hx (by omega)) ?_
   rintro _ u4 ⟨P4,m4⟩
   have f4:Fr (gR Rj u u1) u3 u4:=m4.mono λi _ h=>SZ3.mut h
   have z4:=f4.size
   have Y4:=Y3.fr f4 λh=>h.elim (λh=>by have:=(hRu _ h).2;omega) λh=>by omega
   have H4:SlF u4 (.slice y.a.s.a y.a.s.n y.a.s.c) p.2.2.hits:=HZ u4 (((Fr.fr (Le.e (a:=u1) (b:=u3))).trans m4).mono λi _ h=>.inl h)
   refine rldG (ds:=enc y) (B:=Y4) rfl (Enc.len _) ?_
   have hrep:=((zJP (SrvX.reg P).2.2.1 (SrvX.reg P).2.2.2 q1).ok (SrvX.reg P).2.1.ok).1
   refine rcall (zCm (x:=y) H4 (by have:=hrep.2.2.2.1;omega)) ?_
   rintro v5 u5 ⟨hput,e5⟩
   have hput:∃e,v5=Value.tuple #[txt (bytR p),e]:=by
    have q_:=zNd hy1 hy2 hy3 hy4
    obtain⟨r1,r2⟩:=q_
    rcases hput with ⟨h1,h2⟩|⟨h1,h2⟩
    ·refine⟨.int .i64 0,?_⟩;rw [h2,r2,bytR,zK3 (r1.1 h1)]
    ·refine⟨.int .i64 1,?_⟩;rw [h2,bytR,zK2 (λh=>h1 (r1.2 h))]
   obtain⟨ee,rfl⟩:=hput
   refine rbs1 (bsOf (bytR p)) rfl rfl (by decide) λb6 u6 n6 _ S6=>?_
   have O4:Own w2.heap.size E.qg u4 v (lo.map bsOf):=(Os.up (w':=u3)).fr f4 λb _ hb=>grow (hoff b hb).1 (hoff b hb).2 (Nat.le_refl _)
   have z6:=Le.size (a:=u4) (b:=u6)
   refine rappD ⟨rfl,rfl⟩ (O4.up (w':=u6)) S6 (by simp) (by omega) (by rw [List.length_map];simp;omega) λv7 u7 O7 f7 hv7=>?_
   have z7:=f7.size
   have P7:=P4.up (w':=u6)
   have nv:∀b,ownD w2.heap.size v b->b<u.heap.size/\¬Rj b:=λb hb=>hoff b hb.2.1
   have hD7:∀b,ownD w2.heap.size v b->¬gR (gR Rj u u1) u3 u4 b:=λb hb h=>by
    have:=nv b hb
    rcases h with (h|h)|h
    ·exact this.2 h
    ·omega
    ·omega
   have P8:=SrvP.away P7 f7 hD7
   have k1:Own w2.heap.size E.qg u7 v7 ((stepsS g c ((usedS s1.held).take (j+1)) s1.held).2.map bsOf):=by
    have:(stepsS g c ((usedS s1.held).take (j+1)) s1.held).2.map bsOf=lo.map bsOf++[bsOf (bytR p)]:=by
     rw [hsnoc]
     show (lo++(stepS g c hj1 k).2.toList).map bsOf=_
     rw [(zCR hj1 k).1,q1,List.map_append];rfl
    rw [this];exact O7
   have k2:∀b,Value.blk v7=some b->b<u7.heap.size/\¬gR (gR Rj u u1) u3 u4 b:=λb hb=>by
    rcases hv7 with h|h
    ·rw [h] at hb
     have:=hoff b hb
     refine⟨by omega,λh2=>?_⟩
     rcases h2 with (h2|h2)|h2
     ·exact this.2 h2
     ·omega
     ·omega
    ·rw [h] at hb;cases hb
     have q_:=O7.lt (by simp)
     obtain⟨gq,g1,_,g3⟩:=q_
     rw [h] at g1;cases g1
     refine⟨g3,λh=>?_⟩
     rcases h with (h|h)|h
     ·have:=(hRu _ h).2;omega
     ·omega
     ·omega
   have k3:SrvP (gR (gR Rj u u1) u3 u4) B u7 bs g c ⟨s1.wait,(stepsS g c ((usedS s1.held).take (j+1)) s1.held).1⟩:=by
    rw [hsnoc]
    show SrvP _ _ _ _ _ _ ⟨s1.wait,(stepS g c hj1 k).1⟩
    rw [q2];exact P8
   have k4:∀i,gR (gR Rj u u1) u3 u4 i->gR R w w1 i\/w2.heap.size<=i:=λi hi=>by
    rcases hi with (h|h)|h
    ·exact hRj i h
    ·exact .inr (by omega)
    ·exact .inr (by omega)
   have k5:Fr (λi=>gR (gR Rj u u1) u3 u4 i/\i<w2.heap.size) w2 u7:=by
    refine((hf1.trans (Fr.fr (Le.e (a:=u1) (b:=u3)))).join (H:=λi=>gR (gR Rj u u1) u3 u4 i/\i<w2.heap.size) f4 (λi _ h=>⟨.inl h.1,h.2⟩) λi hi h=>⟨.inl h,hi⟩).join ((Fr.fr (D:=ownD w2.heap.size v) (Le.e (a:=u4) (b:=u6))).trans f7) (λ_ _ h=>h) λi hi h=>?_
    have:=h.1;omega
   clear Y4 H4 O4 S6 P7 P8 nv hD7 O7 f7 hv7
   exact rA ⟨rfl,hja,_,k1,k2,k3,k4,k5⟩
  ·have P3:=SrvP.up (w':=u3) P1
   have k1:Own w2.heap.size E.qg u3 v ((stepsS g c ((usedS s1.held).take (j+1)) s1.held).2.map bsOf):=by
    have:(stepsS g c ((usedS s1.held).take (j+1)) s1.held).2.map bsOf=lo.map bsOf:=by
     rw [hsnoc]
     show (lo++(stepS g c hj1 k).2.toList).map bsOf=_
     rw [(zCR hj1 k).1,q1];simp
    rw [this];exact Os.up
   have k2:∀b,Value.blk v=some b->b<u3.heap.size/\¬gR Rj u u1 b:=λb hb=>by
    have:=hoff b hb
    exact⟨by omega,grow this.1 this.2 (Nat.le_refl _)⟩
   have k3:SrvP (gR Rj u u1) B u3 bs g c ⟨s1.wait,(stepsS g c ((usedS s1.held).take (j+1)) s1.held).1⟩:=by rw [hsnoc];exact P3
   have k5:Fr (λi=>gR Rj u u1 i/\i<w2.heap.size) w2 u3:=hf1.trans (Fr.fr (Le.e (a:=u1) (b:=u3)))
   exact rA ⟨rfl,hja,gR Rj u u1,k1,k2,k3,hR1j (by omega),k5⟩
 ·obtain rfl:j=(usedS s1.held).length:=by (try dsimp only at hge);omega
  rw [List.take_length] at O P
  have h1:tickS g c s=(⟨s1.wait,(stepsS g c (usedS s1.held) s1.held).1⟩,(stepsS g c (usedS s1.held) s1.held).2):=by rw [hs1];rfl
  rw [h1]
  refine⟨Rj,O.mono (by omega),hoff,P,λi hi=>?_,fR⟩
  have:=(SrvX.reg P).1 i hi
  have q_:=hRj i hi
  rcases q_ with (h|h)|h
  ·exact .inl h
  ·exact .inr (by omega)
  ·exact .inr (by omega)
end
section
variable {R:Nat->Prop} {B:Nat} {w0 w w':World} {bs:Nat} {g:GrD} {c:CfD} {s:SvD}
def comeV (o:Option (List UInt8)):Value:=.tuple #[txt (o.getD []),.bool o.isSome]
theorem zNN(s:SvD)(id:Int):(backS s id).2≠0:=by
 unfold backS
 split
 ·exact(by decide:(253:Int)≠0)
 ·split
  ·exact(by decide:(253:Int)≠0)
  ·exact(by decide:(141:Int)≠0)
theorem zJm(f:Fn)(a b:Array Value):∀u∈[Value.func f a b],u.oneCell'=true:=by intro u hu;simp at hu;subst hu;rfl
theorem zDA{f:List UInt8}(S:SrvP R B w bs g c s)(hB:B<=w.heap.size)(hf:f.length<=4611686018427387904):
  Sp PP F.z1 #[.pointer (some ⟨bs,0,none⟩),txt f] w λv w'=>v=comeV (comeS g c s f).2/\SrvP (gR R w w') B w' bs g c (comeS g c s f).1/\Fr R w w':=by
 have hlo:=S.lo
 have q_:∃s' o,comeS g c s f=(s',o):=⟨_,_,rfl⟩
 obtain⟨s',o,hC⟩:=q_
 have hc1:reqOf f=none->idOf f=none->s'=s/\o=none:=λh1 h2=>by
  unfold comeS at hC;rw [h1] at hC;dsimp only at hC;rw [h2] at hC;cases hC;exact⟨rfl,rfl⟩
 have hc2:reqOf f=none->∀id,idOf f=some id->s'=s/\o=some (repB id 220 zAn):=λh1 id h2=>by
  unfold comeS at hC;rw [h1] at hC;dsimp only at hC;rw [h2] at hC;cases hC;exact⟨rfl,rfl⟩
 have hc3:∀d,reqOf f=some d->d.kind=4->s'=(backS s d.id).1/\o=some (repB d.id (backS s d.id).2 zAn):=λd h1 h2=>by
  unfold comeS at hC;rw [h1] at hC;dsimp only at hC;rw [if_pos h2] at hC;cases hC;exact⟨rfl,rfl⟩
 have hc4:∀d,reqOf f=some d->d.kind≠4->((askS g c s d (QyIs d.q g.n)).2=0/\s'=(askS g c s d (QyIs d.q g.n)).1/\o=none)\/((askS g c s d (QyIs d.q g.n)).2≠0/\s'=(askS g c s d (QyIs d.q g.n)).1/\o=some (repB d.id (askS g c s d (QyIs d.q g.n)).2 zAn)):=λd h1 h2=>by
  unfold comeS at hC;rw [h1] at hC;dsimp only at hC;rw [if_neg h2] at hC
  by_cases h3:(askS g c s d (QyIs d.q g.n)).2=0
  ·rw [if_pos h3] at hC;cases hC;exact .inl ⟨h3,rfl,rfl⟩
  ·rw [if_neg h3] at hC;cases hC
   have hs:=(SrvX.reg S).2.2.2
   have q_:=ask_ok (x:=d) hs (zEc h1).2.1
   rcases q_ with ⟨h4,_⟩|⟨_,h4⟩
   ·exact absurd h4 h3
   ·exact .inr ⟨h3,h4.symm,rfl⟩
 rw [hC]
 dsimp only
 refine en TBok rfl ?_
 refine rpnil (rcall (zBP hf) ?_)
 rintro _ w1 ⟨⟨d,x,hr,rfl,O⟩|⟨hno,rfl⟩,e1⟩
 case inr =>
  refine ral λbx w2 n2 X2=>rsto (B:=X2) (vs:=enc zRq) rfl rfl rfl (Enc.one _) λw3 X3 f3 _=>?_
  have s3:Stp w1 w3:=⟨Fr.st Le.e f3 λi hi=>by subst hi;exact n2.lo⟩
  clear X2 f3
  refine iT (by first|omega|decide|(dsimp only <;> omega)) (rcall (zKa hf) ?_)
  rintro _ w4 ⟨⟨id,hid,rfl⟩|⟨hid,rfl⟩,e4⟩
  ·have q_:=hc2 hno id hid
   obtain⟨rfl,rfl⟩:=q_
   refine rcall zBN ?_
   rintro _ w5 ⟨rfl,e5⟩
   exact⟨rfl,SrvP.new (w':=w5) S hB⟩
  ·have q_:=hc1 hno hid
   obtain⟨rfl,rfl⟩:=q_
   exact⟨rfl,SrvP.new (w':=w4) S hB⟩
 case inl =>
  have hd:=zEc hr
  refine ral λbx w2 n2 X2=>?_
  have hbx:=n2.lo (u:=w)
  refine rsto (B:=X2) (vs:=enc x) rfl rfl rfl (Enc.one _) λw3 X3 f3 _=>?_
  have X3:Bk w3 bx (enc x) E.qd:=X3
  have s3:Stp w1 w3:=⟨Fr.st Le.e f3 λi hi=>by subst hi;exact n2.lo⟩
  clear X2 f3
  refine iF (· rfl) (rbuild (cs:=[.func (.func F.ql) #[.pointer (some ⟨bs,0,none⟩)] #[]]) rfl (ral λbd w4 n4 D4=>rsto (B:=D4) (vs:=[.func (.func F.ql) #[.pointer (some ⟨bs,0,none⟩)] #[]]) rfl rfl rfl (zJm _ _ _) λw5 D5 f5 _=>?_))
  have D5:Bk w5 bd [.func (.func F.ql) #[.pointer (some ⟨bs,0,none⟩)] #[]] E.ym:=D5
  have s5:Stp w3 w5:=⟨Fr.st Le.e f5 λi hi=>by subst hi;exact n4.lo⟩
  clear D4 f5
  refine rld (B:=X3) rfl ?_
  have hk:=O.2.1
  refine ite (λh4=>?_) (λh4=>?_)
  ·refine rbuild (cs:=[.func (.func F.qk) #[.pointer (some ⟨bs,0,none⟩)] #[]]) rfl (rsto (B:=D5) (vs:=[.func (.func F.qk) #[.pointer (some ⟨bs,0,none⟩)] #[]]) rfl rfl rfl (zJm _ _ _) λw6 D6 f6 _=>?_)
   have D6:Bk w6 bd [.func (.func F.qk) #[.pointer (some ⟨bs,0,none⟩)] #[]] E.ym:=D6
   have s6:Stp w3 w6:=⟨Fr.st (Le.e (a:=w3) (b:=w5)) f6 λi hi=>by subst hi;exact n4.lo⟩
   refine rld (B:=D6) rfl (rldG (ds:=enc x) (B:=X3) rfl (Enc.len _) (rcall (zHt (x:=x) (w0:=w) (w:=w6) S hB) ?_))
   rintro _ w7 ⟨rfl,S7,f7⟩
   refine iT (zNN s x.id) ?_
   have X7:=(X3.mv (w:=w6)).fr f7 λh=>by have:=hlo _ h;omega
   refine rld (B:=X7) rfl (rcall zBN ?_)
   rintro _ w8 ⟨rfl,e8⟩
   obtain⟨rfl,rfl⟩:=hc3 d hr (by rw [<-hk];exact h4)
   have hz:=f7.size
   have hz2:=Le.size (a:=w) (b:=w6)
   rw [<-O.1]
   refine⟨rfl,?_,((Fr.fr (Le.e (a:=w) (b:=w6))).trans f7).trans (Fr.fr (Le.e (a:=w7) (b:=w8)))⟩
   have hreg:=(SrvX.reg S).1
   exact SrvX.wide (SrvP.up (w':=w8) S7) (λi hi=>hi.imp id λh=>by have:=e8.e.size;omega) λi hi=>by
    rcases hi with hi|hi
    ·have:=hreg i hi;have:=e8.e.size;omega
    ·omega
  ·refine rld (B:=D5) rfl (rldG (ds:=enc x) (B:=X3) rfl (Enc.len _) (rcall (zIw (w0:=w) (w:=w5) S hB (RqO.up (w':=w5) O) hd) ?_))
   rintro _ w7 ⟨rfl,S7,f7⟩
   have hz:=f7.size
   have hz2:=Le.size (a:=w) (b:=w5)
   have fw7:=(Fr.fr (D:=R) (Le.e (a:=w) (b:=w5))).trans f7
   have hreg:=(SrvX.reg S).1
   have q_:=hc4 d hr (by rw [<-hk];exact h4)
   rcases q_ with ⟨h1,rfl,rfl⟩|⟨h1,rfl,rfl⟩
   ·refine iF (· h1) ?_
    exact⟨rfl,S7,fw7⟩
   ·refine iT h1 ?_
    have X7:=(X3.mv (w:=w5)).fr f7 λh=>by have:=hlo _ h;omega
    refine rld (B:=X7) rfl (rcall zBN ?_)
    rintro _ w8 ⟨rfl,e8⟩
    rw [<-O.1]
    refine⟨rfl,?_,fw7.trans (Fr.fr (Le.e (a:=w7) (b:=w8)))⟩
    exact SrvX.wide (SrvP.up (w':=w8) S7) (λi hi=>hi.imp id λh=>by have:=e8.e.size;omega) λi hi=>by
     rcases hi with hi|hi
     ·have:=hreg i hi;have:=e8.e.size;omega
     ·omega
end
def cfgOk (x:RCfg):Prop:=(1<=x.workers/\x.workers<=16)/\(1<=x.slots/\x.slots<=64)/\(1<=x.queue/\x.queue<=1000)/\(1<=x.pool/\x.pool<=400)/\(1<=x.budget/\x.budget<=1000)
def cfOf (x:RCfg):CfD:=⟨x.workers.toNat,x.slots.toNat,x.queue.toNat,x.pool.toNat,x.budget.toNat⟩
theorem zNS{x:RCfg}(h:cfgOk x):CfOk (cfOf x):=by
 unfold cfgOk at h
 refine⟨?_,?_,?_,?_,?_⟩ <;> simp only [cfOf] <;> omega
section
variable {B B':Nat} {w w':World} {g:GrD}
theorem StoP.low{b gs size:Nat}{L:List StD}(h:StoP R B w b gs size L)(hB:B'<=B):StoP R B' w b gs size L:=by
 obtain⟨bt,ta,tc,ts,fa,fc,fr,sc,st,bm,m,ch,h,T,M,C,Z⟩:=h
 have ht:=h.tab
 obtain⟨g0,Rw,H,r⟩:=ht
 have hl:=h.lo
 exact⟨bt,ta,tc,ts,fa,fc,fr,sc,st,bm,m,ch,⟨⟨by omega,by omega,by omega⟩,h.cell,⟨Nat.le_trans hB g0,Rw,⟨H.cell,H.row.mono hB,H.len,H.tab,H.bnd,H.may,H.zero⟩,r⟩,h.free,h.sts.mono hB,h.map,λs v hv=>⟨(h.rows s v hv).1.mono hB,(h.rows s v hv).2⟩,h.empt,h.apart,h.apart2⟩,T,M,C,Z⟩
theorem Stos.add{W pool:Nat}{K:SrvK}{RW:Nat->Nat->Prop}{b gs:Nat}{L:List StD}{Ls:Nat->List StD}(T:Stos B w W K pool RW Ls)[Le w w'](S:StoP (λi=>w.heap.size<=i/\i<w'.heap.size) B w' b gs pool L)(hL:Ls W=L):
  Stos B w' (W+1) { K with sb:=λk=>if k=W then b else K.sb k,sg:=λk=>if k=W then gs else K.sg k } pool (updR RW W λi=>w.heap.size<=i/\i<w'.heap.size) Ls:=by
 have T':=T.up (w':=w')
 have z:=Le.size (a:=w) (b:=w')
 have e:∀{j},j<W->updR RW W (λi=>w.heap.size<=i/\i<w'.heap.size) j=RW j:=λ{j} h=>if_neg (by omega)
 have eW:updR RW W (λi=>w.heap.size<=i/\i<w'.heap.size) W=λi=>w.heap.size<=i/\i<w'.heap.size:=if_pos rfl
 refine⟨λk j hk hj hne i hi=>?_,λk hk=>?_,λk hk i hi=>?_⟩
 ·by_cases h1:k=W
  ·subst h1
   rw [eW] at hi
   rw [e (show j<k by omega)]
   intro h2;have:=T.lt j (by omega) i h2;omega
  ·rw [e (show k<W by omega)] at hi
   by_cases h2:j=W
   ·subst h2
    rw [eW]
    intro h3;have:=T.lt k (by omega) i hi;omega
   ·rw [e (show j<W by omega)];exact T.dis k j (by omega) (by omega) hne i hi
 ·by_cases h1:k=W
  ·subst h1
   rw [eW,hL]
   simp only [if_true];exact S
  ·rw [e (show k<W by omega)]
   simp only [if_neg h1];exact T'.sto k (by omega)
 ·by_cases h1:k=W
  ·subst h1;rw [eW] at hi;exact hi.2
  ·rw [e (show k<W by omega)] at hi;exact T'.lt k (by omega) i hi
theorem zOG(g:GrD)(W n k:Nat):wkS g W (List.replicate n none) k=[]:=by
 unfold wkS allS
 rw [List.filter_eq_nil_iff]
 intro x hx
 have q_:=List.mem_flatMap.1 hx
 obtain⟨j,_,h⟩:=q_
 rw [List.getD_eq_getElem?_getD,List.getElem?_replicate] at h
 split at h <;> cases h
def zSrvK (bj jc:Nat) (xr:RRow) (r:List EdN) (ws:SV) (wl:List ByteArray) (ps:List RPo):SrvK:=⟨bj,jc,xr,r,ws,wl,ps,⟨none,0,0⟩,λ_=>0,λ_=>0⟩
theorem zEx{x:RCfg}{f:List UInt8}(hf:f.length<=4611686018427387904):
  Sp PP F.yf #[agg x,txt f] w λv w'=>((¬cfgOk x/\v=.tuple #[.pointer none,.int .i64 1])\/(cfgOk x/\imgOf f=none/\v=.tuple #[.pointer none,.int .i64 30]) \/
   ∃g bs,cfgOk x/\imgOf f=some g/\v=.tuple #[.pointer (some ⟨bs,0,none⟩),.int .i64 0]/\SrvP (λi=>w.heap.size<=i/\i<w'.heap.size) w.heap.size w' bs g (cfOf x) (newS (cfOf x)))/\Stp w w':=by
 obtain⟨xw,xs,xq,xp,xb⟩:=x
 refine en TBok rfl ?_
 refine rbx λbc w1 n1 C1=>rld (B:=C1) rfl (rcall (zJM (n:=xs)) ?_)
 rintro _ w2 ⟨⟨v2,rfl,O2⟩,e2⟩
 by_cases hxs:xs<1\/64<xs
 ·have hnew:newH xs=([],1):=if_pos hxs
  rw [hnew] at O2 ⊢
  refine iT (by first|omega|decide|(dsimp only <;> omega)) ?_
  exact⟨.inl ⟨λh=>by have h1:1<=xs/\xs<=64:=h.2.1;omega,rfl⟩,stp⟩
 have hnew:newH xs=(List.replicate xs.toNat zeroH,0):=if_neg hxs
 rw [hnew] at O2 ⊢
 refine iF (· rfl) (rld (B:=C1) rfl (rcall zA3 ?_))
 rintro _ w3 ⟨⟨rfl,hw1⟩|⟨rfl,hw1⟩,rfl⟩
 case' inr=>exact⟨.inl ⟨λh=>hw1 h.1,rfl⟩,stp⟩
 refine rld (B:=C1) rfl (rcall zA3 ?_)
 rintro _ w3 ⟨⟨rfl,hw2⟩|⟨rfl,hw2⟩,rfl⟩
 case' inr=>exact⟨.inl ⟨λh=>hw2 h.2.2.1,rfl⟩,stp⟩
 refine rld (B:=C1) rfl (rcall zA3 ?_)
 rintro _ w3 ⟨⟨rfl,hw3⟩|⟨rfl,hw3⟩,rfl⟩
 case' inr=>exact⟨.inl ⟨λh=>hw3 h.2.2.2.1,rfl⟩,stp⟩
 refine rld (B:=C1) rfl (rcall zA3 ?_)
 rintro _ w3 ⟨⟨rfl,hw4⟩|⟨rfl,hw4⟩,rfl⟩
 case' inr=>exact⟨.inl ⟨λh=>hw4 h.2.2.2.2,rfl⟩,stp⟩
 have hw1:1<=xw/\xw<=16:=hw1
 have hw2:1<=xq/\xq<=1000:=hw2
 have hw3:1<=xp/\xp<=400:=hw3
 have hw4:1<=xb/\xb<=1000:=hw4
 have hcfg:cfgOk ⟨xw,xs,xq,xp,xb⟩:=⟨hw1,by dsimp only;omega,hw2,hw3,hw4⟩
 have hco:=zNS hcfg
 have q_:=Int.eq_ofNat_of_zero_le (show (0:Int)<=xw by omega)
 obtain⟨W,rfl⟩:=q_
 have q_:=Int.eq_ofNat_of_zero_le (show (0:Int)<=xs by omega)
 obtain⟨N,rfl⟩:=q_
 have q_:=Int.eq_ofNat_of_zero_le (show (0:Int)<=xq by omega)
 obtain⟨Q,rfl⟩:=q_
 have q_:=Int.eq_ofNat_of_zero_le (show (0:Int)<=xp by omega)
 obtain⟨P,rfl⟩:=q_
 have q_:=Int.eq_ofNat_of_zero_le (show (0:Int)<=xb by omega)
 obtain⟨U,rfl⟩:=q_
 have C1:Bk w1 bc [.int .i64 (W:Int),.int .i64 (N:Int),.int .i64 (Q:Int),.int .i64 (P:Int),.int .i64 (U:Int)] E.qy:=C1
 have hcf:cfOf ⟨W,N,Q,P,U⟩=⟨W,N,Q,P,U⟩:=by simp [cfOf]
 rw [hcf] at hco
 rw [Int.toNat_natCast] at O2
 have q_:=O2.shape
 obtain⟨a2,c2,rfl⟩:=q_
 have hl2:(List.replicate N zeroH).length=N:=by simp
 refine rcall (zDq hf) ?_
 rintro _ w4 ⟨⟨g,gx,vs,him,rfl,V4⟩|⟨him,rfl⟩,e4⟩
 case' inr =>
  refine ral λbg w5 n5 G5=>rsto (B:=G5) (vs:=enc zGr) rfl rfl rfl (Enc.one _) λw6 G6 f6 _=>?_
  have s6:Stp w4 w6:=⟨Fr.st Le.e f6 λi hi=>by subst hi;exact n5.lo⟩
  clear G5 f6
  refine iT (by first|omega|decide|(dsimp only <;> omega)) ?_
  exact⟨.inr (.inl ⟨hcfg,him,rfl⟩),stp⟩
 have hgi:=zI9 him
 refine ral λbg w5 n5 G5=>rsto (B:=G5) (vs:=enc gx) rfl rfl rfl (Enc.one _) λw6 G6 f6 _=>?_
 have G6:Bk w6 bg (enc gx) E.qf:=G6
 have s6:Stp w4 w6:=⟨Fr.st Le.e f6 λi hi=>by subst hi;exact n5.lo⟩
 clear G5 f6
 refine iF (· rfl) (drawR TBok mixed (λ_=>False) (upF 8 0) (by kernel_rfl) λw7 e7 _=>tldG (ds:=enc (⟨W,N,Q,P,U⟩:RCfg)) (B:=C1) rfl rfl nf (tld (B:=C1) rfl nf (rmk zJob rfl rfl (by omega) λbj w8 OJ s8 hbj=>⟨s8.e,?_⟩)))
 refine tbuild (cs:=srvL ⟨W,N,Q,P,U⟩ (zSrvK bj N ⟨⟨none,0,0⟩,⟨none,0,0⟩,⟨none,0,0⟩,⟨none,0,0⟩⟩ [] ⟨none,0,0⟩ [] []) ⟨none,0,0⟩ ⟨a2,(List.replicate N zeroH).length,c2⟩) (by rw [hl2];rfl) (rbx λbs w9 n9 S9=>⟨n9.e,?_⟩)
 have b1:=n1.b;have l1:=n1.lt
 have b9:=n9.b;have l9:=n9.lt
 have z8:=Le.size (a:=w) (b:=w8)
 have z78:=Le.size (a:=w) (b:=w7)
 have hbj9:bj<bs:=by
  have h1:=OJ.lt (by intro h;have:=congrArg List.length h;simp at this;omega)
  obtain⟨gq,h1,_,h3⟩:=h1
  have h4:bj=gq:=Option.some.inj h1
  omega
 refine rldG (ds:=enc gx) (B:=G6) rfl (Enc.len _) (rcall (zE8 (V4.up (w':=w9)) hgi) ?_)
 rintro _ w10 ⟨⟨y,r,rfl,RO⟩,e10⟩
 refine ral λbr w11 n11 R11=>rsto (B:=R11) (vs:=enc y) rfl rfl rfl (Enc.one _) λw12 R12 f12 _=>?_
 have R12:Bk w12 br (enc y) E.qq:=R12
 have s12:Stp w10 w12:=⟨Fr.st Le.e f12 λi hi=>by subst hi;exact n11.lo⟩
 have hbr:=n11.lo (u:=w9)
 clear R11 f12
 refine rldG (ds:=enc gx) (B:=G6) rfl (Enc.len _) (rcall (zGT (V4.up (w':=w12)) hgi) ?_)
 rintro _ w13 ⟨⟨pa,pc,ps,wl,rfl,PM,_,hpn,OP,OPs⟩,e13⟩
 refine rldG (ds:=enc y) (B:=R12) rfl (Enc.len _) ?_
 have z10:=e10.e.size
 have z12:=Le.size (a:=w10) (b:=w12)
 have z13:=e13.e.size
 refine rsto (B:=S9) (vs:=enc y) rfl rfl rfl (Enc.one _) λw14 S14 f14 _=>rsto (B:=S14) (vs:=[.slice pa ps.length pc]) rfl rfl rfl (sv1 _ _ _) λw15 S15 f15 _=>?_
 have q_:∃K:SrvK,K=zSrvK bj N y r ⟨pa,ps.length,pc⟩ wl ps:=⟨_,rfl⟩
 obtain⟨K,hK⟩:=q_
 have S15:Bk w15 bs (srvL ⟨W,N,Q,P,U⟩ K ⟨none,0,0⟩ ⟨a2,(List.replicate N zeroH).length,c2⟩) E.qm:=by
  rw [hK];exact S15
 clear S14 S9
 have f1315:Fr (λi=>i=bs) w13 w15:=f14.trans f15
 have z15:=f1315.size
 have s15:Stp w8 w15:=⟨Fr.st (Le.e (a:=w8) (b:=w13)) f1315 λi hi=>by omega⟩
 refine rld (B:=C1) rfl ?_
 refine cnt TBok 82 [4,5,14,15] 82 W (λj u=>∃(wa:Option Addr) (wc:Nat) (sb sg:Nat->Nat) (RW:Nat->Nat->Prop),
   Own w.heap.size E.yh u (.slice wa j wc) ((List.range j).map λk=>(⟨sb k⟩:RPtr)) /\
   Bk u bs (srvL ⟨W,N,Q,P,U⟩ { K with wk:=⟨wa,j,wc⟩ } ⟨none,0,0⟩ ⟨a2,(List.replicate N zeroH).length,c2⟩) E.qm /\
   Stos w.heap.size u j { K with sb:=sb,sg:=sg } P RW (λ_=>[])/\(∀k,k<j->∀i,RW k i->w15.heap.size<=i) /\
   (∀b,Value.blk (.slice wa j wc)=some b->w15.heap.size<=b/\b<u.heap.size/\∀k,k<j->¬RW k b)/\Fr (λi=>i=bs) w15 u) rfl rfl
  ⟨none,0,λ_=>0,λ_=>0,λ_ _=>False,Own.nil _ _ _,by rw [hK] at S15 ⊢;exact S15,⟨λk j hk=>by omega,λk hk=>by omega,λk hk=>by omega⟩,(λk hk=>by omega),(λb hb=>by cases hb),Fr.refl _ _⟩ ?_
 rintro j G u hj ⟨wa,wc,sb,sg,RW,OW,Su,T,hlo,hblk,f⟩
 have zu:=f.size
 have su:Stp w8 u:=⟨Fr.st (Le.e (a:=w8) (b:=w15)) f λi hi=>by omega⟩
 refine ite (λhlt=>?_) (λhge=>?_)
 ·have hja:j<W:=Int.ofNat_lt.1 hlt
  refine rld (B:=C1) rfl (rcall (zJS (size:=(P:Int))) ?_)
  rintro _ u1 ⟨⟨hno,_⟩|⟨N',b,gs,hN',_,_,rfl,SN⟩,e1⟩
  ·omega
  have q_:P=N':=by omega
  obtain rfl:=q_
  have z1:=e1.e.size
  refine iF (· rfl) (rld (B:=Su) rfl (rbs1 (⟨b⟩:RPtr) rfl rfl (by decide) λb2 u2 n2 _ S2=>?_))
  have z2:=n2.e.size
  refine rappD ⟨rfl,rfl⟩ (OW.up (w':=u2)) S2 (by simp) (by omega) (by simp;omega) λv3 u3 O3 f3 hv3=>?_
  have hv3:Value.blk v3=Value.blk (.slice wa j wc)\/Value.blk v3=some u2.heap.size:=hv3
  have f3:Fr (ownD w.heap.size (.slice wa j wc)) u2 u3:=f3
  have z3:=f3.size
  have hv:∀b,ownD w.heap.size (.slice wa j wc) b->w15.heap.size<=b/\b<u.heap.size/\∀k,k<j->¬RW k b:=λb hb=>hblk b hb.2.1
  have hbsl:bs<w15.heap.size:=by omega
  have Su2:=(Su.mv (w:=u2)).fr f3 λh=>by have:=hv _ h;omega
  have hl3:((List.range j).map (λk=>(⟨sb k⟩:RPtr))++[(⟨b⟩:RPtr)]).length=j+1:=by simp
  have hsh:∃a c,v3=.slice a (j+1) c:=by
   have h:=O3.shape
   rw [hl3] at h;exact h
  obtain⟨a3,c3,hv3e⟩:=hsh
  subst hv3e
  refine rsto (B:=Su2) (vs:=[.slice a3 (j+1) c3]) rfl rfl rfl (sv1 _ _ _) λu4 S4 f4 _=>?_
  have S4:Bk u4 bs (srvL ⟨W,N,Q,P,U⟩ { K with wk:=⟨a3,j+1,c3⟩ } ⟨none,0,0⟩ ⟨a2,(List.replicate N zeroH).length,c2⟩) E.qm:=S4
  have z4:=f4.size
  have hb3:∀b',Value.blk (.slice a3 (j+1) c3)=some b'->w15.heap.size<=b'/\b'<u3.heap.size/\(∀k,k<j->¬RW k b')/\¬(u.heap.size<=b'/\b'<u1.heap.size):=λb' hb'=>by
   have q_:=O3.lt (by simp)
   obtain⟨gq,g1,_,g3⟩:=q_
   rw [hb'] at g1;cases g1
   rcases hv3 with h|h
   ·rw [hb'] at h
    have:=hblk b' h.symm
    exact⟨this.1,g3,this.2.2,by omega⟩
   ·rw [hb'] at h;cases h
    exact⟨by omega,g3,λk hk h2=>by have:=T.lt k hk _ h2;omega,by omega⟩
  have k1:Own w.heap.size E.yh u4 (.slice a3 (j+1) c3) ((List.range (j+1)).map λk=>(⟨(λk=>if k=j then b else sb k) k⟩:RPtr)):=by
   have e:((List.range (j+1)).map λk=>(⟨(λk=>if k=j then b else sb k) k⟩:RPtr))=(List.range j).map (λk=>(⟨sb k⟩:RPtr))++[(⟨b⟩:RPtr)]:=by
    rw [List.range_succ,List.map_append]
    congr 1
    ·apply List.map_congr_left
     intro k hk
     have:=List.mem_range.1 hk
     dsimp only
     rw [if_neg (by omega)]
    ·simp
   rw [e]
   exact O3.fr f4 λb' _ hb' h=>by have:=hb3 b' hb';omega
  have T1:=(Stos.add (L:=[]) (Ls:=λ_=>[]) T (SN.low (by omega)) rfl)
  have T4:Stos w.heap.size u4 (j+1) { K with sb:=λk=>if k=j then b else sb k,sg:=λk=>if k=j then gs else sg k } P (updR RW j λi=>u.heap.size<=i/\i<u1.heap.size) (λ_=>[]):=by
   refine((T1.up (w':=u2)).away f3 λk hk i hi h=>?_).away f4 λk hk i hi h=>?_
   ·have h5:=hv i h
    unfold updR at hi
    split at hi
    ·omega
    ·exact h5.2.2 k (by omega) hi
   ·unfold updR at hi
    split at hi
    ·omega
    ·have:=hlo k (by omega) i hi;omega
  have k4:∀k,k<j+1->∀i,updR RW j (λi=>u.heap.size<=i/\i<u1.heap.size) k i->w15.heap.size<=i:=λk hk i hi=>by
   unfold updR at hi
   split at hi
   ·omega
   ·exact hlo k (by omega) i hi
  have k5:∀b',Value.blk (.slice a3 (j+1) c3)=some b'->w15.heap.size<=b'/\b'<u4.heap.size/\∀k,k<j+1->¬updR RW j (λi=>u.heap.size<=i/\i<u1.heap.size) k b':=λb' hb'=>by
   have h5:=hb3 b' hb'
   refine⟨h5.1,by omega,λk hk hi=>?_⟩
   unfold updR at hi
   split at hi
   ·exact h5.2.2.2 hi
   ·exact h5.2.2.1 k (by omega) hi
  have k6:Fr (λi=>i=bs) w15 u4:=(f.join ((Fr.fr (D:=ownD w.heap.size (.slice wa j wc)) (Le.e (a:=u) (b:=u2))).trans f3) (λ_ _ h=>h) λi hi h=>by have:=hv i h;omega).trans f4
  clear O3 f3 hv3 hv hb3 T1 Su2 OW
  exact rA ⟨rfl,hja,a3,c3,_,_,_,k1,S4,T4,k4,k5,k6⟩
 ·have hjW:j=W:=by have h5:=Int.ofNat_le.1 (Int.not_lt.1 hge);exact Nat.le_antisymm hj h5
  subst hjW
  have hR:∀{C:Nat},w.heap.size<=C->∀{lim:Nat},lim<=w15.heap.size->(∀i,C<=i->i<lim->¬i=bs/\¬i=bj)->∀i,C<=i->i<lim->(w.heap.size<=i/\i<u.heap.size)/\¬mutS bs bj j RW i:=λ{C} hC {lim} hl hn i h1 h2=>by
   refine⟨by omega,λh=>?_⟩
   rcases h with h|h|⟨k,hk,h⟩
   ·exact(hn i h1 h2).1 h
   ·exact(hn i h1 h2).2 h
   ·have:=hlo k hk i h;omega
  have hKj:K.bj=bj:=by rw [hK];rfl
  have f13u:Fr (λi=>i=bs) w13 u:=f1315.trans f
  have rowF:∀{α:Type} [Enc α] {e:TypeId} {C:Nat} {v:Value} {l:List α} {u0:World},Own C e u0 v l->Le w9 u0->u0.heap.size<=w13.heap.size->w9.heap.size<=C->Own C e w13 v l->Fz (mutS bs bj j RW) (λi=>w.heap.size<=i/\i<u.heap.size) u λu=>SlF u v l:=λ{α _ e C v l u0} O L0 hz hC O13 =>
   O.fzB (O13.fr f13u λb hb _ h=>by omega).sl (hR (by omega) (by omega) λi h1 h2=>by omega)
  have Zoff:=rowF RO.off inferInstance (by omega) (Nat.le_refl _) (RO.off.up (w':=w13))
  have Zto:=rowF RO.to inferInstance (by omega) (Nat.le_refl _) (RO.to.up (w':=w13))
  have Zrof:=rowF RO.rof inferInstance (by omega) (Nat.le_refl _) (RO.rof.up (w':=w13))
  have Zrev:=rowF RO.rev inferInstance (by omega) (Nat.le_refl _) (RO.rev.up (w':=w13))
  have Zps:=rowF OP inferInstance (Nat.le_refl _) (by omega) OP
  have Zpl:∀i (h:i<ps.length) (h':i<wl.length),Fz (mutS bs bj j RW) (λi=>w.heap.size<=i/\i<u.heap.size) u λu=>SlF u ps[i].pl.v (plOf g wl[i]):=λi h h'=>rowF (OPs i h h') inferInstance (Nat.le_refl _) (by omega) (OPs i h h')
  have Zhd:Fz (mutS bs bj j RW) (λi=>w.heap.size<=i/\i<u.heap.size) u λu=>SlF u (.slice a2 (List.replicate N zeroH).length c2) (List.replicate N zeroH):=by
   have z2:=Le.size (a:=w3) (b:=w7)
   have O13:=((O2.up (w':=w13)).fr f13u λb _ hb h=>by
    obtain⟨gq,g1,_,g3⟩:=O2.lt (by intro h;have:=congrArg List.length h;simp at this;omega)
    rw [hb] at g1;cases g1
    omega)
   exact O2.fzB O13.sl (hR (by have:=Le.size (a:=w) (b:=w1);omega) (by omega) λi h1 h2=>by omega)
  have Ju:Own w.heap.size E.q5 u (.slice (some ⟨bj,0,none⟩) N N) (List.replicate N zJob):=((OJ.up (w':=w13)).fr f13u λb _ hb h=>by
   have:bj=b:=Option.some.inj hb
   omega).mono (by omega)
  refine⟨.inr (.inr ⟨g,bs,hcfg,him,rfl,?_⟩),stp⟩
  rw [hcf]
  refine⟨{ K with wk:=⟨wa,j,wc⟩,sb:=sb,sg:=sg },⟨none,0,0⟩,⟨a2,(List.replicate N zeroH).length,c2⟩,[],List.replicate N zeroH,List.replicate N zJob,RW,?_⟩
  subst hK
  refine⟨λi hi=>hi,by omega,?_,?_,λk hk i hi=>?_,Su,Ju,⟨T.dis,λk hk=>by rw [show (newS ⟨j,N,Q,P,U⟩).held=List.replicate N none from rfl,zOG];exact T.sto k hk,T.lt⟩,λu' f'=>?_,hgi,hco,hpn,new_ok g _⟩
  ·show w.heap.size<=bj/\bj<u.heap.size
   omega
  ·show bs≠bj
   omega
  ·have h1:=hlo k hk i hi
   have h2:=T.lt k hk i hi
   exact⟨by omega,by omega,by show i≠bj;omega⟩
  ·refine⟨⟨RO.rev',Zoff u' f',Zto u' f',Zrof u' f',Zrev u' f'⟩,⟨PM.ris,PM.all,PM.len,λi h h'=>⟨(PM.at' i h h').1,Zpl i h h' u' f'⟩⟩,Zps u' f',OW.sl.fr f' λb hb hd=>?_,SlF.nil _,Zhd u' f',rfl,λi h=>absurd h (Nat.not_lt_zero _),by simp [newS],by simp [newS],λk h h'=>?_⟩
   ·have h1:=hblk b hb
    rcases hd with hd|hd
    ·rcases hd with hd|hd|⟨k,hk,hd⟩
     ·omega
     ·have hd:b=bj:=hd
      omega
     ·exact h1.2.2 k hk hd
    ·exact hd ⟨by omega,h1.2.1⟩
   ·have e:(newS ⟨j,N,Q,P,U⟩).held.getD k none=none:=by
     show (List.replicate N none).getD k none=none
     rw [List.getD_eq_getElem?_getD,List.getElem?_replicate];split <;> rfl
    rw [e]
    show ((List.replicate N zeroH)[k]).used=false
    simp [zeroH]
end
end Go.W
namespace Go.W
open Go
variable {B i j k m n n3:Nat} {D R:Nat -> Prop} {P:Program} {a a3:Option Addr} {g:GrD} {ps:List Int} {q:QyD} {u u' w w' w1 w2:World}
def rqH (h:Hs):List RqD:=h.filterMap λo=>o.map (·.1)
def rqs (s:SvD):List RqD:=rqH s.held++s.wait
theorem zCy{h:Hs}{x:RqD}:x∈rqH h↔∃i,some (x,i)∈h:=by
 unfold rqH
 rw [List.mem_filterMap]
 constructor
 ·rintro⟨o,ho,e⟩
  cases o with
  |none=>cases e
  |some p=>obtain⟨y,i⟩:=p;cases e;exact⟨i,ho⟩
 ·rintro⟨i,h1⟩;exact⟨_,h1,rfl⟩
theorem zOg(s:SvD):(rqs s).map (·.id)=idsH s.held++idsW s.wait:=by
 unfold rqs idsW
 rw [List.map_append]
 congr 1
 unfold rqH idsH
 rw [List.map_filterMap]
 congr 1
 funext o
 cases o <;> rfl
section
variable {g:GrD} {c:CfD}
theorem rqs_ok{s:SvD}(h:SvOk g c s){x:RqD}(hx:x∈rqs s):RqOk g x:=by
 have q_:=List.mem_append.1 hx
 rcases q_ with h1|h1
 ·obtain⟨i,hi⟩:=zCy.1 h1;exact(h.held x i hi).1
 ·exact h.wait x h1
theorem zFr{h:Hs}{o:Option (RqD×Nat)}{x:RqD}(hx:x∈rqH (h.set k o)):x∈rqH h\/∃i,o=some (x,i):=by
 have q_:=zCy.1 hx
 obtain⟨i,hi⟩:=q_
 have q_:=zAZ hi
 rcases q_ with h1|h1
 ·exact .inl (zCy.2 ⟨i,h1⟩)
 ·exact .inr ⟨i,h1⟩
theorem zEN:∀(l:List RqD) (h:Hs) {x:RqD},x∈rqs ⟨(admitS l h).1,(admitS l h).2⟩->x∈rqs ⟨l,h⟩
 |[],h,x,hx=>hx
 |y::r,h,x,hx=>by
  unfold admitS at hx
  cases e:freeS h with
  |none=>rw [e] at hx;exact hx
  |some k =>
   rw [e] at hx
   have:=zEN r _ hx
   have q_:=List.mem_append.1 this
   rcases q_ with h1|h1
   ·have q_:=zFr h1
    rcases q_ with h2|⟨i,h2⟩
    ·exact List.mem_append_left _ h2
    ·cases h2;exact List.mem_append_right _ List.mem_cons_self
   ·exact List.mem_append_right _ (List.mem_cons_of_mem _ h1)
theorem zJQ{h:Hs}{x:RqD}(hx:x∈rqH (stepS g c h k).1):x∈rqH h:=by
 have q_:=zB5 (g:=g) (c:=c) (h:=h) (k:=k)
 rcases q_ with ⟨_,h1⟩|⟨y,i,e,h1⟩
 ·rw [h1] at hx;exact hx
 ·have hm:=(zAp e).2
  have drop:∀t,stepS g c h k=(h.set k none,t)->x∈rqH h:=λt ht=>by
   rw [ht] at hx
   have q_:=zFr hx
   rcases q_ with h2|⟨_,h2⟩
   ·exact h2
   ·cases h2
  rcases h1 with ⟨_,h2⟩|⟨_,_,h2⟩|⟨_,_,_,h2⟩|⟨_,_,_,h2⟩
  ·exact drop _ h2
  ·exact drop _ h2
  ·exact drop _ h2
  ·rw [h2] at hx
   have q_:=zFr hx
   rcases q_ with h3|⟨_,h3⟩
   ·exact h3
   ·cases h3;exact zCy.2 ⟨i,hm⟩
theorem zIg:∀(ks:List Nat) (h:Hs) {x:RqD},x∈rqH (stepsS g c ks h).1->x∈rqH h
 |[],_,_,hx=>hx
 |k::r,h,_,hx=>zJQ (zIg r _ hx)
theorem zNz{s:SvD}{x:RqD}(hx:x∈rqs (tickS g c s).1):x∈rqs s:=by
 refine zEN s.wait s.held ?_
 have q_:=List.mem_append.1 hx
 rcases q_ with h1|h1
 ·exact List.mem_append_left _ (zIg _ _ h1)
 ·exact List.mem_append_right _ h1
def fitsW (g:GrD) (c:CfD) (q:QyD) (j:Nat):Prop:=∀w,w<c.workers->((sts g q 0 j).filter λx=>decide (homW c.workers x.key.v=w)).length<=c.pool
def AlOk (g:GrD) (c:CfD) (q:QyD) (i:Nat):Prop:=∀j,1<=j->j<=i->(doneL g q (sts g q 0 j) (mls g q 0 j)).2=false/\fitsW g c q j
def AlI (g:GrD) (c:CfD) (h:Hs):Prop:=∀x i,some (x,i)∈h->AlOk g c x.q i
theorem zH5{h:Hs}{x:RqD}(hk:k<h.length)(ho:overS g c (h.set k (some (x,j)))=false):fitsW g c x.q j:=λw hw=>by
 rw [<-Bool.not_eq_true,zCN] at ho
 have h1:liveW g c.workers (h.set k (some (x,j))) w<=c.pool:=Nat.le_of_not_lt λh1=>ho ⟨w,hw,h1⟩
 refine Nat.le_trans ?_ h1
 rw [zNv 0 k j c.workers w]
 have h2:=zCJ (g:=g) (W:=c.workers) (w:=w) hk (some (x,j))
 have h3:=zC8 (g:=g) (W:=c.workers) (h:=h) hk w
 have h4:=zCJ (g:=g) (W:=c.workers) (w:=w) hk none
 have e1:cntW g c.workers w (some (x,j)) k=((sts g x.q k j).filter λx=>decide (homW c.workers x.key.v=w)).length:=rfl
 rw [zIR] at h4
 rw [<-e1];omega
theorem AlI.step{h:Hs}(I:AlI g c h)(k:Nat):AlI g c (stepS g c h k).1:=by
 have q_:=zB5 (g:=g) (c:=c) (h:=h) (k:=k)
 rcases q_ with ⟨_,h1⟩|⟨x,i,e,h1⟩
 ·rw [h1];exact I
 ·have q_:=zAp e
  obtain⟨hk,hm⟩:=q_
  have drop:∀t,stepS g c h k=(h.set k none,t)->AlI g c (stepS g c h k).1:=λt ht=>by
   rw [ht]
   intro y j hy
   have q_:=zAZ hy
   rcases q_ with h2|h2
   ·exact I y j h2
   ·cases h2
  rcases h1 with ⟨_,h2⟩|⟨_,_,h2⟩|⟨_,_,_,h2⟩|⟨ho,hd,_,h2⟩
  ·exact drop _ h2
  ·exact drop _ h2
  ·exact drop _ h2
  ·rw [h2]
   intro y j hy
   have q_:=zAZ hy
   rcases q_ with h3|h3
   ·exact I y j h3
   ·cases h3
    intro j h4 h5
    have q_:=Nat.lt_or_ge i j
    rcases q_ with h6|h6
    ·have q_:j=i+1:=by omega
     obtain rfl:=q_
     rw [zHH 0 k]
     exact⟨hd,zH5 hk ho⟩
    ·exact I x i hm j h4 h6
theorem AlI.steps:∀(ks:List Nat) (h:Hs),AlI g c h->AlI g c (stepsS g c ks h).1
 |[],_,I=>I
 |k::r,_,I=>AlI.steps r _ (I.step k)
theorem AlI.adm:∀(l:List RqD) (h:Hs),AlI g c h->AlI g c (admitS l h).2
 |[],_,I=>I
 |x::r,h,I=>by
  unfold admitS
  cases e:freeS h with
  |none=>exact I
  |some k =>
   refine AlI.adm r _ λy j hy=>?_
   have q_:=zAZ hy
   rcases q_ with h2|h2
   ·exact I y j h2
   ·cases h2;intro j h3 h4;omega
theorem AlI.tick{s:SvD}(I:AlI g c s.held):AlI g c (tickS g c s).1.held:=AlI.steps _ _ (AlI.adm _ _ I)
theorem AlI.drop{h:Hs}(I:AlI g c h)(k:Nat):AlI g c (h.set k none):=λy j hy=>by
 have q_:=zAZ hy
 rcases q_ with h2|h2
 ·exact I y j h2
 ·cases h2
theorem AlI.back{s:SvD}(I:AlI g c s.held)(id:Int):AlI g c (backS s id).1.held:=by
 unfold backS
 split
 ·exact I
 ·split
  ·exact I.drop _
  ·exact I
theorem zME(s:SvD)(x:RqD)(ok:Prop):(askS g c s x ok).1.held=s.held:=by
 unfold askS
 split
 ·split
  ·rfl
  ·split
   ·rfl
   ·split <;> rfl
 ·rfl
theorem AlI.come{s:SvD}(I:AlI g c s.held)(f:List UInt8):AlI g c (comeS g c s f).1.held:=by
 unfold comeS
 split
 ·split <;> exact I
 ·split
  ·exact I.back _
  ·split
   ·rw [zME];exact I
   ·exact I
theorem AlI.new:AlI g c (newS c).held:=λx i h=>by
 have:=(List.mem_replicate.1 h).2;cases this
def AlRep (g:GrD) (c:CfD) (x:RqD) (a:AnP):Prop:=∃i,i<c.budget/\AlOk g c x.q i/\fitsW g c x.q (i+1)/\(doneL g x.q (sts g x.q 0 (i+1)) (mls g x.q 0 (i+1))).2=true/\a=(doneL g x.q (sts g x.q 0 (i+1)) (mls g x.q 0 (i+1))).1
theorem zNt{l:List RqD}{h:Hs}(s:SvOk g c ⟨l,h⟩)(I:AlI g c h){p:Int×Int×AnP}(hp:stepR g c h k=some p):∃x,x∈rqH h/\x.id=p.1/\(p.2.1=0->AlRep g c x p.2.2):=by
 unfold stepR at hp
 cases e:h.getD k none with
 |none=>rw [e] at hp;cases hp
 |some q =>
  obtain⟨x,i⟩:=q
  have q_:=zAp e
  obtain⟨hk,hm⟩:=q_
  rw [e] at hp
  dsimp only at hp
  refine⟨x,zCy.2 ⟨i,hm⟩,?_⟩
  split at hp
  ·cases hp;exact⟨rfl,λh=>by cases h⟩
  ·rename_i ho
   split at hp
   ·rename_i hd
    cases hp
    refine⟨rfl,λ_=>⟨i,(s.held x i hm).2,I x i hm,zH5 hk (by simpa using ho),?_⟩⟩
    rw [zHH 0 k]
    exact⟨hd,rfl⟩
   ·split at hp
    ·cases hp;exact⟨rfl,λh=>by cases h⟩
    ·cases hp
theorem zIe{l:List RqD}:∀(ks:List Nat) (h:Hs),SvOk g c ⟨l,h⟩->AlI g c h->∀p∈stepsR g c ks h,∃x,x∈rqH h/\x.id=p.1/\(p.2.1=0->AlRep g c x p.2.2)
 |[],_,_,_,p,hp=>nomatch hp
 |k::r,h,s,I,p,hp=>by
  have q_:=List.mem_append.1 (show p∈(stepR g c h k).toList++stepsR g c r (stepS g c h k).1 from hp)
  rcases q_ with h1|h1
  ·cases e:stepR g c h k with
   |none=>rw [e] at h1;cases h1
   |some q =>
    rw [e] at h1
    have:p=q:=by simpa using h1
    subst this
    exact zNt s I e
  ·have q_:=zIe r _ (zDD k s).1 (I.step k) p h1
   obtain⟨x,h2,h3⟩:=q_
   exact⟨x,zJQ h2,h3⟩
theorem zOx(hc:CfOk c){s:SvD}(h:SvOk g c s)(I:AlI g c s.held){p:Int×Int×AnP}(hp:p∈tickR g c s):∃x,x∈rqs s/\x.id=p.1/\(p.2.1=0->AlRep g c x p.2.2):=by
 have q_:=zIe _ _ (zCD hc s.wait s.held h).1 (I.adm s.wait s.held) p hp
 obtain⟨x,h1,h2⟩:=q_
 exact⟨x,zEN _ _ (List.mem_append_left _ h1),h2⟩
end
theorem rdB(h:n<128)(t:List UInt8):rdN (UInt8.ofNat n::t)=some (n,t):=by
 have:=zOa (n:=n) (by omega) t
 rwa [numB_lt h] at this
def im0:List UInt8:=[119,103,2,1,1,0,0,0]
def g0:GrD:=⟨2,[⟨0,1⟩],[[],[]]⟩
def c0:CfD:=⟨1,1,1,9,9⟩
theorem g0_is:GrIs g0:=by
 refine⟨⟨by decide,by decide,by decide⟩,by decide,rfl,?_,by simp [g0],?_⟩
 ·intro l hl
  have:l=[]:=by simpa [g0] using hl
  subst this;simp
 ·intro l hl
  have:l=[]:=by simpa [g0] using hl
  subst this;exact .nil
theorem im0_rd:rdI im0=some (2,[([1],[]),([],[])],[]):=by
 have e1:rdN [2,1,1,0,0,0]=some (2,[1,1,0,0,0]):=rdB (n:=2) (by decide) _
 have e2:rdN [1,1,0,0,0]=some (1,[1,0,0,0]):=rdB (n:=1) (by decide) _
 have e3:rdN [1,0,0,0]=some (1,[0,0,0]):=rdB (n:=1) (by decide) _
 have e4:rdN [0,0,0]=some (0,[0,0]):=rdB (n:=0) (by decide) _
 have e5:rdN [0,0]=some (0,[0]):=rdB (n:=0) (by decide) _
 have e6:rdN [0]=some (0,[]):=rdB (n:=0) (by decide) _
 show (match rdN [2,1,1,0,0,0] with
  |some (n,t)=>if n<=200 then (match rdMany rdPl n t with|some (ps,u)=>some (n,ps,u)|none=>none) else none
  |none=>none)=_
 rw [e1]
 simp [rdMany,rdPl,rdRow,rdWs,e2,e3,e4,e5,e6]
theorem im0_g:imgOf im0=some g0:=by
 unfold imgOf
 rw [im0_rd]
 exact if_pos ⟨rfl,g0_is⟩
def q7:QyD:=⟨1,0,1,[],0,0⟩
def x7:RqD:=⟨7,1,q7⟩
theorem q7_is(n:Int)(h:2<=n):QyIs q7 n:=⟨.inl rfl,⟨by decide,by show (0:Int)<n;omega⟩,λ_=>⟨by decide,by show (1:Int)<n;omega⟩,λh=>by simp [q7] at h⟩
theorem rq_is{id:Int}(h:0<=id/\id<=2147483647):RqIs ⟨id,1,q7⟩:=⟨.inr ⟨rfl,q7_is 200 (by decide)⟩,h,by
 show (if (1:Int)=4 then q7=zQy else if (1:Int)=3 then q7.to=0 else q7.words=[]/\q7.rad=0/\q7.most=0)
 rw [if_neg (by decide),if_neg (by decide)];exact⟨rfl,rfl,rfl⟩⟩
theorem rd7(h:n<128):rdR [UInt8.ofNat n,1,0,1]=some (⟨n,1,q7⟩,[]):=by
 have e1:rdN [UInt8.ofNat n,1,0,1]=some (n,[1,0,1]):=rdB h _
 have e2:rdN [1,0,1]=some (1,[0,1]):=rdB (n:=1) (by decide) _
 have e3:rdN [0,1]=some (0,[1]):=rdB (n:=0) (by decide) _
 have e4:rdN [1]=some (1,[]):=rdB (n:=1) (by decide) _
 unfold rdR
 rw [e1];dsimp only
 rw [e2];dsimp only
 rw [if_pos (by decide),if_neg (by decide)]
 unfold rdQ
 rw [e3];dsimp only
 rw [if_pos (by decide),e4];rfl
theorem req7:reqOf [7,1,0,1]=some x7:=by
 have e:rdR [7,1,0,1]=some (x7,[]):=rd7 (n:=7) (by decide)
 unfold reqOf;rw [e];exact if_pos (rq_is (by decide))
theorem come7:comeS g0 c0 (newS c0) [7,1,0,1]=(⟨[x7],[none]⟩,none):=by
 have e:askS g0 c0 (newS c0) x7 (QyIs x7.q g0.n)=(⟨[x7],[none]⟩,0):=by
  unfold askS;rw [if_pos (show QyIs x7.q (g0.n:Int) from q7_is 2 (by decide))];rfl
 unfold comeS;rw [req7];dsimp only
 rw [if_neg (by decide),e];rfl
section
variable {g:GrD} {c:CfD}
theorem zIj{s:SvD}{l:List RqD}{h h':Hs}{o:Option (List UInt8)}(ha:admitS s.wait s.held=(l,h))(hu:usedS h=[0])(hs:(stepS g c h 0).1=h')(ho:(stepS g c h 0).2=o):tickS g c s=(⟨l,h'⟩,o.toList):=by
 unfold tickS
 rw [ha];dsimp only
 rw [hu]
 show ((⟨l,(stepS g c h 0).1⟩:SvD),(stepS g c h 0).2.toList++[])=_
 rw [hs,ho,List.append_nil]
end
def h0 (j:Nat):Hs:=[some (x7,j)]
theorem tick7a:tickS g0 c0 ⟨[x7],[none]⟩=(⟨[],h0 1⟩,[]):=by
 have e:(h0 0).getD 0 none=some (x7,0):=rfl
 have q_:=zDE (g:=g0) (c:=c0) e (by decide) (by decide) (by decide)
 obtain⟨q1,q2⟩:=q_
 have q3:=(zCR (g:=g0) (c:=c0) (h0 0) 0).1
 rw [q1] at q3
 exact zIj (h:=h0 0) (o:=none) rfl rfl q2 q3
theorem done7:doneL g0 q7 (sts g0 q7 0 2) (mls g0 q7 0 2)=(⟨true,1,[]⟩,true):=by decide
theorem enc7:bytR (7,0,⟨true,1,[]⟩)=[7,0,1,1,0]:=by
 have h:RepOk (repOf 7 0 ⟨true,1,[]⟩) []:=⟨by decide,by decide,by decide,by decide,by simp [repOf],by simp [repOf],by simp,by simp⟩
 unfold bytR repB
 rw [if_pos h]
 have e1:numB 7=[7]:=numB_lt (by decide)
 have e2:numB 0=[0]:=numB_lt (by decide)
 have e3:numB 1=[1]:=numB_lt (by decide)
 simp [encR,repOf,numsB,hitsB,e1,e2,e3]
theorem tick7b:tickS g0 c0 ⟨[],h0 1⟩=(⟨[],[none]⟩,[[7,0,1,1,0]]):=by
 have e:(h0 1).getD 0 none=some (x7,1):=rfl
 have hd:doneL g0 x7.q (sts g0 x7.q (0:Nat) (1+1)) (mls g0 x7.q (0:Nat) (1+1))=(⟨true,1,[]⟩,true):=done7
 have q_:=zCe (g:=g0) (c:=c0) e (by decide) (by rw [hd])
 obtain⟨q1,q2⟩:=q_
 have q3:=(zCR (g:=g0) (c:=c0) (h0 1) 0).1
 rw [q1,hd] at q3
 have q4:(stepS g0 c0 (h0 1) 0).2=some [7,0,1,1,0]:=by rw [q3,<-enc7];rfl
 exact zIj (h:=h0 1) rfl rfl q2 q4
end Go.W
namespace Go.W
open Go Go.Proofs
open Enc (enc)
set_option maxRecDepth 10000
variable {B i j k m n n3:Nat} {D R:Nat -> Prop} {P:Program} {a a3:Option Addr} {g:GrD} {ps:List Int} {q:QyD} {u u' w w' w1 w2:World}
theorem SrvP.stw{bs:Nat}{c:CfD}{s:SvD}(S:SrvP R B w bs g c s)(f:Fr R w w')(h:u.heap.size<=B):Stw u w w':=f.stw λi hi=>Nat.le_trans h ((SrvX.reg S).1 i hi).1
structure REv where
 tick:Bool
 frame:List UInt8
 picks:SV
instance:Enc REv:=⟨3,λx=>[.bool x.tick,txt x.frame,.slice x.picks.a x.picks.n x.picks.c],λ_=>rfl,by intro x u hu;simp at hu;rcases hu with rfl|rfl|rfl <;> rfl,by decide⟩
def EvsM (w:World) (l:List REv):Prop:=∀y∈l,∃ps:List Int,SlF w y.picks.v ps
end Go.W
namespace Go.W
open Go Go.Proofs
open Enc (enc)
set_option maxRecDepth 100000
set_option warn.classDefReducibility false
variable {B i j k m n n3:Nat} {D R:Nat -> Prop} {P:Program} {a a3:Option Addr} {g:GrD} {ps:List Int} {q:QyD} {u u' w w' w1 w2:World}
noncomputable instance:Rd PP E.qg ByteArray:=rdStr (by kernel_rfl) (by kernel_rfl)
noncomputable instance:Rd PP E.q2 Bool:=rdBool (by kernel_rfl) (by kernel_rfl)
noncomputable instance:Rd PP E.q7 SV:=rdSl (α:=Int) (e:=E.qa) (by kernel_rfl) (by kernel_rfl)
noncomputable instance:Rd PP E.qy RCfg where
 G _ _:=True
 cells:=by kernel_rfl
 rd:=by
  intro H eH w sp fuel cs x hx
  have q_:=zH8 (P:=PP) (t:=E.qy) (fl:=[(E.qa,0,1),(E.qa,1,1),(E.qa,2,1),(E.qa,3,1),(E.qa,4,1)]) (n:=5) (by kernel_rfl) hx
  obtain⟨hl,hf⟩:=q_
  have q_:=zBi (P:=PP) (α:=Int) hf 0 rfl
  obtain⟨a0,h0,_⟩:=q_
  have q_:=zBi (P:=PP) (α:=Int) hf 1 rfl
  obtain⟨a1,h1,_⟩:=q_
  have q_:=zBi (P:=PP) (α:=Int) hf 2 rfl
  obtain⟨a2,h2,_⟩:=q_
  have q_:=zBi (P:=PP) (α:=Int) hf 3 rfl
  obtain⟨a3,h3,_⟩:=q_
  have q_:=zBi (P:=PP) (α:=Int) hf 4 rfl
  obtain⟨a4,h4,_⟩:=q_
  refine⟨⟨a0,a1,a2,a3,a4⟩,?_,trivial⟩
  have:=tile h0 (tile h1 (tile h2 (tile h3 (tile h4 (tile0 hl) rfl) rfl) rfl) rfl) rfl
  rw [List.drop_zero] at this
  rw [this];simp [enc]
noncomputable instance:Rd PP E.yg REv where
 G w y:=∃l:List Int,SlF w y.picks.v l
 cells:=by kernel_rfl
 rd:=by
  intro H eH w sp fuel cs x hx
  have q_:=zH8 (P:=PP) (t:=E.yg) (fl:=[(E.q2,0,1),(E.qg,1,1),(E.q7,2,1)]) (n:=3) (by kernel_rfl) hx
  obtain⟨hl,hf⟩:=q_
  have q_:=zBi (P:=PP) (α:=Bool) hf 0 rfl
  obtain⟨a0,h0,_⟩:=q_
  have q_:=zBi (P:=PP) (α:=ByteArray) hf 1 rfl
  obtain⟨a1,h1,_⟩:=q_
  have q_:=zBi (P:=PP) (α:=SV) hf 2 rfl
  obtain⟨a2,h2,g2⟩:=q_
  obtain⟨l,hl2,_⟩:=g2
  refine⟨⟨a0,a1.data.toList,a2⟩,?_,l,hl2⟩
  have:=tile h0 (tile h1 (tile h2 (tile0 hl) rfl) rfl) rfl
  rw [List.drop_zero] at this
  rw [this];simp [enc]
theorem w_tail{H:Type}{t:TypeId}{ts:List TypeId}{d:DataW H}{r:List (DataW H)}{p:Nat->Bool}(h:(DataW.weightsEach P (t::ts) (d::r)).all p=true):(d.weights P t).all p=true/\(DataW.weightsEach P ts r).all p=true:=by
 simpa only [DataW.weightsEach,List.all_append,Bool.and_eq_true] using h
theorem zNJ{W:World}{b:Nat}{v:Value}{H:Type}{eH:TypeId×Value->H}{d:DataW H}{ps:List MemPlace}(h:Value.okWide PP W .any b E.qy v)(ht:DataW.Trod eH PP W 0 (λ_=>true) true E.qy v d ps):
  ∃x:RCfg,v=agg x:=by
 obtain⟨fuel,hx⟩:=ht
 have q_:=Rd.rd (P:=PP) (t:=E.qy) (α:=RCfg) hx
 obtain⟨r,hc,_⟩:=q_
 exact⟨r,zNI h (by kernel_rfl) hc⟩
theorem zNL{W:World}{b:Nat}{v:Value}{H:Type}{eH:TypeId×Value->H}{d:DataW H}{ps:List MemPlace}(h:Value.okWide PP W .any b E.qg v)(ht:DataW.Trod eH PP W 0 (λ_=>true) true E.qg v d ps)
  (hw:(d.weights PP E.qg).all (·<=reachBytes)=true):∃f:List UInt8,v=txt f/\f.length<=4611686018427387904:=by
 obtain⟨fuel,hx⟩:=ht
 have q_:=DataW.trod_string (P:=PP) (t:=E.qg) (by kernel_rfl) hx
 obtain⟨s,hc,hxd,_⟩:=q_
 refine⟨s.data.toList,zKy h (by kernel_rfl) hc,?_⟩
 have hd:d=.lit (.string s.data.toList):=congrArg Prod.fst hxd
 rw [hd] at hw
 simp only [DataW.weights,List.all_cons,List.all_nil,Bool.and_true] at hw
 have h8:=of_decide_eq_true hw
 have hrb:reachBytes=140737488351232:=rfl
 rw [hrb] at h8
 omega
theorem zNK{W:World}{b:Nat}{v:Value}{H:Type}{eH:TypeId×Value->H}{d:DataW H}{ps:List MemPlace}(h:Value.okWide PP W .any b E.yl v)(ht:DataW.Trod eH PP W 0 (λ_=>true) true E.yl v d ps):
  ∃a n c,∃l:List REv,v=.slice a n c/\SlF W (.slice a n c) l/\EvsM W l:=by
 obtain⟨fuel,hx⟩:=ht
 have q_:=zJE (P:=PP) (α:=REv) (e:=E.yg) (by kernel_rfl) hx
 obtain⟨a,n,c,l,hc,h1,h2,_⟩:=q_
 exact⟨a,n,c,l,zKy h (by kernel_rfl) hc,h1,h2⟩
end Go.W
namespace Go.W
open Go Go.Proofs
set_option maxRecDepth 10000
variable {B i j k m n n3:Nat} {D R:Nat -> Prop} {P:Program} {a a3:Option Addr} {g:GrD} {ps:List Int} {q:QyD} {u u' w w' w1 w2:World}
section
variable {g:GrD} {c:CfD}
end
section
variable {g:GrD} {c:CfD}
theorem zMF(s:SvD)(id:Int){x:RqD}(hx:x∈rqs (backS s id).1):x∈rqs s:=by
 unfold backS at hx
 cases e:waitAt s.wait id with
 |some k =>
  rw [e] at hx
  have q_:=List.mem_append.1 hx
  rcases q_ with h|h
  ·exact List.mem_append_left _ h
  ·exact List.mem_append_right _ (List.mem_of_mem_eraseIdx h)
 |none =>
  rw [e] at hx
  dsimp only at hx
  cases e2:heldAt s.held id with
  |some k =>
   rw [e2] at hx
   have q_:=List.mem_append.1 hx
   rcases q_ with h|h
   ·have q_:=zFr h
    rcases q_ with h|⟨i,h⟩
    ·exact List.mem_append_left _ h
    ·cases h
   ·exact List.mem_append_right _ h
  |none=>rw [e2] at hx;exact hx
end
end Go.W
namespace Go.W
open Go
set_option maxRecDepth 10000
variable {B i j k m n n3:Nat} {D R:Nat -> Prop} {P:Program} {a a3:Option Addr} {g:GrD} {ps:List Int} {q:QyD} {u u' w w' w1 w2:World}
def Edg (g:GrD) (u v:Nat):Prop:=(⟨u,v⟩:EdN)∈g.es
def Wlk (g:GrD):Nat->Nat->Nat->Prop
 |0,u,v=>u=v
 |k+1,u,v=>∃m,Edg g u m/\Wlk g k m v
def Dst (g:GrD) (u v k:Nat):Prop:=Wlk g k u v/\∀j,j<k->¬Wlk g j u v
section
variable {g:GrD} {q:QyD}
theorem zFo{u v:Nat}:v∈nbL g 0 u↔Edg g u v:=by
 unfold nbL Edg
 rw [if_neg (by decide)]
 simp only [List.mem_map,List.mem_filter,beq_iff_eq]
 constructor
 ·rintro⟨e,⟨h1,h2⟩,rfl⟩;subst h2;exact h1
 ·intro h;exact⟨_,⟨h,rfl⟩,rfl⟩
theorem zFp{u v:Nat}:u∈nbL g 1 v↔Edg g u v:=by
 unfold nbL Edg
 rw [if_pos rfl]
 simp only [List.mem_map,List.mem_filter,beq_iff_eq]
 constructor
 ·rintro⟨e,⟨h1,h2⟩,rfl⟩;subst h2;exact h1
 ·intro h;exact⟨_,⟨h,rfl⟩,rfl⟩
theorem Wlk.app:∀{a b u m v:Nat},Wlk g a u m->Wlk g b m v->Wlk g (a+b) u v
 |0,b,u,m,v,h,k=>by rw [Nat.zero_add];cases (h:u=m);exact k
 |a+1,b,u,m,v,h,k=>by
  obtain⟨z,h1,h2⟩:=h
  rw [Nat.add_right_comm]
  exact⟨z,h1,Wlk.app h2 k⟩
theorem Wlk.cut:∀{a b u v:Nat},Wlk g (a+b) u v->∃m,Wlk g a u m/\Wlk g b m v
 |0,b,u,v,h=>⟨u,rfl,by rwa [Nat.zero_add] at h⟩
 |a+1,b,u,v,h=>by
  rw [Nat.add_right_comm] at h
  obtain⟨z,h1,h2⟩:=h
  have q_:=Wlk.cut h2
  obtain⟨m,h3,h4⟩:=q_
  exact⟨m,⟨z,h1,h3⟩,h4⟩
theorem Wlk.one{u v:Nat}:Wlk g 1 u v↔Edg g u v:=by
 constructor
 ·rintro⟨m,h1,h2⟩;cases (h2:m=v);exact h1
 ·intro h;exact⟨v,h,rfl⟩
theorem Dst.ex{u v:Nat}:∀{k:Nat},Wlk g k u v->∃j,j<=k/\Dst g u v j:=λ{k} h=>by
 induction k using Nat.strongRecOn with
 |ind k ih =>
  by_cases h1:∃j,j<k/\Wlk g j u v
  ·obtain⟨j,h2,h3⟩:=h1
   have q_:=ih j h2 h3
   obtain⟨i,h4,h5⟩:=q_
   exact⟨i,by omega,h5⟩
  ·exact⟨k,Nat.le_refl _,h,λj hj hw=>h1 ⟨j,hj,hw⟩⟩
theorem Dst.uniq{u v a b:Nat}(h:Dst g u v a)(k:Dst g u v b):a=b:=by
 have q_:=Nat.lt_trichotomy a b
 rcases q_ with h1|h1|h1
 ·exact(k.2 a h1 h.1).elim
 ·exact h1
 ·exact(h.2 b h1 k.1).elim
theorem Dst.mid{u v a b:Nat}(h:Dst g u v (a+b)):∃m,Dst g u m a/\Dst g m v b:=by
 have q_:=h.1.cut
 obtain⟨m,h1,h2⟩:=q_
 exact⟨m,⟨h1,λj hj hw=>h.2 (j+b) (by omega) (hw.app h2)⟩,⟨h2,λj hj hw=>h.2 (a+j) (by omega) (h1.app hw)⟩⟩
theorem edg_lt(hg:GrOk g){u v:Nat}(h:Edg g u v):u<g.n/\v<g.n:=hg.ed _ h
theorem zGI{d:Nat}:goesOn q d=true↔(q.kind=3->((d+1:Nat):Int)<=q.rad):=by
 unfold goesOn
 simp only [Bool.not_eq_true',Bool.and_eq_false_iff,decide_eq_false_iff_not]
 constructor
 ·rintro(h|h) h3
  ·exact absurd h3 h
  ·omega
 ·intro h
  by_cases h3:q.kind=3
  ·right;have:=h h3;omega
  ·exact .inl h3
theorem zFm(hg:GrOk g)(hq:QyOk q g.n):∀(d v:Nat),v∈lv g q 0 d↔Dst g q.frm.toNat v d/\(q.kind=3->(d:Int)<=q.rad):=by
 intro d
 induction d using Nat.strongRecOn with
 |ind d ih =>
  intro v
  cases d with
  |zero =>
   rw [zFn]
   unfold src
   rw [if_pos rfl,List.mem_singleton]
   constructor
   ·rintro rfl
    exact⟨⟨rfl,λj hj=>absurd hj (by omega)⟩,λh3=>(hq.near h3).2.2.1⟩
   ·intro h;exact(h.1.1:q.frm.toNat=v).symm
  |succ d =>
   rw [zAW,zGI]
   constructor
   ·rintro⟨h1,h2,h3,u,hu,hn⟩
    have q_:=(ih d (by omega) u).1 hu
    obtain⟨hu1,_⟩:=q_
    rw [zFo] at hn
    refine⟨⟨hu1.1.app (Wlk.one.2 hn),λj hj hw=>h3 ?_⟩,h1⟩
    have q_:=Dst.ex hw
    obtain⟨i,hi,hd⟩:=q_
    exact mem_sn.2 ⟨i,by omega,(ih i (by omega) v).2 ⟨hd,λh=>by have:=h1 h;omega⟩⟩
   ·rintro⟨h1,h2⟩
    have q_:=h1.1.cut (a:=d) (b:=1)
    obtain⟨u,h3,h4⟩:=q_
    rw [Wlk.one] at h4
    refine⟨h2,(edg_lt hg h4).2,λhs=>?_,u,(ih d (by omega) u).2 ⟨⟨h3,λj hj hw=>h1.2 (j+1) (by omega) (hw.app (Wlk.one.2 h4))⟩,λh=>by have:=h2 h;omega⟩,zFo.2 h4⟩
    have q_:=mem_sn.1 hs
    obtain⟨j,hj,hv⟩:=q_
    exact h1.2 j hj ((ih j hj v).1 hv).1.1
theorem zHi(hg:GrOk g)(hk:q.kind=1):∀(d u:Nat),u∈lv g q 1 d↔Dst g u q.to.toNat d:=by
 intro d
 induction d using Nat.strongRecOn with
 |ind d ih =>
  intro u
  cases d with
  |zero =>
   rw [zFn]
   unfold src
   rw [if_neg (by decide),if_pos hk,List.mem_singleton]
   constructor
   ·rintro rfl;exact⟨rfl,λj hj=>absurd hj (by omega)⟩
   ·intro h;exact(h.1:u=q.to.toNat)
  |succ d =>
   rw [zAW,zGI]
   constructor
   ·rintro⟨_,h2,h3,m,hm,hn⟩
    have hm1:=(ih d (by omega) m).1 hm
    rw [zFp] at hn
    have hw1:Wlk g (d+1) u q.to.toNat:=⟨m,hn,hm1.1⟩
    refine⟨hw1,λj hj hw=>h3 ?_⟩
    have q_:=Dst.ex hw
    obtain⟨i,hi,hd⟩:=q_
    exact mem_sn.2 ⟨i,by omega,(ih i (by omega) u).2 hd⟩
   ·intro h1
    have q_:=h1.1
    obtain⟨m,h3,h4⟩:=q_
    refine⟨λh=>absurd (hk.symm.trans h) (by decide),(edg_lt hg h3).1,λhs=>?_,m,(ih d (by omega) m).2 ⟨h4,λj hj hw=>h1.2 (j+1) (by omega) ⟨m,h3,hw⟩⟩,zFp.2 h3⟩
    have q_:=mem_sn.1 hs
    obtain⟨j,hj,hv⟩:=q_
    exact h1.2 j hj ((ih j hj u).1 hv).1
theorem st0(hg:GrOk g)(hq:QyOk q g.n){x:StD}:x∈sts g q 0 i/\x.key.dir=0↔∃v d:Nat,x=⟨⟨0,0,(v:Int)⟩,(d:Int)⟩/\d<i/\Dst g q.frm.toNat v d/\(q.kind=3->(d:Int)<=q.rad):=by
 rw [zAI]
 constructor
 ·rintro⟨⟨j,hj,hx⟩,h0⟩
  have q_:=zAq.1 hx
  obtain⟨h1,h2,_,v,h4,h5⟩:=q_
  rw [h0,zFm hg hq] at h5
  obtain⟨⟨s,d,v'⟩,e⟩:=x
  dsimp only at h0 h1 h2 h4
  subst h0 h1 h2 h4
  exact⟨v,j,rfl,hj,h5⟩
 ·rintro⟨v,d,rfl,hd,h1⟩
  exact⟨⟨d,hd,zAq.2 ⟨rfl,rfl,.inl rfl,v,rfl,(zFm hg hq d v).2 h1⟩⟩,rfl⟩
theorem st1(hg:GrOk g)(hk:q.kind=1){x:StD}:x∈sts g q 0 i/\x.key.dir=1↔∃v d:Nat,x=⟨⟨0,1,(v:Int)⟩,(d:Int)⟩/\d<i/\Dst g v q.to.toNat d:=by
 rw [zAI]
 constructor
 ·rintro⟨⟨j,hj,hx⟩,h0⟩
  have q_:=zAq.1 hx
  obtain⟨h1,h2,_,v,h4,h5⟩:=q_
  rw [h0,zHi hg hk] at h5
  obtain⟨⟨s,d,v'⟩,e⟩:=x
  dsimp only at h0 h1 h2 h4
  subst h0 h1 h2 h4
  exact⟨v,j,rfl,hj,h5⟩
 ·rintro⟨v,d,rfl,hd,h1⟩
  exact⟨⟨d,hd,zAq.2 ⟨rfl,rfl,.inr rfl,v,rfl,(zHi hg hk d v).2 h1⟩⟩,rfl⟩
theorem zEX(hg:GrOk g)(hq:QyOk q g.n)(hk:q.kind=1){m:Int}:m∈sums (sts g q 0 i)↔∃v a b:Nat,a<i/\b<i/\Dst g q.frm.toNat v a/\Dst g v q.to.toNat b/\m=((a+b:Nat):Int):=by
 rw [zCK]
 constructor
 ·rintro⟨x,hx,y,hy,h0,h1,h2,rfl⟩
  have q_:=(st0 hg hq).1 ⟨hx,h0⟩
  obtain⟨v,a,rfl,ha,hd,_⟩:=q_
  have q_:=(st1 hg hk).1 ⟨hy,h1⟩
  obtain⟨v',b,rfl,hb,hd'⟩:=q_
  have h2:(v':Int)=v:=h2
  have h3:v'=v:=by omega
  subst h3
  exact⟨v',a,b,ha,hb,hd,hd',by simp⟩
 ·rintro⟨v,a,b,ha,hb,h1,h2,rfl⟩
  exact⟨⟨⟨0,0,v⟩,a⟩,((st0 hg hq).2 ⟨v,a,rfl,ha,h1,λh=>absurd (hk.symm.trans h) (by decide)⟩).1,⟨⟨0,1,v⟩,b⟩,((st1 hg hk).2 ⟨v,b,rfl,hb,h2⟩).1,rfl,rfl,rfl,by simp⟩
theorem zCu{d:Int}(hd:d=0\/d=1):hasDir (mls g q 0 i) d=true↔lv g q d i≠[]:=by
 unfold hasDir
 rw [List.any_eq_true]
 constructor
 ·rintro⟨x,hx,h⟩
  have q_:=zAq.1 hx
  obtain⟨_,_,_,v,_,hv⟩:=q_
  have h:x.key.dir=d:=by simpa using h
  rw [h] at hv
  exact List.ne_nil_of_mem hv
 ·intro h
  have q_:=List.exists_mem_of_ne_nil _ h
  obtain⟨v,hv⟩:=q_
  exact⟨⟨⟨0,d,v⟩,i⟩,zAq.2 ⟨rfl,rfl,hd,v,rfl,hv⟩,by simp⟩
theorem lv_end{dir : Int}(h : lv g q dir i = []) : ∀ j, i <= j -> lv g q dir j = [] := λj hj => by
  induction j with
  | zero => obtain rfl : i = 0 := by omega
            exact h
  | succ j ih =>
    have q_ := Nat.lt_or_ge j i
    rcases q_ with h1 | h1
    · have q_ : i = j + 1 := by omega
      obtain rfl := q_
      exact h
    · apply Classical.byContradiction
      intro hn
      exact zKS hn (ih h1)
theorem zLS(hg:GrOk g)(hq:QyOk q g.n)(hk:q.kind=1)(hd:(doneL g q (sts g q 0 i) (mls g q 0 i)).2=true):
  (∃L:Nat,Dst g q.frm.toNat q.to.toNat L/\(doneL g q (sts g q 0 i) (mls g q 0 i)).1=⟨true,(L:Int),[]⟩) \/
  ((∀k,¬Wlk g k q.frm.toNat q.to.toNat)/\(doneL g q (sts g q 0 i) (mls g q 0 i)).1=zAn):=by
 unfold doneL at hd ⊢
 rw [if_pos hk] at hd ⊢
 unfold distL at hd ⊢
 cases e:minL (sums (sts g q 0 i)) with
 |some m =>
  left
  have q_:=zEY.1 e
  obtain⟨h1,h2⟩:=q_
  have q_:=(zEX hg hq hk).1 h1
  obtain⟨v,a,b,ha,hb,hva,hvb,rfl⟩:=q_
  have q_:=Dst.ex (hva.1.app hvb.1)
  obtain⟨L,hL,hD⟩:=q_
  have hmem:∃z a' b':Nat,a'<i/\b'<i/\Dst g q.frm.toNat z a'/\Dst g z q.to.toNat b'/\(L:Int)=((a'+b':Nat):Int):=by
   have q_:=Nat.lt_or_ge L i
   rcases q_ with h3|h3
   ·have q_:=Dst.mid (a:=L) (b:=0) hD
    obtain⟨z,h4,h5⟩:=q_
    exact⟨z,L,0,h3,by omega,h4,h5,by simp⟩
   ·obtain⟨z,h4,h5⟩:=Dst.mid (a:=i - 1) (b:=L - (i - 1)) (by rw [show i - 1+(L - (i - 1))=L by omega];exact hD)
    exact⟨z,i - 1,L - (i - 1),by omega,by omega,h4,h5,by omega⟩
  have h4:=h2 _ ((zEX hg hq hk).2 hmem)
  refine⟨L,hD,?_⟩
  have:((a+b:Nat):Int)=(L:Int):=by omega
  show (⟨true,((a+b:Nat):Int),[]⟩:AnP)=_
  rw [this]
 |none =>
  right
  rw [e] at hd
  have hs:=zH1.1 e
  have hno:∀L,Dst g q.frm.toNat q.to.toNat L->L<i->False:=λL hD hi=>by
   have:((L+0:Nat):Int)∈sums (sts g q 0 i):=by
    have q_:=Dst.mid (a:=L) (b:=0) hD
    obtain⟨z,h4,h5⟩:=q_
    exact(zEX hg hq hk).2 ⟨z,L,0,hi,by omega,h4,h5,rfl⟩
   rw [hs] at this;cases this
  have hno1:∀L,Dst g q.frm.toNat q.to.toNat L->L<i->False:=hno
  refine⟨λk hw=>?_,rfl⟩
  have q_:=Dst.ex hw
  obtain⟨L,_,hD⟩:=q_
  have q_:=Nat.lt_or_ge L i
  rcases q_ with h3|h3
  ·exact hno L hD h3
  ·have hd:(!hasDir (mls g q 0 i) 0 || !hasDir (mls g q 0 i) 1)=true:=hd
   rw [Bool.or_eq_true,Bool.not_eq_true',Bool.not_eq_true',<-Bool.not_eq_true,<-Bool.not_eq_true,zCu (.inl rfl),zCu (.inr rfl)] at hd
   rcases hd with hd|hd
   ·have hl:lv g q 0 L=[]:=lv_end (Classical.byContradiction hd) L h3
    have:=(zFm hg hq L q.to.toNat).2 ⟨hD,λh=>absurd (hk.symm.trans h) (by decide)⟩
    rw [hl] at this;cases this
   ·have hl:lv g q 1 L=[]:=lv_end (Classical.byContradiction hd) L h3
    have:=(zHi hg hk L q.frm.toNat).2 hD
    rw [hl] at this;cases this
theorem zLo(hg:GrOk g)(hq:QyOk q g.n)(hk:q.kind=2)(hd:(doneL g q (sts g q 0 i) (mls g q 0 i)).2=true):
  ((∃L:Nat,Dst g q.frm.toNat q.to.toNat L)/\(doneL g q (sts g q 0 i) (mls g q 0 i)).1=⟨true,0,[]⟩) \/
  ((∀k,¬Wlk g k q.frm.toNat q.to.toNat)/\(doneL g q (sts g q 0 i) (mls g q 0 i)).1=zAn):=by
 unfold doneL at hd ⊢
 rw [if_neg (by omega),if_pos hk] at hd ⊢
 unfold reachL at hd ⊢
 have hto:=hq.to (by omega)
 split
 ·rename_i h
  left
  have q_:=List.any_eq_true.1 h
  obtain⟨x,hx,h1⟩:=q_
  have h1:x.key.dir=0/\x.key.v=q.to:=by simpa using h1
  have q_:=(st0 hg hq).1 ⟨hx,h1.1⟩
  obtain⟨v,d,rfl,_,h2,_⟩:=q_
  have h3:(v:Int)=q.to:=h1.2
  have h4:q.to.toNat=v:=by omega
  rw [h4]
  exact⟨⟨d,h2⟩,rfl⟩
 ·rename_i h
  right
  rw [if_neg h] at hd
  have hM:mls g q 0 i=[]:=by simpa using hd
  have hl:lv g q 0 i=[]:=by
   apply Classical.byContradiction
   intro hn
   have:=(zCu (g:=g) (q:=q) (i:=i) (.inl rfl)).2 hn
   rw [hM] at this;cases this
  refine⟨λk hw=>?_,rfl⟩
  have q_:=Dst.ex hw
  obtain⟨L,_,hD⟩:=q_
  have hin:=(zFm hg hq L q.to.toNat).2 ⟨hD,λh=>by omega⟩
  have q_:=Nat.lt_or_ge L i
  rcases q_ with h3|h3
  ·apply h
   refine List.any_eq_true.2 ⟨⟨⟨0,0,(q.to.toNat:Int)⟩,(L:Int)⟩,((st0 hg hq).2 ⟨q.to.toNat,L,rfl,h3,hD,λh=>by omega⟩).1,?_⟩
   simp;omega
  ·rw [lv_end hl L h3] at hin;cases hin
theorem zLT(hg:GrOk g)(hq:QyOk q g.n)(hk:q.kind=3)(hd:(doneL g q (sts g q 0 i) (mls g q 0 i)).2=true):
  lv g q 0 i=[]/\(doneL g q (sts g q 0 i) (mls g q 0 i)).1=⟨!(firstK q.most (hitsL (placesL g q.words) (sts g q 0 i))).isEmpty,0,firstK q.most (hitsL (placesL g q.words) (sts g q 0 i))⟩:=by
 unfold doneL at hd ⊢
 rw [if_neg (by omega),if_neg (by omega),if_pos hk] at hd ⊢
 unfold nearL at hd ⊢
 split
 ·rename_i h
  refine⟨?_,rfl⟩
  have hM:mls g q 0 i=[]:=by simpa using h
  apply Classical.byContradiction
  intro hn
  have:=(zCu (g:=g) (q:=q) (i:=i) (.inl rfl)).2 hn
  rw [hM] at this;cases this
 ·rename_i h
  rw [if_neg h] at hd;cases hd
theorem zH2(hg:GrOk g)(hq:QyOk q g.n)(hk:q.kind=3){h:HitD}(hh:h∈hitsL (placesL g q.words) (sts g q 0 i)):∃v d:Nat,h=⟨(v:Int),(d:Int)⟩/\Dst g q.frm.toNat v d/\(d:Int)<=q.rad:=by
 unfold hitsL at hh
 have q_:=List.mem_map.1 hh
 obtain⟨x,hx,rfl⟩:=q_
 have q_:=List.mem_filter.1 hx
 obtain⟨h1,h2⟩:=q_
 rw [Bool.and_eq_true] at h2
 have q_:=(st0 hg hq).1 ⟨h1,of_decide_eq_true h2.1⟩
 obtain⟨v,d,rfl,_,h3,h4⟩:=q_
 exact⟨v,d,rfl,h3,h4 hk⟩
end
structure RepL where
 id:Int
 code:Int
 found:Bool
 num:Int
 hits:List HitD
deriving DecidableEq,Inhabited
def RepL.d (r:RepL):RepD:=⟨r.id,r.code,r.found,r.num,none,0,0⟩
def OkL (r:RepL):Prop:=RepOk r.d r.hits
def encL (r:RepL):List UInt8:=encR r.d r.hits
theorem OkL.of{x:RepD}{l:List HitD}(h:RepOk x l):OkL ⟨x.id,x.code,x.a.found,x.a.num,l⟩:=h.congr rfl rfl rfl rfl
theorem zI5:∀{l m:List HitD} {s t:List UInt8},(∀h∈l,HitOk h)->(∀h∈m,HitOk h)->l.length=m.length->hitsB l++s=hitsB m++t->l=m
 |[],[],_,_,_,_,_,_=>rfl
 |[],_::_,_,_,_,_,h,_=>by simp at h
 |_::_,[],_,_,_,_,h,_=>by simp at h
 |a::r,b::q,s,t,h1,h2,h,e=>by
  have ha:=h1 a List.mem_cons_self
  have hb:=h2 b List.mem_cons_self
  rw [zBK ha,zBK hb] at e
  simp only [List.append_assoc] at e
  have q_:=zAc e
  obtain⟨e1,e⟩:=q_
  have q_:=zAc e
  obtain⟨e2,e⟩:=q_
  have ih:=zI5 (λh hh=>h1 h (List.mem_cons_of_mem _ hh)) (λh hh=>h2 h (List.mem_cons_of_mem _ hh)) (by simpa using h) e
  rw [ih]
  congr 1
  obtain⟨g1,_,g2,_⟩:=ha
  obtain⟨g3,_,g4,_⟩:=hb
  cases a;cases b
  congr 1 <;> simp only at g1 g2 g3 g4 e1 e2 ⊢ <;> omega
theorem zMR{r q:RepL}(hr:OkL r)(hq:OkL q)(e:encL r=encL q):r=q:=by
 unfold encL at e
 unfold OkL at hr hq
 rw [zBC hr,zBC hq] at e
 have q_:=zAc e
 obtain⟨e1,e⟩:=q_
 have q_:=zAc e
 obtain⟨e2,e⟩:=q_
 have a1:=hr.1;have a2:=hr.2.1;have a3:=hr.2.2.1
 have b1:=hq.1;have b2:=hq.2.1;have b3:=hq.2.2.1
 have c1:r.id=q.id:=by simp only [RepL.d] at a1 b1 e1;omega
 have c2:r.code=q.code:=by simp only [RepL.d] at a2 b2 e2;omega
 by_cases hc:r.code=0
 ·have hc':q.code=0:=by omega
  have hc1:r.d.code=0:=hc
  have hc2:q.d.code=0:=hc'
  unfold rest2 at e
  simp only [hc1,hc2,ne_eq,not_true_eq_false,if_false] at e
  have q_:=zAc e
  obtain⟨e3,e⟩:=q_
  have q_:=zAc e
  obtain⟨e4,e⟩:=q_
  have q_:=zAc e
  obtain⟨e5,e⟩:=q_
  have e6:=zI5 (s:=[]) (t:=[]) hr.2.2.2.2.2.2.2 hq.2.2.2.2.2.2.2 e5 (by simpa using e)
  have c3:r.found=q.found:=by
   have e3':(if r.found then 1 else 0)=(if q.found then 1 else 0):=e3
   generalize r.found=x at e3' ⊢
   generalize q.found=y at e3' ⊢
   cases x <;> cases y <;> simp at e3' ⊢
  have c4:r.num=q.num:=by simp only [RepL.d] at a3 b3 e4;omega
  cases r;cases q;simp only at c1 c2 c3 c4 e6;subst c1 c2 c3 c4 e6;rfl
 ·have z1:=hr.2.2.2.2.1 hc
  have z2:=hq.2.2.2.2.1 (by show q.code≠0;omega)
  obtain⟨x1,x2,x3⟩:=z1
  obtain⟨y1,y2,y3⟩:=z2
  have x1:r.found=false:=x1;have x2:r.num=0:=x2;have y1:q.found=false:=y1;have y2:q.num=0:=y2
  cases r;cases q;simp only at c1 c2 x1 x2 x3 y1 y2 y3;subst c1 c2 x1 x2 x3 y1 y2 y3;rfl
open Classical in
/-- the reply whose bytes these are -/
noncomputable def getR (s:List UInt8):Option RepL:=if h:∃r,OkL r/\encL r=s then some h.choose else none
end Go.W
namespace Go.W
open Go Go.Proofs
set_option maxRecDepth 10000
variable {B i j k m n n3:Nat} {D R:Nat -> Prop} {P:Program} {a a3:Option Addr} {g:GrD} {ps:List Int} {q:QyD} {u u' w w' w1 w2:World}
section
variable {g:GrD} {c:CfD}
structure AnsI (g:GrD) (c:CfD) (s:SvD) (took:List RqD) (out:List (RqD×AnP)):Prop where
 ok:SvOk g c s
 al:AlI g c s.held
 tk:∀x∈rqs s,∃i,took[i]? = some x/\∀(j:Nat) (y:RqD),i<j->took[j]? = some y->y.id≠x.id
 out:∀d∈out,RqOk g d.1/\AlRep g c d.1 d.2
theorem zML{s:SvD}(h:SvOk g c s){f:List UInt8}:(∃x,(comeS g c s f).2=none/\reqOf f=some x/\(comeS g c s f).1=⟨s.wait++[x],s.held⟩/\x.id∉idsH s.held++idsW s.wait)\/(((comeS g c s f).2=none->reqOf f=none)/\∀x∈rqs (comeS g c s f).1,x∈rqs s):=by
 unfold comeS
 cases e:reqOf f with
 |none =>
  right
  dsimp only
  cases idOf f <;> exact⟨λ_=>rfl,λx hx=>hx⟩
 |some y =>
  dsimp only
  have hy:=(zEc e).2.1
  by_cases h4:y.kind=4
  ·rw [if_pos h4]
   exact .inr ⟨(λh=>nomatch h),λx hx=>zMF s y.id hx⟩
  ·rw [if_neg h4]
   have q_:=ask_ok (x:=y) h hy
   rcases q_ with ⟨h1,h2,_,h5⟩|⟨h1,h2⟩
   ·rw [if_pos h1,h2];exact .inl ⟨y,rfl,rfl,rfl,h5⟩
   ·rw [if_neg (by omega)];exact .inr ⟨(λh=>nomatch h),λx hx=>hx⟩
theorem zMC{s:SvD}{took:List RqD}{out:List (RqD×AnP)}(I:AnsI g c s took out)(f:List UInt8):
  (∃x,(comeS g c s f).2=none/\reqOf f=some x/\AnsI g c (comeS g c s f).1 (took++[x]) out)\/(((comeS g c s f).2=none->reqOf f=none)/\AnsI g c (comeS g c s f).1 took out):=by
 have q_:=zML I.ok (f:=f)
 rcases q_ with ⟨x,h1,h2,h3,h4⟩|⟨h1,h2⟩
 ·left
  refine⟨x,h1,h2,zKH I.ok f,I.al.come f,λz hz=>?_,I.out⟩
  rw [h3] at hz
  have hz:z∈rqH s.held++(s.wait++[x]):=hz
  rw [<-List.append_assoc] at hz
  have q_:=List.mem_append.1 hz
  rcases q_ with hz|hz
  ·have q_:=I.tk z hz
   obtain⟨i,hi,hj⟩:=q_
   have hil:i<took.length:=(List.getElem?_eq_some_iff.1 hi).1
   refine⟨i,by rw [List.getElem?_append_left hil];exact hi,λj y hij hy=>?_⟩
   have q_:=Nat.lt_or_ge j took.length
   rcases q_ with h5|h5
   ·rw [List.getElem?_append_left h5] at hy;exact hj j y hij hy
   ·rw [List.getElem?_append_right h5] at hy
    have h6:j - took.length=0:=by
     apply Classical.byContradiction
     intro h
     rw [List.getElem?_eq_none (by simp;omega)] at hy;cases hy
    rw [h6] at hy
    have:x=y:=Option.some.inj hy
    subst this
    intro he
    apply h4
    rw [<-zOg,he]
    exact List.mem_map.2 ⟨z,hz,rfl⟩
  ·rw [List.mem_singleton.1 hz]
   refine⟨took.length,by simp,λj y hij hy=>?_⟩
   rw [List.getElem?_eq_none (by simp;omega)] at hy;cases hy
 ·exact .inr ⟨h1,zKH I.ok f,I.al.come f,λz hz=>I.tk z (h2 z hz),I.out⟩
theorem zMD(hc:CfOk c){s:SvD}{took:List RqD}{out:List (RqD×AnP)}(I:AnsI g c s took out){out':List (RqD×AnP)}(h:∀d∈out',RqOk g d.1/\AlRep g c d.1 d.2):AnsI g c (tickS g c s).1 took out':=
 ⟨(zOy hc I.ok).1,I.al.tick,λz hz=>I.tk z (zNz hz),h⟩
theorem ans_of(hc:CfOk c){s:SvD}{took:List RqD}{out:List (RqD×AnP)}(I:AnsI g c s took out){p:Int×Int×AnP}(hp:p∈tickR g c s):
  ∃i x,took[i]? = some x/\x.id=p.1/\(∀(j:Nat) (y:RqD),i<j->took[j]? = some y->y.id≠p.1)/\(p.2.1=0->RqOk g x/\AlRep g c x p.2.2):=by
 have q_:=zOx hc I.ok I.al hp
 obtain⟨x,h1,h2,h3⟩:=q_
 have q_:=I.tk x h1
 obtain⟨i,h4,h5⟩:=q_
 exact⟨i,x,h4,h2,λj y hij hy=>by rw [<-h2];exact h5 j y hij hy,λh=>⟨rqs_ok I.ok h1,h3 h⟩⟩
theorem zNF:AnsI g c (newS c) [] []:=by
 refine⟨new_ok g c,AlI.new,λx hx=>?_,λd h=>nomatch h⟩
 have hx:x∈rqH (List.replicate c.slots none)++[]:=hx
 rw [List.append_nil,zCy] at hx
 obtain⟨i,h⟩:=hx
 have h1:=(List.mem_replicate.1 h).2
 exact nomatch h1
structure WlkA (g:GrD) (q:QyD) (a:AnP):Prop where
 dist:q.kind=1->(∃L:Nat,Dst g q.frm.toNat q.to.toNat L/\a=⟨true,(L:Int),[]⟩)\/((∀k,¬Wlk g k q.frm.toNat q.to.toNat)/\a=zAn)
 reach:q.kind=2->((∃L:Nat,Dst g q.frm.toNat q.to.toNat L)/\a=⟨true,0,[]⟩)\/((∀k,¬Wlk g k q.frm.toNat q.to.toNat)/\a=zAn)
 near:q.kind=3->∀h∈a.hits,∃v d:Nat,h=⟨(v:Int),(d:Int)⟩/\v<g.n/\Dst g q.frm.toNat v d/\(d:Int)<=q.rad
theorem dst_lt(hg:GrOk g){u v:Nat}(hu:u<g.n)(h:Wlk g k u v):v<g.n:=by
 cases k with
 |zero=>cases (h:u=v);exact hu
 |succ k =>
  have q_:=h.cut (a:=k) (b:=1)
  obtain⟨m,_,h2⟩:=q_
  exact(edg_lt hg (Wlk.one.1 h2)).2
theorem al_wlk(hg:GrOk g){x:RqD}{a:AnP}(hx:RqOk g x)(h:AlRep g c x a):WlkA g x.q a:=by
 obtain⟨i,_,_,_,hd,rfl⟩:=h
 have hq:=hx.q.ok
 refine⟨λhk=>zLS hg hq hk hd,λhk=>zLo hg hq hk hd,λhk h hh=>?_⟩
 have q_:=zLT hg hq hk hd
 obtain⟨_,h2⟩:=q_
 rw [h2] at hh
 have h3:=zGC.2 h hh
 have q_:=zH2 hg hq hk h3
 obtain⟨v,d,rfl,h4,h5⟩:=q_
 have:=hq.frm
 exact⟨v,d,rfl,dst_lt hg (by omega) h4.1,h4,h5⟩
end
end Go.W
namespace Go.W
open Go Go.Proofs
open Enc (enc)
set_option maxRecDepth 10000
variable {B i j k m n n3:Nat} {D R:Nat -> Prop} {P:Program} {a a3:Option Addr} {g:GrD} {ps:List Int} {q:QyD} {u u' w w' w1 w2:World}
section
variable {R R' R2:Nat->Prop} {B B2:Nat} {u u' w w':World} {bs bt:Nat} {g:GrD} {c:CfD} {s t:SvD}
theorem zMz{x:RCfg}{f:List UInt8}(hf:f.length<=4611686018427387904)(hn:¬(cfgOk x/\∃g,imgOf f=some g)):
  Sp PP F.yf #[agg x,txt f] w λv w'=>(∃e:Int,v=.tuple #[.pointer none,.int .i64 e]/\e≠0)/\Stp w w':=
 (zEx hf).mono λv w' ⟨h,e⟩=>⟨by
  rcases h with ⟨_,rfl⟩|⟨_,_,rfl⟩|⟨g,bs,hc,hi,_⟩
  ·exact⟨_,rfl,by decide⟩
  ·exact⟨_,rfl,by decide⟩
  ·exact absurd ⟨hc,g,hi⟩ hn,e⟩
theorem zIH{x:RCfg}{f:List UInt8}(hf:f.length<=4611686018427387904)(hc:cfgOk x)(hi:imgOf f=some g):
  Sp PP F.yf #[agg x,txt f] w λv w'=>(∃bs,v=.tuple #[.pointer (some ⟨bs,0,none⟩),.int .i64 0]/\SrvP (λi=>w.heap.size<=i/\i<w'.heap.size) w.heap.size w' bs g (cfOf x) (newS (cfOf x)))/\Stp w w':=
 (zEx hf).mono λv w' ⟨h,e⟩=>⟨by
  rcases h with ⟨h1,_⟩|⟨_,h1,_⟩|⟨g',bs,_,hi',rfl,S⟩
  ·exact absurd hc h1
  ·rw [hi] at h1;cases h1
  ·rw [hi] at hi';cases hi'
   exact⟨bs,rfl,S⟩,e⟩
theorem SrvP.ok(S:SrvP R B w bs g c s):GrIs g/\CfOk c/\SvOk g c s:=(SrvX.reg S).2
theorem zNy(S:SrvP R B w bs g c s):((tickS g c s).2).length<=64:=by
 have q_:=S.ok
 obtain⟨_,hc,h⟩:=q_
 have h1:=zEf (g:=g) (c:=c) (usedS (admitS s.wait s.held).2) (admitS s.wait s.held).2
 have h2:(usedS (admitS s.wait s.held).2).length<=(admitS s.wait s.held).2.length:=zHs _ _
 have h3:=(zCD hc s.wait s.held h).1.len
 have h4:=hc.slots.2
 dsimp only at h3
 show (stepsS g c _ _).2.length<=64
 omega
end
theorem zMS{x:RepD}{l:List HitD}(h:RepOk x l):(encR x l).length<=1100:=by
 have h1:=h.2.2.2.1
 have h2:=zHS l
 have h3:=zA0 [x.id,x.code]
 have h4:=zA0 [if x.a.found then 1 else 0,x.a.num,(l.length:Int)]
 unfold encR
 simp only [List.length_cons,List.length_nil] at h3 h4
 rw [List.length_append]
 split
 ·simp only [List.length_nil];omega
 ·rw [List.length_append];omega
theorem zHa{p:Int×Int×AnP}(h:RepOk (repOf p.1 p.2.1 p.2.2) p.2.2.hits):bytR p=encR (repOf p.1 p.2.1 p.2.2) p.2.2.hits:=if_pos h
theorem zMI{p:Int×Int×AnP}(h:RepOk (repOf p.1 p.2.1 p.2.2) p.2.2.hits):(bytR p).length<=1100:=by
 rw [zHa h];exact zMS h
structure RTold where
 q:RQ
 y:RepD
instance:Enc RTold:=⟨11,λx=>enc x.q++enc x.y,λ_=>rfl,
 by intro x u hu;rcases List.mem_append.1 hu with h|h <;> exact Enc.one _ _ h,by decide⟩
theorem zNZ{p:Int×Int×AnP}(h:RepOk (repOf p.1 p.2.1 p.2.2) p.2.2.hits):Sp PP F.yn #[txt (bytR p)] w λv w'=>(∃x:RepD,v=.tuple #[agg x,.int .i64 0]/\x.id=p.1/\x.code=p.2.1/\x.a.found=p.2.2.found/\x.a.num=p.2.2.num/\Own w.heap.size E.qe w' (.slice x.a.s.a x.a.s.n x.a.s.c) p.2.2.hits)/\Stp w w':=by
 have h3:=zMI h
 refine(zFx (by omega)).mono λv w' ⟨q,e⟩=>⟨?_,e⟩
 rcases q with ⟨x,l,h4,h5,rfl,O⟩|⟨h4,_⟩
 ·rw [zHa h] at h5
  have h6:=zMR (OkL.of h4) (OkL.of h) h5
  injection h6 with i1 i2 i3 i4 i5
  subst i5
  exact⟨x,rfl,i1,i2,i3,i4,O⟩
 ·exact absurd (zHa h).symm (h4 _ _ h)
section
variable {R R':Nat->Prop} {B:Nat} {w w':World}
theorem zKx{α:Type}[Enc α]{e:TypeId}{v v':Value}{l:List α}{X:Nat->Prop}(h:∀b,Value.blk v=some b->b<w.heap.size/\¬X b)
  (hv:Value.blk v'=Value.blk v\/Value.blk v'=some w.heap.size)(O:Own B e w' v' l)(hl:l≠[])(hX:∀i,X i->i<w.heap.size)(hw:w.heap.size<=w'.heap.size):
  ∀b,Value.blk v'=some b->b<w'.heap.size/\¬X b:=λb hb=>by
 rcases hv with hv|hv
 ·rw [hv] at hb
  have:=h b hb
  exact⟨by omega,this.2⟩
 ·have q_:=O.lt hl
  obtain⟨b',h1,_,h2⟩:=q_
  rw [hv] at hb h1
  cases h1;cases hb
  exact⟨h2,λh3=>by have:=hX _ h3;omega⟩
theorem zJp{v:Value}{b:Nat}(h:ownD B v b):B<=b/\Value.blk v=some b:=⟨h.1,h.2.1⟩
theorem zIN{P:Nat->Prop}:∀b,Value.blk (.slice none 0 0)=some b->P b:=λ_ hb=>nomatch hb
theorem fr_in(f:Fr R w w')(fu:Fr R' u w)(hR:∀i,R i->R' i\/u.heap.size<=i):Fr R' u w':=by
 have h1:Fr (gP R' u) u w:=fu.mono λ_ _ h=>.inl h
 have h2:Fr (gP R' u) w w':=f.mono λi _ h=>hR i h
 exact(h1.trans h2).mono λi hi h=>h.elim id λh=>absurd hi (by omega)
theorem Own.notOwn{α β:Type}[Enc α][Enc β]{B B' B2 g:Nat}{e e':TypeId}{v v':Value}{l:List α}{l':List β}(h:Own B e w v l)(hl:l≠[])(hg:Value.blk v=some g)(k:Own B' e' w v' l')(hne:e≠e'):¬ownD B2 v' g:=by
 intro hd
 rcases h with ⟨h,_⟩|h
 ·exact hl h
 ·have q_:=h.2
  rcases q_ with ⟨rfl,_⟩|⟨g1,cap,cur,rfl,hb,hh,rest⟩
  ·cases hg
  ·have h1:=Option.some.inj hg
   simp only at h1
   subst h1
   rcases k with ⟨_,a,rfl⟩|k
   ·exact hd.2.2 a rfl
   ·have q_:=k.2
    rcases q_ with ⟨rfl,_⟩|⟨g',cap',cur',rfl,_,hg',_⟩
    ·cases hd.2.1
    ·have h2:=hd.2.1
     simp only [Value.blk] at h2;cases h2
     rw [hh] at hg';cases hg';exact hne rfl
def HitO (R:Nat->Prop) (B:Nat) (w:World) (s:SV) (l:List HitD):Prop:=
 s.n=l.length/\(l≠[]->Own B E.qe w (.slice s.a s.n s.c) l/\∀b,Value.blk (.slice s.a s.n s.c)=some b->¬R b)
theorem HitO.fr{s:SV}{l:List HitD}(h:HitO R B w s l)(f:Fr R w w')(hR:∀i,R' i->gR R w w' i):HitO R' B w' s l:=by
 refine⟨h.1,λhl=>?_⟩
 have q_:=h.2 hl
 obtain⟨h1,h2⟩:=q_
 have q_:=h1.lt hl
 obtain⟨b,h3,_,h4⟩:=q_
 refine⟨h1.fr f λb _ hb hr=>h2 b hb hr,λb' hb hr=>?_⟩
 have:b'=b:=by rw [h3] at hb;exact(Option.some.inj hb).symm
 subst this
 have q_:=hR _ hr
 rcases q_ with h5|h5
 ·exact h2 _ hb h5
 ·omega
theorem HitO.up[Le w w']{s:SV}{l:List HitD}(h:HitO R B w s l):HitO R B w' s l:=⟨h.1,λhl=>⟨(h.2 hl).1.up,(h.2 hl).2⟩⟩
theorem HitO.fro{β:Type}[Enc β]{B':Nat}{e':TypeId}{v':Value}{l':List β}{s:SV}{l:List HitD}(h:HitO R B w s l)(k:Own B' e' w v' l')(f:Fr (ownD B' v') w w')(hne:E.qe≠e'):HitO R B w' s l:=
 ⟨h.1,λhl=>⟨(h.2 hl).1.fro k f hne,(h.2 hl).2⟩⟩
theorem HitO.new{s:SV}{l:List HitD}(h:Own u.heap.size E.qe w (.slice s.a s.n s.c) l)(hB:B<=u.heap.size)(hR:∀i,R i->i<u.heap.size):HitO R B w s l:=by
 have q_:=h.shape
 obtain⟨a,c,hs⟩:=q_
 have hn:s.n=l.length:=by injection hs
 refine⟨hn,λhl=>⟨h.mono hB,λb hb hr=>?_⟩⟩
 have q_:=h.lt hl
 obtain⟨b',h3,h4,_⟩:=q_
 have:b=b':=by rw [h3] at hb;exact(Option.some.inj hb).symm
 have:=hR b hr
 omega
def TolO (R:Nat->Prop) (B:Nat) (w:World) (x:RTold) (d:RqD×AnP):Prop:=
 (x.q.kind=d.1.q.kind/\x.q.frm=d.1.q.frm/\x.q.to=d.1.q.to/\x.q.rad=d.1.q.rad/\x.y.a.found=d.2.found/\x.y.a.num=d.2.num)/\HitO R B w x.y.a.s d.2.hits
structure OutO (R:Nat->Prop) (B:Nat) (w:World) (v:Value) (xs:List RTold) (ds:List (RqD×AnP)):Prop where
 own:Own B E.yd w v xs
 blk:∀b,Value.blk v=some b->b<w.heap.size/\¬R b
 len:xs.length=ds.length
 all:∀(i:Nat) (x:RTold) (d:RqD×AnP),xs[i]? = some x->ds[i]? = some d->TolO R B w x d
theorem OutO.fr{v:Value}{xs:List RTold}{ds:List (RqD×AnP)}(h:OutO R B w v xs ds)(f:Fr R w w')(hR:∀i,R' i->gR R w w' i):OutO R' B w' v xs ds:=
 ⟨h.own.fr f λb _ hb hr=>(h.blk b hb).2 hr,λb hb=>by
  have h1:=h.blk b hb
  have:=f.size
  refine⟨by omega,λh2=>?_⟩
  have q_:=hR _ h2
  rcases q_ with h3|h3
  ·exact h1.2 h3
  ·omega,h.len,λi x d hx hd=>⟨(h.all i x d hx hd).1,(h.all i x d hx hd).2.fr f hR⟩⟩
theorem OutO.up[L:Le w w']{v:Value}{xs:List RTold}{ds:List (RqD×AnP)}(h:OutO R B w v xs ds):OutO R B w' v xs ds:=
 ⟨h.own.up,λb hb=>⟨by have:=(h.blk b hb).1;have:=L.e.size;omega,(h.blk b hb).2⟩,h.len,λi x d hx hd=>⟨(h.all i x d hx hd).1,(h.all i x d hx hd).2.up⟩⟩
theorem OutO.fro{β:Type}[Enc β]{B':Nat}{e':TypeId}{v':Value}{l':List β}{v:Value}{xs:List RTold}{ds:List (RqD×AnP)}(h:OutO R B w v xs ds)(k:Own B' e' w v' l')(f:Fr (ownD B' v') w w')(h1:E.qe≠e')(h2:E.yd≠e'):OutO R B w' v xs ds:=
 ⟨h.own.fro k f h2,λb hb=>⟨by have:=(h.blk b hb).1;have:=f.size;omega,(h.blk b hb).2⟩,h.len,λi x d hx hd=>⟨(h.all i x d hx hd).1,(h.all i x d hx hd).2.fro k f h1⟩⟩
abbrev keyR (x:RReq):Int×Int×Int×Int×Int:=(x.id,x.q.kind,x.q.frm,x.q.to,x.q.rad)
abbrev keyD (x:RqD):Int×Int×Int×Int×Int:=(x.id,x.q.kind,x.q.frm,x.q.to,x.q.rad)
structure TkO (R:Nat->Prop) (B:Nat) (w:World) (v:Value) (ys:List RReq) (ts:List RqD):Prop where
 own:Own B E.qd w v ys
 blk:∀b,Value.blk v=some b->b<w.heap.size/\¬R b
 key:ys.map keyR=ts.map keyD
theorem TkO.fr{v:Value}{ys:List RReq}{ts:List RqD}(h:TkO R B w v ys ts)(f:Fr R w w')(hR:∀i,R' i->gR R w w' i):TkO R' B w' v ys ts:=
 ⟨h.own.fr f λb _ hb hr=>(h.blk b hb).2 hr,λb hb=>by
  have h1:=h.blk b hb
  have:=f.size
  refine⟨by omega,λh2=>?_⟩
  have q_:=hR _ h2
  rcases q_ with h3|h3
  ·exact h1.2 h3
  ·omega,h.key⟩
theorem TkO.up[L:Le w w']{v:Value}{ys:List RReq}{ts:List RqD}(h:TkO R B w v ys ts):TkO R B w' v ys ts:=
 ⟨h.own.up,λb hb=>⟨by have:=(h.blk b hb).1;have:=L.e.size;omega,(h.blk b hb).2⟩,h.key⟩
theorem TkO.fro{β:Type}[Enc β]{B':Nat}{e':TypeId}{v':Value}{l':List β}{v:Value}{ys:List RReq}{ts:List RqD}(h:TkO R B w v ys ts)(k:Own B' e' w v' l')(f:Fr (ownD B' v') w w')(h2:E.qd≠e'):TkO R B w' v ys ts:=
 ⟨h.own.fro k f h2,λb hb=>⟨by have:=(h.blk b hb).1;have:=f.size;omega,(h.blk b hb).2⟩,h.key⟩
theorem TkO.len{v:Value}{ys:List RReq}{ts:List RqD}(h:TkO R B w v ys ts):ys.length=ts.length:=by
 have:=congrArg List.length h.key
 simpa using this
theorem TkO.get{v:Value}{ys:List RReq}{ts:List RqD}(h:TkO R B w v ys ts){t:RqD}(ht:ts[i]? = some t):∃y,ys[i]? = some y/\keyR y=keyD t:=by
 have h1:(ys.map keyR)[i]? = (ts.map keyD)[i]?:=by rw [h.key]
 rw [List.getElem?_map,List.getElem?_map,ht] at h1
 cases hy:ys[i]? with
 |none=>rw [hy] at h1;cases h1
 |some y=>rw [hy] at h1;exact⟨y,rfl,Option.some.inj h1⟩
theorem TkO.tget{v:Value}{ys:List RReq}{ts:List RqD}(h:TkO R B w v ys ts){y:RReq}(hy:ys[i]? = some y):∃t,ts[i]? = some t/\keyR y=keyD t:=by
 have h1:(ys.map keyR)[i]? = (ts.map keyD)[i]?:=by rw [h.key]
 rw [List.getElem?_map,List.getElem?_map,hy] at h1
 cases ht:ts[i]? with
 |none=>rw [ht] at h1;cases h1
 |some t=>rw [ht] at h1;exact⟨t,rfl,Option.some.inj h1⟩
end
end Go.W
