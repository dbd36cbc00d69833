/-
  Proved here: a part of the walks and plain laws of this claim (merged by a program of mine).
  Conditions: those that each fact names.
-/
import Derived.Deep.Upon
import Derived.Test.YtgjanodnkajinaaGreatQ5
set_option maxHeartbeats 8000000
set_option linter.unusedVariables false
set_option linter.unusedSimpArgs false
namespace Go.W
open Go Go.Proofs
open Enc (enc)
set_option maxRecDepth 10000
variable {B i j k m n n2:Nat} {D:Nat -> Prop} {P:Program} {a a' a2:Option Addr} {g:GrD} {u u' w w':World}
theorem zOD{p:Int×Int×AnP}(h:RepOk (repOf p.1 p.2.1 p.2.2) p.2.2.hits):Sp PP F.ym #[txt (bytR p)] w λv w'=>(∃x:RepD,v=.tuple #[agg x,.int .i64 0]/\x.id=p.1/\x.code=p.2.1/\x.a.found=p.2.2.found/\x.a.num=p.2.2.num/\Own w.heap.size E.qi w' (.slice x.a.s.a x.a.s.n x.a.s.c) p.2.2.hits)/\Stp w w':=by
 have h3:=zNg h
 refine(zFL (by omega)).mono λv w' ⟨q,e⟩=>⟨?_,e⟩
 rcases q with ⟨x,l,h4,h5,rfl,O⟩|⟨h4,_⟩
 ·rw [zHs h] at h5
  have h6:=zNo (OkL.of h4) (OkL.of h) h5
  injection h6 with i1 i2 i3 i4 i5
  subst i5
  exact⟨x,rfl,i1,i2,i3,i4,O⟩
 ·exact absurd (zHs h).symm (h4 _ _ h)
section
variable {R R':Nat->Prop} {B:Nat} {w w':World}
theorem zOk{α:Type}[Enc α]{e:TypeId}{v v':Value}{l:List α}{X:Nat->Prop}(h:∀b,Value.blk v=some b->b<w.heap.size/\¬X b)
  (hv:Value.blk v'=Value.blk v\/Value.blk v'=some w.heap.size)(O:Own B e w' v' l)(hl:l≠[])(hX:∀i,X i->i<w.heap.size)(hw:w.heap.size<=w'.heap.size):
  ∀b,Value.blk v'=some b->b<w'.heap.size/\¬X b:=λb hb=>by
 rcases hv with hv|hv
 ·rw [hv] at hb
  have:=h b hb
  exact⟨by omega,this.2⟩
 ·have q_:=O.lt hl
  obtain⟨b',h1,_,h2⟩:=q_
  rw [hv] at hb h1
  cases h1;cases hb
  exact⟨h2,λh3=>by have:=hX _ h3;omega⟩
theorem zNA{v:Value}{b:Nat}(h:ownD B v b):B<=b/\Value.blk v=some b:=⟨h.1,h.2.1⟩
theorem zNd{P:Nat->Prop}:∀b,Value.blk (.slice none 0 0)=some b->P b:=λ_ hb=>nomatch hb
theorem fr_in(f:Fr R w w')(fu:Fr R' u w)(hR:∀i,R i->R' i\/u.heap.size<=i):Fr R' u w':=by
 have h1:Fr (gP R' u) u w:=fu.mono λ_ _ h=>.inl h
 have h2:Fr (gP R' u) w w':=f.mono λi _ h=>hR i h
 exact(h1.trans h2).mono λi hi h=>h.elim id λh=>absurd hi (by omega)
end
end Go.W
namespace Go.W
open Go
set_option maxRecDepth 10000
variable {B i j k m n n2:Nat} {D:Nat -> Prop} {P:Program} {a a' a2:Option Addr} {g:GrD} {u u' w w':World}
def qq (f t:Nat):QyD:=⟨1,(f:Int),(t:Int),[],0,0⟩
theorem qq_k{f t:Nat}:¬(qq f t).kind=3:=(by decide:¬(1:Int)=3)
section
variable {g:GrD} {f t:Nat} {dir:Int} {d:Nat} {lev:List Int} {fr l:List Nat}
theorem qq_ok(hf:f<g.n)(ht:t<g.n):QyOk (qq f t) g.n:=⟨.inl rfl,⟨by simp [qq],by simp [qq];omega⟩,λ_=>⟨by simp [qq],by simp [qq];omega⟩,λh=>absurd h qq_k⟩
theorem qq_on(d:Nat):goesOn (qq f t) d=true:=by rw [zD6];exact λh=>absurd h qq_k
structure LevI (g:GrD) (q:QyD) (dir:Int) (d:Nat) (lev:List Int) (fr:List Nat):Prop where
 len:lev.length=g.n
 yes:∀v j,j<=d->v∈lv g q dir j->lev[v]? = some (j:Int)
 no:∀v,v<g.n->v∉sn g q dir (d+1)->lev[v]? = some (-1)
 fr:∀v,v∈fr↔v∈lv g q dir d
theorem LevI.neg(I:LevI g (qq f t) dir d lev fr)(hf:f<g.n)(ht:t<g.n){v:Nat}(hv:v<g.n):∃x,lev[v]? = some x/\(x<0↔v∉sn g (qq f t) dir (d+1))/\-1<=x/\x<g.n:=by
 by_cases h:v∈sn g (qq f t) dir (d+1)
 ·have q_:=mem_sn.1 h
  obtain⟨j,h1,h2⟩:=q_
  have h3:=zEd (dir:=dir) (qq_ok hf ht) (List.ne_nil_of_mem h2)
  refine⟨j,I.yes v j (by omega) h2,⟨λh=>by omega,λh'=>absurd h h'⟩,by omega,by omega⟩
 ·exact⟨-1,I.no v hv h,⟨λ_=>h,λ_=>by omega⟩,by omega,by omega⟩
structure AhI (lev:List Int) (P l:List Nat) (m:List (Int×Value)):Prop where
 nd:l.Nodup
 mem:∀w,w∈l↔w∈P/\∃x,lev[w]? = some x/\x<0
 map:∀w:Nat,getM m (w:Int)=if w∈l then some (.bool true) else none
theorem AhI.skip{P:List Nat}{m:List (Int×Value)}{w:Nat}(I:AhI lev P l m)(h:w∈l\/¬∃x,lev[w]? = some x/\x<0):AhI lev (P++[w]) l m:=by
 refine⟨I.nd,λz=>?_,I.map⟩
 rw [I.mem,List.mem_append,List.mem_singleton]
 constructor
 ·rintro⟨h1,h2⟩;exact⟨.inl h1,h2⟩
 ·rintro⟨h1|rfl,h2⟩
  ·exact⟨h1,h2⟩
  ·rcases h with h|h
   ·exact(I.mem z).1 h
   ·exact absurd h2 h
theorem AhI.add{P:List Nat}{m:List (Int×Value)}{w:Nat}(I:AhI lev P l m)(h:w∉l)(hx:∃x,lev[w]? = some x/\x<0):AhI lev (P++[w]) (l++[w]) (setM (w:Int) (.bool true) m):=by
 refine⟨?_,λz=>?_,λz=>?_⟩
 ·rw [List.nodup_append]
  refine⟨I.nd,by simp,λa ha b hb e=>?_⟩
  rw [List.mem_singleton.1 hb] at e
  exact h (e ▸ ha)
 ·rw [List.mem_append,List.mem_append,I.mem,List.mem_singleton]
  constructor
  ·rintro(⟨h1,h2⟩|rfl)
   ·exact⟨.inl h1,h2⟩
   ·exact⟨.inr rfl,hx⟩
  ·rintro⟨h1|rfl,h2⟩
   ·exact .inl ⟨h1,h2⟩
   ·exact .inr rfl
 ·rw [zD5,I.map]
  by_cases e:(z:Int)=(w:Int)
  ·have:z=w:=by omega
   subst this
   rw [if_pos rfl,if_pos (List.mem_append_right _ (by simp))]
  ·rw [if_neg e]
   have:z≠w:=by omega
   simp [this]
theorem AhI.nil:AhI lev [] [] []:=⟨List.nodup_nil,by simp,by simp [zJk]⟩
theorem zHS(hg:GrOk g)(hf:f<g.n)(ht:t<g.n)(I:LevI g (qq f t) dir d lev fr){m:List (Int×Value)}(A:AhI lev (fr.flatMap (nbL g dir)) l m):∀w,w∈l↔w∈lv g (qq f t) dir (d+1):=λw=>by
 rw [A.mem,zAD,List.mem_flatMap]
 constructor
 ·rintro⟨⟨v,hv,hw⟩,x,hx,hn⟩
  have hwn:=nb_lt hg hw
  have q_:=I.neg hf ht hwn
  obtain⟨y,hy,hyn,_⟩:=q_
  rw [hy] at hx
  have q_:y=x:=Option.some.inj hx
  obtain rfl:=q_
  exact⟨qq_on d,hwn,hyn.1 hn,v,(I.fr v).1 hv,hw⟩
 ·rintro⟨_,hwn,hs,v,hv,hw⟩
  exact⟨⟨v,(I.fr v).2 hv,hw⟩,-1,I.no w hwn hs,by omega⟩
def setAll (x:Int) (l:List Nat) (lev:List Int):List Int:=l.foldl (λL w=>L.set w x) lev
theorem zBs(x:Int):∀(l:List Nat) (lev:List Int),(setAll x l lev).length=lev.length
 |[],_=>rfl
 |w::r,lev=>by show (setAll x r (lev.set w x)).length=_;rw [zBs x r,List.length_set]
theorem zCE(x:Int):∀(l:List Nat) (lev:List Int) (v:Nat),v<lev.length->(setAll x l lev)[v]? = if v∈l then some x else lev[v]?
 |[],_,_,_=>by simp [setAll]
 |w::r,lev,v,h=>by
  show (setAll x r (lev.set w x))[v]? = _
  rw [zCE x r _ v (by rw [List.length_set];exact h)]
  by_cases h1:v∈r
  ·rw [if_pos h1,if_pos (List.mem_cons_of_mem _ h1)]
  ·rw [if_neg h1,List.getElem?_set]
   by_cases h2:w=v
   ·subst h2;simp [h]
   ·rw [if_neg h2,if_neg (by simp;exact⟨λe=>h2 e.symm,h1⟩)]
theorem zF8(x:Int)(l:List Nat)(w:Nat)(lev:List Int):setAll x (l++[w]) lev=(setAll x l lev).set w x:=by unfold setAll;rw [List.foldl_append];rfl
theorem zGJ(hf:f<g.n)(ht:t<g.n)(I:LevI g (qq f t) dir d lev fr)(hl:∀w,w∈l↔w∈lv g (qq f t) dir (d+1)):LevI g (qq f t) dir (d+1) (setAll ((d:Int)+1) l lev) l:=by
 have hlt:∀{v j},v∈lv g (qq f t) dir j->v<lev.length:=λh=>by rw [I.len];exact lv_lt (qq_ok hf ht) h
 refine⟨by rw [zBs];exact I.len,λv j hj hv=>?_,λv hv hs=>?_,hl⟩
 ·rw [zCE _ _ _ _ (hlt hv)]
  have q_:=Nat.lt_or_ge d j
  rcases q_ with h|h
  ·have:j=d+1:=by omega
   subst this
   rw [if_pos ((hl v).2 hv)];rfl
  ·rw [if_neg (λh2=>by have:=zCX hv ((hl v).1 h2);omega)]
   exact I.yes v j h hv
 ·rw [zBa,List.mem_append] at hs
  rw [zCE _ _ _ _ (by rw [I.len];exact hv),if_neg (λh=>hs (.inr ((hl v).1 h)))]
  exact I.no v hv (λh=>hs (.inl h))
theorem zE2(hd:dir=0\/dir=1){p:Nat}(hp:src (qq f t) dir=[p])(hpn:p<g.n):LevI g (qq f t) dir 0 ((List.replicate g.n (-1:Int)).set p 0) [p]:=by
 refine⟨by simp,λv j hj hv=>?_,λv hv hs=>?_,λv=>by rw [zAZ,hp]⟩
 ·have q_:j=0:=by omega
  obtain rfl:=q_
  rw [zAZ,hp,List.mem_singleton] at hv
  subst hv
  simp [hpn]
 ·rw [zBa,zHM,List.nil_append,zAZ,hp,List.mem_singleton] at hs
  rw [List.getElem?_set,if_neg (λe=>hs e.symm)]
  simp [hv]
theorem src0:src (qq f t) 0=[f]:=by unfold src;rw [if_pos rfl];simp [qq]
theorem src1:src (qq f t) 1=[t]:=by unfold src;rw [if_neg (by decide),if_pos (by rfl)];simp [qq]
theorem zNw(hg:GrOk g)(hf:f<g.n)(ht:t<g.n)(I:LevI g (qq f t) 0 d lev fr)(he:lv g (qq f t) 0 (d+1)=[]){v:Nat}(hv:v<g.n):
  (∃L:Nat,Dst g f v L/\lev[v]? = some (L:Int))\/((∀k,¬Wlk g k f v)/\lev[v]? = some (-1)):=by
 have hff:(qq f t).frm.toNat=f:=by simp [qq]
 by_cases h:v∈sn g (qq f t) 0 (d+1)
 ·have q_:=mem_sn.1 h
  obtain⟨j,h1,h2⟩:=q_
  have h3:=(zA9 hg (qq_ok hf ht) j v).1 h2
  rw [hff] at h3
  exact .inl ⟨j,h3.1,I.yes v j (by omega) h2⟩
 ·refine .inr ⟨λk hw=>h ?_,I.no v hv h⟩
  have q_:=Dst.ex hw
  obtain⟨L,_,hD⟩:=q_
  have h2:=(zA9 hg (qq_ok hf ht) L v).2 ⟨by rw [hff];exact hD,λh=>absurd h qq_k⟩
  have q_:=Nat.lt_or_ge L (d+1)
  rcases q_ with h3|h3
  ·exact mem_sn.2 ⟨L,h3,h2⟩
  ·rw [lv_end he L h3] at h2;cases h2
end
section
variable {g:GrD} {f t n:Nat} {seen:List Bool} {fr l P:List Nat}
structure FroI (g:GrD) (f:Nat) (n:Nat) (seen:List Bool) (fr:List Nat):Prop where
 len:seen.length=g.n
 nd:fr.Nodup
 mem:∀v,v∈fr↔v∈lv g (qq f f) 0 n
 seen:∀v,v<g.n->(seen[v]? = some true↔v∈sn g (qq f f) 0 (n+1))
structure SeeI (g:GrD) (f:Nat) (n:Nat) (seen:List Bool) (P l:List Nat):Prop where
 len:seen.length=g.n
 nd:l.Nodup
 mem:∀v,v∈l↔v∈P/\v<g.n/\v∉sn g (qq f f) 0 (n+1)
 seen:∀v,v<g.n->(seen[v]? = some true↔v∈sn g (qq f f) 0 (n+1)\/v∈l)
theorem FroI.first(hf:f<g.n):FroI g f 0 ((List.replicate g.n false).set f true) [f]:=by
 refine⟨by simp,by simp,λv=>by rw [zAZ,src0],λv hv=>?_⟩
 rw [zBa,zHM,List.nil_append,zAZ,src0,List.mem_singleton,List.getElem?_set]
 by_cases h:f=v
 ·subst h;simp [hf]
 ·rw [if_neg h,List.getElem?_replicate,if_pos hv]
  exact⟨(λh=>nomatch h),λe=>absurd e.symm h⟩
theorem FroI.begin(I:FroI g f n seen fr):SeeI g f n seen [] []:=⟨I.len,List.nodup_nil,by simp,λv hv=>by rw [I.seen v hv];simp⟩
theorem SeeI.skip(I:SeeI g f n seen P l){w:Nat}(hw:w<g.n)(h:seen[w]? = some true):SeeI g f n seen (P++[w]) l:=by
 refine⟨I.len,I.nd,λv=>?_,I.seen⟩
 rw [I.mem,List.mem_append,List.mem_singleton]
 constructor
 ·rintro⟨h1,h2⟩;exact⟨.inl h1,h2⟩
 ·rintro⟨h1|rfl,h2⟩
  ·exact⟨h1,h2⟩
  ·have q_:=(I.seen v hw).1 h
   rcases q_ with h3|h3
   ·exact absurd h3 h2.2
   ·exact(I.mem v).1 h3
theorem SeeI.add(I:SeeI g f n seen P l){w:Nat}(hw:w<g.n)(h:seen[w]?≠some true):SeeI g f n (seen.set w true) (P++[w]) (l++[w]):=by
 have h0:=λh'=>h ((I.seen w hw).2 h')
 refine⟨by rw [List.length_set];exact I.len,?_,λv=>?_,λv hv=>?_⟩
 ·rw [List.nodup_append]
  refine⟨I.nd,by simp,λa ha b hb e=>?_⟩
  rw [List.mem_singleton.1 hb] at e
  exact h0 (.inr (e ▸ ha))
 ·rw [List.mem_append,List.mem_append,I.mem,List.mem_singleton]
  constructor
  ·rintro(⟨h1,h2⟩|rfl)
   ·exact⟨.inl h1,h2⟩
   ·exact⟨.inr rfl,hw,λh1=>h0 (.inl h1)⟩
  ·rintro⟨h1|rfl,h2⟩
   ·exact .inl ⟨h1,h2⟩
   ·exact .inr rfl
 ·rw [List.getElem?_set,List.mem_append,List.mem_singleton]
  by_cases e:w=v
  ·subst e
   rw [if_pos rfl,if_pos (by rw [I.len];exact hw)]
   simp
  ·rw [if_neg e,I.seen v hv]
   have:¬v=w:=λh=>e h.symm
   simp [this]
theorem SeeI.next(hg:GrOk g)(F0:∀v,v∈fr↔v∈lv g (qq f f) 0 n)(I:SeeI g f n seen (fr.flatMap (nbL g 0)) l):FroI g f (n+1) seen l:=by
 have hm:∀v,v∈l↔v∈lv g (qq f f) 0 (n+1):=λv=>by
  rw [I.mem,zAD,List.mem_flatMap]
  constructor
  ·rintro⟨⟨u,hu,hw⟩,hv,hs⟩
   exact⟨qq_on n,hv,hs,u,(F0 u).1 hu,hw⟩
  ·rintro⟨_,hv,hs,u,hu,hw⟩
   exact⟨⟨u,(F0 u).2 hu,hw⟩,hv,hs⟩
 refine⟨I.len,I.nd,hm,λv hv=>?_⟩
 rw [I.seen v hv,zBa (n+1),List.mem_append,hm]
end
end Go.W
namespace Go.W
open Go
variable {B i j k m n n2:Nat} {D:Nat -> Prop} {P:Program} {a a' a2:Option Addr} {g:GrD} {u u' w w':World}
section
variable {P:Program} {k:Value->World->Prop} {pn:List PanicEntry->World->Prop} {w:World}
end
end Go.W
namespace Go.W
open Go Go.Proofs
open Enc (enc)
set_option maxRecDepth 10000
variable {B i j k m n n2:Nat} {D:Nat -> Prop} {P:Program} {a a' a2:Option Addr} {g:GrD} {u u' w w':World}
theorem zIG{x:RRow}{r:List EdN}{br v:Nat}{w0:World}[Le w0 w](hg:GrIs g)(Br:Bk w0 br (enc x) E.qj)(R:RwF w0 x g r)(hv:v<g.n):
  Sp PP F.qe #[.int .i64 (v:Int),.pointer (some ⟨br,0,none⟩)] w λrv w'=>(∃a c,rv=.slice a (nbL g 0 v).length c/\SlF w' (.slice a (nbL g 0 v).length c) (intsN (nbL g 0 v))/\∀b,nbL g 0 v≠[]->Value.blk (.slice a (nbL g 0 v).length c)=some b->b<w0.heap.size)/\Stp w w':=by
 have l1:=R.off.len;have l2:=R.to.len
 have q1:=zAv g.n g.es;have q2:=zA1 g.es
 have h2:=hg.rowI.n2
 refine en TBok rfl ?_
 refine drawR TBok mixed (λ_=>False) [0,1,2,3,4,5,6,7,8,9,10,11,12,13,14] (by kernel_rfl) λw5 e5 _=>?_
 have hm:=zBE g.es v
 have hle:=cLt_le g.es (v+1)
 refine tld (B:=Br) rfl nf (tld (B:=Br) rfl nf ?_)
 refine tix (R.off.up (w':=w5)) (zAm (v:=v) (by omega)) λb6 o6 A6 _=>tload1 (A6.cell0 rfl) nf (tld (B:=Br) rfl nf (rarE (y:=((v+1:Nat):Int)) (by omega) (by omega) (tix (R.off.up (w':=w5)) (zAm (v:=v+1) (by omega)) λb7 o7 A7 _=>tload1 (A7.cell0 rfl) nf ?_)))
 have SR:=R.to.up (w':=w5)
 refine tslD (cLt g.es v) (cLt g.es (v+1)) SR hm (by omega) ?_
 have seg:=SR.part (cLt g.es v) (cLt g.es (v+1)) hm (by omega)
 rw [zCL hg.rowI.ris v] at seg
 have e7:toL (atV g.es v)=intsN (nbL g 0 v):=by rw [zGD];unfold toL intsN rowN;rw [List.map_map];rfl
 rw [e7] at seg
 have e8:cLt g.es (v+1) - cLt g.es v=(nbL g 0 v).length:=by
  have:=seg.len
  rw [this];simp [intsN]
 rw [e8] at seg
 refine⟨⟨_,_,congrArg (λn=>Value.slice _ n _) e8,seg,λb hne hb=>?_⟩,stp⟩
 have h1:=(zGe x.to.a x.to.n _ x.to.c _ _ _).symm.trans hb
 have h3:0<(nbL g 0 v).length:=List.length_pos_iff.2 hne
 have h7:toL g.es≠[]:=by
  intro h0
  have h6:(toL g.es).length=0:=by rw [h0];rfl
  omega
 have h8:=R.to.lt h7
 obtain⟨b',h4,h5⟩:=h8
 rw [h4] at h1
 have:=Option.some.inj h1
 omega
theorem zIH{x:RRow}{r:List EdN}{br v:Nat}{w0:World}[Le w0 w](hg:GrIs g)(Br:Bk w0 br (enc x) E.qj)(R:RwF w0 x g r)(hv:v<g.n):
  Sp PP F.qi #[.int .i64 (v:Int),.pointer (some ⟨br,0,none⟩)] w λrv w'=>(∃a c,rv=.slice a (nbL g 1 v).length c/\SlF w' (.slice a (nbL g 1 v).length c) (intsN (nbL g 1 v))/\∀b,nbL g 1 v≠[]->Value.blk (.slice a (nbL g 1 v).length c)=some b->b<w0.heap.size)/\Stp w w':=by
 have l1:=R.rof.len;have l2:=R.rev.len
 have q1:=zAv g.n r;have q2:=zA1 r
 have hJ:=hg.rowR R.rev'
 have h2:=hJ.n2
 refine en TBok rfl ?_
 refine drawR TBok mixed (λ_=>False) [0,1,2,3,4,5,6,7,8,9,10,11,12,13,14] (by kernel_rfl) λw5 e5 _=>?_
 have hm:=zBE r v
 have hle:=cLt_le r (v+1)
 refine tld (B:=Br) rfl nf (tld (B:=Br) rfl nf ?_)
 refine tix (R.rof.up (w':=w5)) (zAm (v:=v) (by omega)) λb6 o6 A6 _=>tload1 (A6.cell0 rfl) nf (tld (B:=Br) rfl nf (rarE (y:=((v+1:Nat):Int)) (by omega) (by omega) (tix (R.rof.up (w':=w5)) (zAm (v:=v+1) (by omega)) λb7 o7 A7 _=>tload1 (A7.cell0 rfl) nf ?_)))
 have SR:=R.rev.up (w':=w5)
 refine tslD (cLt r v) (cLt r (v+1)) SR hm (by omega) ?_
 have seg:=SR.part (cLt r v) (cLt r (v+1)) hm (by omega)
 rw [zCL hJ.ris v] at seg
 have e7:toL (atV r v)=intsN (nbL g 1 v):=by rw [zLo hg.er R.rev'];unfold toL intsN rowN;rw [List.map_map];rfl
 rw [e7] at seg
 have e8:cLt r (v+1) - cLt r v=(nbL g 1 v).length:=by
  have:=seg.len
  rw [this];simp [intsN]
 rw [e8] at seg
 refine⟨⟨_,_,congrArg (λn=>Value.slice _ n _) e8,seg,λb hne hb=>?_⟩,stp⟩
 have h1:=(zGe x.rev.a x.rev.n _ x.rev.c _ _ _).symm.trans hb
 have h3:0<(nbL g 1 v).length:=List.length_pos_iff.2 hne
 have h7:toL r≠[]:=by
  intro h0
  have h6:(toL r).length=0:=by rw [h0];rfl
  omega
 have h8:=R.rev.lt h7
 obtain⟨b',h4,h5⟩:=h8
 rw [h4] at h1
 have:=Option.some.inj h1
 omega
def SidF (B:Nat) (w:World) (bs:Nat) (fn:FuncId) (br:Nat) (la:Option Addr) (lc:Nat) (lev:List Int) (fa:Option Addr) (fc:Nat) (fr:List Nat):Prop:=
 Bk w bs [.func (.func fn) #[] #[.pointer (some ⟨br,0,none⟩)],.slice la lev.length lc,.slice fa fr.length fc] E.q4/\Own B E.qa w (.slice la lev.length lc) lev/\SlF w (.slice fa fr.length fc) (intsN fr) /\
  (∀b,Value.blk (.slice fa fr.length fc)=some b->Value.blk (.slice la lev.length lc)≠some b/\B<=b)/\Value.blk (.slice la lev.length lc)≠some bs/\B<=bs
def SidM (B:Nat) (w:World) (bs:Nat) (fn:FuncId) (br:Nat) (la:Option Addr) (lc:Nat) (lev:List Int) (fr:List Nat):Prop:=
 ∃fa fc,SidF B w bs fn br la lc lev fa fc fr
theorem zEE{p:Nat}{fn:FuncId}{br:Nat}(hn:n<=200)(hp:p<n):
  Sp PP F.c7 #[.int .i64 (n:Int),.int .i64 (p:Int),.func (.func fn) #[] #[.pointer (some ⟨br,0,none⟩)]] w λv w'=>(∃bs la lc,v=.pointer (some ⟨bs,0,none⟩)/\SidM w.heap.size w' bs fn br la lc ((List.replicate n (-1:Int)).set p 0) [p])/\Stp w w':=by
 refine en TBok rfl ?_
 refine rmk (0:Int) rfl rfl (by omega) λgb w1 O1 s1 hgb=>?_
 have lgb:gb<w1.heap.size:=by
  have q_:=O1.lt (by intro h;have:=congrArg List.length h;rw [List.length_replicate] at this;simp at this;omega)
  obtain⟨b',h1,_,h2⟩:=q_
  cases h1;exact h2
 refine rbs (vs:=[.int .i64 (p:Int)]) [(p:Int)] rfl rfl rfl (by decide) λb2 w2 n2 S2=>?_
 have s2:Stp w1 w2:=⟨n2.ext⟩
 have hb2:=n2.lo
 have z2:=s2.e.size
 refine rbuild (cs:=[.func (.func fn) #[] #[.pointer (some ⟨br,0,none⟩)],.slice (some ⟨gb,0,none⟩) n n,.slice (some ⟨b2,0,none⟩) 1 1]) rfl (rbx λbs w3 n3 K3=>?_)
 have K3:Bk w3 bs [.func (.func fn) #[] #[.pointer (some ⟨br,0,none⟩)],.slice (some ⟨gb,0,none⟩) n n,.slice (some ⟨b2,0,none⟩) 1 1] E.q4:=K3
 have hbs:=n3.lo (u:=w2)
 have hbw:=n3.lo (u:=w)
 refine rld (B:=K3) rfl ?_
 refine cnt TBok 21 [8] 21 n (λk u=>∃L:List Int,L.length=n/\(∀v,v<k->L[v]? = some (-1))/\Own w.heap.size E.qa u (.slice (some ⟨gb,0,none⟩) n n) L/\Bk u bs [.func (.func fn) #[] #[.pointer (some ⟨br,0,none⟩)],.slice (some ⟨gb,0,none⟩) n n,.slice (some ⟨b2,0,none⟩) 1 1] E.q4/\SlF u (.slice (some ⟨b2,0,none⟩) 1 1) [(p:Int)]/\Stp w u) rfl rfl
  ⟨List.replicate n 0,by simp,λv hv=>absurd hv (by omega),O1.up (w':=w3),K3,S2.up (w':=w3),stp⟩ ?_
 rintro k G u hk ⟨L,hL,hm,O,K,S,su⟩
 refine ite (λhlt=>?_) (λhge=>?_)
 ·have hk1:k<n:=by omega
  refine rld (B:=K) rfl (rixO rfl O (x:=L[k]'(by omega)) (by simp) λg' hg' hB A=>?_)
  have hgg:gb=g':=Option.some.inj hg'
  subst hgg
  refine rstO rfl (-1:Int) O hg' (by omega) rfl λw4 O4 f4 s4 z4=>?_
  have hne:∀b,ownD w.heap.size (.slice (some ⟨gb,0,none⟩) n n) b->b=gb:=λb h=>(Option.some.inj h.2.1).symm
  have K4:=K.fr f4 λh=>by have:=hne _ h;omega
  have S4:=S.fr f4 λb hb h=>by
   have h1:=hne _ h
   have h2:b2=b:=Option.some.inj hb
   omega
  have t4:Stp w w4:=⟨Fr.st su.e f4 λi hi=>hi.1⟩
  exact rA ⟨rfl,hk1,L.set k (-1),by simp [hL],λv hv=>by
   rw [List.getElem?_set]
   by_cases e:k=v
   ·subst e;simp;omega
   ·rw [if_neg e];exact hm v (by omega),O4,K4,S4,t4⟩
 ·have hkn:k=n:=by omega
  have hLr:L=List.replicate n (-1:Int):=by
   apply List.ext_getElem?
   intro v
   have q_:=Nat.lt_or_ge v n
   rcases q_ with h|h
   ·rw [hm v (by omega),List.getElem?_replicate,if_pos h]
   ·rw [List.getElem?_eq_none (by omega),List.getElem?_eq_none (by simp;omega)]
  refine rld (B:=K) rfl (rixO rfl O (x:=L[p]'(by omega)) (by simp) λg' hg' hB A=>?_)
  have hgg:gb=g':=Option.some.inj hg'
  subst hgg
  refine rstO rfl (0:Int) O hg' (by omega) rfl λw4 O4 f4 s4 z4=>?_
  have hne:∀b,ownD w.heap.size (.slice (some ⟨gb,0,none⟩) n n) b->b=gb:=λb h=>(Option.some.inj h.2.1).symm
  have K4:=K.fr f4 λh=>by have:=hne _ h;omega
  have S4:=S.fr f4 λb hb h=>by
   have h1:=hne _ h
   have h2:b2=b:=Option.some.inj hb
   omega
  have t4:Stp w w4:=⟨Fr.st su.e f4 λi hi=>hi.1⟩
  have hln:((List.replicate n (-1:Int)).set p 0).length=n:=by simp
  refine⟨⟨bs,some ⟨gb,0,none⟩,n,rfl,some ⟨b2,0,none⟩,1,?_,?_,S4,λb hb=>⟨λh=>?_,?_⟩,λh=>?_,hbw⟩,t4⟩
  ·rw [hln];exact K4
  ·rw [hln,<-hLr];exact O4
  ·have h1:b2=b:=Option.some.inj hb
   have h2:gb=b:=Option.some.inj h
   omega
  ·have h1:b2=b:=Option.some.inj hb
   have:=Le.size (a:=w) (b:=w1)
   omega
  ·have h2:gb=bs:=Option.some.inj h
   omega
theorem rlookV{kt:TypeId}{κ:Type}[DecidableEq κ][M:MKey P kt κ]{k:Value->World->Prop}{pn:List PanicEntry->World->Prop}{t e:TypeId}{z:Value}{sz by':Nat}[ht:MapT P t kt e][he:Elem P e z sz by']{b:Nat}{m:List (κ×Value)}{xv:Value}(h:MapL P kt w b m)(x:κ)(hx:xv=M.val x){y:Value}(hv:(getM m x).getD z=y)(hk:k y w):SemV P (Instr.lookup t (.map (some b)) xv false) k pn w:=
 rlook h x hx (by rw [hv];exact hk)
theorem zJr(a b:List Nat):intsN (a++b)=intsN a++intsN b:=List.map_append
theorem zCU(a:List Nat):(intsN a).length=a.length:=List.length_map ..
theorem zB4{l:List Nat}(h:k<l.length):(intsN l)[k]? = some ((l[k]:Nat):Int):=by simp [intsN,h]
theorem SlF.frM{kt:TypeId}{κ:Type}[DecidableEq κ][M:MKey P kt κ]{α:Type}[Enc α]{v:Value}{l:List α}{bm:Nat}{m:List (κ×Value)}(h:SlF w v l)(hM:MapL P kt w bm m)(f:Fr (λi=>i=bm) w w'):SlF w' v l:=by
 by_cases h0:l=[]
 ·subst h0
  have q_:=h.shape
  obtain⟨a,c,rfl⟩:=q_
  exact SlF.nil' w' a c
 ·refine h.fr f λb hb e=>?_
  subst e
  obtain⟨a,c,rfl,_,h1⟩:=h
  rcases h1 with h1|⟨b',o,rfl,hat⟩
  ·exact h0 h1
  ·have hbb:b'=b:=Option.some.inj hb
   subst hbb
   obtain⟨⟨es,c',hm,_⟩,_⟩:=hM
   cases l with
   |nil=>exact h0 rfl
   |cons x r =>
    have:=Enc.len x
    have hp:=Enc.pos (α:=α)
    have h2:(flat (x::r))[0]? = some ((enc x)[0]'(by omega)):=by
     rw [flat_cons,List.getElem?_append_left (by omega)];simp
    have h3:=hat 0 _ h2
    unfold World.cell? at h3
    simp [hm] at h3
theorem AhI.len{lev:List Int}{P l:List Nat}{m:List (Int×Value)}(A:AhI lev P l m):l.length<=lev.length:=zB7 A.nd λx hx=>by
 have q_:=((A.mem x).1 hx).2
 obtain⟨y,hy,_⟩:=q_
 exact(List.getElem?_eq_some_iff.1 hy).1
theorem zED{bs:Nat}{fn:FuncId}{br:Nat}{la:Option Addr}{lc:Nat}{lev:List Int}{fr:List Nat}{nb:Nat->List Nat}(Q:SidM B w bs fn br la lc lev fr)(hll:lev.length<=200)(hfl:fr.length<=1000)(hnb:∀v∈fr,(nb v).length<=1000000/\∀x∈nb v,x<lev.length)
  (hN:∀v∈fr,∀u,Stp w u->Sp PP fn #[.int .i64 (v:Int),.pointer (some ⟨br,0,none⟩)] u λrv w'=>(∃a c,rv=.slice a (nb v).length c/\SlF w' (.slice a (nb v).length c) (intsN (nb v))/\∀b,nb v≠[]->Value.blk (.slice a (nb v).length c)=some b->b<w.heap.size)/\Stp u w'):
  Sp PP F.qy #[.pointer (some ⟨bs,0,none⟩)] w λv w'=>(∃l m,AhI lev (fr.flatMap nb) l m/\Own w.heap.size E.qa w' v (intsN l))/\Stp w w':=by
 obtain⟨fa,fc,K,OL,SF,hap,hab,hB⟩:=Q
 refine en TBok rfl ?_
 refine rmkNB (kt:=E.qa) (κ:=Int) rfl λbm w1 n1 M1=>?_
 have hbm:=n1.lo (u:=w)
 refine rld (B:=K) rfl (cnt1 TBok 15 [5,6,7,8] 3 15 fr.length (λk v u=>∃l m,AhI lev ((fr.take k).flatMap nb) l m/\Own w.heap.size E.qa u v (intsN l)/\MapB PP E.qa u bm m/\Stp w u) rfl rfl ⟨[],[],AhI.nil,Own.nil _ _ _,M1,stp⟩ ?_)
 rintro k v G u hk ⟨l,m,A,O,M,su⟩
 refine ite (λhlt=>?_) (λhge=>?_)
 ·have hk1:k<fr.length:=by omega
  have hfm:fr[k]∈fr:=List.getElem_mem hk1
  refine rix (SF.up (w':=u)) (zB4 hk1) λb2 o2 A2=>rload1 (A2.cell0 rfl) (rld (B:=K) rfl (rcall (hN fr[k] hfm u su) ?_))
  rintro _ w3 ⟨⟨na,nc,rfl,SN,hna⟩,e3⟩
  have hnb1:=hnb fr[k] hfm
  have hP:(fr.take (k+1)).flatMap nb=(fr.take k).flatMap nb++nb fr[k]:=by rw [zAa hk1,List.flatMap_append];simp
  refine cnt1 TBok 26 [7,8] 3 26 (nb fr[k]).length (λj v u=>∃l m,AhI lev ((fr.take k).flatMap nb++(nb fr[k]).take j) l m/\Own w.heap.size E.qa u v (intsN l)/\MapB PP E.qa u bm m/\Stp w u/\SlF u (.slice na (nb fr[k]).length nc) (intsN (nb fr[k]))) rfl rfl ⟨l,m,by simpa using A,O.up (w':=w3),M.up (w':=w3),stp,SN⟩ ?_
  clear A O M
  rintro j v4 G4 u4 hj ⟨l,m,A,O,M,su4,SN4⟩
  refine ite (λhlt2=>?_) (λhge2=>?_)
  ·have hj1:j<(nb fr[k]).length:=by omega
   have q_:∃z,z=(nb fr[k])[j]:=⟨_,rfl⟩
   obtain⟨z,hz⟩:=q_
   have hzi:(intsN (nb fr[k]))[j]? = some (z:Int):=by rw [hz];exact zB4 hj1
   have hzl:z<lev.length:=by rw [hz];exact hnb1.2 _ (List.getElem_mem hj1)
   have hPz:(fr.take k).flatMap nb++(nb fr[k]).take (j+1)=((fr.take k).flatMap nb++(nb fr[k]).take j)++[z]:=by rw [zAa hj1,<-List.append_assoc,hz]
   have hlen:=A.len
   have hil:(intsN l).length=l.length:=zCU l
   refine rix SN4 hzi λb5 o5 A5=>rload1 (A5.cell0 rfl) (rld (B:=K) rfl (rix (OL.sl.up (w':=u4)) (x:=lev[z]) (by simp) λb6 o6 A6=>rload1 (A6.cell0 rfl) (ite (λhneg=>?_) (λhneg=>?_))))
   ·have hx:∃x,lev[z]? = some x/\x<0:=⟨lev[z],by simp,hneg⟩
    have q_:=Classical.em (z∈l)
    rcases q_ with hin|hin
    ·refine rlookV M.l (z:Int) rfl (y:=.bool true) (by rw [A.map,if_pos hin];rfl) ?_
     have A':=A.skip (w:=z) (.inl hin)
     rw [<-hPz] at A'
     exact rA ⟨rfl,hj1,l,m,A',O,M,su4,SN4⟩
    ·refine rlookV M.l (z:Int) rfl (y:=.bool false) (by rw [A.map,if_neg hin];rfl) ?_
     have A':=A.add hin hx
     rw [<-hPz] at A'
     refine rupdB M (z:Int) rfl λw7 M7 f7 z7=>?_
     have t7:Stp w w7:=⟨Fr.st su4.e f7 λi hi=>by subst hi;exact hbm⟩
     have SN7:=SN4.frM M.l f7
     have O7:=O.kept (M.l.wrote (es:=[mapK]) f7 hbm (by simp)) (by decide)
     refine rbs1 (z:Int) rfl rfl (by decide) λb8 w8 e8 _ S8=>rapp1 (u:=w) ⟨rfl,rfl⟩ (O7.up (w':=w8)) S8 (by omega) λv9 w9 O9 f9 s9=>?_
     have f9:Fr (ownD w.heap.size v4) w8 w9:=f9
     have M9:=(M7.up (w':=w8)).fr f9 ((M7.up (w':=w8)).notOwn (O7.up (w':=w8)))
     have SN9:=(SN7.up (w':=w8)).fr f9 λb hb h=>by
      have:=hna b (λh0=>by rw [h0] at hj1;cases hj1) hb
      have:=h.1
      omega
     have O9':Own w.heap.size E.qa w9 v9 (intsN (l++[z])):=by rw [zJr];exact O9
     have t9:Stp w w9:=stp
     exact rA ⟨rfl,hj1,l++[z],_,A',O9',M9,t9,SN9⟩
   ·have A':=A.skip (w:=z) (.inr λ⟨x,h1,h2⟩=>by
     rw [List.getElem?_eq_getElem hzl] at h1
     have:=Option.some.inj h1
     omega)
    rw [<-hPz] at A'
    exact rA ⟨rfl,hj1,l,m,A',O,M,su4,SN4⟩
  ·have hjl:j=(nb fr[k]).length:=by omega
   rw [hjl,List.take_length,<-hP] at A
   exact rA ⟨rfl,hk1,l,m,A,O,M,su4⟩
 ·have hkl:k=fr.length:=by omega
  rw [hkl,List.take_length] at A
  exact⟨⟨l,m,A,O⟩,su⟩
theorem zE4{bs:Nat}{fn:FuncId}{br:Nat}{la:Option Addr}{lc:Nat}{lev:List Int}{fr l:List Nat}{f0:Nat}{fr':List Nat}{x:Int}{c2:Nat}(Q:SidM B w bs fn br la lc lev fr)(hll:lev.length<=200)(hfr:fr=f0::fr')(hx:lev[f0]? = some x)(hxr:-1<=x/\x<=1000)
  (hl:∀v∈l,v<lev.length)(h0:f0∉l)(hl1:l.length<=1000)(S:SlF w (.slice a2 n2 c2) (intsN l))(hs:∀b,Value.blk (.slice a2 n2 c2)=some b->Value.blk (.slice la lev.length lc)≠some b/\b≠bs/\B<=b):
  Sp PP F.df #[.pointer (some ⟨bs,0,none⟩),.slice a2 n2 c2] w λ_ w'=>SidF B w' bs fn br la lc (setAll (x+1) l lev) a2 c2 l/\Fr (λi=>i=bs\/Value.blk (.slice la lev.length lc)=some i) w w':=by
 have hn2:n2=l.length:=by rw [S.len,zCU]
 subst hn2
 obtain⟨fa,fc,K,OL,SF,hap,hab,hB⟩:=Q
 have hfl:f0<lev.length:=(List.getElem?_eq_some_iff.1 hx).1
 refine en TBok rfl ?_
 refine cnt TBok 8 [4,5] 8 l.length (λk u=>Own B E.qa u (.slice la lev.length lc) (setAll (x+1) (l.take k) lev)/\Fr (λi=>Value.blk (.slice la lev.length lc)=some i) w u) rfl rfl ⟨OL,Fr.refl _ _⟩ ?_
 rintro k G u hk ⟨O,fu⟩
 have Ku:=K.fr fu hab
 have SFu:=SF.fr fu λb hb=>(hap b hb).1
 have Su:=S.fr fu λb hb=>(hs b hb).1
 refine ite (λhlt=>?_) (λhge=>?_)
 ·have hk1:k<l.length:=by omega
  have q_:∃z,z=l[k]:=⟨_,rfl⟩
  obtain⟨z,hz⟩:=q_
  have hzi:(intsN l)[k]? = some (z:Int):=by rw [hz];exact zB4 hk1
  have hzl:z<lev.length:=by rw [hz];exact hl _ (List.getElem_mem hk1)
  have hlen:=zBs (x+1) (l.take k) lev
  have hf0:(setAll (x+1) (l.take k) lev)[f0]? = some x:=by
   rw [zCE _ _ _ _ hfl,if_neg (λh=>h0 (List.mem_of_mem_take h))];exact hx
  have hf1:(intsN fr)[0]? = some (f0:Int):=by rw [hfr];rfl
  refine rix Su hzi λb5 o5 A5=>rload1 (A5.cell0 rfl) (drawRT TBok mixed (λi=>Value.blk (.slice la lev.length lc)=some i) (.one 0 (.one 1 (.one 2 (.one 3 (.one 4 (.one 5 (.one 6 (.one 7 (.one 8 (.one 9 (.one 10 (.one 11 (.one 12 (.one 13 (.one 14 (.one 15 (.lone 16 (.one 17 (.one 18 (.one 19 .nil)))))))))))))))))))) (by kernel_rfl) λu1 e1 _=>tld (B:=Ku) rfl hab (tld (B:=Ku) rfl hab (tld (B:=Ku) rfl hab ?_)))
  refine tix (SFu.up (w':=u1)) hf1 λb6 o6 A6 hb6=>tload1 (A6.cell0 rfl) (λh=>(hap b6 hb6).1 h) (tix (O.sl.up (w':=u1)) hf0 λb7 o7 A7 _=>rload1 (A7.cell0 rfl) ⟨Fr.refl _ _,?_⟩)
  refine rA ?_
  have q_:∃y,(setAll (x+1) (l.take k) lev)[z]? = some y:=⟨_,List.getElem?_eq_getElem (by omega)⟩
  obtain⟨y,hy⟩:=q_
  refine tixO rfl (O.up (w':=u1)) hy λg8 hg8 hB8 A8=>rstO' rfl (x+1) (O.up (w':=u1)) hg8 (by omega) rfl λw9 O9 f9 z9=>⟨f9.mono λi _ hi=>hi.2.1,?_⟩
  have O10:Own B E.qa w9 (.slice la lev.length lc) (setAll (x+1) (l.take (k+1)) lev):=by rw [zAa hk1,zF8,<-hz];exact O9
  exact rA ⟨rfl,hk1,O10,(fu.trans (Fr.fr e1.e)).trans (f9.mono λi _ hi=>hi.2.1)⟩
 ·refine rsto (B:=Ku) (vs:=[.slice a2 l.length c2]) rfl rfl rfl (by intro u hu;simp at hu;subst hu;rfl) λw4 K4 f4 _=>?_
  have hkl:k=l.length:=by omega
  rw [hkl,List.take_length] at O
  have hlen:=zBs (x+1) l lev
  refine⟨⟨?_,?_,?_,λb hb=>?_,?_,hB⟩,(fu.mono λi _ hi=>.inr hi).trans (f4.mono λi _ hi=>.inl hi)⟩
  ·rw [hlen];exact K4
  ·rw [hlen];exact O.fr f4 λb _ hb h=>hab (h ▸ hb)
  ·exact Su.fr f4 λb hb h=>(hs b hb).2.1 h
  ·rw [hlen];exact⟨(hs b hb).1,(hs b hb).2.2⟩
  ·rw [hlen];exact hab
def levA (n p:Nat):List Int:=(List.replicate n (-1:Int)).set p 0
theorem zCV(n p:Nat):(levA n p).length=n:=by simp [levA]
theorem SidM.blk{bs:Nat}{fn:FuncId}{br:Nat}{la:Option Addr}{lc:Nat}{lev:List Int}{fr:List Nat}(h:SidM B w bs fn br la lc lev fr)(hl:lev≠[]):(B<=bs/\bs<w.heap.size)/\∃b,Value.blk (.slice la lev.length lc)=some b/\B<=b/\b<w.heap.size:=by
 obtain⟨fa,fc,K,O,S,h1,h2,h3⟩:=h
 exact⟨⟨h3,K.lt⟩,O.lt hl⟩
def OpenT (x:RRow) (n f t:Nat) (w:World) (v:Value) (w':World):Prop:=
 ∃ba bb br laa lca lab lcb fa fc B1 B2,v=.tuple #[.agg #[.pointer (some ⟨ba,0,none⟩),.pointer (some ⟨bb,0,none⟩)],.int .i64 0]/\SidF B1 w' ba F.qe br laa lca (levA n f) fa fc [f]/\SidM B2 w' bb F.qi br lab lcb (levA n t) [t]/\Bk w' br (enc x) E.qj /\
  w.heap.size<=br/\br<B1/\B1<=B2/\ba<B2/\(∀b,Value.blk (.slice laa (levA n f).length lca)=some b->b<B2)/\∀b,Value.blk (.slice fa 1 fc)=some b->b<B2
theorem zJe{x:RRow}{r:List EdN}{f t:Nat}(hg:GrIs g)(R:RwF w x g r)(hf:f<g.n)(ht:t<g.n):
  Sp PP F.qav #[agg x,.int .i64 (f:Int),.int .i64 (t:Int)] w λv w'=>OpenT x g.n f t w v w'/\Stp w w':=by
 have l1:=R.off.len
 have q1:=zAv g.n g.es
 have h2:=hg.ok.n2
 refine en TBok rfl ?_
 refine rbx λbr w1 n1 B1=>?_
 have B1:Bk w1 br (enc x) E.qj:=B1
 have hbr:=n1.lo (u:=w)
 have lbr:=B1.lt
 refine ral λbp w2 n2 P2=>rld (B:=B1) rfl (rarE (y:=(g.n:Int)) (by omega) (by omega) (rldG (ds:=enc x) (B:=B1) rfl rfl (rcall (zAN hg (R.up (w':=w2))) ?_)))
 rintro _ w3 ⟨rfl,e3⟩
 refine iF (by omega) (iF (by omega) (iF (by omega) (iF (by omega) (rcall (zEE (n:=g.n) (p:=f) h2 hf) ?_))))
 rintro _ w4 ⟨⟨ba,laa,lca,rfl,Sa⟩,e4⟩
 refine rcall (zEE (n:=g.n) (p:=t) h2 ht) ?_
 rintro _ w5 ⟨⟨bb,lab,lcb,rfl,Sb⟩,e5⟩
 refine rbuild (cs:=[.pointer (some ⟨ba,0,none⟩),.pointer (some ⟨bb,0,none⟩)]) rfl ?_
 have hbp:=n2.lo (u:=w)
 have lbp:=P2.lt
 have z2:=Le.size (a:=w1) (b:=w2)
 have z3:=Le.size (a:=w2) (b:=w3)
 have z4:=e4.e.size
 have z5:=e5.e.size
 have hla:levA g.n f≠[]:=λh=>by have:=congrArg List.length h;rw [zCV] at this;simp at this;omega
 have hlb:levA g.n t≠[]:=λh=>by have:=congrArg List.length h;rw [zCV] at this;simp at this;omega
 have Sa:SidM w3.heap.size w4 ba F.qe br laa lca (levA g.n f) [f]:=Sa
 have Sb:SidM w4.heap.size w5 bb F.qi br lab lcb (levA g.n t) [t]:=Sb
 have q_:=Sa.blk hla
 obtain⟨ha1,pa,hpa1,hpa2⟩:=q_
 have q_:=Sb.blk hlb
 obtain⟨hb1,pb,hpb1,hpb2⟩:=q_
 refine rsto (B:=P2.mv (w:=w5)) (vs:=[.pointer (some ⟨ba,0,none⟩),.pointer (some ⟨bb,0,none⟩)]) rfl rfl rfl (by intro u hu;simp at hu;rcases hu with rfl|rfl <;> rfl) λw6 P6 f6 _=>?_
 have t6:Stp w w6:=⟨Fr.st (Le.e (a:=w) (b:=w5)) f6 λi hi=>by omega⟩
 refine rresG (B:=P6) rfl ?_
 obtain⟨fa,fc,K,O,S,h1,h2,h3⟩:=Sa
 have q_:=S.lt (by intro h;cases h)
 obtain⟨bf,hbf1,hbf2⟩:=q_
 have hbf:∀b,Value.blk (.slice fa 1 fc)=some b->b<w4.heap.size:=λb hb=>by
  have h:some bf=some b:=hbf1.symm.trans hb
  have:=Option.some.inj h
  omega
 have fa6:SidF w3.heap.size w6 ba F.qe br laa lca (levA g.n f) fa fc [f]:=by
  refine⟨(K.mv (w:=w5)).fr f6 (by omega),(O.up (w':=w5)).fr f6 λb _ hb e=>?_,(S.up (w':=w5)).fr f6 λb hb e=>?_,h1,h2,h3⟩
  ·rw [hb] at hpa1;have:=Option.some.inj hpa1;omega
  ·have:=(h1 b hb).2;omega
 have fb6:SidM w4.heap.size w6 bb F.qi br lab lcb (levA g.n t) [t]:=by
  obtain⟨fa,fc,K,O,S,h1,h2,h3⟩:=Sb
  refine⟨fa,fc,K.fr f6 (by omega),O.fr f6 λb _ hb e=>?_,S.fr f6 λb hb e=>?_,h1,h2,h3⟩
  ·rw [hb] at hpb1;have:=Option.some.inj hpb1;omega
  ·have:=(h1 b hb).2;omega
 have fr6:Bk w6 br (enc x) E.qj:=(B1.mv (w:=w5)).fr f6 (by have:=n2.b;omega)
 have pae:∀b,Value.blk (.slice laa (levA g.n f).length lca)=some b->b=pa:=λb h=>by rw [h] at hpa1;exact Option.some.inj hpa1
 exact⟨⟨ba,bb,br,laa,lca,lab,lcb,fa,fc,w3.heap.size,w4.heap.size,rfl,fa6,fb6,fr6,hbr,by omega,by omega,by omega,λb h=>by have:=pae b h;omega,hbf⟩,t6⟩
theorem zMs{f t:Nat}(hf:f<g.n)(ht:t<g.n):LevI g (qq f t) 0 0 (levA g.n f) [f]/\LevI g (qq f t) 1 0 (levA g.n t) [t]:=⟨zE2 (.inl rfl) src0 hf,zE2 (.inr rfl) src1 ht⟩
theorem LevI.fl{f t d:Nat}{dir:Int}{lev:List Int}{fr:List Nat}(I:LevI g (qq f t) dir d lev fr)(hf:f<g.n)(ht:t<g.n):∀v∈fr,v<g.n:=λv hv=>lv_lt (qq_ok hf ht) ((I.fr v).1 hv)
theorem nb_len(hg:GrIs g)(dir:Int)(v:Nat):(nbL g dir v).length<=1000000:=by
 have:=hg.rowI.len
 unfold nbL
 split
 ·rw [List.length_map];have:=List.length_filter_le (λe=>e.t==v) g.es;omega
 ·rw [List.length_map];have:=List.length_filter_le (λe=>e.f==v) g.es;omega
theorem zMe{x:RRow}{r:List EdN}{f t d bb br:Nat}{lab:Option Addr}{lcb:Nat}{lev:List Int}{fr:List Nat}(hg:GrIs g)(R:RwF w x g r)(hf:f<g.n)(ht:t<g.n)(Br:Bk w br (enc x) E.qj)(I:LevI g (qq f t) 1 d lev fr)(hnd:fr.length<=200)
  (Q:SidM B w bb F.qi br lab lcb lev fr):Sp PP F.qy #[.pointer (some ⟨bb,0,none⟩)] w λv w'=>(∃l,l.Nodup/\(∀y,y∈l↔y∈lv g (qq f t) 1 (d+1))/\Own w.heap.size E.qa w' v (intsN l))/\Stp w w':=
 (zED (nb:=nbL g 1) Q (by rw [I.len];exact hg.ok.n2) (by omega) (λv hv=>⟨nb_len hg 1 v,λy hy=>by rw [I.len];exact nb_lt hg.ok hy⟩) (λv hv u e=>by
  have:=zIH (w0:=w) (w:=u) hg Br R (I.fl hf ht v hv)
  exact this)).mono λv w' ⟨⟨l,m,A,O⟩,e⟩=>⟨⟨l,A.nd,zHS hg.ok hf ht I A,O⟩,e⟩
theorem zBl{x:RRow}{r:List EdN}(hg:GrIs g)(R:RwF w x g r):Sp PP F.da #[agg x] w λv w'=>v=.int .i64 (g.n:Int)/\Stp w w':=by
 have l1:=R.off.len
 have q1:=zAv g.n g.es
 have h2:=hg.ok.n2
 refine en TBok rfl ?_
 refine rbx λb w1 n1 B1=>?_
 have B1:Bk w1 b (enc x) E.qt:=B1
 refine rld (B:=B1) rfl ?_
 exact rarE (y:=(g.n:Int)) (by omega) (by omega) ⟨rfl,stp⟩
theorem zIK{x:RRow}{r:List EdN}{f:Nat}{c:Nat}(hg:GrIs g)(R:RwF w x g r)(hf:f<g.n)(S:SlF w (.slice a 1 c) [(f:Int)]):
  Sp PP F.qal #[agg x,.slice a 1 c] w λv w'=>v=.tuple #[agg x,.int .i64 0]/\Stp w w':=by
 have h2:=hg.ok.n2
 refine en TBok rfl ?_
 refine rbx λb w1 n1 B1=>?_
 have B1:Bk w1 b (enc x) E.qj:=B1
 refine ral λbz w2 n2 Z2=>rldG (ds:=enc x) (B:=B1) rfl rfl (rbuild (cs:=enc x) rfl (ral λbw w3 n3 Y3=>?_))
 have hbw:=n3.lo (u:=w2)
 have hbz:=n2.lo (u:=w1)
 have lbz:=Z2.lt
 refine rsto (B:=Y3) (vs:=enc x) rfl rfl rfl (Enc.one _) λw4 Y4 f4 _=>?_
 have Y4:Bk w4 bw (enc x) E.qt:=Y4
 have s4:Stp w2 w4:=⟨Fr.st (Le.e (a:=w2) (b:=w3)) f4 λi hi=>by omega⟩
 refine rldG (ds:=enc x) (B:=B1.mv (w:=w4)) rfl rfl (rcall (zAN hg (R.up (w':=w4))) ?_)
 rintro _ w5 ⟨rfl,e5⟩
 refine cnt TBok 17 [5,8] 17 1 (λ_ u=>Stp w5 u) rfl rfl stp ?_
 rintro k G u hk su
 refine ite (λhlt=>?_) (λhge=>?_)
 ·have hk0:k=0:=by omega
  have hi:([(f:Int)]:List Int)[k]? = some (f:Int):=by rw [hk0];rfl
  refine rix (S.up (w':=u)) hi λb6 o6 A6=>rload1 (A6.cell0 rfl) (iF (by omega) (rldG (ds:=enc x) (B:=Y4.mv (w:=u)) rfl rfl (rcall (zBl hg (R.up (w':=u))) ?_)))
  rintro _ u7 ⟨rfl,e7⟩
  refine iF (by omega) ?_
  exact rA ⟨rfl,by omega,stp⟩
 ·refine rldG (ds:=enc x) (B:=Y4.mv (w:=u)) rfl rfl (rsto (B:=Z2.mv (w:=u)) (vs:=enc x) rfl rfl rfl (Enc.one _) λu8 Z8 f8 _=>?_)
  have s8:Stp w u8:=⟨Fr.st (Le.e (a:=w) (b:=u)) f8 λi hi=>by have:=Le.size (a:=w) (b:=w1);omega⟩
  have Z8:Bk u8 bz (enc x) E.qt:=Z8
  refine rresG (B:=Z8) rfl ?_
  exact⟨rfl,s8⟩
theorem zFO{x:RRow}{r:List EdN}{v:Nat}{w0:World}[Le w0 w](hg:GrIs g)(R:RwF w0 x g r)(hv:v<g.n):
  Sp PP F.qg #[agg x,.int .i64 (v:Int)] w λrv w'=>(∃a c,rv=.slice a (nbL g 0 v).length c/\SlF w' (.slice a (nbL g 0 v).length c) (intsN (nbL g 0 v))/\∀b,nbL g 0 v≠[]->Value.blk (.slice a (nbL g 0 v).length c)=some b->toL g.es≠[]/\Value.blk (.slice x.to.a x.to.n x.to.c)=some b)/\Stp w w':=by
 have l1:=R.off.len;have l2:=R.to.len
 have q1:=zAv g.n g.es;have q2:=zA1 g.es
 have h2:=hg.rowI.n2
 refine en TBok rfl ?_
 refine rbx λb w1 n1 B1=>?_
 have B1:Bk w1 b (enc x) E.qt:=B1
 refine drawR TBok mixed (λ_=>False) (upF 18 0) (by kernel_rfl) λw5 e5 _=>?_
 have hm:=zBE g.es v
 have hle:=cLt_le g.es (v+1)
 refine tld (B:=B1) rfl nf (tld (B:=B1) rfl nf ?_)
 refine tix (R.off.up (w':=w5)) (zAm (v:=v) (by omega)) λb6 o6 A6 _=>tload1 (A6.cell0 rfl) nf (tld (B:=B1) rfl nf (rarE (y:=((v+1:Nat):Int)) (by omega) (by omega) (tix (R.off.up (w':=w5)) (zAm (v:=v+1) (by omega)) λb7 o7 A7 _=>tload1 (A7.cell0 rfl) nf ?_)))
 have SR:=R.to.up (w':=w5)
 refine tslD (cLt g.es v) (cLt g.es (v+1)) SR hm (by omega) ?_
 have seg:=SR.part (cLt g.es v) (cLt g.es (v+1)) hm (by omega)
 rw [zCL hg.rowI.ris v] at seg
 have e7:toL (atV g.es v)=intsN (nbL g 0 v):=by rw [zGD];unfold toL intsN rowN;rw [List.map_map];rfl
 rw [e7] at seg
 have e8:cLt g.es (v+1) - cLt g.es v=(nbL g 0 v).length:=by
  have:=seg.len
  rw [this];simp [intsN]
 rw [e8] at seg
 refine⟨⟨_,_,congrArg (λn=>Value.slice _ n _) e8,seg,λb hne hb=>⟨λh0=>?_,(zGe ..).symm.trans hb⟩⟩,stp⟩
 have h1:(toL g.es).length=0:=by rw [h0];rfl
 have h3:0<(nbL g 0 v).length:=List.length_pos_iff.2 hne
 omega
theorem zFa{x:RRow}:Sp PP F.dc #[agg x,.bool false] w λv w'=>v=.func (.func F.qg) #[agg x] #[]/\Stp w w':=by
 refine en TBok rfl ?_
 refine rbx λb w1 n1 B1=>?_
 have B1:Bk w1 b (enc x) E.qt:=B1
 refine rldG (ds:=enc x) (B:=B1) rfl rfl ?_
 exact⟨rfl,stp⟩
instance:Elem PP 119 .nilFunc 1 8:=⟨by kernel_rfl⟩
instance:Size PP 119 1:=⟨by kernel_rfl⟩
theorem zEc{x:RRow}{f:Int}:Sp PP F.pk #[agg x,.int .i64 f,.bool false] w λv w'=>(∃b1 b2 b3,v=.func (.func F.qp) #[] #[.pointer (some ⟨b1,0,none⟩),.pointer (some ⟨b2,0,none⟩),.pointer (some ⟨b3,0,none⟩)] /\
   (w.heap.size<=b1/\w.heap.size<=b2/\w.heap.size<=b3)/\Bk w' b1 (enc x) E.qt/\Bk w' b2 [.int .i64 f] E.qa/\∃e,Bk w' b3 [.func (.func F.qg) #[agg x] #[]] e)/\Stp w w':=by
 refine en TBok rfl ?_
 refine rbx λb1 w1 n1 B1=>?_
 have B1:Bk w1 b1 (enc x) E.qt:=B1
 refine rbx λb2 w2 n2 B2=>rldG (ds:=enc x) (B:=B1) rfl rfl (rcall zFa ?_)
 rintro _ w3 ⟨rfl,e3⟩
 refine ral λb3 w4 n4 B4=>rsto (B:=B4) (vs:=[.func (.func F.qg) #[agg x] #[]]) rfl rfl rfl (by intro u hu;simp at hu;subst hu;rfl) λw5 B5 f5 _=>?_
 have h3:=n4.lo (u:=w2)
 have h1:=n1.lo (u:=w);have h2:=n2.lo (u:=w);have h3:=n4.lo (u:=w)
 have s5:Stp w3 w5:=⟨Fr.st (Le.e (a:=w3) (b:=w4)) f5 λi hi=>by subst hi;exact n4.lo⟩
 exact⟨⟨b1,b2,b3,rfl,⟨h1,h2,h3⟩,B1.mv,B2.mv,_,B5⟩,stp⟩
theorem Own.kp{α:Type}[Enc α]{X:Nat->Prop}{C:Nat}{e:TypeId}{v:Value}{l:List α}(h:Own C e u v l)(k:Kp X u u')(hX:∀b,Value.blk v=some b->X b):Own C e u' v l:=by
 rcases h with h|h
 ·exact .inl h
 ·refine .inr ⟨h.1,?_⟩
  have q_:=h.2
  rcases q_ with hn|⟨g,cap,cur,rfl,hb,hg,rest⟩
  ·exact .inl hn
  ·exact .inr ⟨g,cap,cur,rfl,hb,k.k _ _ hg rfl (hX g rfl),rest⟩
theorem SlF.blt{α:Type}[Enc α]{v:Value}{l:List α}(h:SlF w v l)(hl:l≠[]){g:Nat}(hg:Value.blk v=some g):g<w.heap.size:=by
 have q_:=h.lt hl
 obtain⟨g',h1,h2⟩:=q_
 rw [hg] at h1;cases h1;exact h2
abbrev KX (C lr:Nat):Nat->Prop:=λi=>i<C/\i≠lr
structure RnX (x:RRow) (g:GrD) (r:List EdN) (X:Nat->Prop):Prop where
 o:offL g.n g.es≠[]->∀b,Value.blk (.slice x.off.a x.off.n x.off.c)=some b->X b
 t:toL g.es≠[]->∀b,Value.blk (.slice x.to.a x.to.n x.to.c)=some b->X b
 p:offL g.n r≠[]->∀b,Value.blk (.slice x.rof.a x.rof.n x.rof.c)=some b->X b
 v:toL r≠[]->∀b,Value.blk (.slice x.rev.a x.rev.n x.rev.c)=some b->X b
theorem RwF.kp{x:RRow}{r:List EdN}{X:Nat->Prop}(h:RwF u x g r)(n:RnX x g r X)(k:Kp X u u'):RwF u' x g r:=
 ⟨h.rev',h.off.kp k n.o,h.to.kp k n.t,h.rof.kp k n.p,h.rev.kp k n.v⟩
structure FroD (x:RRow) (g:GrD) (r:List EdN) (f b1 b2 b3 C lr:Nat) (u:World):Prop where
 w:Bk u b1 (enc x) E.qt
 f:Bk u b2 [.int .i64 (f:Int)] E.qa
 n:∃e,Bk u b3 [.func (.func F.qg) #[agg x] #[]] e
 R:RwF u x g r
 ne:KX C lr b1/\KX C lr b2/\KX C lr b3
 rn:RnX x g r (KX C lr)
theorem FroD.kp{x:RRow}{r:List EdN}{f b1 b2 b3 C lr:Nat}(h:FroD x g r f b1 b2 b3 C lr u)(k:Kp (KX C lr) u u'):FroD x g r f b1 b2 b3 C lr u':=by
 have q_:=h.n
 obtain⟨e,hn⟩:=q_
 exact⟨h.w.kp k h.ne.1,h.f.kp k h.ne.2.1,⟨e,hn.kp k h.ne.2.2⟩,h.R.kp h.rn k,h.ne,h.rn⟩
def FrN (g:GrD) (f C n:Nat) (x:List Value) (u:World):Prop:=∃fa fc fr,x=[.int .i64 (n:Int),.slice fa (List.length fr) fc]/\SlF u (.slice fa fr.length fc) (intsN fr)/\(∀b,Value.blk (.slice fa fr.length fc)=some b->C<=b)/\fr.Nodup/\∀v,v∈fr↔v∈lv g (qq f f) 0 n
theorem SeeI.lt{f:Nat}{seen:List Bool}{P l:List Nat}(I:SeeI g f n seen P l):l.length<=g.n:=zB7 I.nd λx hx=>((I.mem x).1 hx).2.1
theorem zNY{seen:List Bool}{z:Nat}(hz:z<seen.length):∃b,seen[z]? = some b:=⟨_,List.getElem?_eq_getElem hz⟩
theorem zLP{x : RRow}{r : List EdN}{f b1 b2 b3 C lr : Nat}(hg : GrIs g)(hf : f < g.n) :
    SeqG PP F.qp [] [.pointer (some ⟨b1, 0, none⟩), .pointer (some ⟨b2, 0, none⟩), .pointer (some ⟨b3, 0, none⟩)] (Fr λi => C <= i) (Kp λi => i ≠ lr)
      (λu => FroD x g r f b1 b2 b3 C lr u /\ C <= u.heap.size /\ lr < C) (λys y u => FrN g f C ys.length y u) (λys => ∀ v, v ∉ lv g (qq f f) 0 ys.length) := by
  refine ⟨λy J Jx w hJ hJx hY h0 ⟨D0, hC, hlr⟩ => ?_⟩
  have h2 := hg.ok.n2
  refine en TBok rfl ?_
  refine rldG (ds := enc x) (B := D0.w) rfl rfl (rcall (zBl hg D0.R) ?_)
  rintro _ w1 ⟨rfl, e1⟩
  refine rmk false rfl rfl (by omega) λgb w2 O2 s2 hgb => ?_
  have z1 := Le.size (a := w) (b := w1)
  refine rld (B := D0.f) rfl ?_
  have hlen0 : (List.replicate g.n false).length = g.n := List.length_replicate
  refine rixO rfl O2 (x := false) (i := f) (by rw [List.getElem?_replicate, if_pos hf]) λg' hg' hB A => ?_
  have hgg : gb = g' := Option.some.inj hg'
  subst hgg
  refine rstO rfl true O2 hg' (by omega) rfl λw3 O3 f3 s3 z3 => ?_
  have s13 : Stp w1 w3 := ⟨Fr.st s2.e f3 λi hi => hi.1⟩
  refine drawR TBok mixed (λ_ => False) [0,2,1,3] (by kernel_rfl) λw4 e4 _ => (tld (B := D0.f) rfl nf (rbs (vs := [.int .i64 (f : Int)]) [(f : Int)] rfl rfl rfl (by decide) λbf w5 n5 S5 => ⟨Fr.fr n5.ext, ?_⟩))
  have hbf := n5.lo
  have z4 := e4.e.size
  have hgl : gb < w4.heap.size := by
    obtain ⟨b', h1, _, h3⟩ := O3.lt (by intro h; have := congrArg List.length h; simp at this; omega)
    have h1 := Option.some.inj h1
    simp only at h1
    omega
  have q5 : Fr (λi => C <= i) w w5 := ((Fr.fr e1.e).trans (Fr.fr s13.e)).trans ((Fr.fr e4.e).trans (Fr.fr n5.ext))
  have O5 := ((O3.mono (B' := C) (by omega)).up (w' := w4)).ext n5.ext
  have z5 := q5.size
  have k5 : Kp (KX C lr) w w5 := .of_fr q5 λi hi => by have := hi.1; omega
  refine loop2 TBok 21 [8, 9, 10, 11, 12] 6 7 (λv6 v7 u => ∃ ys seen fr fa fc, v6 = .int .i64 ((List.length ys : Nat) : Int) /\ v7 = .slice fa fr.length fc /\ J ys u /\ FroD x g r f b1 b2 b3 C lr u /\ Own C E.q6 u (.slice (some ⟨gb, 0, none⟩) g.n g.n) seen /\
      SlF u (.slice fa fr.length fc) (intsN fr) /\ (fr ≠ [] -> ∀ b, Value.blk (.slice fa fr.length fc) = some b -> C <= b /\ b ≠ gb) /\ FroI g f ys.length seen fr /\ C <= u.heap.size) (λv _ _ => g.n + 1 - (Go.RowKit.intOf v).toNat) rfl
    ⟨[], _, [f], some ⟨bf, 0, none⟩, 1, rfl, rfl, hJ _ _ _ h0 q5, D0.kp k5, O5, S5, λ_ b hb => ?_, FroI.first hf, by omega⟩ ?_
  · have := Option.some.inj hb
    simp only at this
    omega
  rintro v6 v7 G u ⟨ys, seen, fr, fa, fc, rfl, rfl, hj, D, O, S, hS, I, hCu⟩
  refine ite (λhgt => ?_) (λhle => ?_)
  · have hfn : fr ≠ [] := λh => by rw [h] at hgt; exact absurd hgt (by decide)
    have hnl : ys.length < g.n := by
      have q_ := List.exists_mem_of_ne_nil _ hfn
      obtain ⟨v, hv⟩ := q_
      exact zEd (dir := 0) (qq_ok hf hf) (List.ne_nil_of_mem ((I.mem v).1 hv))
    have hfl : fr.length <= g.n := zB7 I.nd λv hv => lv_lt (qq_ok hf hf) ((I.mem v).1 hv)
    refine ryield (vs := [.int .i64 ((ys.length : Nat) : Int), .slice fa fr.length fc]) rfl rfl rfl rfl (hY ys u _ ⟨fa, fc, fr, rfl, S, λb hb => (hS hfn b hb).1, I.nd, I.mem⟩ hj) ?_
    rintro bb u1 ⟨⟨rfl, hj1⟩ | ⟨rfl, hx⟩, hK⟩
    · have kX : Kp (KX C lr) u u1 := ⟨λb o h1 h2 h3 => hK.k b o h1 h2 h3.2⟩
      have D1 := D.kp kX
      have O1 := O.kp hK λb hb => by have := Option.some.inj hb; simp only at this; omega
      have S1 := S.kp hK λ_ b hb => by have := (hS hfn b hb).1; omega
      have hS1 : ∀ b, Value.blk (.slice fa fr.length fc) = some b -> b < u1.heap.size := λb hb => S1.blt (by intro h; apply hfn; simpa [intsN] using h) hb
      obtain ⟨_, hgb1, _, hgl1⟩ := O1.lt (by intro h; have := I.len; rw [h] at this; simp at this; omega)
      have hgb1 := Option.some.inj hgb1
      simp only at hgb1
      subst hgb1
      have hC1 : C <= u1.heap.size := by omega
      refine cnt1 TBok 35 [9, 10, 11, 12] 8 34 fr.length (λk v u2 => ∃ seen2 l, SeeI g f ys.length seen2 ((fr.take k).flatMap (nbL g 0)) l /\ Own C E.q6 u2 (.slice (some ⟨gb, 0, none⟩) g.n g.n) seen2 /\ Own u1.heap.size E.qa u2 v (intsN l) /\ Fr (λi => i = gb \/ u1.heap.size <= i) u1 u2) rfl rfl
        ⟨seen, [], I.begin, O1, Own.nil _ _ _, Fr.refl _ _⟩ ?_
      · rintro k v8 G2 u2 hk ⟨seen2, l2, I2, O2, A2, F2⟩
        have kp2 : ∀ u3, Fr (λi => i = gb \/ u1.heap.size <= i) u1 u3 -> FroD x g r f b1 b2 b3 C lr u3 := λu3 F3 => D1.kp (.of_fr F3 λi hi h => by have := hi.1; omega)
        have z2 := F2.size
        refine ite (λhlt => ?_) (λhge => ?_)
        · have hk1 : k < fr.length := by omega
          have S2 := S1.fr F2 λb hb h => by have := hS hfn b hb; have := hS1 b hb; omega
          have D2 := kp2 u2 F2
          have q_ := D2.n
          obtain ⟨e3, B3⟩ := q_
          have hvn : fr[k] < g.n := lv_lt (qq_ok hf hf) ((I.mem _).1 (List.getElem_mem hk1))
          refine rix S2 (zB4 hk1) λb4 o4 A4 => rload1 (A4.cell0 rfl) (rld (B := B3) rfl (rcall (zFO hg D2.R hvn) ?_))
          rintro _ u3 ⟨⟨na, nc, rfl, SN, hna⟩, e4⟩
          have hnb1 := nb_len hg 0 fr[k]
          have hP : (fr.take (k + 1)).flatMap (nbL g 0) = (fr.take k).flatMap (nbL g 0) ++ nbL g 0 fr[k] := by rw [zAa hk1, List.flatMap_append]; simp
          have F3 : Fr (λi => i = gb \/ u1.heap.size <= i) u1 u3 := F2.trans (Fr.fr e4.e)
          refine cnt1 TBok 43 [11, 12] 8 42 (nbL g 0 fr[k]).length (λj v u4 => ∃ seen2 l, SeeI g f ys.length seen2 ((fr.take k).flatMap (nbL g 0) ++ (nbL g 0 fr[k]).take j) l /\ Own C E.q6 u4 (.slice (some ⟨gb, 0, none⟩) g.n g.n) seen2 /\ Own u1.heap.size E.qa u4 v (intsN l) /\ Fr (λi => i = gb \/ u1.heap.size <= i) u1 u4 /\
              SlF u4 (.slice na (nbL g 0 fr[k]).length nc) (intsN (nbL g 0 fr[k]))) rfl rfl
            ⟨seen2, l2, by simpa using I2, O2.up (w' := u3), A2.up (w' := u3), F3, SN⟩ ?_
          clear I2 O2 A2
          rintro j v4 G4 u4 hj4 ⟨seen4, l4, I4, O4, A4', F4, SN4⟩
          have z4 := F4.size
          refine ite (λhlt2 => ?_) (λhge2 => ?_)
          · have hj1 : j < (nbL g 0 fr[k]).length := by omega
            have q_ : ∃ z, z = (nbL g 0 fr[k])[j] := ⟨_, rfl⟩
            obtain ⟨z, hz⟩ := q_
            have hzi : (intsN (nbL g 0 fr[k]))[j]? = some (z : Int) := by rw [hz]; exact zB4 hj1
            have hzn : z < g.n := by rw [hz]; exact nb_lt hg.ok (List.getElem_mem hj1)
            have hPz : (fr.take k).flatMap (nbL g 0) ++ (nbL g 0 fr[k]).take (j + 1) = ((fr.take k).flatMap (nbL g 0) ++ (nbL g 0 fr[k]).take j) ++ [z] := by rw [zAa hj1, <- List.append_assoc, hz]
            have hlen := I4.lt
            have hil : (intsN l4).length = l4.length := zCU l4
            have q_ := zNY (seen := seen4) (z := z) (by rw [I4.len]; exact hzn)
            obtain ⟨sb, hsb⟩ := q_
            refine rix SN4 hzi λb5 o5 A5 => rload1 (A5.cell0 rfl) (rix (i := z) O4.sl hsb λb6 o6 A6 => rload1 (A6.cell0 rfl) ?_)
            cases sb with
            | true =>
              have I5 := I4.skip hzn hsb
              rw [<- hPz] at I5
              exact rA ⟨rfl, hj1, seen4, l4, I5, O4, A4', F4, SN4⟩
            | false =>
              have I5 := I4.add hzn (by rw [hsb]; simp)
              rw [<- hPz] at I5
              refine rixO rfl O4 (i := z) hsb λg7 hg7 hB7 A7 => ?_
              have hgg : gb = g7 := Option.some.inj hg7
              subst hgg
              refine rstO' rfl true O4 hg7 (by rw [I4.len]; exact hzn) rfl λw7 O7 f7 z7 => ?_
              have hne : ∀ b, ownD C (.slice (some ⟨gb, 0, none⟩) g.n g.n) b -> b = gb := λb h => (Option.some.inj h.2.1).symm
              have A7 := A4'.fro O4 f7 (by decide)
              have SN7 := SN4.fr f7 λb hb h => by
                obtain ⟨q1, q2⟩ := hna b (λh0 => by rw [h0] at hj1; cases hj1) hb
                have := (D0.rn.t q1 b q2).1
                have := hne b h
                omega
              have F7 : Fr (λi => i = gb \/ u1.heap.size <= i) u1 w7 := F4.trans (f7.mono λi _ hi => .inl (hne i hi))
              refine rbs1 (z : Int) rfl rfl (by decide) λb8 w8 e8 _ S8 => ?_
              have z8 := e8.e.size
              refine rappB ⟨rfl, rfl⟩ (A7.up (w' := w8)) S8 (by omega) (by simp only [List.length_cons, List.length_nil]; omega) λv9 w9 O9 f9 => ?_
              have O9' : Own u1.heap.size E.qa w9 v9 (intsN (l4 ++ [z])) := by rw [zJr]; exact O9
              have B9 := (O7.up (w' := w8)).fro (A7.up (w' := w8)) f9 (by decide)
              have SN9 := (SN7.up (w' := w8)).fr f9 λb hb h => by
                obtain ⟨q1, q2⟩ := hna b (λh0 => by rw [h0] at hj1; cases hj1) hb
                have := (D0.rn.t q1 b q2).1
                have := h.1
                omega
              have F9 : Fr (λi => i = gb \/ u1.heap.size <= i) u1 w9 := (F7.trans (Fr.fr e8.e)).trans (f9.mono λi _ hi => .inr hi.1)
              exact rA ⟨rfl, hj1, _, l4 ++ [z], I5, B9, O9', F9, SN9⟩
          · have hjl : j = (nbL g 0 fr[k]).length := by omega
            rw [hjl, List.take_length, <- hP] at I4
            exact rA ⟨rfl, hk1, seen4, l4, I4, O4, A4', F4⟩
        · have hkl : k = fr.length := by omega
          rw [hkl, List.take_length] at I2
          have hlen := I2.lt
          have I3 := I2.next hg.ok I.mem
          have hysl : (ys ++ [[Value.int .i64 ((ys.length : Nat) : Int), Value.slice fa fr.length fc]]).length = ys.length + 1 := by simp
          have q_ := A2.shape
          obtain ⟨aa, ac, rfl⟩ := q_
          rw [zCU] at A2 ⊢
          refine rA ⟨⟨_, seen2, l2, aa, ac, ?_, rfl, hJ _ _ _ hj1 (F2.mono λi _ hi => by omega), kp2 u2 F2, O2, A2.sl, λhl b hb => ?_, by rw [hysl]; exact I3, by omega⟩, ?_⟩
          · rw [hysl]; rfl
          · obtain ⟨b', h1, h3, _⟩ := A2.lt (by intro h; apply hl; simpa [intsN] using h)
            rw [hb] at h1
            have := Option.some.inj h1
            omega
          · show g.n + 1 - (((ys.length : Nat) : Int) + 1).toNat < g.n + 1 - (((ys.length : Nat) : Int)).toNat
            omega
    · exact .inr hx
  · have hfe : fr = [] := by
      cases fr with
      | nil => rfl
      | cons a b => exact absurd (by simp only [List.length_cons]; omega) hle
    refine .inl ⟨ys, λv hv => ?_, hj⟩
    have := (I.mem v).2 hv
    rw [hfe] at this
    cases this
section
variable {P:Program} {k:Value->World->Prop} {pn:List PanicEntry->World->Prop} {w:World}
theorem zNO{X Y:Operand}{t:TypeId}{x:Nat}(hx:x<4294967296)(w:World):(do eqGuard .and t X Y (.int .u64 (x:Int)) (.int .u64 4294967295);binOp .and t (.int .u64 (x:Int)) (.int .u64 4294967295):Sem Value).run P w=.ok (.int .u64 (x:Int)) w:=by
 have g:(eqGuard .and t X Y (.int .u64 (x:Int)) (.int .u64 4294967295)).run P w=.ok () w:=rfl
 rw [Sem.run_bind,g,Result.andThen_ok]
 have e1:(BitVec.ofInt 64 (x:Int) &&& BitVec.ofInt 64 ((4294967295:Nat):Int)).toNat=x:=by
  rw [BitVec.ofInt_natCast,BitVec.ofInt_natCast,BitVec.toNat_and,BitVec.toNat_ofNat,BitVec.toNat_ofNat,Nat.mod_eq_of_lt (by omega),Nat.mod_eq_of_lt (by omega)]
  exact Nat.and_two_pow_sub_one_of_lt_two_pow (n:=32) hx
 have e2:(binOp .and t (.int .u64 (x:Int)) (.int .u64 4294967295)).run P w=.ok (.int .u64 (IntKind.u64.wrap ((BitVec.ofInt 64 (x:Int) &&& BitVec.ofInt 64 ((4294967295:Nat):Int)).toNat:Nat))) w:=rfl
 rw [e2,e1]
 have e3:IntKind.u64.wrap ((x:Nat):Int)=(x:Int):=by
  simp [IntKind.wrap,IntKind.signed,IntKind.bits];omega
 rw [e3]
theorem randU{X Y:Operand}{t:TypeId}{x:Nat}(hx:x<4294967296)(hk:k (.int .u64 (x:Int)) w):SemV P (do eqGuard .and t X Y (.int .u64 (x:Int)) (.int .u64 4294967295);binOp .and t (.int .u64 (x:Int)) (.int .u64 4294967295)) k pn w:=
 SemV.of (zNO hx w) hk
theorem zNV{X Y:Operand}{t:TypeId}{x:Nat}(hx:x<4294967296)(w:World):(do eqGuard .shr t X Y (.int .u64 (x:Int)) (.int .u64 32);binOp .shr t (.int .u64 (x:Int)) (.int .u64 32):Sem Value).run P w=.ok (.int .u64 0) w:=by
 have g:(eqGuard .shr t X Y (.int .u64 (x:Int)) (.int .u64 32)).run P w=.ok () w:=rfl
 rw [Sem.run_bind,g,Result.andThen_ok]
 have e:(binOp .shr t (.int .u64 (x:Int)) (.int .u64 32)).run P w=.ok (.int .u64 ((x:Int).fdiv (2 ^ 32))) w:=rfl
 have e2:(x:Int).fdiv (2 ^ 32)=0:=by
  rw [Int.fdiv_eq_ediv_of_nonneg _ (by decide)]
  exact Int.ediv_eq_zero_of_lt (by omega) (by omega)
 rw [e,e2]
theorem rshrU{X Y:Operand}{t:TypeId}{x:Nat}(hx:x<4294967296)(hk:k (.int .u64 0) w):SemV P (do eqGuard .shr t X Y (.int .u64 (x:Int)) (.int .u64 32);binOp .shr t (.int .u64 (x:Int)) (.int .u64 32)) k pn w:=
 SemV.of (zNV hx w) hk
theorem wrap64{x:Int}(h:0<=x)(h2:x<18446744073709551616):IntKind.u64.wrap x=x:=by
 simp [IntKind.wrap,IntKind.signed,IntKind.bits];omega
theorem rar64{x y:Int}(e:x=y)(h:0<=y/\y<18446744073709551616)(hk:k (.int .u64 y) w):ArS .u64 x k w:=by
 rw [zCF];subst e;rw [wrap64 h.1 h.2];exact hk
end
theorem zM4(hn:n<4294967296):Sp PP F.dd #[.int .u64 1,.int .u64 (n:Int)] w λv w'=>v=.tuple #[.int .u64 0,.int .u64 (n:Int)]/\Stp w w':=by
 have h1:=λ{X Y:Operand} {t:TypeId} {k:Value->World->Prop} {pn:List PanicEntry->World->Prop} {w:World}=>randU (P:=PP) (X:=X) (Y:=Y) (t:=t) (k:=k) (pn:=pn) (w:=w) (x:=1) (by decide)
 have s1:=λ{X Y:Operand} {t:TypeId} {k:Value->World->Prop} {pn:List PanicEntry->World->Prop} {w:World}=>rshrU (P:=PP) (X:=X) (Y:=Y) (t:=t) (k:=k) (pn:=pn) (w:=w) (x:=1) (by decide)
 have h0:=λ{X Y:Operand} {t:TypeId} {k:Value->World->Prop} {pn:List PanicEntry->World->Prop} {w:World}=>randU (P:=PP) (X:=X) (Y:=Y) (t:=t) (k:=k) (pn:=pn) (w:=w) (x:=0) (by decide)
 have s0:=λ{X Y:Operand} {t:TypeId} {k:Value->World->Prop} {pn:List PanicEntry->World->Prop} {w:World}=>rshrU (P:=PP) (X:=X) (Y:=Y) (t:=t) (k:=k) (pn:=pn) (w:=w) (x:=0) (by decide)
 refine en TBok rfl ?_
 refine h1 ?_
 refine s1 ?_
 refine randU hn ?_
 refine rshrU hn ?_
 refine rar64 (y:=(n:Int)) (by show (1:Int)*(n:Int)=_;omega) (by omega) ?_
 refine rar64 (y:=0) (by show (0:Int)*(n:Int)=0;omega) (by omega) ?_
 refine rshrU hn ?_
 refine rar64 (y:=0) rfl (by omega) ?_
 refine h0 ?_
 refine s0 ?_
 refine rar64 (y:=0) rfl (by omega) ?_
 refine rar64 (y:=0) rfl (by omega) ?_
 refine rar64 (y:=0) rfl (by omega) ?_
 refine rar64 (y:=0) rfl (by omega) ?_
 refine s0 ?_
 refine rar64 (y:=0) rfl (by omega) ?_
 refine rar64 (y:=(n:Int)) (by show (1:Int)*(n:Int)=_;omega) (by omega) ?_
 exact⟨rfl,stp⟩
theorem Mul_sp(hn:n<4294967296):Sp PP F.d8 #[.int .u64 1,.int .u64 (n:Int)] w λv w'=>v=.tuple #[.int .u64 0,.int .u64 (n:Int)]/\Stp w w':=by
 refine en TBok rfl ?_
 refine rcall (zM4 hn) ?_
 rintro _ w1 ⟨rfl,e1⟩
 exact⟨rfl,stp⟩
theorem rcpM{α:Type}[Enc α]{k:Value->World->Prop}{pn:List PanicEntry->World->Prop}{dT sT ty e:TypeId}{z:Value}{sz by':Nat}[ht:SlT P dT e][he:Elem P e z sz by'](hsz:Enc.sz α=sz){v x:Value}{l m:List α}{dn dc:Nat}(lo j:Nat)(hO:Own B e w v l)(hS:SlF w x m)
  (hd:∃g,Value.blk v=some g/\a'=some ⟨g,lo*sz,none⟩)(hle:lo+dn<=l.length)(hj:j=min m.length dn)(hj0:0<j)
  (hk:∀w',Own B e w' v (l.take lo++m.take j++l.drop (lo+j))->Fr (ownD B v) w w'->w'.heap.size=w.heap.size->k (.int .i64 (j:Nat)) w'):SemV P (Builtin.copy_ #[dT,sT] ty #[.slice a' dn dc,x]) k pn w:=by
 have q_:=info_parts he.h
 obtain⟨i,hi,_,hs,_⟩:=q_
 subst hsz
 obtain⟨xa,xc,rfl,hxc,hx⟩:=hS
 rcases hx with hx|⟨b,o,rfl,hat⟩
 ·subst hx;simp at hj;omega
 obtain⟨g,hg,rfl⟩:=hd
 have hl0:l≠[]:=by intro h0;subst h0;simp at hle;omega
 have hjl:(m.take j).length=j:=by rw [List.length_take];omega
 have hoff:lo*Enc.sz α+(flat (m.take j)).length<=l.length*Enc.sz α:=by
  rw [zAk,<-Nat.add_mul];exact Nat.mul_le_mul_right _ (by omega)
 have hspl:splice (flat l) (lo*Enc.sz α) (flat (m.take j))=flat (l.take lo++m.take j++l.drop (lo+j)):=by
  simp only [flat_append,zBh,zBJ,splice,List.length_take,zAk]
  rw [Nat.min_eq_left (Nat.mul_le_mul_right _ (by omega)),<-Nat.add_mul]
 obtain⟨cur,hcur,hfit,hw⟩:=hO.stored (l':=l.take lo++m.take j++l.drop (lo+j)) (vs:=flat (m.take j)) hg hl0 (by simp;omega) hoff hspl
 have hnews:∀q u,(flat (m.take j))[q]? = some u->w.cell? ((⟨b,o,none⟩:Addr).add q)=some u:=λq u hq=>by
  rw [zAp]
  rw [zBh,List.getElem?_take] at hq
  split at hq
  ·exact hat q u hq
  ·cases hq
 have hld:=run_firstCells_some (P:=P) w (Enc.sz α) j ⟨b,o,none⟩ m.length xc (flat (m.take j)) (by rw [zAk,hjl]) hnews
 have hst:=run_storeCells_at P g (lo*Enc.sz α) e (flat (m.take j)) 0 cur w hcur (by simpa using hfit) (zB1 _)
 simp only [Nat.add_zero] at hst
 have hmin:Nat.min m.length dn=j:=hj.symm
 have hB:B<=g:=by obtain⟨g',hg',hB,_⟩:=hO.lt hl0;rw [hg] at hg';cases hg';exact hB
 refine SemV.of (v:=.int .i64 (j:Int)) (w':=w.setRow g (splice cur.toList (lo*Enc.sz α) (flat (m.take j))).toArray) ?_ (hk _ (hw _ (setRow_heap w g cur _ e _ hcur)) ((Fr.setRow w g _).mono λj _ hj=>⟨by omega,by rw [hj];exact hg,hO.not0 hl0⟩) (by simp))
 simp only [Builtin.copy_,Builtin.lenOf,sizeOf,typeInfo]
 simp [hst,goInt,splice,run_underlying ht.h,hmin,hld,hi,hs]
theorem tsl1{α:Type}[Enc α]{t e:TypeId}{z:Value}{by':Nat}[ht:SlT P t e][he:Elem P e z (Enc.sz α) by']{k:Value->Prop}{b c:Nat}(lo:Nat)(h1:lo<n)(h2:n<=c)
  (hk:k (.slice (some ⟨b,lo*Enc.sz α,none⟩) (n - lo) (c - lo))):TakeS P (Instr.sliceAt t (.slice (some ⟨b,0,none⟩) n c) (some (.int .i64 lo)) none none) D k w:=by
 rw [zAg]
 refine⟨_,λw' _=>zA3 ht he (some lo) none (by simp;omega) (by simpa using h2) w',?_⟩
 have e:(if c=(some lo).getD 0 then some (⟨b,0,none⟩:Addr) else (some (⟨b,0,none⟩:Addr)).map (·.add ((some lo).getD 0*Enc.sz α)))=some ⟨b,lo*Enc.sz α,none⟩:=by
  rw [if_neg (by simp;omega)]
  simp [zAp]
 rw [e];exact hk
theorem zMP(k n:Nat)(x:Int)(h:k<=n)(j:Nat)(hj:j=min k (n - k)):(List.replicate k x++List.replicate (n - k) (0:Int)).take k++(List.replicate k x).take j++(List.replicate k x++List.replicate (n - k) (0:Int)).drop (k+j)=List.replicate (k+j) x++List.replicate (n - (k+j)) 0:=by
 have h1:(List.replicate k x++List.replicate (n - k) (0:Int)).take k=List.replicate k x:=by rw [List.take_append_of_le_length (by simp)];simp
 have h2:(List.replicate k x++List.replicate (n - k) (0:Int)).drop (k+j)=List.replicate (n - (k+j)) 0:=by
  rw [<-List.drop_drop,List.drop_append_of_le_length (by simp)]
  simp
  omega
 rw [h1,h2,List.take_replicate,Nat.min_eq_left (by omega),List.replicate_append_replicate]
theorem zL8{c:Nat}{x:Int}(S:SlF w (.slice a m c) [x])(hn:1<=n/\n<=200):Sp PP F.pj #[.slice a m c,.int .i64 (n:Int)] w λv w'=>(∃g,v=.slice (some ⟨g,0,none⟩) n n/\w.heap.size<=g/\Own w.heap.size E.qa w' (.slice (some ⟨g,0,none⟩) n n) (List.replicate n x))/\Stp w w':=by
 have q_:=S.len
 obtain rfl:=q_
 refine en TBok rfl ?_
 refine iF (by omega) (rconvE (z:=1) rfl (rconvE (z:=(n:Int)) (wrap64 (by omega) (by omega)) (rcall (Mul_sp (by omega)) ?_)))
 rintro _ w1 ⟨rfl,e1⟩
 refine iF (by omega) (iF (by omega) (rconvE (z:=(n:Int)) (zBQ (by omega) (by omega)) (rmk (0:Int) rfl rfl (by omega) λg w2 O2 s2 hg=>?_)))
 have z1:=Le.size (a:=w) (b:=w1)
 refine rcp (u:=w1) (α:=Int) rfl 0 O2 (S.up (w':=w2)) (.inr ⟨g,rfl,rfl⟩) (by simp) (by simp;omega) λw3 O3 f3 s3 z3=>?_
 refine loop1 TBok 34 [] 8 (λv u=>∃k:Nat,v=.int .i64 (k:Int)/\1<=k/\k<=n/\Own w1.heap.size E.qa u (.slice (some ⟨g,0,none⟩) n n) (List.replicate k x++List.replicate (n - k) 0)/\Stp w1 u) (λv _=>n - (Go.RowKit.intOf v).toNat) rfl
  ⟨1,rfl,Nat.le_refl _,hn.1,?_,stp⟩ ?_
 ·have e:List.take 0 (List.replicate n (0:Int))++[x]++List.drop (0+[x].length) (List.replicate n (0:Int))=List.replicate 1 x++List.replicate (n - 1) 0:=by simp
  rw [<-e];exact O3
 rintro v G u ⟨k,rfl,hk1,hkn,O,su⟩
 have zu:=Le.size (a:=w1) (b:=u)
 have hlen:(List.replicate k x++List.replicate (n - k) (0:Int)).length=n:=by simp;omega
 refine ite (λhlt=>?_) (λhge=>?_)
 ·have hlt:k<n:=by omega
  refine drawR TBok mixed (ownD w1.heap.size (.slice (some ⟨g,0,none⟩) n n)) [0,1,2,3,4,5,6,7,8,9] (by kernel_rfl) λu1 e1 _=>tsl1 (α:=Int) k hlt (Nat.le_refl _) ?_
  refine tslP (m:=k) (by omega) ?_
  have S2:SlF u1 (.slice (some ⟨g,0,none⟩) k n) (List.replicate k x):=by
   have q_:=O.cut (m:=k) (by omega) (by intro h;rw [h] at hlen;simp at hlen;omega)
   have h1:=q_.1.sl.up (w':=u1)
   rw [List.take_append_of_le_length (by simp)] at h1
   have h2:List.take k (List.replicate k x)=List.replicate k x:=by simp
   rw [h2] at h1
   exact h1
  have q_:∃j,j=min k (n - k):=⟨_,rfl⟩
  obtain⟨j,hj⟩:=q_
  refine rcpM (α:=Int) rfl k j (O.up (w':=u1)) S2 ⟨g,rfl,by simp [Enc.sz]⟩ (by omega) (by simp;omega) (by omega) λu2 O2 f2 z2=>⟨f2,?_⟩
  rw [zMP k n x hkn j hj] at O2
  have t2:Stp w1 u2:=⟨Fr.st (Le.e (a:=w1) (b:=u1)) f2 λi hi=>hi.1⟩
  refine rarE (y:=((k+j:Nat):Int)) (by omega) (by omega) ⟨⟨k+j,rfl,by omega,by omega,O2,t2⟩,?_⟩
  show n - (((k+j:Nat):Int)).toNat<n - ((k:Int)).toNat
  omega
 ·have hkn:k=n:=by omega
  rw [hkn,Nat.sub_self,List.replicate_zero,List.append_nil] at O
  exact⟨⟨g,rfl,by omega,O.mono (by omega)⟩,stp⟩
section
variable {g:GrD} {f n:Nat} {L:List Int} {fr:List Nat}
def LevD (g:GrD) (f:Nat) (L:List Int):Prop:=L.length=g.n/\∀v,v<g.n->(∃d:Nat,Dst g f v d/\L[v]? = some (d:Int))\/((∀k,¬Wlk g k f v)/\L[v]? = some (-1))
def LvI (g:GrD) (f:Nat) (n:Nat) (L:List Int):Prop:=(n=0/\L=List.replicate g.n (-1))\/∃d fr,n=d+1/\LevI g (qq f f) 0 d L fr
theorem LvI.len(I:LvI g f n L):L.length=g.n:=by
 rcases I with ⟨_,rfl⟩|⟨d,fr,_,I⟩
 ·simp
 ·exact I.len
theorem one_of{l:List Nat}{a:Nat}(h:l.Nodup)(hm:∀v,v∈l↔v=a):l=[a]:=by
 cases l with
 |nil=>exact absurd ((hm a).2 rfl) (by simp)
 |cons b r =>
  have hb:b=a:=(hm b).1 (List.mem_cons_self ..)
  subst hb
  cases r with
  |nil=>rfl
  |cons c r =>
   have hc:c=b:=(hm c).1 (by simp)
   subst hc
   simp at h
theorem LvI.next(hf:f<g.n)(I:LvI g f n L)(hnd:fr.Nodup)(hm:∀v,v∈fr↔v∈lv g (qq f f) 0 n):LvI g f (n+1) (setAll (n:Int) fr L):=by
 rcases I with ⟨rfl,rfl⟩|⟨d,fr0,rfl,I⟩
 ·have h1:fr=[f]:=one_of hnd λv=>by rw [hm,zAZ,src0,List.mem_singleton]
  subst h1
  exact .inr ⟨0,[f],rfl,zE2 (.inl rfl) src0 hf⟩
 ·exact .inr ⟨d+1,fr,rfl,zGJ hf hf I hm⟩
theorem LvI.done(hg:GrOk g)(hf:f<g.n)(I:LvI g f n L)(he:∀v,v∉lv g (qq f f) 0 n):LevD g f L:=by
 rcases I with ⟨rfl,rfl⟩|⟨d,fr0,rfl,I⟩
 ·exact absurd (by rw [zAZ,src0];simp) (he f)
 ·exact⟨I.len,λv hv=>zNw hg hf hf I (List.eq_nil_iff_forall_not_mem.2 he) hv⟩
end
theorem zG8{x:RRow}{r:List EdN}{f:Nat}(hg:GrIs g)(R:RwF w x g r)(hf:f<g.n):
  Sp PP F.ci #[agg x,.int .i64 (f:Int),.bool false] w λv w'=>(∃v' L,v=.tuple #[v',.int .i64 0]/\Own w.heap.size E.qa w' v' L/\LevD g f L)/\Stp w w':=by
 have h2:=hg.ok.n2
 refine en TBok rfl ?_
 refine rbx λb3 w1 n1 B1=>?_
 have B1:Bk w1 b3 (enc x) E.qj:=B1
 refine rldG (ds:=enc x) (B:=B1) rfl rfl (rbs1 ((f:Nat):Int) rfl rfl (by decide) λb4 w2 e2 _ S2=>rcall (zIK hg (R.up (w':=w2)) hf S2) ?_)
 rintro _ w3 ⟨rfl,e3⟩
 refine ral λb8 w4 n4 B4=>rsto (B:=B4) (vs:=enc x) rfl rfl rfl (Enc.one _) λw5 B5 f5 _=>?_
 have B5:Bk w5 b8 (enc x) E.qt:=B5
 have t5:Stp w3 w5:=⟨Fr.st (Le.e (a:=w3) (b:=w4)) f5 λi hi=>by subst hi;exact n4.lo⟩
 refine iF (· rfl) (rbs1 (-1:Int) rfl rfl (by decide) λb6 w6 e6 _ S6=>rldG (ds:=enc x) (B:=B5) rfl rfl (rcall (zBl hg (R.up (w':=w6))) ?_))
 rintro _ w7 ⟨rfl,e7⟩
 refine rcall (zL8 (S6.up (w':=w7)) ⟨by omega,by omega⟩) ?_
 rintro _ w8 ⟨⟨lr,rfl,hlr,O8⟩,e8⟩
 have z7:=Le.size (a:=w) (b:=w7)
 have hl8:lr<w8.heap.size:=by
  obtain⟨g',h1,_,h3⟩:=O8.lt (by intro h;have:=congrArg List.length h;simp at this;omega)
  have:=Option.some.inj h1
  simp only at this
  omega
 refine ral λbl w9 n9 B9=>?_
 have hbl:=n9.lo (u:=w8)
 refine rsto (B:=B9) (vs:=[.slice (some ⟨lr,0,none⟩) g.n g.n]) rfl rfl rfl (by intro u hu;simp at hu;subst hu;rfl) λw10 B10 f10 _=>?_
 have B10:Bk w10 bl [.slice (some ⟨lr,0,none⟩) g.n g.n] E.q0:=B10
 have t10:Stp w8 w10:=⟨Fr.st (Le.e (a:=w8) (b:=w9)) f10 λi hi=>by omega⟩
 have z10:=t10.e.size
 refine rldG (ds:=enc x) (B:=B5.mv (w:=w10)) rfl rfl (rcall zEc ?_)
 rintro _ w11 ⟨⟨b1,b2,b3,rfl,hb,K1,K2,ek,K3⟩,e11⟩
 have z11:=e11.e.size
 have O11:=((O8.up (w':=w10)).up (w':=w11)).mono (B':=w.heap.size) z7
 have B11:=B10.mv (w:=w11)
 have R11:=R.up (w':=w11)
 have hbl11:=B11.lt
 have tw:Stp w w11:=stp
 have D11:FroD x g r f b1 b2 b3 w11.heap.size lr w11:=by
  have k1:=K1.lt;have k2:=K2.lt;have k3:=K3.lt
  have q:∀b,b<w.heap.size->KX w11.heap.size lr b:=λb h=>⟨by omega,by omega⟩
  exact⟨K1,K2,⟨ek,K3⟩,R11,⟨⟨k1,by omega⟩,⟨k2,by omega⟩,⟨k3,by omega⟩⟩,
   ⟨λh b hb=>q b (R.off.blt h hb),λh b hb=>q b (R.to.blt h hb),λh b hb=>q b (R.rof.blt h hb),λh b hb=>q b (R.rev.blt h hb)⟩⟩
 refine rrangeG TBok rfl (gf:=F.qp) (first:=[]) (cap:=[.pointer (some ⟨b1,0,none⟩),.pointer (some ⟨b2,0,none⟩),.pointer (some ⟨b3,0,none⟩)]) (Rc:=λc u=>(∃D,Fr D c u)/\Kp (λi=>i≠lr) c u) rfl rfl (zLP (x:=x) (r:=r) (C:=w11.heap.size) (lr:=lr) hg hf)
  (by rintro ys y u ⟨_,_,_,rfl,_⟩;rfl) (λu u' h=>⟨_,h⟩)
  (λys u=>∃L,LvI g f ys.length L/\Own w.heap.size E.qa u (.slice (some ⟨lr,0,none⟩) g.n g.n) L/\Bk u bl [.slice (some ⟨lr,0,none⟩) g.n g.n] E.q0/\Stp w u) (λ_ _=>False)
  ?_ ?_ ?_ ?_ ?_ (λc u h=>h.1) (λw' e=>⟨D11.kp (.of_ext e),e.size,by omega⟩) ⟨_,.inl ⟨rfl,rfl⟩,O11,B11,tw⟩ ?_ ?_ ?_
 ·rintro ys u u' ⟨L,h1,h2,h3,h4⟩ q;exact⟨L,h1,h2.qt q,h3.qt q,h4.qt (q.mono (by omega))⟩
 ·rintro _ u u' h;exact h.elim
 ·rintro ys u u' _ ⟨L,h1,h2,h3,h4⟩ q
  exact⟨L,h1,h2.fr q λb _ hb h=>by have:=Option.some.inj hb;simp only at this;omega,h3.fr q (by omega),⟨Fr.st h4.e q λi hi=>by omega⟩⟩
 ·rintro _ u u' _ h;exact h.elim
 ·rintro u c u2 u3 q1 ⟨_,r⟩ q2;exact((Kp.of_qt q1).trans r).trans (.of_qt q2)
 ·rintro ys y u ⟨fa,fc,fr,rfl,SN,hSN,hnd,hm⟩ _ ⟨L,h1,h2,h3,h4⟩
  refine⟨Fr.refl _ _,λc1 qt=>?_⟩
  have SN:=SN.qt qt;have h2:=h2.qt qt;have h3:=h3.qt qt;have h4:=h4.qt (qt.mono (by omega))
  have hL:=h1.len
  have hnx:=h1.next hf hnd hm
  have hfl:fr.length<=g.n:=zB7 hnd λv hv=>lv_lt (qq_ok hf hf) ((hm v).1 hv)
  have hys:(ys++[[Value.int .i64 ((ys.length:Nat):Int),.slice fa fr.length fc]]).length=ys.length+1:=by simp
  refine cnt TBRok 37 [13,14] 37 fr.length (λk u2=>Own w.heap.size E.qa u2 (.slice (some ⟨lr,0,none⟩) g.n g.n) (setAll (ys.length:Int) (fr.take k) L)/\Fr (λi=>i=lr) c1 u2) rfl rfl ⟨h2,Fr.refl _ _⟩ ?_
  rintro k G u2 hk ⟨O2,f2⟩
  refine ite (λhlt=>?_) (λhge=>?_)
  ·have hk1:k<fr.length:=by omega
   have hvn:fr[k]<g.n:=lv_lt (qq_ok hf hf) ((hm _).1 (List.getElem_mem hk1))
   have hSl:(setAll (ys.length:Int) (fr.take k) L).length=g.n:=by rw [zBs];exact hL
   have S2:=SN.fr f2 λb hb h=>by have:=hSN b hb;omega
   have B2:=h3.fr f2 (by omega)
   refine rix S2 (zB4 hk1) λb4 o4 A4=>rload1 (A4.cell0 rfl) (rld (B:=B2) rfl (rixO rfl O2 (i:=fr[k]) (x:=(setAll (ys.length:Int) (fr.take k) L)[fr[k]]'(by omega)) (by simp) λg5 hg5 hB5 A5=>rstO' rfl ((ys.length:Nat):Int) O2 hg5 (by omega) rfl λu3 O3 f3 z3=>?_))
   rw [<-zF8,<-zAa hk1] at O3
   exact rA ⟨rfl,hk1,O3,f2.trans (f3.mono λi _ h=>(Option.some.inj h.2.1).symm)⟩
  ·have hkl:k=fr.length:=by omega
   rw [hkl,List.take_length] at O2
   refine⟨⟨_,by rw [hys];exact hnx,O2,h3.fr f2 (by omega),⟨Fr.st h4.e f2 λi hi=>by omega⟩⟩,⟨_,f2⟩,.of_fr f2 λi hi h=>hi h⟩
 ·rintro ys D u hE ⟨L,h1,h2,h3,h4⟩ hD hd
  refine rld (B:=h3) rfl (leave1 hd λu' q=>?_)
  exact⟨⟨_,L,rfl,h2.qt (q 0 (by omega)),h1.done hg.ok hf hE⟩,h4.qt (q _ (by omega))⟩
 ·rintro c D u h;exact h.elim
structure NAt (B:Nat) (w:World) (b:Nat) (a:Option Addr) (c:Nat) (l:List HitD):Prop where
 lo:B<=b
 cell:Bk w b [.slice a l.length c] E.q5
 row:Own B E.qi w (.slice a l.length c) l
 size:l.length<=100000
abbrev nE:List TypeId:=[E.q5,E.qi]
theorem NAt.up[Le w w']{b:Nat}{c:Nat}{l:List HitD}(h:NAt B w b a c l):NAt B w' b a c l:=⟨h.lo,h.cell.mv,h.row.up,h.size⟩
theorem zDx{c:Nat}:Sp PP F.yv #[.slice a n c] w λv w'=>v=.int .i64 (n:Nat)/\w'=w:=by
 refine en TBok rfl ?_
 exact⟨rfl,rfl⟩
theorem zFg{b c:Nat}{l:List HitD}(Q:NAt B w b a c l)(hi:i<l.length)(hj:j<l.length):
  Sp PP F.dt #[.slice a l.length c,.int .i64 i,.int .i64 j] w λv w'=>v=.bool (hlt (atL l i) (atL l j))/\Stp w w':=by
 rw [zAy hi,zAy hj]
 refine en TBok rfl ?_
 refine drawR TBok mixed (λ_=>False) (upF 38 0) (by kernel_rfl) λu1 e1 _=>?_
 have S:=Q.row.sl.up (w':=u1)
 refine tix S (x:=l[i]) (by simp) λb4 o4 A4 _=>tload1 (A4.cell 1 rfl) nf (tix S (x:=l[j]) (by simp) λb5 o5 A5 _=>tload1 (A5.cell 1 rfl) nf (ite (λh1=>?_) (λh1=>?_)))
 ·have e:hlt l[i] l[j]=true:=(zCG _ _).2 (.inl h1)
  rw [e];exact⟨rfl,stp⟩
 ·refine tix S (x:=l[i]) (by simp) λb4 o4 A4 _=>tload1 (A4.cell 1 rfl) nf (tix S (x:=l[j]) (by simp) λb5 o5 A5 _=>tload1 (A5.cell 1 rfl) nf (ite (λh2=>?_) (λh2=>?_)))
  ·refine tix S (x:=l[i]) (by simp) λb4 o4 A4 _=>tload1 (A4.cell 0 rfl) nf (tix S (x:=l[j]) (by simp) λb5 o5 A5 _=>tload1 (A5.cell 0 rfl) nf (ite (λh3=>?_) (λh3=>?_)))
   ·have e:hlt l[i] l[j]=true:=(zCG _ _).2 (.inr ⟨h2,h3⟩)
    rw [e];exact⟨rfl,stp⟩
   ·have e:hlt l[i] l[j]=false:=(hlt_ff _ _).2 (by omega)
    rw [e];exact⟨rfl,stp⟩
  ·have e:hlt l[i] l[j]=false:=(hlt_ff _ _).2 (by omega)
   rw [e];exact⟨rfl,stp⟩
theorem zFh{b c:Nat}{l:List HitD}(Q:NAt B w b a c l)(hi:i<l.length)(hj:j<l.length):
  Sp PP F.dv #[.slice a l.length c,.int .i64 i,.int .i64 j] w λ_ w'=>NAt B w' b a c (swL l i j)/\FrT B nE w w'/\Fr (ownD B (.slice a l.length c)) w w':=by
 refine en TBok rfl ?_
 have C:=Q.cell;have O:=Q.row
 refine drawRT TBok mixed (ownD B (.slice a l.length c)) (.one 0 (.one 1 (.one 2 (.one 3 (.one 4 (.one 5 (.one 6 (.one 8 (.one 9 (.one 10 (.duo 7 (.lone 11 (.one 12 (.one 13 (.one 14 (.one 15 .nil))))) 11 (.lone 7 (.one 12 (.one 13 (.one 14 (.one 15 .nil)))))))))))))))) (by kernel_rfl) λu1 e1 _=>tix (O.sl.up (w':=u1)) (x:=l[j]) (by simp) λb4 o4 A4 _=>tix (O.sl.up (w':=u1)) (x:=l[i]) (by simp) λb5 o5 A5 _=>?_
 have fin:∀u2,Own B E.qi u2 (.slice a l.length c) ((l.set i l[j]).set j l[i])->Bk u2 b [.slice a l.length c] E.q5->Fr (ownD B (.slice a l.length c)) u1 u2->NAt B u2 b a c (swL l i j)/\FrT B nE w u2/\Fr (ownD B (.slice a l.length c)) w u2:=λu2 O2 C2 F2=>by
  refine⟨⟨Q.lo,by rw [zBO];exact C2,?_,by rw [zBO];exact Q.size⟩,(FrT.ext Le.e).trans ((O.up (w':=u1)).wrote F2 (Nat.le_refl _) (by decide)),(Fr.fr Le.e).trans F2⟩
  rw [zBO]
  unfold swL
  rw [zAy hi,zAy hj];exact O2
 refine⟨rloadA A4 rfl ⟨Fr.refl _ _,rloadA A5 rfl ⟨Fr.refl _ _,?_⟩⟩,rloadA A5 rfl ⟨Fr.refl _ _,rloadA A4 rfl ⟨Fr.refl _ _,?_⟩⟩⟩
 all_goals
  refine tixO rfl (O.up (w':=u1)) (x:=l[i]) (by simp) λg1 hg1 _ A=>rstO' rfl l[j] (O.up (w':=u1)) hg1 hi rfl λu7 O7 f7 _=>⟨f7,?_⟩
  refine tixO rfl O7 (x:=(l.set i l[j])[j]'(by simpa using hj)) (by simp) λg2 hg2 _ A=>rstO' rfl l[i] O7 hg2 (by simpa using hj) rfl λu8 O8 f8 _=>⟨f8,?_⟩
  exact fin u8 O8 (((C.mv (w:=u1)).fro (O.up (w':=u1)) f7 (by decide)).fro O7 f8 (by decide)) (f7.trans f8)
theorem zJE{b c:Nat}{l:List HitD}{x:HitD}(Q:NAt B w b a c l)(hl:l.length<=99999):
  Sp PP F.du #[.pointer (some ⟨b,0,none⟩),.iface E.qi (agg x)] w λ_ w'=>(∃a c,NAt B w' b a c (l++[x]))/\FrT B nE w w':=by
 have hb:=Q.cell.lt
 refine en TBok rfl ?_
 refine rta (ral λb4 w1 n1 B1=>rsto (B:=B1) (vs:=enc x) rfl rfl rfl (Enc.one _) λw2 B2 f2 _=>?_)
 have s2:Stp w w2:=⟨Fr.st Le.e f2 λi hi=>by subst hi;exact n1.lo⟩
 have C2:=Q.cell.mv (w:=w2)
 have O2:=Q.row.up (w':=w2)
 clear B1 f2
 have hb4:b≠b4:=by rintro rfl;have h1:=C2.h;have h2:=B2.h;rw [h1] at h2;cases h2
 refine drawRT TBok mixed (λi=>i=b\/ownD B (.slice a l.length c) i) (.one 0 (.one 1 (.one 2 (.one 4 (.duo 3 (.one 5 (.one 6 (.one 7 (.one 8 .nil)))) 5 (.lone 3 (.one 6 (.one 7 (.one 8 .nil))))))))) (by kernel_rfl) λu3 e3 _=>tldG (ds:=enc x) (B:=B2) rfl rfl (λh=>h.elim (λh=>hb4 h.symm) (λh=>by have:=Q.row.wr h;have:=n1.lo (u:=w);omega)) ?_
 have C3:=C2.mv (w:=u3)
 have O3:=O2.up (w':=u3)
 have hB3:B<=u3.heap.size:=by have:=C3.lt;have:=Q.lo;omega
 have F3:FrT B nE w u3:=FrT.ext Le.e
 have hsz:=Q.size
 refine⟨rld (B:=C3) rfl ⟨Fr.refl _ _,rbs1 x rfl rfl (by decide) λb6 u6 e6 _ S6=>⟨Fr.fr e6.e,?_⟩⟩,rbs1 x rfl rfl (by decide) λb6 u6 e6 _ S6=>⟨Fr.fr e6.e,rld (B:=C3) rfl ⟨Fr.refl _ _,?_⟩⟩⟩
 all_goals
  refine rappB ⟨rfl,rfl⟩ (O3.up (w':=u6)) S6 (by have:=e6.e.size;omega) (by simp;omega) λv7 u7 O7 f7=>⟨f7.mono λi _ hi=>.inr hi,?_⟩
  have C7:=(C3.mv (w:=u6)).fro (O3.up (w':=u6)) f7 (by decide)
  have F7:=(O3.up (w':=u6)).wrote f7 (Nat.le_refl _) (show E.qi∈nE by decide)
  have q_:=O7.shape
  obtain⟨a7,c7,rfl⟩:=q_
  refine rsto (B:=C7) (vs:=[.slice a7 (l++[x]).length c7]) rfl rfl rfl (sl_one _ _ _) λu8 C8 f8 _=>⟨f8.mono λi _ hi=>.inl hi,?_⟩
  exact⟨⟨a7,c7,Q.lo,C8,O7.frc f8 C7 (by decide),by simp;omega⟩,((F3.trans (FrT.ext e6.e)).trans F7).trans (C7.wrote f8 Q.lo (by decide))⟩
theorem zKy{b c:Nat}{l:List HitD}(Q:NAt B w b a c l)(hl:l≠[]):
  Sp PP F.ca #[.pointer (some ⟨b,0,none⟩)] w λv w'=>v=.iface E.qi (agg (atL l (l.length - 1)))/\NAt B w' b a c l.dropLast/\FrT B nE w w'/\Fr (λi=>i=b) w w':=by
 have hpos:=List.length_pos_iff.2 hl
 have hsz:=Q.size
 have hi:l.length - 1<l.length:=by omega
 have C:=Q.cell;have O:=Q.row
 rw [zAy hi]
 have hcut:=O.cut (m:=l.length - 1) (by omega) hl
 obtain⟨Oc,ga,hga⟩:=hcut
 have hnc:l.length<=c:=by obtain⟨_,_,hv,hc,_⟩:=O.sl;cases hv;exact hc
 have hdl:l.dropLast=l.take (l.length - 1):=List.dropLast_eq_take
 have hdlen:l.dropLast.length=l.length - 1:=by simp
 refine en TBok rfl ?_
 refine rld (B:=C) rfl (rarE (y:=((l.length - 1:Nat):Int)) (by omega) (by omega) (rix O.sl (x:=l[l.length - 1]) (by simp) λb4 o4 A4=>rloadA A4 rfl (ral λb5 u2 n5 z5=>rsto (B:=z5) (vs:=enc l[l.length - 1]) rfl rfl rfl (Enc.one _) λu3 B5 f5 _=>?_)))
 have s3:Stp w u3:=⟨Fr.st Le.e f5 λi hi=>by subst hi;exact n5.lo⟩
 clear z5 f5
 have C3:=C.mv (w:=u3)
 have hb5:b≠b5:=by rintro rfl;have h1:=C3.h;have h2:=B5.h;rw [h1] at h2;cases h2
 refine rarE (y:=((l.length - 1:Nat):Int)) (by omega) (by omega) ?_
 subst hga
 refine rslP (m:=l.length - 1) (by omega) ?_
 refine rsto (B:=C3) (vs:=[.slice (some ⟨ga,0,none⟩) (l.length - 1) c]) rfl rfl rfl (sl_one _ _ _) λu5 C5 f5 _=>?_
 have B6:=B5.fr f5 (Ne.symm hb5)
 refine rldG (ds:=enc l[l.length - 1]) (B:=B6) rfl rfl (rmki ?_)
 have F5:FrT B nE w u5:=(FrT.ext s3.e).trans (C3.wrote f5 Q.lo (by decide))
 refine⟨rfl,⟨Q.lo,by rw [hdlen];exact C5,?_,by omega⟩,F5,(Fr.fr s3.e).trans f5⟩
 rw [hdlen,hdl]
 exact(Oc.up (w':=u3)).frc f5 C3 (by decide)
theorem zHx:Ord hlt:=⟨λx=>by rw [hlt_ff];omega,λx y z h k=>by rw [zCG] at *;omega,λx y z h k=>by rw [hlt_ff] at *;omega⟩
def NSt (B b:Nat) (l:List HitD) (w:World):Prop:=∃a c,NAt B w b a c l
theorem NAt.ld{b c:Nat}{l:List HitD}(h:NAt B w b a c l):(loadVar E.q5 ⟨b,0,none⟩).run PP w=.ok (.slice a l.length c) w:=
 zCi inferInstance (((h.cell).at (w:=w)).cell0 rfl)
theorem zMB(B b:Nat):HeapI PP E.qx (.pointer (some ⟨b,0,none⟩)) hlt (NSt B b) B nE where
 ord:=zHx
 size:=λ_ _ ⟨_,_,h⟩=>h.size
 len:=λ_ _ ⟨a,c,h⟩=>.v h.ld (zDx.mono λ_ _ ⟨h1,h2⟩=>by subst h2;exact⟨h1,⟨a,c,h⟩,FrT.refl _ _ _⟩)
 less:=λ_ _ _ _ ⟨a,c,h⟩ hi hj=>.v h.ld ((zFg h hi hj).mono λ_ _ ⟨h1,h2⟩=>⟨h1,⟨a,c,h.up⟩,FrT.ext h2.e⟩)
 swap:=λ_ _ _ _ ⟨a,c,h⟩ hi hj=>.v h.ld ((zFh h hi hj).mono λ_ _ ⟨h1,h2,_⟩=>⟨⟨a,c,h1⟩,h2⟩)
theorem zMD{b:Nat}{l : List HitD}{x : HitD}(h : NSt B b l w)(hl : l.length <= 99999) : InvS PP E.qx (.pointer (some ⟨b, 0, none⟩)) "Push" [.iface E.qi (agg x)] w λ_ w' => NSt B b (l ++ [x]) w' /\ FrT B nE w w' := by
 obtain⟨a,c,h⟩:=h
 exact .p ((zJE (x:=x) h hl).mono λ_ _ ⟨h1,h2⟩=>⟨h1,h2⟩)
def NSg (B b g:Nat) (w0:World) (l:List HitD) (w:World):Prop:=(∃c,NAt B w b (some ⟨g,0,none⟩) c l)/\Fr (λi=>i=b\/i=g) w0 w
theorem blk_g{g c:Nat}(h:ownD B (.slice (some ⟨g,0,none⟩) n c) i):i=g:=(Option.some.inj h.2.1).symm
theorem zLW(B b g:Nat)(w0:World):HeapI PP E.qx (.pointer (some ⟨b,0,none⟩)) hlt (NSg B b g w0) B nE where
 ord:=zHx
 size:=λ_ _ ⟨⟨_,h⟩,_⟩=>h.size
 len:=λ_ _ ⟨⟨c,h⟩,f⟩=>.v h.ld (zDx.mono λ_ _ ⟨h1,h2⟩=>by subst h2;exact⟨h1,⟨⟨c,h⟩,f⟩,FrT.refl _ _ _⟩)
 less:=λ_ _ _ _ ⟨⟨c,h⟩,f⟩ hi hj=>.v h.ld ((zFg h hi hj).mono λ_ _ ⟨h1,h2⟩=>⟨h1,⟨⟨c,h.up⟩,f.trans (Fr.fr h2.e)⟩,FrT.ext h2.e⟩)
 swap:=λ_ _ _ _ ⟨⟨c,h⟩,f⟩ hi hj=>.v h.ld ((zFh h hi hj).mono λ_ _ ⟨h1,h2,h3⟩=>⟨⟨⟨c,h1⟩,f.trans (h3.mono λi _ hi=>.inr (blk_g hi))⟩,h2⟩)
theorem zMC(B b g : Nat)(w0 : World) : ∀ l w, NSg B b g w0 l w -> l ≠ [] -> InvS PP E.qx (.pointer (some ⟨b, 0, none⟩)) "Pop" [] w λx w' => x = .iface E.qi (agg (atL l (l.length - 1))) /\ NSg B b g w0 l.dropLast w' /\ FrT B nE w w' :=
 λ_ _ ⟨⟨c,h⟩,f⟩ hl=>.p ((zKy h hl).mono λ_ _ ⟨h1,h2,h3,h4⟩=>⟨h1,⟨⟨c,h2⟩,f.trans (h4.mono λi _ hi=>.inl hi)⟩,h3⟩)
theorem zGv{b:Nat}{l:List HitD}(S:NSt B b l w)(hh:HeapN hlt l l.length):
  Sp PP F.d2 #[.iface E.qx (.pointer (some ⟨b,0,none⟩))] w λv w'=>∃L:List HitD,Own w.heap.size E.qi w' v L/\L.Perm l/\SrtH L/\Fr (λi=>B<=i) w w':=by
 obtain⟨a0,c0,Q⟩:=S
 have hsz:=Q.size
 have hbw:=Q.cell.lt
 have hlo:=Q.lo
 refine en TBok rfl ?_
 have q_:∃g,(l≠[]->a0=some ⟨g,0,none⟩)/\B<=g/\g<w.heap.size:=by
  by_cases hl:l=[]
  ·exact⟨b,λh=>absurd hl h,hlo,hbw⟩
  ·have q_:=Q.row.blk hl
   obtain⟨g,cur,h1,_,h2,h3,_⟩:=q_
   exact⟨g,λ_=>h1,h2,(by have:=Q.row.lt hl;obtain⟨g',h4,_,h5⟩:=this;rw [h1] at h4;have:=Option.some.inj h4;simp only at this;omega)⟩
 obtain⟨g,ha0,hgB,hgw⟩:=q_
 refine loop1G TBok 6 [4,5] 3 (λn v u=>∃out l',List.length l'=n/\(∃a c,NAt B u b a c l'/\(l'≠[]->a=some ⟨g,0,none⟩))/\HeapN hlt l' l'.length/\(out++l').Perm l/\SrtH out/\(∀x∈out,∀y∈l',hlt y x=false)/\Own w.heap.size E.qi u v out/\Fr (λi=>B<=i) w u) rfl
  ⟨l.length,[],l,rfl,⟨a0,c0,Q,ha0⟩,hh,.refl _,.nil,by simp,Own.nil _ _ _,Fr.refl _ _⟩ ?_
 rintro n v G u ⟨out,l',rfl,⟨a,c,Q1,ha⟩,hh1,hp,hs,hlo2,O,fu⟩
 have hpl:=hp.length_eq
 rw [List.length_append] at hpl
 have zu:=fu.size
 refine (InvS.v (P := PP) (t := E.qx) (name := "Len") (vs := []) (f := F.yv) Q1.ld zDx).out rfl rfl rfl rfl ?_
 rintro _ _ ⟨rfl,rfl⟩
 refine ite (λhgt=>?_) (λhge=>?_)
 ·have hne:l'≠[]:=λh=>by rw [h] at hgt;exact absurd hgt (by decide)
  have q_:=ha hne
  obtain rfl:=q_
  refine rcall (Pop_sp (zLW B b g _) (RX:=λx v=>v=.iface E.qi (agg x)) (zMC B b g _) ⟨⟨c,Q1⟩,Fr.refl _ _⟩ hne hh1) ?_
  rintro v2 u2 ⟨⟨rfl,l2,hp2,⟨⟨c2,Q2⟩,f2⟩,hh2⟩,F2⟩
  have O2:=O.fr f2 λi hi _ h=>by omega
  have fu2:Fr (λi=>B<=i) w u2:=fu.trans (f2.mono λi _ h=>by rcases h with rfl|rfl;exact hlo;exact hgB)
  have z2:=f2.size
  have hfirst:=zG3 zHx hh1
  have hmem:∀y∈l',hlt y (atL l' 0)=false:=λy hy=>by
   have q_:=List.mem_iff_getElem.1 hy
   obtain⟨i,hi,rfl⟩:=q_
   have:=hfirst i hi
   rw [zAy hi] at this;exact this
  have hx0:atL l' 0∈l':=hp2.mem_iff.1 (List.mem_cons_self ..)
  refine rta (ral λbx u3 n3 X3=>?_)
  have hbx:=n3.lo (u:=u2)
  refine rsto (B:=X3) (vs:=enc (atL l' 0)) rfl rfl rfl (Enc.one _) λu4 X4 f4 _=>?_
  have t4:Stp u2 u4:=⟨Fr.st (Le.e (a:=u2) (b:=u3)) f4 λi hi=>by omega⟩
  have X4:Bk u4 bx (enc (atL l' 0)) E.qi:=X4
  refine rldG (ds:=enc (atL l' 0)) (B:=X4) rfl rfl (rbs1 (atL l' 0) rfl rfl (by decide) λb5 u5 e5 _ S5=>?_)
  have z5:=Le.size (a:=u2) (b:=u5)
  have O5:=(O2.up (w':=u4)).up (w':=u5)
  have hol:out.length<=100000:=by omega
  refine rappB ⟨rfl,rfl⟩ O5 S5 (by omega) (by simp only [List.length_cons,List.length_nil];omega) λv6 u6 O6 f6=>?_
  have Q6:NAt B u6 b (some ⟨g,0,none⟩) c2 l2:=by
   have Q5:=(Q2.up (w':=u4)).up (w':=u5)
   exact⟨Q5.lo,Q5.cell.fr f6 (λh=>by have:=h.1;omega),Q5.row.fr f6 (λi _ hi h=>by have:=Option.some.inj hi;have:=h.1;simp only at *;omega),Q5.size⟩
  have hpl2:=hp2.length_eq
  rw [List.length_cons] at hpl2
  refine⟨l2.length,by omega,out++[atL l' 0],l2,rfl,⟨_,c2,Q6,λ_=>rfl⟩,hh2,?_,?_,?_,O6,?_⟩
  ·rw [List.append_assoc]
   exact(List.Perm.append_left out hp2).trans hp
  ·refine List.pairwise_append.2 ⟨hs,List.pairwise_singleton ..,λx hx y hy=>?_⟩
   rw [List.mem_singleton.1 hy]
   exact hlo2 x hx _ hx0
  ·intro x hx y hy
   have hy':y∈l':=hp2.mem_iff.1 (List.mem_cons_of_mem _ hy)
   have q_:=List.mem_append.1 hx
   rcases q_ with hx|hx
   ·exact hlo2 x hx y hy'
   ·rw [List.mem_singleton.1 hx];exact hmem y hy'
  ·refine((fu2.trans (Fr.fr (Le.e (a:=u2) (b:=u4)))).trans (Fr.fr e5.e)).trans (f6.mono λi _ h=>?_)
   have:=h.1;omega
 ·have hl0:l'=[]:=List.eq_nil_of_length_eq_zero (by omega)
  subst hl0
  rw [List.append_nil] at hp
  exact⟨out,O,hp,hs,fu⟩
def lvAt (L:List Int) (v:Int):Int:=L.getD v.toNat (-1)
def hitB (L:List Int) (rad:Int) (v:Int):Bool:=decide (0<=lvAt L v/\lvAt L v<=rad)
def hitsP (L:List Int) (rad:Int) (pl:List Int):List HitD:=(pl.filter (hitB L rad)).map λv=>⟨v,lvAt L v⟩
theorem zLR(L:List Int)(rad:Int)(pl:List Int)(v:Int):hitsP L rad (pl++[v])=hitsP L rad pl++if hitB L rad v then [⟨v,lvAt L v⟩] else []:=by
 unfold hitsP
 rw [List.filter_append,List.map_append]
 congr 1
 by_cases h:hitB L rad v=true
 ·rw [if_pos h];simp [h]
 ·rw [if_neg h];simp [h]
theorem zIb(L:List Int)(rad:Int)(pl:List Int):(hitsP L rad pl).length<=pl.length:=by
 unfold hitsP;rw [List.length_map];exact List.length_filter_le ..
theorem zEh{q:List ByteArray}{x:Int}(h:x∈placesL g q):∃v:Nat,x=(v:Int)/\v<g.n:=by
 unfold placesL at h
 have q_:=List.mem_map.1 h
 obtain⟨v,hv,rfl⟩:=q_
 exact⟨v,rfl,List.mem_range.1 (List.mem_filter.1 hv).1⟩
theorem zHc(g:GrD)(q:List ByteArray):(placesL g q).length<=g.n:=by
 unfold placesL;rw [List.length_map]
 exact Nat.le_trans (List.length_filter_le ..) (by simp)
theorem zJD{x:RRow}{r:List EdN}{f:Nat}{rad:Int}{c c2:Nat}{ws:List ByteArray}{ps:List RPo}{q:List ByteArray}(hg:GrIs g)(R:RwF w x g r)(hf:f<g.n)
  (h:SlF w (.slice a n c) ps)(M:PosM w g ws ps)(hn:ps.length<=100000)(hq:SlF w (.slice a2 n2 c2) q)(hq1:q≠[])(hqn:q.length<=1000000)(hrad:0<=rad):
  Sp PP F.qa0 #[agg x,.slice a n c,.int .i64 (f:Int),.slice a2 n2 c2,.int .i64 rad] w λv w'=>(∃v' H L,v=.tuple #[v',.int .i64 0]/\Own w.heap.size E.qi w' v' H/\SrtH H/\LevD g f L/\H.Perm (hitsP L rad (placesL g q)))/\Stp w w':=by
 have h2:=hg.ok.n2
 refine en TBok rfl ?_
 refine rbx λb5 w1 n1 B1=>?_
 have B1:Bk w1 b5 (enc x) E.qj:=B1
 refine rldG (ds:=enc x) (B:=B1) rfl rfl (rcall (zG8 hg (R.up (w':=w1)) hf) ?_)
 rintro _ w2 ⟨⟨vd,L,rfl,OL,hL⟩,e2⟩
 refine iF (· rfl) (rcall (zDG (h.up (w':=w2)) M.up hg hn (hq.up (w':=w2)) hq1 hqn) ?_)
 rintro _ w3 ⟨⟨vp,rfl,OP⟩,e3⟩
 refine iF (· rfl) (iF (by omega) ?_)
 have hLl:=hL.1
 have hpl:=zHc g q
 have q_:=OL.shape
 obtain⟨ad,cd,rfl⟩:=q_
 have q_:=OP.shape
 obtain⟨ap,cp,rfl⟩:=q_
 refine rbs (α:=HitD) (vs:=[]) [] rfl rfl rfl (by decide) λbh w4 n4 S4=>?_
 have t4:Stp w3 w4:=⟨n4.ext⟩
 have OH:Own w3.heap.size E.qi w4 (.slice (some ⟨bh,0,none⟩) 0 0) ([]:List HitD):=Own.nil' _ _ _ _
 refine rbx λb w5 n5 B5=>?_
 have hb5:=n5.lo (u:=w3)
 have B5:Bk w5 b [.slice (some ⟨bh,0,none⟩) 0 0] E.q5:=B5
 have N5:NAt w3.heap.size w5 b (some ⟨bh,0,none⟩) 0 []:=⟨hb5,B5,OH.up (w':=w5),by simp⟩
 have OL5:=(((OL.mono (B':=w.heap.size) (by exact Le.size (a:=w) (b:=w1))).up (w':=w3)).up (w':=w4)).up (w':=w5)
 have OP5:=((OP.mono (B':=w.heap.size) (by exact Le.size (a:=w) (b:=w2))).up (w':=w4)).up (w':=w5)
 have z3:=Le.size (a:=w) (b:=w3)
 refine cnt TBok 43 [16,17] 43 (placesL g q).length (λk u=>∃l,NSt w3.heap.size b l u/\HeapN hlt l l.length/\l.Perm (hitsP L rad ((placesL g q).take k))/\Own w.heap.size E.qa u (.slice ad L.length cd) L/\Own w.heap.size E.qa u (.slice ap (placesL g q).length cp) (placesL g q)/\Stp w u) rfl rfl
  ⟨[],⟨_,_,N5⟩,λc c0 cn=>absurd cn (by simp),.refl _,OL5,OP5,stp⟩ ?_
 rintro k G u hk ⟨l,S,hh,hp,OL,OP,su⟩
 refine ite (λhlt=>?_) (λhge=>?_)
 ·have hk1:k<(placesL g q).length:=by omega
  have hm:(placesL g q)[k]∈placesL g q:=List.getElem_mem hk1
  have q_:=zEh hm
  obtain⟨v,hv,hvn⟩:=q_
  have hpi:(placesL g q)[k]? = some (v:Int):=by rw [List.getElem?_eq_getElem hk1,hv]
  have hvL:v<L.length:=by omega
  have htk:=zLR L rad ((placesL g q).take k) (placesL g q)[k]
  rw [<-zAa hk1,hv] at htk
  have hat:lvAt L (v:Int)=L[v]:=by simp [lvAt,hvL]
  have hll:=hp.length_eq
  have hhl:=zIb L rad ((placesL g q).take k)
  rw [List.length_take] at hhl
  refine rix OP.sl hpi λb6 o6 A6=>rload1 (A6.cell0 rfl) (iT (by omega) (iT (by omega) (rix OL.sl (i:=v) (x:=L[v]) (by simp) λb7 o7 A7=>rload1 (A7.cell0 rfl) (ite (λh0=>?_) (λh0=>?_)))))
  ·refine rix OL.sl (i:=v) (x:=L[v]) (by simp) λb7 o7 A7=>rload1 (A7.cell0 rfl) (ite (λhr=>?_) (λhr=>?_))
   ·have hB:hitB L rad (v:Int)=true:=decide_eq_true (by rw [hat];exact⟨h0,hr⟩)
    rw [if_pos hB,hat] at htk
    refine rmki (rix OL.sl (i:=v) (x:=L[v]) (by simp) λb7 o7 A7=>rload1 (A7.cell0 rfl) (rbuild (cs:=enc (⟨(v:Int),L[v]⟩:HitD)) rfl (rmki (rcall (zKQ (zMB w3.heap.size b) (y:=(⟨(v:Int),L[v]⟩:HitD)) S (by omega) hh (zMD S (by omega))) ?_))))
    rintro _ u2 ⟨⟨l2,hp2,S2,hh2⟩,f2⟩
    have t2:Stp w u2:=⟨FrT.st su.e f2 (by omega)⟩
    exact rA ⟨rfl,hk1,l2,S2,hh2,by rw [htk];exact hp2.trans (hp.append_right _),OL.kept f2 (by decide),OP.kept f2 (by decide),t2⟩
   ·have hB:¬hitB L rad (v:Int)=true:=λh=>hr (by have:=of_decide_eq_true h;rw [hat] at this;exact this.2)
    rw [if_neg hB,List.append_nil] at htk
    exact rA ⟨rfl,hk1,l,S,hh,by rw [htk];exact hp,OL,OP,su⟩
  ·have hB:¬hitB L rad (v:Int)=true:=λh=>h0 (by have:=of_decide_eq_true h;rw [hat] at this;exact this.1)
   rw [if_neg hB,List.append_nil] at htk
   exact rA ⟨rfl,hk1,l,S,hh,by rw [htk];exact hp,OL,OP,su⟩
 ·have hkl:k=(placesL g q).length:=by omega
  rw [hkl,List.take_length] at hp
  refine rmki (rcall (zGv S hh) ?_)
  rintro v u2 ⟨H,OH2,hpH,hs,f2⟩
  have t2:Stp w u2:=⟨Fr.st su.e f2 λi hi=>by omega⟩
  have zu:=su.e.size
  exact⟨⟨v,H,L,rfl,OH2.mono zu,hs,hL,hpH.trans hp⟩,t2⟩
end Go.W
namespace Go.W
open Go
set_option maxRecDepth 10000
variable {B i j k m n n2:Nat} {D:Nat -> Prop} {P:Program} {a a' a2:Option Addr} {g:GrD} {u u' w w':World}
theorem zKp{k:Int}{l m:List HitD}(h:l.Perm m):firstK k l=firstK k m:=by
 unfold firstK
 by_cases hk:k<1
 ·rw [if_pos hk,if_pos hk]
 ·rw [if_neg hk,if_neg hk]
  have q_:∃n:Nat,k=(n:Int):=⟨k.toNat,by omega⟩
  obtain⟨n,rfl⟩:=q_
  rw [zDv,zDv]
  congr 1
  have h1:=zEq l
  have h2:=zEq m
  exact h1.1.uniq h2.1 (h1.2.trans (h.trans h2.2.symm))
section
variable {g:GrD} {q:QyD} {a:AnP}
structure AskR (g:GrD) (q:QyD) (a:AnP):Prop where
 dist:q.kind=1->(∃L:Nat,Dst g q.frm.toNat q.to.toNat L/\a=⟨true,(L:Int),[]⟩)\/((∀k,¬Wlk g k q.frm.toNat q.to.toNat)/\a=zAn)
 reach:q.kind=2->((∃L:Nat,Dst g q.frm.toNat q.to.toNat L)/\a=⟨true,0,[]⟩)\/((∀k,¬Wlk g k q.frm.toNat q.to.toNat)/\a=zAn)
 near:q.kind=3->∃H L,LevD g q.frm.toNat L/\H.Perm (hitsP L q.rad (placesL g q.words))/\a=⟨!(firstK q.most H).isEmpty,0,firstK q.most H⟩
theorem zMA{L:List Int}{f:Nat}(hL:LevD g f L){rad:Int}{ws:List ByteArray}{h:HitD}:h∈hitsP L rad (placesL g ws)↔∃v d:Nat,h=⟨(v:Int),(d:Int)⟩/\(v:Int)∈placesL g ws/\Dst g f v d/\(d:Int)<=rad:=by
 unfold hitsP
 rw [List.mem_map]
 constructor
 ·rintro⟨x,hx,rfl⟩
  have q_:=List.mem_filter.1 hx
  obtain⟨h1,h2⟩:=q_
  have q_:=zEh h1
  obtain⟨v,rfl,hv⟩:=q_
  have h3:=of_decide_eq_true h2
  have q_:=hL.2 v hv
  rcases q_ with ⟨d,hd,he⟩|⟨_,he⟩
  ·have h4:lvAt L (v:Int)=(d:Int):=by simp [lvAt,he]
   rw [h4] at h3 ⊢
   exact⟨v,d,rfl,h1,hd,h3.2⟩
  ·have h4:lvAt L (v:Int) = -1:=by simp [lvAt,he]
   rw [h4] at h3;omega
 ·rintro⟨v,d,rfl,h1,h2,h3⟩
  have q_:=zEh h1
  obtain⟨v',hv',hvn⟩:=q_
  have hvv:v'=v:=by omega
  subst hvv
  have h4:lvAt L (v':Int)=(d:Int):=by
   have q_:=hL.2 v' hvn
   rcases q_ with ⟨d',hd,he⟩|⟨hn,_⟩
   ·rw [Dst.uniq h2 hd];simp [lvAt,he]
   ·exact absurd h2.1 (hn d)
  exact⟨v',List.mem_filter.2 ⟨h1,decide_eq_true (by rw [h4];omega)⟩,by rw [h4]⟩
theorem zKv(L:List Int)(rad:Int)(ws:List ByteArray):(hitsP L rad (placesL g ws)).Nodup:=by
 unfold hitsP placesL
 refine List.Pairwise.map _ (R:=λa b=>a≠b) (λa b h e=>h (by injection e)) ?_
 refine List.Pairwise.filter _ ?_
 refine List.Pairwise.map _ (R:=λa b:Nat=>a≠b) (λa b h e=>h (by omega)) ?_
 exact(List.nodup_range).filter _
theorem zKu(pl:List Int)(i:Nat):(hitsL pl (sts g q 0 i)).Nodup:=by
 unfold hitsL
 have h1:=(zEn (zCK (g:=g) (q:=q) (slot:=0) i)).filter (λx=>decide (x.key.dir=0) && pl.contains x.key.v)
 have h2:((sts g q 0 i).filter λx=>decide (x.key.dir=0) && pl.contains x.key.v).Pairwise λx y=>(⟨x.key.v,x.d⟩:HitD)≠⟨y.key.v,y.d⟩:=by
  refine List.Pairwise.imp_of_mem ?_ h1
  intro x y hx hy hne e
  apply hne
  have q_:=List.mem_filter.1 hx
  obtain⟨hx1,hx2⟩:=q_
  have q_:=List.mem_filter.1 hy
  obtain⟨hy1,hy2⟩:=q_
  rw [Bool.and_eq_true] at hx2 hy2
  have dx:=of_decide_eq_true hx2.1
  have dy:=of_decide_eq_true hy2.1
  have q_:=zAw.1 hx1
  obtain⟨_,_,mx⟩:=q_
  have q_:=zAw.1 hy1
  obtain⟨_,_,my⟩:=q_
  have sx:=(zAl.1 mx).1
  have sy:=(zAl.1 my).1
  obtain⟨⟨s,d,v⟩,e1⟩:=x
  obtain⟨⟨s',d',v'⟩,e2⟩:=y
  simp only at *
  injection e with e3 e4
  subst dx dy sx sy e3
  rfl
 exact List.Pairwise.map _ (λa b h=>h) h2
theorem al_ask(hg:GrOk g){c:CfD}{x:RqD}{b:AnP}(hx:RqOk g x)(h:AlRep g c x a)(hb:AskR g x.q b):b=a:=by
 have W:=al_wlk hg hx h
 obtain⟨i,_,_,_,hd,ha⟩:=h
 have hq:=hx.q.ok
 have q_:=hq.kind
 rcases q_ with hk|hk|hk
 ·have q_:=W.dist hk
  rcases q_ with ⟨L,h1,h2⟩|⟨h1,h2⟩
  ·have q_:=hb.dist hk
   rcases q_ with ⟨L',h3,h4⟩|⟨h3,_⟩
   ·rw [h2,h4,Dst.uniq h1 h3]
   ·exact absurd h1.1 (h3 L)
  ·have q_:=hb.dist hk
   rcases q_ with ⟨L',h3,h4⟩|⟨_,h4⟩
   ·exact absurd h3.1 (h1 L')
   ·rw [h2,h4]
 ·have q_:=W.reach hk
  rcases q_ with ⟨⟨L,h1⟩,h2⟩|⟨h1,h2⟩
  ·have q_:=hb.reach hk
   rcases q_ with ⟨_,h4⟩|⟨h3,_⟩
   ·rw [h2,h4]
   ·exact absurd h1.1 (h3 L)
  ·have q_:=hb.reach hk
   rcases q_ with ⟨⟨L',h3⟩,h4⟩|⟨_,h4⟩
   ·exact absurd h3.1 (h1 L')
   ·rw [h2,h4]
 ·have q_:=zHX hg hq hk hd
  obtain⟨he,h2⟩:=q_
  have q_:=hb.near hk
  obtain⟨H,L,hL,hp,hb'⟩:=q_
  rw [ha,h2,hb']
  have hperm:H.Perm (hitsL (placesL g x.q.words) (sts g x.q 0 (i+1))):=by
   refine hp.trans ((List.perm_ext_iff_of_nodup (zKv _ _ _) (zKu _ _)).2 λy=>?_)
   rw [zMA hL]
   unfold hitsL
   rw [List.mem_map]
   constructor
   ·rintro⟨v,d,rfl,h1,h3,h4⟩
    have h5:v∈lv g x.q 0 d:=(zA9 hg hq d v).2 ⟨h3,λ_=>h4⟩
    have h6:d<i+1:=by
     have q_:=Nat.lt_or_ge d (i+1)
     rcases q_ with h|h
     ·exact h
     ·rw [lv_end he d h] at h5;cases h5
    have h7:=(st0 hg hq).2 ⟨v,d,rfl,h6,h3,λ_=>h4⟩
    exact⟨_,List.mem_filter.2 ⟨h7.1,by simp [h1]⟩,rfl⟩
   ·rintro⟨z,hz,rfl⟩
    have q_:=List.mem_filter.1 hz
    obtain⟨hz1,hz2⟩:=q_
    rw [Bool.and_eq_true] at hz2
    have q_:=(st0 hg hq).1 ⟨hz1,of_decide_eq_true hz2.1⟩
    obtain⟨v,d,rfl,_,h3,h4⟩:=q_
    exact⟨v,d,rfl,by simpa using hz2.2,h3,h4 hk⟩
  rw [zKp hperm]
end
def BstI (la lb:List Int) (k:Nat) (n:Int) (ok:Bool):Prop:=
 (ok=false/\n=0/\∀(v:Nat) (x y:Int),v<k->la[v]? = some x->lb[v]? = some y->¬(0<=x/\0<=y)) \/
 (ok=true/\(∃(v:Nat) (x y:Int),v<k/\la[v]? = some x/\lb[v]? = some y/\0<=x/\0<=y/\n=x+y)/\∀(v:Nat) (x y:Int),v<k->la[v]? = some x->lb[v]? = some y->0<=x->0<=y->n<=x+y)
section
variable {la lb:List Int} {k:Nat} {n x y:Int} {ok:Bool}
theorem BstI.nil:BstI la lb 0 0 false:=.inl ⟨rfl,rfl,λv _ _ h=>by omega⟩
theorem BstI.skip(I:BstI la lb k n ok)(hx:la[k]? = some x)(hy:lb[k]? = some y)(h:¬(0<=x/\0<=y)\/ok=true/\n<=x+y):BstI la lb (k+1) n ok:=by
 have new:∀(v:Nat) (x' y':Int),v<k+1->la[v]? = some x'->lb[v]? = some y'->v<k\/x'=x/\y'=y:=λv x' y' hv h1 h2=>by
  have q_:=Nat.lt_or_ge v k
  rcases q_ with h3|h3
  ·exact .inl h3
  ·have:v=k:=by omega
   subst this
   rw [hx] at h1;rw [hy] at h2
   exact .inr ⟨(Option.some.inj h1).symm,(Option.some.inj h2).symm⟩
 rcases I with ⟨h1,h2,h3⟩|⟨h1,⟨v,x',y',h2,h3⟩,h4⟩
 ·refine .inl ⟨h1,h2,λv x' y' hv hx' hy'=>?_⟩
  have q_:=new v x' y' hv hx' hy'
  rcases q_ with h5|⟨rfl,rfl⟩
  ·exact h3 v x' y' h5 hx' hy'
  ·rcases h with h|⟨h,_⟩
   ·exact h
   ·rw [h1] at h;cases h
 ·refine .inr ⟨h1,⟨v,x',y',by omega,h3⟩,λv x' y' hv hx' hy' hx0 hy0=>?_⟩
  have q_:=new v x' y' hv hx' hy'
  rcases q_ with h5|⟨rfl,rfl⟩
  ·exact h4 v x' y' h5 hx' hy' hx0 hy0
  ·rcases h with h|⟨_,h⟩
   ·exact absurd ⟨hx0,hy0⟩ h
   ·exact h
theorem BstI.take(I:BstI la lb k n ok)(hx:la[k]? = some x)(hy:lb[k]? = some y)(hx0:0<=x)(hy0:0<=y)(h:ok=false\/x+y<n):BstI la lb (k+1) (x+y) true:=by
 refine .inr ⟨rfl,⟨k,x,y,by omega,hx,hy,hx0,hy0,rfl⟩,λv x' y' hv hx' hy' hx1 hy1=>?_⟩
 have q_:=Nat.lt_or_ge v k
 rcases q_ with h3|h3
 ·rcases I with ⟨_,_,h4⟩|⟨h1,_,h4⟩
  ·exact absurd ⟨hx1,hy1⟩ (h4 v x' y' h3 hx' hy')
  ·have h5:=h4 v x' y' h3 hx' hy' hx1 hy1
   rcases h with h|h
   ·rw [h1] at h;cases h
   ·omega
 ·have:v=k:=by omega
  subst this
  rw [hx] at hx';rw [hy] at hy'
  cases hx';cases hy'
  omega
end
section
variable {g:GrD} {f t d:Nat} {la lb:List Int} {fa fb:List Nat} {n:Int} {ok:Bool}
theorem zOF(hg:GrOk g)(hf:f<g.n)(ht:t<g.n)(I:LevI g (qq f t) 0 d la fa){v:Nat}{x:Int}(hx:la[v]? = some x)(h0:0<=x):∃a:Nat,x=(a:Int)/\a<=d/\Dst g f v a:=by
 have hv:v<g.n:=by rw [<-I.len];exact(List.getElem?_eq_some_iff.1 hx).1
 by_cases h:v∈sn g (qq f t) 0 (d+1)
 ·have q_:=mem_sn.1 h
  obtain⟨j,h1,h2⟩:=q_
  have h3:=I.yes v j (by omega) h2
  rw [hx] at h3
  have h4:=(zA9 hg (qq_ok hf ht) j v).1 h2
  rw [show (qq f t).frm.toNat=f by simp [qq]] at h4
  exact⟨j,Option.some.inj h3,by omega,h4.1⟩
 ·have h3:=I.no v hv h
  rw [hx] at h3
  have:=Option.some.inj h3
  omega
theorem zOH(hg:GrOk g)(I:LevI g (qq f t) 1 d lb fb){v:Nat}{x:Int}(hx:lb[v]? = some x)(h0:0<=x):∃a:Nat,x=(a:Int)/\a<=d/\Dst g v t a:=by
 have hv:v<g.n:=by rw [<-I.len];exact(List.getElem?_eq_some_iff.1 hx).1
 by_cases h:v∈sn g (qq f t) 1 (d+1)
 ·have q_:=mem_sn.1 h
  obtain⟨j,h1,h2⟩:=q_
  have h3:=I.yes v j (by omega) h2
  rw [hx] at h3
  have h4:=(zCH hg (rfl:(qq f t).kind=1) j v).1 h2
  rw [show (qq f t).to.toNat=t by simp [qq]] at h4
  exact⟨j,Option.some.inj h3,by omega,h4⟩
 ·have h3:=I.no v hv h
  rw [hx] at h3
  have:=Option.some.inj h3
  omega
theorem zOG(hg:GrOk g)(hf:f<g.n)(ht:t<g.n)(I:LevI g (qq f t) 0 d la fa){v a:Nat}(ha:a<=d)(h:Dst g f v a):la[v]? = some (a:Int):=
 I.yes v a ha ((zA9 hg (qq_ok hf ht) a v).2 ⟨by rw [show (qq f t).frm.toNat=f by simp [qq]];exact h,λh=>absurd h qq_k⟩)
theorem zOI(hg:GrOk g)(I:LevI g (qq f t) 1 d lb fb){v a:Nat}(ha:a<=d)(h:Dst g v t a):lb[v]? = some (a:Int):=
 I.yes v a ha ((zCH hg (rfl:(qq f t).kind=1) a v).2 (by rw [show (qq f t).to.toNat=t by simp [qq]];exact h))
theorem zJA(hg:GrOk g)(hf:f<g.n)(ht:t<g.n)(Ia:LevI g (qq f t) 0 d la fa)(Ib:LevI g (qq f t) 1 d lb fb){L:Nat}(hL:Dst g f t L)(h:L<=2*d):∃v,v<g.n/\∃a b:Nat,la[v]? = some (a:Int)/\lb[v]? = some (b:Int)/\a+b=L:=by
 have q_:∃a b,a+b=L/\a<=d/\b<=d:=⟨min L d,L - min L d,by omega,by omega,by omega⟩
 obtain⟨a,b,hab,ha,hb⟩:=q_
 rw [<-hab] at hL
 have q_:=hL.mid
 obtain⟨m,h1,h2⟩:=q_
 have h3:=zOG hg hf ht Ia ha h1
 exact⟨m,by rw [<-Ia.len];exact(List.getElem?_eq_some_iff.1 h3).1,a,b,h3,zOI hg Ib hb h2,hab⟩
theorem zLC(hg:GrOk g)(hf:f<g.n)(ht:t<g.n)(Ia:LevI g (qq f t) 0 d la fa)(Ib:LevI g (qq f t) 1 d lb fb)(B:BstI la lb g.n n true):∃L:Nat,Dst g f t L/\n=(L:Int):=by
 rcases B with ⟨h,_⟩|⟨_,⟨v,x,y,hv,hx,hy,hx0,hy0,hn⟩,hall⟩
 ·cases h
 have q_:=zOF hg hf ht Ia hx hx0
 obtain⟨a,rfl,ha,hDa⟩:=q_
 have q_:=zOH hg Ib hy hy0
 obtain⟨b,rfl,hb,hDb⟩:=q_
 have q_:=Dst.ex (hDa.1.app hDb.1)
 obtain⟨L,hL1,hL⟩:=q_
 refine⟨L,hL,?_⟩
 have q_:=zJA hg hf ht Ia Ib hL (by omega)
 obtain⟨m,hm,a',b',h1,h2,h3⟩:=q_
 have:=hall m a' b' hm h1 h2 (by omega) (by omega)
 omega
theorem zMf(hg:GrOk g)(hf:f<g.n)(ht:t<g.n)(Ia:LevI g (qq f t) 0 d la fa)(Ib:LevI g (qq f t) 1 d lb fb)(B:BstI la lb g.n n false):n=0/\∀L,Dst g f t L->2*d<L:=by
 rcases B with ⟨_,h0,h⟩|⟨h,_⟩
 ·refine⟨h0,λL hL=>?_⟩
  apply Classical.byContradiction
  intro hn
  have q_:=zJA hg hf ht Ia Ib hL (by omega)
  obtain⟨m,hm,a',b',h1,h2,h3⟩:=q_
  exact h m a' b' hm h1 h2 ⟨by omega,by omega⟩
 ·cases h
theorem zIz(hg:GrOk g)(hf:f<g.n)(ht:t<g.n)(hL:∀L,Dst g f t L->2*d<L)(he:lv g (qq f t) 0 (d+1)=[]\/lv g (qq f t) 1 (d+1)=[]):∀k,¬Wlk g k f t:=λk hw=>by
 have q_:=Dst.ex hw
 obtain⟨L,_,hD⟩:=q_
 have h1:=hL L hD
 rcases he with he|he
 ·have q_:∃b,L=(d+1)+b:=⟨L - (d+1),by omega⟩
  obtain⟨b,hb⟩:=q_
  rw [hb] at hD
  have q_:=hD.mid
  obtain⟨m,h2,_⟩:=q_
  have h3:=(zA9 hg (qq_ok hf ht) (d+1) m).2 ⟨by rw [show (qq f t).frm.toNat=f by simp [qq]];exact h2,λh=>absurd h qq_k⟩
  rw [he] at h3;cases h3
 ·have q_:∃b,L=b+(d+1):=⟨L - (d+1),by omega⟩
  obtain⟨b,hb⟩:=q_
  rw [hb] at hD
  have q_:=hD.mid
  obtain⟨m,_,h2⟩:=q_
  have h3:=(zCH hg (rfl:(qq f t).kind=1) (d+1) m).2 (by rw [show (qq f t).to.toNat=t by simp [qq]];exact h2)
  rw [he] at h3;cases h3
end
end Go.W
namespace Go.W
open Go Go.Proofs
open Enc (enc)
set_option maxRecDepth 10000
variable {B i j k m n n2:Nat} {D:Nat -> Prop} {P:Program} {a a' a2:Option Addr} {g:GrD} {u u' w w':World}
theorem zMd{x:RRow}{r:List EdN}{f t d ba br:Nat}{laa:Option Addr}{lca:Nat}{lev:List Int}{fr:List Nat}(hg:GrIs g)(R:RwF w x g r)(hf:f<g.n)(ht:t<g.n)(Br:Bk w br (enc x) E.qj)(I:LevI g (qq f t) 0 d lev fr)(hnd:fr.length<=200)
  (Q:SidM B w ba F.qe br laa lca lev fr):Sp PP F.qy #[.pointer (some ⟨ba,0,none⟩)] w λv w'=>(∃l,l.Nodup/\(∀y,y∈l↔y∈lv g (qq f t) 0 (d+1))/\Own w.heap.size E.qa w' v (intsN l))/\Stp w w':=
 (zED (nb:=nbL g 0) Q (by rw [I.len];exact hg.ok.n2) (by omega) (λv hv=>⟨nb_len hg 0 v,λy hy=>by rw [I.len];exact nb_lt hg.ok hy⟩) (λv hv u e=>by
  have:=zIG (w0:=w) (w:=u) hg Br R (I.fl hf ht v hv)
  exact this)).mono λv w' ⟨⟨l,m,A,O⟩,e⟩=>⟨⟨l,A.nd,zHS hg.ok hf ht I A,O⟩,e⟩
def SmL (n:Nat) (l:List Int):Prop:=l.length=n/\∀(v:Nat) (x:Int),l[v]? = some x->-1<=x/\x<=1000
theorem LevI.sm{f t d:Nat}{dir:Int}{lev:List Int}{fr:List Nat}(I:LevI g (qq f t) dir d lev fr)(hf:f<g.n)(ht:t<g.n)(hn:g.n<=200):SmL g.n lev:=⟨I.len,λv x hx=>by
 have hv:v<g.n:=by rw [<-I.len];exact(List.getElem?_eq_some_iff.1 hx).1
 have q_:=I.neg hf ht hv
 obtain⟨y,hy,_,h1,h2⟩:=q_
 rw [hx] at hy
 have:=Option.some.inj hy
 omega⟩
theorem zFK{ba bb:Nat}{pa pb:Value}{va vb:List Value}{laa lab:Option Addr}{lca lcb:Nat}{la lb:List Int}(Ka:Bk w ba (pa::.slice laa n lca::va) E.q4)(Kb:Bk w bb (pb::.slice lab n lcb::vb) E.q4)(Sa:SlF w (.slice laa n lca) la)(Sb:SlF w (.slice lab n lcb) lb)
  (ha:SmL n la)(hb:SmL n lb)(hn:n<=200):
  Sp PP F.dl #[.agg #[.pointer (some ⟨ba,0,none⟩),.pointer (some ⟨bb,0,none⟩)]] w λv w'=>(∃(m:Int) (ok:Bool),v=.tuple #[.int .i64 m,.bool ok]/\BstI la lb n m ok)/\Stp w w':=by
 refine en TBok rfl ?_
 refine rbx λbp w1 n1 P1=>?_
 have P1:Bk w1 bp [.pointer (some ⟨ba,0,none⟩),.pointer (some ⟨bb,0,none⟩)] E.yf:=P1
 refine rld (B:=P1) rfl (rld (B:=Ka.mv (w:=w1)) rfl (cnt2 TBok 15 [6,7,8] 4 5 15 n (λk v1 v2 u=>∃(m:Int) (ok:Bool),v1=.int .i64 m/\v2=.bool ok/\BstI la lb k m ok/\Stp w1 u) rfl rfl ⟨0,false,rfl,rfl,BstI.nil,stp⟩ ?_))
 rintro k _ _ G u hk ⟨m,ok,rfl,rfl,I,su⟩
 refine ite (λhlt=>?_) (λhge=>?_)
 ·have hk1:k<n:=by omega
  have hka:k<la.length:=by rw [ha.1];exact hk1
  have hkb:k<lb.length:=by rw [hb.1];exact hk1
  have hxa:la[k]? = some la[k]:=by simp
  have hxb:lb[k]? = some lb[k]:=by simp
  have q_:∃x,x=la[k]:=⟨_,rfl⟩
  obtain⟨x,hx⟩:=q_
  have q_:∃y,y=lb[k]:=⟨_,rfl⟩
  obtain⟨y,hy⟩:=q_
  rw [<-hx] at hxa
  rw [<-hy] at hxb
  have bx:=ha.2 k x hxa
  have by':=hb.2 k y hxb
  refine rix (Sa.up (w':=u)) hxa λb2 o2 A2=>rload1 (A2.cell0 rfl) (rld (B:=P1.mv (w:=u)) rfl (rld (B:=Kb.mv (w:=u)) rfl (rix (Sb.up (w':=u)) hxb λb3 o3 A3=>rload1 (A3.cell0 rfl) ?_)))
  have skip:(¬(0<=x/\0<=y)\/ok=true/\m<=x+y)->∃(m':Int) (ok':Bool),Value.int .i64 m=.int .i64 m'/\Value.bool ok=.bool ok'/\BstI la lb (k+1) m' ok'/\Stp w1 u:=λh=>⟨m,ok,rfl,rfl,I.skip hxa hxb h,su⟩
  refine ite (λh1=>?_) (λh1=>?_)
  ·refine ite (λh2=>?_) (λh2=>?_)
   ·cases ok with
    |false =>
     refine rA ?_
     exact rA ⟨rfl,hk1,_,_,rfl,rfl,I.take hxa hxb (by omega) (by omega) (.inl rfl),stp⟩
    |true =>
     refine rA (ite (λh3=>?_) (λh3=>?_))
     ·refine rA ?_
      exact rA ⟨rfl,hk1,_,_,rfl,rfl,I.take hxa hxb (by omega) (by omega) (.inr (by omega)),stp⟩
     ·exact rA ⟨rfl,hk1,skip (.inr ⟨rfl,by omega⟩)⟩
   ·exact rA ⟨rfl,hk1,skip (.inl (by omega))⟩
  ·exact rA ⟨rfl,hk1,skip (.inl (by omega))⟩
 ·have hkn:k=n:=by omega
  rw [hkn] at I
  exact⟨⟨m,ok,rfl,I⟩,stp⟩
structure TwoI (g:GrD) (f t B ba bb br pa pb:Nat) (laa:Option Addr) (lca:Nat) (lab:Option Addr) (lcb:Nat) (d:Nat) (la lb:List Int) (fra frb:List Nat) (u:World):Prop where
 Ia:LevI g (qq f t) 0 d la fra
 Ib:LevI g (qq f t) 1 d lb frb
 fl:fra.length<=200/\frb.length<=200
 ne:fra≠[]/\frb≠[]
 a:∃fa fc,SidF B u ba F.qe br laa lca la fa fc fra/\∀b,Value.blk (.slice fa fra.length fc)=some b->b≠bb/\b≠pb
 b:∃fa fc,SidF B u bb F.qi br lab lcb lb fa fc frb/\∀b,Value.blk (.slice fa frb.length fc)=some b->b≠ba/\b≠pa
structure TwoP (n B ba bb br pa pb:Nat) (laa:Option Addr) (lca:Nat) (lab:Option Addr) (lcb:Nat):Prop where
 hpa:Value.blk (.slice laa n lca)=some pa
 hpb:Value.blk (.slice lab n lcb)=some pb
 ne:ba≠bb/\pa≠pb/\pa≠bb/\pb≠ba
 lo:B<=ba/\B<=bb/\B<=pa/\B<=pb
 br:br<B
theorem SidF.fr{bs:Nat}{fn:FuncId}{br:Nat}{la:Option Addr}{lc:Nat}{lev:List Int}{fa:Option Addr}{fc:Nat}{fr:List Nat}(h:SidF B w bs fn br la lc lev fa fc fr)(f:Fr D w w')(h1:¬D bs)(h2:∀b,Value.blk (.slice la lev.length lc)=some b->¬D b)(h3:∀b,Value.blk (.slice fa fr.length fc)=some b->¬D b):SidF B w' bs fn br la lc lev fa fc fr:=by
 obtain⟨K,O,S,q1,q2,q3⟩:=h
 exact⟨K.fr f h1,O.fr f λb _=>h2 b,S.fr f h3,q1,q2,q3⟩
theorem SidF.lax{B':Nat}{bs:Nat}{fn:FuncId}{br:Nat}{la:Option Addr}{lc:Nat}{lev:List Int}{fa:Option Addr}{fc:Nat}{fr:List Nat}(h:SidF B w bs fn br la lc lev fa fc fr)(hB:B'<=B):SidF B' w bs fn br la lc lev fa fc fr:=by
 obtain⟨K,O,S,q1,q2,q3⟩:=h
 exact⟨K,O.mono hB,S,λb hb=>⟨(q1 b hb).1,by have:=(q1 b hb).2;omega⟩,q2,by omega⟩
theorem own_in{v:Value}{l:List Nat}(O:Own B E.qa w v (intsN l)):∃a c,v=.slice a l.length c/\SlF w (.slice a l.length c) (intsN l)/\(l≠[]->∀b,Value.blk (.slice a l.length c)=some b->B<=b):=by
 have hil:=zCU l
 have q_:=O.shape
 obtain⟨a,c,rfl⟩:=q_
 have hsl:=O.sl
 rw [hil] at hsl
 refine⟨a,c,by rw [hil],hsl,λhl b hb=>?_⟩
 have q_:=O.lt (λh=>hl (List.map_eq_nil_iff.1 h))
 obtain⟨b',h3,h4,h5⟩:=q_
 rw [hil] at h3
 rw [h3] at hb
 have:=Option.some.inj hb
 omega
theorem zIh{f t d:Nat}{dir:Int}{l:List Nat}(h:∀y,y∈l↔y∈lv g (qq f t) dir d)(hl:l=[]):lv g (qq f t) dir d=[]:=by
 cases e:lv g (qq f t) dir d with
 |nil=>rfl
 |cons y q=>have:=(h y).2 (by rw [e];exact List.mem_cons_self);rw [hl] at this;cases this
theorem zLV{f t d:Nat}{dir:Int}{l:List Nat}(h:∀y,y∈l↔y∈lv g (qq f t) dir d)(hl:l≠[]):lv g (qq f t) dir d≠[]:=by
 have q_:=List.exists_mem_of_ne_nil _ hl
 obtain⟨y,hy⟩:=q_
 exact List.ne_nil_of_mem ((h y).1 hy)
theorem nd_le{f t d:Nat}{dir:Int}{l:List Nat}(hf:f<g.n)(ht:t<g.n)(hn:l.Nodup)(h:∀y,y∈l↔y∈lv g (qq f t) dir d):l.length<=g.n:=zB7 hn λy hy=>lv_lt (qq_ok hf ht) ((h y).1 hy)
theorem zGi{x:RRow}{r:List EdN}{f t ba bb br pa pb:Nat}{laa lab:Option Addr}{lca lcb:Nat}{la lb:List Int}{fra frb:List Nat}(hg:GrIs g)(R:RwF w x g r)(hR:∀u,Fr (λi=>B<=i) w u->RwF u x g r)(hf:f<g.n)(ht:t<g.n)(Br:Bk w br (enc x) E.qj)
  (T:TwoP g.n B ba bb br pa pb laa lca lab lcb)(I:TwoI g f t B ba bb br pa pb laa lca lab lcb 0 la lb fra frb w):
  Sp PP F.d1 #[.agg #[.pointer (some ⟨ba,0,none⟩),.pointer (some ⟨bb,0,none⟩)]] w λv w'=>(∃(s n:Int) (ok:Bool),v=.tuple #[.int .i64 s,.int .i64 n,.bool ok]/\((ok=true/\∃L:Nat,Dst g f t L/\n=(L:Int))\/(ok=false/\n=0/\∀k,¬Wlk g k f t)))/\Fr (λi=>B<=i) w w':=by
 have h2:=hg.ok.n2
 obtain⟨hpa,hpb,⟨n1,n2,n3,n4⟩,⟨l1,l2,l3,l4⟩,lbr⟩:=T
 have ea:∀b,Value.blk (.slice laa g.n lca)=some b->b=pa:=λb h=>by rw [h] at hpa;exact Option.some.inj hpa
 have eb:∀b,Value.blk (.slice lab g.n lcb)=some b->b=pb:=λb h=>by rw [h] at hpb;exact Option.some.inj hpb
 refine en TBok rfl ?_
 refine rbx λbp w1 m1 P1=>?_
 have P1:Bk w1 bp [.pointer (some ⟨ba,0,none⟩),.pointer (some ⟨bb,0,none⟩)] E.yf:=P1
 have hba:ba<w.heap.size:=by obtain⟨_,_,⟨K,_⟩,_⟩:=I.a;exact K.lt
 have hbb:bb<w.heap.size:=by obtain⟨_,_,⟨K,_⟩,_⟩:=I.b;exact K.lt
 have bpl:=m1.lo (u:=w)
 have lpa:pa<w.heap.size:=by
  have q_:=I.a
  obtain⟨_,_,⟨_,O,_⟩,_⟩:=q_
  have hl:=I.Ia.len
  obtain⟨b,h1,_,h3⟩:=O.lt (by intro h;rw [h] at hl;simp at hl;omega)
  rw [hl] at h1
  have:=ea b h1
  omega
 have lpb:pb<w.heap.size:=by
  have q_:=I.b
  obtain⟨_,_,⟨_,O,_⟩,_⟩:=q_
  have hl:=I.Ib.len
  obtain⟨b,h1,_,h3⟩:=O.lt (by intro h;rw [h] at hl;simp at hl;omega)
  rw [hl] at h1
  have:=eb b h1
  omega
 have I1:TwoI g f t B ba bb br pa pb laa lca lab lcb 0 la lb fra frb w1:=by
  obtain⟨Ia,Ib,q1,q2,⟨fa,fc,Sa,ha⟩,⟨fa2,fc2,Sb,hb⟩⟩:=I
  exact⟨Ia,Ib,q1,q2,⟨fa,fc,Sa.fr (D:=λ_=>False) Le.e id (λ_ _=>id) (λ_ _=>id),ha⟩,⟨fa2,fc2,Sb.fr (D:=λ_=>False) Le.e id (λ_ _=>id) (λ_ _=>id),hb⟩⟩
 refine loop1G TBok 3 [] 2 (λi v u=>∃d la lb fra frb,i=g.n - d/\v=.int .i64 (d:Int)/\TwoI g f t B ba bb br pa pb laa lca lab lcb d la lb fra frb u/\Fr (λi=>i=ba\/i=bb\/i=pa\/i=pb) w1 u) rfl
  ⟨g.n - 0,0,la,lb,fra,frb,rfl,rfl,I1,Fr.refl _ _⟩ ?_
 clear I I1
 rintro i v G u ⟨d,la,lb,fra,frb,hi,rfl,I,fu⟩
 have zu:=fu.size
 have z1:=Le.size (a:=w) (b:=w1)
 have Pu:=P1.fr fu (by omega)
 have DB:∀i,(i=ba\/i=bb\/i=pa\/i=pb)->B<=i:=λi h=>by omega
 have fwu:Fr (λi=>B<=i) w u:=(Fr.fr Le.e:Fr _ w w1).trans (fu.mono λi _ h=>DB i h)
 obtain⟨Ia,Ib,⟨q1,q2⟩,⟨q3,q4⟩,⟨fa,fc,Sa,ha⟩,⟨fa2,fc2,Sb,hb⟩⟩:=I
 have hla:=Ia.len
 have hlb:=Ib.len
 have hdn:d<g.n:=zEd (dir:=0) (qq_ok hf ht) (zLV Ia.fr q3)
 have Sa':=Sa
 have Sb':=Sb
 obtain⟨Ka,Oa,_,_,_,_⟩:=Sa'
 obtain⟨Kb,Ob,_,_,_,_⟩:=Sb'
 rw [hla] at Ka Oa
 rw [hlb] at Kb Ob
 refine rldG (ds:=[.pointer (some ⟨ba,0,none⟩),.pointer (some ⟨bb,0,none⟩)]) (B:=Pu) rfl rfl (rcall (zFK Ka Kb Oa.sl Ob.sl (Ia.sm hf ht h2) (Ib.sm hf ht h2) h2) ?_)
 rintro _ w2 ⟨⟨m,ok,rfl,hbst⟩,e2⟩
 have fw2:Fr (λi=>B<=i) w w2:=fwu.trans (Fr.fr e2.e)
 cases ok with
 |true =>
  have q_:=zLC hg.ok hf ht Ia Ib hbst
  obtain⟨L,hL,hm⟩:=q_
  exact⟨⟨_,_,_,rfl,.inl ⟨rfl,L,hL,hm⟩⟩,fw2⟩
 |false =>
  have q_:=zMf hg.ok hf ht Ia Ib hbst
  obtain⟨hm0,hfar⟩:=q_
  have Br2:Bk w2 br (enc x) E.qj:=Br.fr fw2 (by omega)
  refine drawRT TBok mixed (λ_=>False) (.one 0 (.one 1 (.one 3 (.one 4 (.one 2 (.one 5 (.one 6 (.one 7 .nil)))))))) (by kernel_rfl) λw3 e3 _=>?_
  have P3:=Pu.mv (w:=w3)
  refine tld (B:=P3) rfl id (tld (B:=P3) rfl id ?_)
  refine rcall (zMd hg ((hR w2 fw2).up (w':=w3)) hf ht (Br2.mv (w:=w3)) Ia q1 (B:=B) ⟨fa,fc,(Sa.fr (D:=λ_=>False) (Le.e (a:=u) (b:=w3)) id (λ_ _=>id) (λ_ _=>id))⟩) ?_
  rintro va w4 ⟨⟨lA,ndA,mA,OA⟩,e4⟩
  refine⟨Fr.fr e4.e,?_⟩
  refine rcall (zMe hg ((hR w2 fw2).up (w':=w4)) hf ht (Br2.mv (w:=w4)) Ib q2 (B:=B) ⟨fa2,fc2,(Sb.fr (D:=λ_=>False) (Le.e (a:=u) (b:=w4)) id (λ_ _=>id) (λ_ _=>id))⟩) ?_
  rintro vb w5 ⟨⟨lB,ndB,mB,OB⟩,e5⟩
  refine⟨Fr.fr e5.e,?_⟩
  have z3:=Le.size (a:=u) (b:=w3)
  have z4:=e4.e.size
  have q_:=own_in OA
  obtain⟨aA,cA,rfl,SA,hA⟩:=q_
  have q_:=own_in OB
  obtain⟨aB,cB,rfl,SB,hB⟩:=q_
  have fw5:Fr (λi=>B<=i) w w5:=fwu.trans (Fr.fr (Le.e (a:=u) (b:=w5)))
  refine ite (λh0=>?_) (λh0=>?_)
  ·have hlA:lA=[]:=List.eq_nil_of_length_eq_zero (by omega)
   exact⟨⟨_,_,_,rfl,.inr ⟨rfl,hm0,zIz hg.ok hf ht hfar (.inl (zIh mA hlA))⟩⟩,fw5⟩
  refine ite (λh1=>?_) (λh1=>?_)
  ·have hlB:lB=[]:=List.eq_nil_of_length_eq_zero (by omega)
   exact⟨⟨_,_,_,rfl,.inr ⟨rfl,hm0,zIz hg.ok hf ht hfar (.inr (zIh mB hlB))⟩⟩,fw5⟩
  have nA:lA≠[]:=λh=>h0 (by rw [h];rfl)
  have nB:lB≠[]:=λh=>h1 (by rw [h];rfl)
  have hA:=hA nA
  have hB:=hB nB
  have lAn:=nd_le hf ht ndA mA
  have lBn:=nd_le hf ht ndB mB
  obtain⟨f0,fr',hfr⟩:∃a b,fra=a::b:=by
   cases fra with
   |nil=>exact absurd rfl q3
   |cons a b=>exact⟨a,b,rfl⟩
  obtain⟨g0,gr',hgr⟩:∃a b,frb=a::b:=by
   cases frb with
   |nil=>exact absurd rfl q4
   |cons a b=>exact⟨a,b,rfl⟩
  have hf0:f0∈Go.W.lv g (qq f t) 0 d:=(Ia.fr f0).1 (by rw [hfr];exact List.mem_cons_self)
  have hg0:g0∈Go.W.lv g (qq f t) 1 d:=(Ib.fr g0).1 (by rw [hgr];exact List.mem_cons_self)
  have hx:la[f0]? = some (d:Int):=Ia.yes f0 d (Nat.le_refl _) hf0
  have hy:lb[g0]? = some (d:Int):=Ib.yes g0 d (Nat.le_refl _) hg0
  have Sa5:=Sa.fr (D:=λ_=>False) (Le.e (a:=u) (b:=w5)) id (λ_ _=>id) (λ_ _=>id)
  have Sb5:=Sb.fr (D:=λ_=>False) (Le.e (a:=u) (b:=w5)) id (λ_ _=>id) (λ_ _=>id)
  have P5:=P3.mv (w:=w5)
  refine rld (B:=P5) rfl ?_
  have D6:=zE4 (l:=lA) (a2:=aA) (c2:=cA) (w:=w5) ⟨fa,fc,Sa5⟩ (by omega) hfr hx (by omega) (λy hy=>by rw [hla];exact lv_lt (qq_ok hf ht) ((mA y).1 hy)) (λh=>by have:=zCX hf0 ((mA f0).1 h);omega) (by omega) SA.up (λb hb=>by
   have h3:=hA b hb
   rw [hla];exact⟨λh=>by have:=ea b h;omega,by omega,by omega⟩)
  rw [hla] at D6
  refine rcall D6 ?_
  rintro _ w6 ⟨Q6,f6⟩
  have z6:=f6.size
  have IA6:=zGJ hf ht Ia mA
  have P6:=P5.fr f6 λh=>by
   rcases h with h|h
   ·omega
   ·have:=ea _ h;omega
  have Sb6:=Sb5.fr f6 (λh=>by
   rcases h with h|h
   ·omega
   ·have:=ea _ h;omega) (λb hb h=>by
   rw [hlb] at hb
   have h3:=eb b hb
   rcases h with h|h
   ·omega
   ·have:=ea _ h;omega) (λb hb' h=>by
   have h3:=hb b hb'
   rcases h with h|h
   ·omega
   ·have:=ea _ h;omega)
  have SB6:=(SB.fr f6 λb hb h=>by
   have h3:=hB b hb
   rcases h with h|h
   ·omega
   ·have:=ea _ h;omega)
  refine rld (B:=P6) rfl ?_
  have D7:=zE4 (l:=lB) (a2:=aB) (c2:=cB) (w:=w6) ⟨fa2,fc2,Sb6⟩ (by omega) hgr hy (by omega) (λy hy=>by rw [hlb];exact lv_lt (qq_ok hf ht) ((mB y).1 hy)) (λh=>by have:=zCX hg0 ((mB g0).1 h);omega) (by omega) SB6 (λb hb=>by
   have h3:=hB b hb
   rw [hlb];exact⟨λh=>by have:=eb b h;omega,by omega,by omega⟩)
  rw [hlb] at D7
  refine rcall D7 ?_
  rintro _ w7 ⟨Q7,f7⟩
  have z7:=f7.size
  have IB7:=zGJ hf ht Ib mB
  have hl7:=zBs ((d:Int)+1) lA la
  have Q67:=Q6.fr f7 (λh=>by
   rcases h with h|h
   ·omega
   ·have:=eb _ h;omega) (λb hb h=>by
   rw [hl7,hla] at hb
   have h3:=ea b hb
   rcases h with h|h
   ·omega
   ·have:=eb _ h;omega) (λb hb' h=>by
   have h3:=hA b hb'
   rcases h with h|h
   ·omega
   ·have:=eb _ h;omega)
  have f17:Fr (λi=>i=ba\/i=bb\/i=pa\/i=pb) w1 w7:=((fu.trans (Fr.fr (Le.e (a:=u) (b:=w5)))).trans (f6.mono λi _ h=>by
   rcases h with h|h
   ·exact .inl h
   ·exact .inr (.inr (.inl (ea i h))))).trans (f7.mono λi _ h=>by
   rcases h with h|h
   ·exact .inr (.inl h)
   ·exact .inr (.inr (.inr (eb i h))))
  refine rarE (show (d:Int)+1=((d+1:Nat):Int) by omega) (by omega) ?_
  exact⟨g.n - (d+1),by omega,d+1,_,_,lA,lB,rfl,rfl,⟨IA6,IB7,⟨by omega,by omega⟩,⟨nA,nB⟩,⟨aA,cA,Q67,λb hb=>by
   have:=hA b hb
   omega⟩,⟨aB,cB,Q7,λb hb=>by
   have:=hB b hb
   omega⟩⟩,f17⟩
theorem zJc{x:RRow}{r:List EdN}{f t:Nat}(hg:GrIs g)(R:RwF w x g r)(hf:f<g.n)(ht:t<g.n):
  Sp PP F.qaz #[agg x,.int .i64 (f:Int),.int .i64 (t:Int)] w λv w'=>((∃L:Nat,Dst g f t L/\v=.tuple #[.int .i64 (L:Int),.bool true,.int .i64 0])\/((∀k,¬Wlk g k f t)/\v=.tuple #[.int .i64 0,.bool false,.int .i64 0]))/\Stp w w':=by
 have h2:=hg.ok.n2
 refine en TBok rfl ?_
 refine rbx λbo w1 n1 B1=>?_
 have B1:Bk w1 bo (enc x) E.qj:=B1
 refine rldG (B:=B1) rfl rfl ?_
 refine rcall (zJe hg (R.up (w':=w1)) hf ht) ?_
 rintro _ w2 ⟨⟨ba,bb,br,laa,lca,lab,lcb,fa,fc,B1',B2,rfl,Sa,Sb,Br,hbr,hbr1,hB12',hba,hlaa2,hfa⟩,e2⟩
 have hla:levA g.n f≠[]:=λh=>by have:=congrArg List.length h;rw [zCV] at this;simp at this;omega
 have hlb:levA g.n t≠[]:=λh=>by have:=congrArg List.length h;rw [zCV] at this;simp at this;omega
 have Sa':SidM B1' w2 ba F.qe br laa lca (levA g.n f) [f]:=⟨_,_,Sa⟩
 have q_:=Sb.blk hlb
 obtain⟨hb1,pb,hpb1,hpb2⟩:=q_
 have q_:=Sa'.blk hla
 obtain⟨ha1,pa,hpa1,hpa2⟩:=q_
 have hpa2':=hlaa2 pa hpa1
 rw [zCV] at hpa1 hpb1
 have z1:=Le.size (a:=w) (b:=w1)
 refine ral λbp w3 n3 P3=>?_
 have hbp:=n3.lo (u:=w2)
 refine rsto (B:=P3) (vs:=[.pointer (some ⟨ba,0,none⟩),.pointer (some ⟨bb,0,none⟩)]) rfl rfl rfl (by intro u hu;simp at hu;rcases hu with rfl|rfl <;> rfl) λw4 P4 f4 _=>?_
 have P4:Bk w4 bp [.pointer (some ⟨ba,0,none⟩),.pointer (some ⟨bb,0,none⟩)] E.yf:=P4
 have s4:Stp w2 w4:=⟨Fr.st (Le.e (a:=w2) (b:=w3)) f4 λi hi=>by omega⟩
 refine iF (· rfl) ?_
 refine rldG (ds:=[.pointer (some ⟨ba,0,none⟩),.pointer (some ⟨bb,0,none⟩)]) (B:=P4) rfl rfl ?_
 have T:TwoP g.n B1' ba bb br pa pb laa lca lab lcb:=⟨hpa1,hpb1,⟨by omega,by omega,by omega,by omega⟩,⟨by omega,by omega,by omega,by omega⟩,hbr1⟩
 have I0:=zMs hf ht
 have I:TwoI g f t B1' ba bb br pa pb laa lca lab lcb 0 (levA g.n f) (levA g.n t) [f] [t] w4:=by
  refine⟨I0.1,I0.2,⟨by simp,by simp⟩,⟨by simp,by simp⟩,⟨fa,fc,Sa.fr (D:=λ_=>False) Le.e id (λ_ _=>id) (λ_ _=>id),λb hb=>?_⟩,?_⟩
  ·have:=hfa b hb
   omega
  ·obtain⟨fa2,fc2,Sb⟩:=Sb
   have Sb2:=Sb
   obtain⟨K,O,S,q1,q2,q3⟩:=Sb
   refine⟨fa2,fc2,Sb2.fr (D:=λ_=>False) Le.e id (λ_ _=>id) (λ_ _=>id) |>.lax (by omega),λb hb=>?_⟩
   have:=(q1 b hb).2
   omega
 refine rcall (zGi hg (R.up (w':=w4)) (λu fu=>by
  have t:Stw w w4 u:=fu.stw λi hi=>by omega
  exact R.up) hf ht (Br.mv (w:=w4)) T I) ?_
 rintro _ w5 ⟨⟨s,n,ok,rfl,hres⟩,f5⟩
 have t5:Stw w w4 w5:=f5.stw λi hi=>by omega
 rcases hres with ⟨rfl,L,hL,rfl⟩|⟨rfl,rfl,hN⟩
 ·exact⟨.inl ⟨L,hL,rfl⟩,stp⟩
 ·exact⟨.inr ⟨hN,rfl⟩,stp⟩
def fnB (P:Program) (t:TypeId):Bool:=match P.underlying t with|some (.func _ _ _)=>true|_=>false
theorem zNQ(d:Nat){t:TypeId}{p q:Array TypeId}{r:Bool}(he:P.underlying t=some (.func p q r))(f:Fn)(a b:Array Value)(w:World):(Op.equalIn (d+1) t (.func f a b) .nilFunc).run P w=.ok false w:=by
 simp [Op.equalIn,run_underlying he]
theorem zNR{t:TypeId}(ht:fnB P t=true){X Y:Operand}(f:Fn)(a b:Array Value)(w:World):(do eqGuard .eql t X Y (.func f a b) .nilFunc;binOp .eql t (.func f a b) .nilFunc:Sem Value).run P w=.ok (.bool false) w:=by
 unfold fnB at ht
 split at ht
 ·rename_i p q r he
  have g:(eqGuard .eql t X Y (.func f a b) .nilFunc).run P w=.ok () w:=rfl
  rw [Sem.run_bind,g,Result.andThen_ok]
  simp only [binOp]
  rw [Sem.run_bind]
  have:(Op.equal t (.func f a b) .nilFunc).run P w=.ok false w:=zNQ 9999 he f a b w
  rw [this];rfl
 ·cases ht
theorem rfnil{k:Value->World->Prop}{pn:List PanicEntry->World->Prop}{t:TypeId}{X Y:Operand}{f:Fn}{a b:Array Value}(ht:fnB P t=true)(hk:k (.bool false) w):SemV P (do eqGuard .eql t X Y (.func f a b) .nilFunc;binOp .eql t (.func f a b) .nilFunc) k pn w:=
 SemV.of (zNR ht f a b w) hk
theorem rnu{k:Value->World->Prop}{pn:List PanicEntry->World->Prop}{o:Oper}{F:Nat->Value}{s:Sem Unit}(e:execOp (ev F) o=(do s;pure Next.skip))(h:SemU P s k pn w):NextS P (execOp (ev F) o) k pn w:=by
 have e2:(do s;pure Next.skip:Sem Next).run P w=(s.run P w).andThen λ_ w'=>.ok .skip w':=by rw [Sem.run_bind];rfl
 rw [zAR,e,e2]
 rw [zDT] at h
 cases hs:s.run P w with
 |ok v w'=>rw [hs] at h;exact h
 |halt x w'=>rw [hs] at h;cases x <;> exact h
def AskO (B:Nat) (w:World) (x:AnsD) (a:AnP):Prop:=x.found=a.found/\x.num=a.num/\Own B E.qi w (.slice x.s.a x.s.n x.s.c) a.hits
section
variable {x:RRow} {g:GrD} {r:List EdN} {xq:RQ} {q:QyD} {br bl:Nat} {a:Option Addr} {n c:Nat} {ws:List ByteArray} {ps:List RPo} {w:World}
abbrev quV (xq:RQ) (br bl:Nat):List Value:=enc xq++[.func (.func F.z2) #[] #[.pointer (some ⟨br,0,none⟩)],.func (.func F.z3) #[] #[.pointer (some ⟨br,0,none⟩),.pointer (some ⟨bl,0,none⟩)]]
structure QuI (x:RRow) (g:GrD) (r:List EdN) (xq:RQ) (q:QyD) (br bl:Nat) (a:Option Addr) (n c:Nat) (ws:List ByteArray) (ps:List RPo) (w:World):Prop where
 hg:GrIs g
 R:RwF w x g r
 br:Bk w br (enc x) E.qj
 bl:Bk w bl [.slice a n c] E.qy
 h:SlF w (.slice a n c) ps
 M:PosM w g ws ps
 hn:ps.length<=100000
 V:QyV w xq q
 I:QyIs q g.n
theorem QuI.up[Le w w'](h:QuI x g r xq q br bl a n c ws ps w):QuI x g r xq q br bl a n c ws ps w':=
 ⟨h.hg,h.R.up,h.br.mv,h.bl.mv,h.h.up,h.M.up,h.hn,h.V.up,h.I⟩
theorem zJs{f t:Nat}(Q:QuI x g r xq q br bl a n c ws ps w)(hf:f<g.n)(ht:t<g.n):
  Sp PP F.z2 #[.int .i64 (f:Int),.int .i64 (t:Int),.pointer (some ⟨br,0,none⟩)] w λv w'=>((∃L:Nat,Dst g f t L/\v=.tuple #[.int .i64 (L:Int),.bool true,.int .i64 0])\/((∀k,¬Wlk g k f t)/\v=.tuple #[.int .i64 0,.bool false,.int .i64 0]))/\Stp w w':=by
 refine en TBok rfl ?_
 refine rldG (ds:=enc x) (B:=Q.br) rfl rfl (rcall (zJc Q.hg Q.R hf ht) ?_)
 rintro _ w1 ⟨⟨L,hL,rfl⟩|⟨hN,rfl⟩,e1⟩
 ·exact⟨.inl ⟨L,hL,rfl⟩,stp⟩
 ·exact⟨.inr ⟨hN,rfl⟩,stp⟩
theorem zJt(Q:QuI x g r xq q br bl a n c ws ps w)(hk:q.kind=3):
  Sp PP F.z3 #[agg xq,.pointer (some ⟨br,0,none⟩),.pointer (some ⟨bl,0,none⟩)] w λv w'=>(∃v' H L,v=.tuple #[v',.int .i64 0]/\Own w.heap.size E.qi w' v' H/\SrtH H/\LevD g q.frm.toNat L/\H.Perm (hitsP L q.rad (placesL g q.words)))/\Stp w w':=by
 have I:=Q.I
 obtain⟨i1,i2,i3,i4⟩:=I
 have i4:=i4 hk
 have q_:∃f:Nat,q.frm=(f:Int):=⟨q.frm.toNat,by omega⟩
 obtain⟨f,hf⟩:=q_
 have V:=Q.V
 obtain⟨k1,k2,k3,kw,k4,k5⟩:=V
 rw [hf] at k2
 obtain⟨x1,x2,x3,⟨wa,wn,wc⟩,x4,x5⟩:=xq
 simp only at k1 k2 k3 k4 k5
 subst k2 k4
 refine en TBok rfl ?_
 refine rbx λbq w1 n1 B1=>?_
 have B1:Bk w1 bq (enc (⟨x1,(f:Int),x3,⟨wa,wn,wc⟩,q.rad,x5⟩:RQ)) E.qp:=B1
 have Q1:=Q.up (w':=w1)
 refine rldG (ds:=enc x) (B:=Q1.br) rfl rfl (rld (B:=Q1.bl) rfl (rld (B:=B1) rfl (rld (B:=B1) rfl (rld (B:=B1) rfl ?_))))
 have hq1:q.words≠[]:=λh=>by rw [h] at i4;simp at i4
 refine rcall (zJD Q.hg Q1.R (by omega) Q1.h Q1.M Q.hn (show SlF w1 (.slice wa wn wc) q.words from kw.up) hq1 (by omega) i4.2.1.1) ?_
 rintro _ w2 ⟨⟨v',H,L,rfl,O,hs,hL,hp⟩,e2⟩
 have hff:q.frm.toNat=f:=by omega
 rw [hff]
 exact⟨⟨v',H,L,rfl,O.older,hs,hL,hp⟩,stp⟩
theorem zG5(Q:QuI x g r xq q br bl a n c ws ps w){fn:FuncId}(hk:q.kind=1/\fn=F.qw\/q.kind=2/\fn=F.qr):
  Sp PP fn #[.agg (quV xq br bl).toArray] w λv w'=>(∃y an,v=.tuple #[agg y,.int .i64 0]/\AskO w.heap.size w' y an/\AskR g q an)/\Stp w w':=by
 have q_:=Q.I
 obtain⟨i1,i2,i3,i4⟩:=q_
 have i3:=i3 (by omega)
 have q_:∃f:Nat,q.frm=(f:Int):=⟨q.frm.toNat,by omega⟩
 obtain⟨f,hf⟩:=q_
 have q_:∃t:Nat,q.to=(t:Int):=⟨q.to.toNat,by omega⟩
 obtain⟨t,ht⟩:=q_
 have k2:=Q.V.frm
 have k3:=Q.V.to
 have hff:q.frm.toNat=f:=by omega
 have htt:q.to.toNat=t:=by omega
 have k2':xq.frm=(f:Int):=by rw [k2,hf]
 have k3':xq.to=(t:Int):=by rw [k3,ht]
 have fin:∀(w2 w3:World) (bz:Nat) (b:Bool) (m:Int),Stp w w2->w.heap.size<=bz->Stp w2 w3->AskR g q ⟨b,m,[]⟩->∀w4,Fr (λi=>i=bz) w3 w4->(∃y an,Value.tuple #[agg (⟨b,m,⟨none,0,0⟩⟩:AnsD),.int .i64 0]=.tuple #[agg y,.int .i64 0]/\AskO w.heap.size w4 y an/\AskR g q an)/\Stp w w4:=by
  intro w2 w3 bz b m e2 hz e3 hA w4 f4
  exact⟨⟨⟨b,m,⟨none,0,0⟩⟩,⟨b,m,[]⟩,rfl,⟨rfl,rfl,Own.nil _ _ _⟩,hA⟩,⟨Fr.st (Le.e (a:=w) (b:=w3)) f4 λi hi=>by omega⟩⟩
 have hD:=λ(u:World) (e:Stp w u)=>zJs (f:=f) (t:=t) (Q.up (w':=u)) (by omega) (by omega)
 rcases hk with ⟨hk,rfl⟩|⟨hk,rfl⟩
 all_goals
  refine en TBok rfl ?_
  refine rbx λbx w1 n1 B1=>?_
  have B1:Bk w1 bx (quV xq br bl) E.ya:=B1
  refine ral λbz w2 n2 Z2=>?_
  have hbz:=n2.lo (u:=w)
  refine rld (B:=B1) rfl (rld (B:=B1) (v:=.int .i64 (f:Int)) (by rw [<-k2'];rfl) (rld (B:=B1) (v:=.int .i64 (t:Int)) (by rw [<-k3'];rfl) (rcall (hD w2 stp) ?_)))
  rintro _ w3 ⟨⟨L,hL,rfl⟩|⟨hN,rfl⟩,e3⟩
 case' inl.inl =>
  have hA:AskR g q ⟨true,(L:Int),[]⟩:=⟨λ_=>.inl ⟨L,by rw [hff,htt];exact hL,rfl⟩,λh=>by omega,λh=>by omega⟩
  refine rbuild (cs:=enc (⟨true,(L:Int),⟨none,0,0⟩⟩:AnsD)) rfl (rsto (B:=Z2.mv (w:=w3)) (vs:=enc (⟨true,(L:Int),⟨none,0,0⟩⟩:AnsD)) rfl rfl rfl (Enc.one _) λw4 B4 f4 _=>?_)
  have B4:Bk w4 bz (enc (⟨true,(L:Int),⟨none,0,0⟩⟩:AnsD)) E.qe:=B4
 case' inl.inr =>
  have hA:AskR g q ⟨false,0,[]⟩:=⟨λ_=>.inr ⟨by rw [hff,htt];exact hN,rfl⟩,λh=>by omega,λh=>by omega⟩
  refine rbuild (cs:=enc (⟨false,0,⟨none,0,0⟩⟩:AnsD)) rfl (rsto (B:=Z2.mv (w:=w3)) (vs:=enc (⟨false,0,⟨none,0,0⟩⟩:AnsD)) rfl rfl rfl (Enc.one _) λw4 B4 f4 _=>?_)
  have B4:Bk w4 bz (enc (⟨false,0,⟨none,0,0⟩⟩:AnsD)) E.qe:=B4
 case' inr.inl =>
  have hA:AskR g q ⟨true,0,[]⟩:=⟨λh=>by omega,λ_=>.inl ⟨⟨L,by rw [hff,htt];exact hL⟩,rfl⟩,λh=>by omega⟩
  refine rbuild (cs:=enc (⟨true,0,⟨none,0,0⟩⟩:AnsD)) rfl (rsto (B:=Z2.mv (w:=w3)) (vs:=enc (⟨true,0,⟨none,0,0⟩⟩:AnsD)) rfl rfl rfl (Enc.one _) λw4 B4 f4 _=>?_)
  have B4:Bk w4 bz (enc (⟨true,0,⟨none,0,0⟩⟩:AnsD)) E.qe:=B4
 case' inr.inr =>
  have hA:AskR g q ⟨false,0,[]⟩:=⟨λh=>by omega,λ_=>.inr ⟨by rw [hff,htt];exact hN,rfl⟩,λh=>by omega⟩
  refine rbuild (cs:=enc (⟨false,0,⟨none,0,0⟩⟩:AnsD)) rfl (rsto (B:=Z2.mv (w:=w3)) (vs:=enc (⟨false,0,⟨none,0,0⟩⟩:AnsD)) rfl rfl rfl (Enc.one _) λw4 B4 f4 _=>?_)
  have B4:Bk w4 bz (enc (⟨false,0,⟨none,0,0⟩⟩:AnsD)) E.qe:=B4
 all_goals
  refine rresG (B:=B4) rfl ?_
  exact fin w2 w3 bz _ _ stp hbz e3 hA w4 f4
theorem zKw(Q:QuI x g r xq q br bl a n c ws ps w)(hk:q.kind=3):
  Sp PP F.qx #[.agg (quV xq br bl).toArray] w λv w'=>(∃y an,v=.tuple #[agg y,.int .i64 0]/\AskO w.heap.size w' y an/\AskR g q an)/\Stp w w':=by
 have k5:=Q.V.most
 have hn2:=Q.hg.ok.n2
 refine en TBok rfl ?_
 refine rbx λbx w1 n1 B1=>?_
 have B1:Bk w1 bx (quV xq br bl) E.ya:=B1
 refine ral λbz w2 n2 Z2=>?_
 have hbz:=n2.lo (u:=w)
 have Q2:=Q.up (w':=w2)
 refine rld (B:=B1) rfl (rfnil (by kernel_rfl) ?_)
 refine rld (B:=B1) rfl (rldG (ds:=enc xq) (B:=B1) rfl rfl (rcall (zJt Q2 hk) ?_))
 rintro _ w3 ⟨⟨v',H,L,rfl,O,hs,hL,hp⟩,e3⟩
 refine rld (B:=B1) (v:=.int .i64 q.most) (by rw [<-k5];rfl) ?_
 have hHl:H.length<=1000:=by
  have h1:=hp.length_eq
  have h2:=zIb L q.rad (placesL g q.words)
  have h3:=zHc g q.words
  omega
 have q_:=O.shape
 obtain⟨oa,oc,rfl⟩:=q_
 refine rcall (zEC (k:=q.most) O.sl hHl) ?_
 rintro v2 w4 ⟨O4,e4⟩
 have O4:Own w3.heap.size E.qi w4 v2 (firstK q.most H):=O4
 have q_:=O4.shape
 obtain⟨ra,rc,rfl⟩:=q_
 have z3:=Le.size (a:=w) (b:=w3)
 have q_:∃b:Bool,b = !(firstK q.most H).isEmpty:=⟨_,rfl⟩
 obtain⟨b,hb⟩:=q_
 have fin:∀w5,Bk w5 bz (enc (⟨b,0,⟨ra,(firstK q.most H).length,rc⟩⟩:AnsD)) E.qe->Fr (λi=>i=bz) w4 w5->(∃y an,Value.tuple #[agg (⟨b,0,⟨ra,(firstK q.most H).length,rc⟩⟩:AnsD),.int .i64 0]=.tuple #[agg y,.int .i64 0]/\AskO w.heap.size w5 y an/\AskR g q an)/\Stp w w5:=by
  intro w5 B5 f5
  refine⟨⟨⟨b,0,⟨ra,(firstK q.most H).length,rc⟩⟩,⟨b,0,firstK q.most H⟩,rfl,⟨rfl,rfl,?_⟩,⟨λh=>by omega,λh=>by omega,λ_=>⟨H,L,hL,hp,by rw [hb]⟩⟩⟩,⟨Fr.st (Le.e (a:=w) (b:=w4)) f5 λi hi=>by omega⟩⟩
  exact(O4.mono (B':=w.heap.size) z3).frc f5 (Z2.mv (w:=w4)) (by decide)
 refine ite (λh0=>?_) (λh0=>?_)
 ·have hbt:b=true:=by
   rw [hb]
   cases hf:firstK q.most H with
   |nil=>rw [hf] at h0;exact absurd h0 (by decide)
   |cons=>rfl
  rw [hbt] at fin
  refine rbuild (cs:=enc (⟨true,0,⟨ra,(firstK q.most H).length,rc⟩⟩:AnsD)) rfl (rsto (B:=Z2.mv (w:=w4)) (vs:=enc (⟨true,0,⟨ra,(firstK q.most H).length,rc⟩⟩:AnsD)) rfl rfl rfl (Enc.one _) λw5 B5 f5 _=>?_)
  have B5:Bk w5 bz (enc (⟨true,0,⟨ra,(firstK q.most H).length,rc⟩⟩:AnsD)) E.qe:=B5
  refine rresG (B:=B5) rfl ?_
  exact fin w5 B5 f5
 ·have hbf:b=false:=by
   rw [hb]
   cases hf:firstK q.most H with
   |nil=>rfl
   |cons x r=>rw [hf] at h0;exact absurd (by simp only [List.length_cons];omega) h0
  rw [hbf] at fin
  refine rbuild (cs:=enc (⟨false,0,⟨ra,(firstK q.most H).length,rc⟩⟩:AnsD)) rfl (rsto (B:=Z2.mv (w:=w4)) (vs:=enc (⟨false,0,⟨ra,(firstK q.most H).length,rc⟩⟩:AnsD)) rfl rfl rfl (Enc.one _) λw5 B5 f5 _=>?_)
  have B5:Bk w5 bz (enc (⟨false,0,⟨ra,(firstK q.most H).length,rc⟩⟩:AnsD)) E.qe:=B5
  refine rresG (B:=B5) rfl ?_
  exact fin w5 B5 f5
instance:Elem PP 227 .nilFunc 1 8:=⟨by kernel_rfl⟩
theorem zIJ(Q:QuI x g r xq q br bl a n c ws ps w):
  Sp PP F.zl #[.agg (quV xq br bl).toArray] w λv w'=>(∃y an,v=.tuple #[agg y,.int .i64 0]/\AskO w.heap.size w' y an/\AskR g q an)/\Stp w w':=by
 have k1:=Q.V.kind
 refine en TBok rfl ?_
 refine rbx λbx w1 n1 B1=>?_
 have B1:Bk w1 bx (quV xq br bl) E.ya:=B1
 refine ral λbz w2 n2 Z2=>?_
 have hbz:=n2.lo (u:=w)
 refine rmkNB (kt:=E.qa) (κ:=Int) rfl λbm w3 n3 M3=>?_
 have hbm:=n3.lo (u:=w2)
 refine rnu rfl (rupdB M3 (1:Int) rfl λw4 M4 f4 _=>?_)
 refine rnu rfl (rupdB M4 (2:Int) rfl λw5 M5 f5 _=>?_)
 refine rnu rfl (rupdB M5 (3:Int) rfl λw6 M6 f6 _=>?_)
 have t6:Stp w2 w6:=⟨Fr.st (Le.e (a:=w2) (b:=w3)) ((f4.trans f5).trans f6) λi hi=>by omega⟩
 have Q6:=Q.up (w':=w6)
 have z2:=Le.size (a:=w) (b:=w2)
 have z6:=Le.size (a:=w) (b:=w6)
 refine rld (B:=B1) (v:=.int .i64 q.kind) (by rw [<-k1];rfl) ?_
 have fin:∀(v:Value) (w7:World),((∃(y:AnsD) (an:AnP),v=.tuple #[agg y,.int .i64 0]/\AskO w6.heap.size w7 y an/\AskR g q an)/\Stp w6 w7)->∃y:AnsD,v=.tuple #[agg y,.int .i64 0]/\Stp w6 w7/\∀w8,Bk w8 bz (enc y) E.qe->Fr (λi=>i=bz) w7 w8->(∃y' an,Value.tuple #[agg y,.int .i64 0]=.tuple #[agg y',.int .i64 0]/\AskO w.heap.size w8 y' an/\AskR g q an)/\Stp w w8:=by
  rintro v w7 ⟨⟨y,an,rfl,⟨h1,h2,h3⟩,h4⟩,e7⟩
  refine⟨y,rfl,e7,λw8 B8 f8=>⟨⟨y,an,rfl,⟨h1,h2,?_⟩,h4⟩,⟨Fr.st (Le.e (a:=w) (b:=w7)) f8 λi hi=>by omega⟩⟩⟩
  exact(h3.mono (B':=w.heap.size) z6).frc f8 (Z2.mv (w:=w7)) (by decide)
 have goOn:∀(fn:FuncId),q.kind=1/\fn=F.qw\/q.kind=2/\fn=F.qr\/q.kind=3/\fn=F.qx->Sp PP fn #[.agg (quV xq br bl).toArray] w6 λv w'=>(∃y an,v=.tuple #[agg y,.int .i64 0]/\AskO w6.heap.size w' y an/\AskR g q an)/\Stp w6 w':=by
  rintro fn (⟨hk,rfl⟩|⟨hk,rfl⟩|⟨hk,rfl⟩)
  ·exact zG5 Q6 (.inl ⟨hk,rfl⟩)
  ·exact zG5 Q6 (.inr ⟨hk,rfl⟩)
  ·exact zKw Q6 hk
 have q_:=Q.I.1
 rcases q_ with hk|hk|hk
 case' inl=>refine rlookV M6.l q.kind rfl (y:=.func (.func F.qw) #[] #[]) (by rw [hk];rfl) ?_
 case' inr.inl=>refine rlookV M6.l q.kind rfl (y:=.func (.func F.qr) #[] #[]) (by rw [hk];rfl) ?_
 case' inr.inr=>refine rlookV M6.l q.kind rfl (y:=.func (.func F.qx) #[] #[]) (by rw [hk];rfl) ?_
 all_goals
  refine rldG (ds:=quV xq br bl) (B:=B1.mv (w:=w6)) rfl rfl (rcall (goOn _ (by first|exact .inl ⟨hk,rfl⟩|exact .inr (.inl ⟨hk,rfl⟩)|exact .inr (.inr ⟨hk,rfl⟩))) ?_)
  intro v7 w7 h7
  have q_:=fin v7 w7 h7
  obtain⟨y,rfl,e7,h8⟩:=q_
  refine rsto (B:=Z2.mv (w:=w7)) (vs:=enc y) rfl rfl rfl (Enc.one _) λw8 B8 f8 _=>?_
  have B8:Bk w8 bz (enc y) E.qe:=B8
  refine rresG (B:=B8) rfl ?_
  exact h8 w8 B8 f8
theorem zJu{w:World}(hg:GrIs g)(R:RwF w x g r)(V:QyV w xq q)(I:QyIs q g.n)(hl:q.words.length<=1000000)(hs:∀s∈q.words,s.size<=1000000):
  Sp PP F.qay #[agg xq,agg x] w λv w'=>v=.int .i64 0/\Stp w w':=by
 have l1:=R.off.len
 have q1:=zAv g.n g.es
 have h2:=hg.ok.n2
 refine en TBok rfl ?_
 refine rbx λb2 w1 n1 B1=>?_
 have B1:Bk w1 b2 (enc xq) E.qp:=B1
 refine rbx λb3 w2 n2 B2=>?_
 have B2:Bk w2 b3 (enc x) E.qj:=B2
 refine rldG (ds:=enc x) (B:=B2) rfl rfl (rcall (zAN hg (R.up (w':=w2))) ?_)
 rintro _ w3 ⟨rfl,e3⟩
 refine rldG (ds:=enc xq) (B:=B1) rfl rfl (rld (B:=B2) rfl (rarE (y:=(g.n:Int)) (by omega) (by omega) (rcall (zCo (V.up (w':=w3)) hl hs) ?_)))
 rintro _ w4 ⟨⟨_,rfl⟩|⟨h,_⟩,e4⟩
 ·exact⟨rfl,stp⟩
 ·exact absurd I h
theorem zLT{w:World}(hg:GrIs g)(R:RwF w x g r)(h:SlF w (.slice a n c) ps)(M:PosM w g ws ps)(hn:ps.length<=100000)(V:QyV w xq q)(I:QyIs q g.n)(hl:q.words.length<=1000000)(hs:∀s∈q.words,s.size<=1000000):
  Sp PP F.qbq #[agg xq,agg x,.slice a n c] w λv w'=>(∃y an,v=.tuple #[agg y,.int .i64 0]/\AskO w.heap.size w' y an/\AskR g q an)/\Stp w w':=by
 refine en TBok rfl ?_
 refine rbx λb3 w1 n1 B1=>?_
 have B1:Bk w1 b3 (enc xq) E.qp:=B1
 refine rbx λb4 w2 n2 B2=>?_
 have B2:Bk w2 b4 (enc x) E.qj:=B2
 refine rbx λb5 w3 n3 B3=>?_
 have B3:Bk w3 b5 [.slice a n c] E.qy:=B3
 refine ral λbz w4 n4 Z4=>?_
 have hbz:=n4.lo (u:=w)
 refine rldG (ds:=enc xq) (B:=B1) rfl rfl (rldG (ds:=enc x) (B:=B2) rfl rfl (rcall (zJu hg (R.up (w':=w4)) (V.up (w':=w4)) I hl hs) ?_))
 rintro _ w5 ⟨rfl,e5⟩
 refine iF (· rfl) (rldG (ds:=enc xq) (B:=B1) rfl rfl (rbuild (cs:=quV xq b4 b5) rfl ?_))
 have z5:=Le.size (a:=w) (b:=w5)
 refine rcall (zIJ (br:=b4) (bl:=b5) ⟨hg,R.up (w':=w5),B2.mv,B3.mv,h.up (w':=w5),M.up (w':=w5),hn,V.up (w':=w5),I⟩) ?_
 rintro _ w6 ⟨⟨y,an,rfl,⟨h1,h2,h3⟩,h4⟩,e6⟩
 refine rsto (B:=Z4.mv (w:=w6)) (vs:=enc y) rfl rfl rfl (Enc.one _) λw8 B8 f8 _=>?_
 have B8:Bk w8 bz (enc y) E.qe:=B8
 refine rresG (B:=B8) rfl ?_
 refine⟨⟨y,an,rfl,⟨h1,h2,?_⟩,h4⟩,⟨Fr.st (Le.e (a:=w) (b:=w6)) f8 λi hi=>by omega⟩⟩
 exact(h3.mono (B':=w.heap.size) z5).frc f8 (Z4.mv (w:=w6)) (by decide)
end
section
variable {R R':Nat->Prop} {B:Nat} {w w':World}
def OwO {α:Type} [Enc α] (e:TypeId) (R:Nat->Prop) (B:Nat) (w:World) (s:SV) (l:List α):Prop:=
 s.n=l.length/\(l≠[]->Own B e w (.slice s.a s.n s.c) l/\∀b,Value.blk (.slice s.a s.n s.c)=some b->¬R b)
section
variable {α:Type} [Enc α] {e:TypeId} {s:SV} {l:List α}
theorem OwO.fr(h:OwO e R B w s l)(f:Fr R w w')(hR:∀i,R' i->gR R w w' i):OwO e R' B w' s l:=by
 refine⟨h.1,λhl=>?_⟩
 have q_:=h.2 hl
 obtain⟨h1,h2⟩:=q_
 have q_:=h1.lt hl
 obtain⟨b,h3,_,h4⟩:=q_
 refine⟨h1.fr f λb _ hb hr=>h2 b hb hr,λb' hb hr=>?_⟩
 have:b'=b:=by rw [h3] at hb;exact(Option.some.inj hb).symm
 subst this
 have q_:=hR _ hr
 rcases q_ with h5|h5
 ·exact h2 _ hb h5
 ·omega
theorem OwO.up[Le w w'](h:OwO e R B w s l):OwO e R B w' s l:=⟨h.1,λhl=>⟨(h.2 hl).1.up,(h.2 hl).2⟩⟩
theorem OwO.fro{β:Type}[Enc β]{B':Nat}{e':TypeId}{v':Value}{l':List β}(h:OwO e R B w s l)(k:Own B' e' w v' l')(f:Fr (ownD B' v') w w')(hne:e≠e'):OwO e R B w' s l:=
 ⟨h.1,λhl=>⟨(h.2 hl).1.fro k f hne,(h.2 hl).2⟩⟩
theorem OwO.new(h:Own u.heap.size e w (.slice s.a s.n s.c) l)(hB:B<=u.heap.size)(hR:∀i,R i->i<u.heap.size):OwO e R B w s l:=by
 have q_:=h.shape
 obtain⟨a,c,hs⟩:=q_
 have hn:s.n=l.length:=by injection hs
 refine⟨hn,λhl=>⟨h.mono hB,λb hb hr=>?_⟩⟩
 have q_:=h.lt hl
 obtain⟨b',h3,h4,_⟩:=q_
 have:b=b':=by rw [h3] at hb;exact(Option.some.inj hb).symm
 have:=hR b hr
 omega
theorem OwO.sl(h:OwO e R B w s l):SlF w s.v l:=by
 by_cases hl:l=[]
 ·subst hl
  obtain⟨h1,_⟩:=h
  obtain⟨a,n,c⟩:=s
  cases h1
  exact⟨a,c,rfl,Nat.zero_le _,.inl rfl⟩
 ·exact(h.2 hl).1.sl
end
def TkE (R:Nat->Prop) (B:Nat) (w:World) (y:RReq) (t:RqD):Prop:=
 (y.id=t.id/\y.q.kind=t.q.kind/\y.q.frm=t.q.frm/\y.q.to=t.q.to/\y.q.rad=t.q.rad/\y.q.most=t.q.most/\RqIs t)/\OwO E.qg R B w y.q.words t.q.words
theorem TkE.v{y:RReq}{t:RqD}(h:TkE R B w y t):QyV w y.q t.q:=⟨h.1.2.1,h.1.2.2.1,h.1.2.2.2.1,h.2.sl,h.1.2.2.2.2.1,h.1.2.2.2.2.2.1⟩
structure TkW (R:Nat->Prop) (B:Nat) (w:World) (v:Value) (ys:List RReq) (ts:List RqD):Prop where
 own:Own B E.qd w v ys
 blk:∀b,Value.blk v=some b->b<w.heap.size/\¬R b
 len:ys.length=ts.length
 all:∀(i:Nat) (y:RReq) (t:RqD),ys[i]? = some y->ts[i]? = some t->TkE R B w y t
theorem TkW.fr{v:Value}{ys:List RReq}{ts:List RqD}(h:TkW R B w v ys ts)(f:Fr R w w')(hR:∀i,R' i->gR R w w' i):TkW R' B w' v ys ts:=
 ⟨h.own.fr f λb _ hb hr=>(h.blk b hb).2 hr,λb hb=>by
  have h1:=h.blk b hb
  have:=f.size
  refine⟨by omega,λh2=>?_⟩
  have q_:=hR _ h2
  rcases q_ with h3|h3
  ·exact h1.2 h3
  ·omega,h.len,λi y t hy ht=>⟨(h.all i y t hy ht).1,(h.all i y t hy ht).2.fr f hR⟩⟩
theorem TkW.up[L:Le w w']{v:Value}{ys:List RReq}{ts:List RqD}(h:TkW R B w v ys ts):TkW R B w' v ys ts:=
 ⟨h.own.up,λb hb=>⟨by have:=(h.blk b hb).1;have:=L.e.size;omega,(h.blk b hb).2⟩,h.len,λi y t hy ht=>⟨(h.all i y t hy ht).1,(h.all i y t hy ht).2.up⟩⟩
theorem TkW.tget{v:Value}{ys:List RReq}{ts:List RqD}(h:TkW R B w v ys ts){y:RReq}(hy:ys[i]? = some y):∃t,ts[i]? = some t/\TkE R B w y t:=by
 have h1:=(List.getElem?_eq_some_iff.1 hy).1
 have h2:i<ts.length:=by rw [<-h.len];exact h1
 exact⟨ts[i],by simp [h2],h.all i y _ hy (by simp [h2])⟩
end
theorem zOi{c:CfD}(hc:CfOk c){s:SvD}{took:List RqD}{out:List (RqD×AnP)}(I:AnsI g c s took out){p:Int×Int×AnP}(hp:p∈tickR g c s):
  ∃i x,took[i]? = some x/\x.id=p.1/\(∀(j:Nat) (y:RqD),i<j->took[j]? = some y->y.id≠p.1)/\RqOk g x/\(p.2.1=0->AlRep g c x p.2.2):=by
 have q_:=zPb hc I.ok I.al hp
 obtain⟨x,h1,h2,h3⟩:=q_
 have q_:=I.tk x h1
 obtain⟨i,h4,h5⟩:=q_
 exact⟨i,x,h4,h2,λj y hij hy=>by rw [<-h2];exact h5 j y hij hy,rqs_ok I.ok h1,h3⟩
theorem zJv{c i0:Nat}{ys:List RReq}{z:RReq}{id:Int}(S:SlF w (.slice a n c) ys)(hi:ys[i0]? = some z)(hz:z.id=id)(hl:∀(j:Nat) (y:RReq),i0<j->ys[j]? = some y->y.id≠id)(hn:ys.length<=100000):
  Sp PP F.qar #[.slice a n c,.int .i64 id] w λv w'=>v=.tuple #[agg z.q,.bool true]/\Stp w w':=by
 have q_:=S.len
 obtain rfl:=q_
 have hi0:=(List.getElem?_eq_some_iff.1 hi).1
 refine en TBok rfl ?_
 refine ral λb w1 n1 B1=>?_
 have hb:=n1.lo (u:=w)
 refine rA (loop1 TBok 10 [5] 6 (λv u=>Stp w1 u/\∃m:Nat,v=.int .i64 (m:Int)/\i0<=m/\m<ys.length/\∀(j:Nat) (y:RReq),m<j->ys[j]? = some y->y.id≠id) (λv _=>(Go.RowKit.intOf v).toNat) rfl ⟨stp,ys.length - 1,congrArg (Value.int .i64) (by omega),by omega,by omega,λj y hj hy=>by have:=(List.getElem?_eq_some_iff.1 hy).1;omega⟩ ?_)
 rintro v G u ⟨su,m,rfl,h1,h2,h3⟩
 have hm:ys[m]? = some ys[m]:=by simp
 have q_:∃y,y=ys[m]:=⟨_,rfl⟩
 obtain⟨y,hy⟩:=q_
 rw [<-hy] at hm
 refine iT (by omega) (rix (i:=m) (S.up (w':=u)) hm λb2 o2 A2=>rload1 (A2.cell 0 rfl) (ite (λhe=>?_) (λhe=>?_)))
 ·have hmi:m=i0:=by
   have q_:=Nat.lt_or_ge i0 m
   rcases q_ with h|h
   ·exact absurd he (hl m y h hm)
   ·omega
  rw [hmi,hi] at hm
  have hzy:z=y:=Option.some.inj hm
  refine rix (i:=m) (S.up (w':=u)) (x:=z) (by rw [hmi];exact hi) λb3 o3 A3=>rloadA (A3.sub 2 6) rfl (rsto (B:=B1.mv (w:=u)) (vs:=enc z.q) rfl rfl rfl (Enc.one _) λw4 B4 f4 _=>?_)
  have B4:Bk w4 b (enc z.q) E.qp:=B4
  have t4:Stp w w4:=⟨Fr.st (Le.e (a:=w) (b:=u)) f4 λi hi=>by omega⟩
  refine rresG (B:=B4) rfl ?_
  exact⟨rfl,t4⟩
 ·have hmi:i0<m:=by
   have q_:=Nat.lt_or_ge i0 m
   rcases q_ with h|h
   ·exact h
   ·exfalso
    have hm0:m=i0:=by omega
    rw [hm0,hi] at hm
    have hzy:z=y:=Option.some.inj hm
    exact he (by rw [<-hzy];exact hz)
  refine rA ⟨⟨su,m - 1,congrArg (Value.int .i64) (by omega),by omega,by omega,λj y' hj hy'=>?_⟩,?_⟩
  ·have q_:=Nat.lt_or_ge m j
   rcases q_ with h|h
   ·exact h3 j y' h hy'
   ·have hjm:j=m:=by omega
    rw [hjm,hm] at hy'
    have hyy:y=y':=Option.some.inj hy'
    rw [<-hyy];exact he
  ·show (((m:Int) - 1)).toNat<((m:Int)).toNat
   omega
section
variable {R:Nat->Prop} {B bs:Nat} {w:World} {g:GrD} {cf:CfD}
end


theorem RowO.f{x:RRow}{r:List EdN}(h:RowO B w x g r):RwF w x g r:=⟨h.rev',h.off.sl,h.to.sl,h.rof.sl,h.rev.sl⟩
theorem RowO.fr{x:RRow}{r:List EdN}(h:RowO B w x g r)(f:Fr D w w')(hD:∀i,B<=i->¬D i):RowO B w' x g r:=
 ⟨h.rev',h.off.fr f λb hb _=>hD b hb,h.to.fr f λb hb _=>hD b hb,h.rof.fr f λb hb _=>hD b hb,h.rev.fr f λb hb _=>hD b hb⟩
theorem RowO.up[L:Le w w']{x:RRow}{r:List EdN}(h:RowO B w x g r):RowO B w' x g r:=h.fr L.e λ_ _ h=>h
section
variable {R:Nat->Prop} {B bs:Nat} {w:World} {g:GrD} {cf:CfD}
structure AnwP (R:Nat->Prop) (B bs:Nat) (w:World) (g:GrD) (cf:CfD) (k:Nat) (vt:Value) (u:World) (R':Nat->Prop) (s:SvD) (took:List RqD) (ys:List RReq):Prop where
 S:SrvP R' B u bs g cf s
 I:AnsI g cf s took []
 K:TkW R' w.heap.size u vt ys took
 tl:took.length<=k
 rr:∀i,R' i->R i\/w.heap.size<=i
 fr:Fr R w u
end
theorem zEb{x:RCfg}{im:List UInt8}(him:im.length<=4611686018427387904){c:Nat}{l:List REv}(h:SlF w (.slice a n c) l)(hm:EvsM w l):
  Sp PP F.pb #[agg x,txt im,.slice a n c] w λv w'=>v=.bool true/\Stp w w':=by
 have q_:=h.len
 obtain rfl:=q_
 refine en TBok rfl ?_
 refine rbx λb w1 n1 B1=>?_
 have B1:Bk w1 b (enc x) E.qv:=B1
 refine rldG (B:=B1) rfl rfl ?_
 by_cases hq:cfgOk x/\∃g,imgOf im=some g
 case neg =>
  refine rcall (zM5 him hq) ?_
  rintro _ w2 ⟨⟨e,rfl,he⟩,e2⟩
  refine rldG (B:=B1) rfl rfl ?_
  refine rcall (zG6 h.up) ?_
  rintro _ w4 ⟨rfl|⟨rfl,hs,hi⟩,e4⟩
  ·refine rcall zBB ?_
   rintro _ w5 ⟨rfl,e5⟩
   exact⟨rfl,stp⟩
  ·refine rpnil ?_
   refine rcall zBB ?_
   rintro _ w5 ⟨rfl,e5⟩
   exact⟨rfl,stp⟩
 obtain⟨hc,g,hi⟩:=hq
 refine rcall (zM6 him hc hi) ?_
 rintro _ w2 ⟨⟨bs,rfl,S0⟩,e2⟩
 have z2:=e2.e.size
 refine rldG (B:=B1) rfl rfl ?_
 refine rcall (zG6 h.up) ?_
 rintro _ w4 ⟨rfl|⟨rfl,hs,hi4⟩,e4⟩
 ·refine rcall zBB ?_
  rintro _ w5 ⟨rfl,e5⟩
  exact⟨rfl,stp⟩
 refine rpnil ?_
 refine iF (· rfl) ?_
 have z4:=e4.e.size
 have hgi:=zJq hi
 have hn2:=hgi.ok.n2
 refine rcall (zDE him) ?_
 rintro _ w5 ⟨hp,e5⟩
 rcases hp with ⟨g',xg,vs,hi',rfl,V⟩|⟨hn,rfl⟩
 case' inr=>rw [hi] at hn;cases hn
 have hgg:g'=g:=Option.some.inj (hi'.symm.trans hi)
 rw [hgg] at V
 have z5:=e5.e.size
 refine ral λbg w6 n6 X6=>?_
 have hbg:=n6.lo (u:=w5)
 refine rsto (B:=X6) (vs:=enc xg) rfl rfl rfl (Enc.one _) λw7 X7 f7 _=>?_
 have X7:Bk w7 bg (enc xg) E.qf:=X7
 have t7:Stp w5 w7:=⟨Fr.st (Le.e (a:=w5) (b:=w6)) f7 λi hi=>by omega⟩
 refine rldG (ds:=enc xg) (B:=X7) rfl rfl ?_
 refine rcall (zFq (V.up (w':=w7)) hgi) ?_
 rintro _ w8 ⟨⟨xr,r,rfl,RO⟩,e8⟩
 have z8:=e8.e.size
 have z7:=t7.e.size
 refine ral λbr w9 n9 X9=>?_
 have hbr:=n9.lo (u:=w8)
 refine rsto (B:=X9) (vs:=enc xr) rfl rfl rfl (Enc.one _) λw10 X10 f10 _=>?_
 have X10:Bk w10 br (enc xr) E.qj:=X10
 have t10:Stp w8 w10:=⟨Fr.st (Le.e (a:=w8) (b:=w9)) f10 λi hi=>by omega⟩
 have z10:=t10.e.size
 refine rldG (ds:=enc xg) (B:=X7.mv (w:=w10)) rfl rfl ?_
 refine rcall (zDo (V.up (w':=w10)) hgi) ?_
 rintro _ w11 ⟨⟨pa,pc,ps,ws,rfl,PM,PS,hpl,PO,PL⟩,e11⟩
 have z11:=e11.e.size
 refine iF (· rfl) ?_
 refine iF (· rfl) ?_
 refine iF (· rfl) ?_
 have S11:=S0.up (w':=w11)
 have q_:∃R:Nat->Prop,R=(λi=>w1.heap.size<=i/\i<w2.heap.size):=⟨_,rfl⟩
 obtain⟨R,hRd⟩:=q_
 rw [<-hRd] at S11
 have hRlt:∀i,R i->i<w2.heap.size:=λi h=>by rw [hRd] at h;exact h.2
 have RO11:=(RO.up (w':=w10)).up (w':=w11)
 have kp:∀u,Fr R w11 u->RwF u xr g r/\SlF u (.slice pa ps.length pc) ps/\PosM u g ws ps/\Bk u br (enc xr) E.qj:=λu fu=>by
  refine⟨(RO11.fr fu λi h1 h2=>by have:=hRlt i h2;omega).f,(PO.fr fu λi h1 _ h2=>by have:=hRlt i h2;omega).sl,⟨PM.ris,PM.all,PM.len,λi h1 h2=>⟨(PM.at' i h1 h2).1,((PL i h1 h2).fr fu λi h1 _ h2=>by have:=hRlt i h2;omega).sl⟩⟩,(X10.mv (w:=w11)).fr fu λh2=>by have:=hRlt br h2;omega⟩
 have hsp:∀u,Fr R w11 u->SlF u (.slice a l.length c) l:=λu fu=>by
  have t:Stw w1 w11 u:=S11.stw fu (Nat.le_refl _)
  exact SlF.up (w:=w) h
 have hmp:∀y∈l,∃q:List Int,∀u,Fr R w11 u->SlF u y.picks.v q:=λy hy=>by
  have q_:=hm y hy
  obtain⟨q,hq⟩:=q_
  exact⟨q,λu fu=>by
   have t:Stw w1 w11 u:=S11.stw fu (Nat.le_refl _)
   exact SlF.up (w:=w) hq⟩
 have hB:w1.heap.size<=w11.heap.size:=by omega
 have lw11:Stp w w11:=stp
 have hww1:=Le.size (a:=w) (b:=w1)
 have h80:l.length<=80:=hs.1
 have hf:∀y∈l,y.frame.length<=300:=λy hy=>(hs.2 y hy).1
 have tend:∀u,Fr R w11 u->Stw w1 w11 u:=λu fu=>S11.stw fu (Nat.le_refl _)
 clear h hm PM PS PO PL RO RO11 V X7 X9 X10 S0
 refine cnt1 TBok 17 [6] 15 16 l.length (λk vt u=>∃R' s took ys,AnwP R w1.heap.size bs w11 g (cfOf x) k vt u R' s took ys) rfl rfl
  ⟨R,_,[],[],S11,zOh,⟨Own.nil _ _ _,zNd,rfl,λi y t hy=>by simp at hy⟩,by simp,λ_ h=>.inl h,Fr.refl _ _⟩ ?_
 rintro k vt G u hk ⟨R',s,took,ys,P⟩
 obtain⟨S,I,K,htl,hrr,fu⟩:=P
 have zu:=fu.size
 have q_:=S.ok
 obtain⟨_,hcf,hso⟩:=q_
 refine ite (λhlt=>?_) (λhge=>?_)
 ·have hk1:k<l.length:=by omega
  have hiy:l[k]? = some l[k]:=by simp
  have q_:∃y,y=l[k]:=⟨_,rfl⟩
  obtain⟨y,hy⟩:=q_
  rw [<-hy] at hiy
  have hym:y∈l:=by rw [hy];exact List.getElem_mem hk1
  have q_:=hmp y hym
  obtain⟨pk,hps⟩:=q_
  have hyf:=hf y hym
  have hsu:=hsp u fu
  refine rix (i:=k) hsu hiy λb1 o1 A1=>rloadA A1 rfl ?_
  refine ral λbo w12 n12 Y12=>?_
  have hbo:=n12.lo (u:=u)
  refine rsto (B:=Y12) (vs:=enc y) rfl rfl rfl (Enc.one _) λw13 Y13 f13 _=>?_
  have Y13:Bk w13 bo (enc y) E.q9:=Y13
  have t13:Stp u w13:=⟨Fr.st (Le.e (a:=u) (b:=w12)) f13 λi hi=>by omega⟩
  have z13:=t13.e.size
  have S13:=S.up (w':=w13)
  have K13:=K.up (w':=w13)
  have fu13:Fr R w11 w13:=fu.trans (Fr.fr t13.e)
  have hbR:∀i,R' i->i<u.heap.size:=λi hi=>((SrvX.reg S).1 i hi).2
  obtain⟨yt,yf,pa',pn,pc'⟩:=y
  have hps:∀u,Fr R w11 u->SlF u (.slice pa' pn pc') pk:=hps
  have hyf:yf.length<=300:=hyf
  refine rld (B:=Y13) rfl ?_
  cases yt with
  |false =>
   refine rld (B:=Y13) rfl ?_
   have D:=zB8 (f:=yf) S13 (by omega) (by omega)
   have q_:∃o,(comeS g (cfOf x) s yf).2=o:=⟨_,rfl⟩
   obtain⟨o,ho⟩:=q_
   rw [ho] at D
   refine rcall D ?_
   rintro _ u7 ⟨rfl,S7,f7⟩
   have z7':=f7.size
   have fu7:=fr_in f7 fu13 hrr
   have hR7:∀i,gR R' w13 u7 i->gR R' w13 u7 i:=λ_ h=>h
   have K7:=K13.fr f7 hR7
   have Y7:=Y13.fr f7 (λh=>by have:=hbR bo h;omega)
   refine rld (B:=Y7) rfl ?_
   refine rcall (zBX (s:=yf) (by omega)) ?_
   rintro _ u8 ⟨hq,e8⟩
   have cm:=zM9 I yf
   have hC:((o=none->reqOf yf=none)\/(∃t,o=some t))->AnsI g (cfOf x) (comeS g (cfOf x) s yf).1 took []:=by
    intro h
    rcases cm with ⟨x,h1,h2,_⟩|⟨_,h2⟩
    ·rw [ho] at h1
     rcases h with h|⟨t,h⟩
     ·rw [h h1] at h2;cases h2
     ·rw [h1] at h;cases h
    ·exact h2
   have skip:∀u9,Stp u7 u9->AnsI g (cfOf x) (comeS g (cfOf x) s yf).1 took []->∃R' s' took' ys',AnwP R w1.heap.size bs w11 g (cfOf x) (k+1) vt u9 R' s' took' ys':=λu9 t9 hI=>by
    have z9:=t9.e.size
    exact⟨_,_,took,ys,S7.up,hI,K7.up,by omega,λi hi=>by
     rcases hi with hi|hi
     ·exact hrr i hi
     ·exact .inr (by omega),fu7.trans (Fr.fr t9.e)⟩
   rcases hq with ⟨d,q,hrq,rfl,hO⟩|⟨hrq,rfl⟩
   ·refine ral λbq w9 n9 X9=>?_
    have hbq:=n9.lo (u:=u7)
    refine rsto (B:=X9) (vs:=enc q) rfl rfl rfl (Enc.one _) λw10 X10 f10 _=>?_
    have X10:Bk w10 bq (enc q) E.qd:=X10
    have t10:Stp u7 w10:=⟨Fr.st (Le.e (a:=u7) (b:=w9)) f10 λi hi=>by omega⟩
    cases o with
    |some t =>
     exact rA ⟨rfl,hk1,skip w10 t10 (hC (.inr ⟨t,rfl⟩))⟩
    |none =>
     refine iT rfl ?_
     rcases cm with ⟨x',_,h2,h3⟩|⟨h1,_⟩
     ·rw [hrq] at h2
      have hdx:d=x':=Option.some.inj h2
      rw [<-hdx] at h3
      refine rldG (ds:=enc q) (B:=X10) rfl (Enc.len _) ?_
      refine rbs1 q rfl rfl (by decide) λb11 u11 e11' _ S11'=>?_
      have K11:=(K7.up (w':=w10)).up (w':=u11)
      have z11':=Le.size (a:=u7) (b:=u11)
      have hyl:=K.len
      have hO10:=((hO.up (w':=w9)).2.2.2.2.2.1.frc f10 X9 (by decide)).up (w':=u11)
      have W11:OwO E.qg (gR R' w13 u7) w11.heap.size u11 q.q.words d.q.words:=OwO.new (u:=u7) hO10 (by omega) λi hi=>by
       rcases hi with hi|hi
       ·have:=hbR i hi;omega
       ·omega
      have E11:TkE (gR R' w13 u7) w11.heap.size u11 q d:=by
       obtain⟨e1,_,e3,e4,e5,_,e6,e7⟩:=hO
       exact⟨⟨e1,e3,e4,e5,e6,e7,zC2 hrq⟩,W11⟩
      refine rappD ⟨rfl,rfl⟩ K11.own S11' (by simp) (by omega) (by simp only [List.length_cons,List.length_nil];omega) λv12 u12 O12 f12 hv12=>?_
      have z12:=f12.size
      have N12:=zOk (X:=gR R' w13 u7) K11.blk hv12 O12 (by simp) (λi hi=>by
       rcases hi with hi|hi
       ·have:=hbR i hi;omega
       ·omega) z12
      have S12:=((S7.up (w':=w10)).up (w':=u11)).away f12 λb h4 h5=>(K11.blk b (zNA h4).2).2 h5
      have fu12:Fr R w11 u12:=fr_in f12 ((fu7.trans (Fr.fr (Le.e (a:=u7) (b:=w10)))).trans (Fr.fr (Le.e (a:=w10) (b:=u11)))) λi hi=>.inr hi.1
      have K12:TkW (gR R' w13 u7) w11.heap.size u12 v12 (ys++[q]) (took++[d]):=by
       refine⟨O12,N12,by simp [hyl],λj y' t' hy' ht'=>?_⟩
       have q_:=Nat.lt_or_ge j ys.length
       rcases q_ with h5|h5
       ·rw [List.getElem?_append_left h5] at hy'
        rw [List.getElem?_append_left (by rw [<-hyl];exact h5)] at ht'
        have h6:=K11.all j y' t' hy' ht'
        exact⟨h6.1,h6.2.fro K11.own f12 (by decide)⟩
       ·have h6:j=ys.length:=by
         have:=(List.getElem?_eq_some_iff.1 hy').1
         simp at this;omega
        subst h6
        rw [List.getElem?_append_right (Nat.le_refl _),Nat.sub_self] at hy'
        rw [hyl,List.getElem?_append_right (Nat.le_refl _),Nat.sub_self] at ht'
        have hy':q=y':=Option.some.inj hy'
        have ht':d=t':=Option.some.inj ht'
        subst hy' ht'
        exact⟨E11.1,E11.2.fro K11.own f12 (by decide)⟩
      refine rA ⟨rfl,hk1,_,_,took++[d],ys++[q],S12,h3,K12,by simp;omega,λi hi=>?_,fu12⟩
      rcases hi with hi|hi
      ·exact hrr i hi
      ·exact .inr (by omega)
     ·rw [h1 ho] at hrq;cases hrq
   ·refine ral λbq w9 n9 X9=>?_
    have hbq:=n9.lo (u:=u7)
    refine rsto (B:=X9) (vs:=enc zRq) rfl rfl rfl (Enc.one _) λw10 X10 f10 _=>?_
    have t10:Stp u7 w10:=⟨Fr.st (Le.e (a:=u7) (b:=w9)) f10 λi hi=>by omega⟩
    cases o with
    |some t =>
     exact rA ⟨rfl,hk1,skip w10 t10 (hC (.inr ⟨t,rfl⟩))⟩
    |none =>
     refine iF (by decide) ?_
     exact rA ⟨rfl,hk1,skip w10 t10 (hC (.inl λ_=>hrq))⟩
  |true =>
   refine rld (B:=Y13) rfl ?_
   refine rcall (zBr S13 (by omega) λv fv=>hps v (fr_in fv fu13 hrr)) ?_
   rintro v5 u5 ⟨R5,O5,hoff,S5,hR5,f5⟩
   have z5':=f5.size
   have fu5:=fr_in f5 fu13 hrr
   have K5:=K13.fr f5 hR5
   have hR5':∀i,R5 i->R i\/w11.heap.size<=i:=λi hi=>by
    have q_:=hR5 i hi
    rcases q_ with h|h
    ·exact hrr i h
    ·exact .inr (by omega)
   have hlt:=zOa S13
   have q_:∃L,L=tickR g (cfOf x) s:=⟨_,rfl⟩
   obtain⟨L,hL⟩:=q_
   rw [zKe,<-hL] at O5
   rw [zKe,<-hL] at hlt
   have hLl:((L.map bytR).map bsOf).length=L.length:=by simp
   have hLm:(L.map bytR).length=L.length:=by simp
   have hrep:∀p∈L,RepOk (repOf p.1 p.2.1 p.2.2) p.2.2.hits/\(p.2.1=0\/p.2.1=250\/p.2.1=251):=λp hp=>zKM hgi.ok hcf hso (hL ▸ hp)
   have hof:∀p∈L,∃i x',took[i]? = some x'/\x'.id=p.1/\(∀(j:Nat) (y:RqD),i<j->took[j]? = some y->y.id≠p.1)/\RqOk g x'/\(p.2.1=0->AlRep g (cfOf x) x' p.2.2):=λp hp=>zOi hcf I (hL ▸ hp)
   have q_:∃n,n=((L.map bytR).map bsOf).length:=⟨_,rfl⟩
   obtain⟨n5,hn5⟩:=q_
   have q_:=O5.shape
   obtain⟨a5,c5,hv5⟩:=q_
   rw [<-hn5] at hv5
   subst hv5
   rw [hLl] at hn5
   have q_:=K5.own.shape
   obtain⟨at5,ct5,hvt⟩:=q_
   have q_:∃n,n=ys.length:=⟨_,rfl⟩
   obtain⟨ny,hny⟩:=q_
   rw [<-hny] at hvt
   subst hvt
   refine cnt TBok 24 [6] 23 L.length (λi u=>Stp u5 u) rfl rfl stp ?_
   rintro i G7 u7 hi7 su7
   refine ite (λhlt3=>?_) (λhge3=>?_)
   ·have h9:(i:Int)<((n5:Nat):Int):=hlt3
    clear hlt3
    have hi1:i<L.length:=by omega
    have q_:∃p,p=L[i]:=⟨_,rfl⟩
    obtain⟨p,hp⟩:=q_
    have hpm:p∈L:=by rw [hp];exact List.getElem_mem hi1
    have hxi:((L.map bytR).map bsOf)[i]? = some (bsOf (bytR p)):=by simp [hi1,hp]
    refine rix (O5.sl.up (w':=u7)) hxi λb9 o9 A9=>rload1 (A9.cell0 rfl) ?_
    refine rcall (zOD (hrep p hpm).1) ?_
    rintro _ u8 ⟨⟨rp,rfl,r1,r2,r3,r4,OH⟩,e8'⟩
    refine ral λby' w9 n9 X9=>?_
    have hby:=n9.lo (u:=u7)
    refine rsto (B:=X9) (vs:=enc rp) rfl rfl rfl (Enc.one _) λw10 X10 f10 _=>?_
    have X10:Bk w10 by' (enc rp) E.qc:=X10
    have t10:Stp u7 w10:=⟨Fr.st (Le.e (a:=u7) (b:=w9)) f10 λi hi=>by omega⟩
    have OH10:=(OH.up (w':=w9)).frc f10 X9 (by decide)
    have q_:=hof p hpm
    obtain⟨i0,x0,hx0,hx1,hx2,hx3,hx4⟩:=q_
    have hil0:=(List.getElem?_eq_some_iff.1 hx0).1
    have hyl:=K.len
    have hy0:ys[i0]? = some (ys[i0]'(by omega)):=by simp
    have q_:∃z,z=ys[i0]'(by omega):=⟨_,rfl⟩
    obtain⟨z,hz⟩:=q_
    rw [<-hz] at hy0
    have Kz:=K5.all i0 z x0 hy0 hx0
    have K10:=K5.own.sl.up (w':=w10)
    refine rld (B:=X10) rfl ?_
    refine rcall (zJv (id:=rp.id) (i0:=i0) (z:=z) K10 hy0 (by rw [Kz.1.1,hx1,r1]) (λj y' hij hy'=>by
     have q_:=K5.tget hy'
     obtain⟨t,ht,hkt⟩:=q_
     rw [hkt.1.1,r1];exact hx2 j t hij ht) (by omega)) ?_
    rintro _ u11 ⟨rfl,e11'⟩
    refine ral λbq w12 n12 X12=>?_
    have hbq:=n12.lo (u:=u7)
    refine rsto (B:=X12) (vs:=enc z.q) rfl rfl rfl (Enc.one _) λw13' X13 f13' _=>?_
    have X13:Bk w13' bq (enc z.q) E.qp:=X13
    have t13':Stp u11 w13':=⟨Fr.st (Le.e (a:=u11) (b:=w12)) f13' λi hi=>by subst hi;exact n12.lo⟩
    refine iF (· rfl) ?_
    have t14:Stp u5 w13':=stp
    have fu14:Fr R w11 w13':=fu5.trans (Fr.fr t14.e)
    have q_:=kp w13' fu14
    obtain⟨RW,PW,MW,BW⟩:=q_
    refine rldG (ds:=enc z.q) (B:=X13) rfl rfl ?_
    refine rldG (ds:=enc xr) (B:=BW) rfl rfl ?_
    have hsm:=Kz.1.2.2.2.2.2.2.small
    refine rcall (zLT hgi RW PW MW (by omega) (Kz.v.up (w':=w13')) hx3.q (by omega) (λs hs=>by have:=hsm.2 s hs;omega)) ?_
    rintro _ u15 ⟨⟨ya,an,rfl,⟨y1,y2,y3⟩,hask⟩,e15⟩
    refine ral λba w16 n16 X16=>?_
    have hba:=n16.lo (u:=w13')
    refine rsto (B:=X16) (vs:=enc ya) rfl rfl rfl (Enc.one _) λw17 X17 f17 _=>?_
    have X17:Bk w17 ba (enc ya) E.qe:=X17
    have t17:Stp u15 w17:=⟨Fr.st (Le.e (a:=u15) (b:=w16)) f17 λi hi=>by subst hi;exact n16.lo⟩
    have X18:=X10.mv (w:=w17)
    refine rld (B:=X18) rfl ?_
    have q_:=(hrep p hpm).2
    rcases q_ with hcode|hcode|hcode
    ·refine iT (by rw [r2,hcode]) ?_
     have hsame:=al_ask hgi.ok hx3 (hx4 hcode) hask
     refine iF (· rfl) ?_
     refine rldG (ds:=enc ya) (B:=X17) rfl rfl ?_
     refine rldG (ds:=enc rp.a) (B:=X18) rfl rfl ?_
     have Y3:=(y3.up (w':=w16)).frc f17 X16 (by decide)
     have hhl:an.hits.length<=1000000:=by
      have h2:=(hrep p hpm).1.2.2.2.1
      rw [hsame];omega
     refine rcall ((zKF (lx:=an.hits) (ly:=p.2.2.hits) Y3.sl (OH10.sl.up (w':=w17)) hhl).tt ⟨by rw [y1,r3,hsame],by rw [y2,r4,hsame],by rw [hsame]⟩) ?_
     rintro _ u19 ⟨rfl,e19⟩
     refine rld (B:=X18.mv (w:=u19)) rfl ?_
     refine iF (· (show rp.code=0 by rw [r2,hcode])) ?_
     exact rA ⟨rfl,hi1,stp⟩
    ·have hc0:rp.code=250:=by rw [r2,hcode]
     refine ite (λh=>absurd (hc0.symm.trans h) (by decide)) (λ_=>?_)
     refine rld (B:=X18) rfl ?_
     refine iT (λh2=>absurd (hc0.symm.trans h2) (by decide)) ?_
     refine rld (B:=X18) rfl ?_
     refine iF (· hc0) ?_
     exact rA ⟨rfl,hi1,stp⟩
    ·have hc0:rp.code=251:=by rw [r2,hcode]
     refine ite (λh=>absurd (hc0.symm.trans h) (by decide)) (λ_=>?_)
     refine rld (B:=X18) rfl ?_
     refine iT (λh2=>absurd (hc0.symm.trans h2) (by decide)) ?_
     refine rld (B:=X18) rfl ?_
     refine iT (λh2=>absurd (hc0.symm.trans h2) (by decide)) ?_
     refine rld (B:=X18) rfl ?_
     refine iF (· hc0) ?_
     exact rA ⟨rfl,hi1,stp⟩
   ·have I2:=zNa hcf I (out':=[]) (λd h=>nomatch h)
    have t7':=su7
    refine rA ⟨rfl,hk1,R5,_,took,ys,S5.up,I2,K5.up,by omega,hR5',fu5.trans (Fr.fr su7.e)⟩
 ·have tw:=tend u fu
  refine rcall zBB ?_
  rintro _ w5' ⟨rfl,e5'⟩
  have q1:Ext w u:=Fr.st lw11.e tw.e λi hi=>Nat.le_trans hww1 hi
  exact⟨rfl,⟨q1.t e5'.e⟩⟩
end Go.W
