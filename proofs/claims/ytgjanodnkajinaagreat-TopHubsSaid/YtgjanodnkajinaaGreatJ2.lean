/-
  Proved here: a part of the walks and plain laws of this claim (merged by a program of mine).
  Conditions: those that each fact names.
-/
import Derived.Shelf.SlSortCmp.NoneTotal
import Derived.Shelf.SlLaysF0
import Derived.Test.YtgjanodnkajinaaGreatProg
import Derived.DeepKeys3
import Derived.Shelf.SortG.Plain
import Derived.Shelf.SortG.SortNone
import Derived.Shelf.Strings.BuilderK
import Derived.Test.YtgjanodnkajinaaGreatJ1
set_option maxHeartbeats 1000000
set_option linter.unusedVariables false
set_option linter.unusedSimpArgs false
namespace Go.W
open Go
variable {B N i j k m n:Nat} {D R:Nat -> Prop} {P:Program} {T:Tab} {a a':Option Addr} {g:GrD} {q:QyD} {s:List UInt8} {u u' w w':World}
def putC (x:StD):List StD->List StD
 |[]=>[x]
 |y::r=>if lessK y.key x.key then y::putC x r else if y.key=x.key then ⟨x.key,min x.d y.d⟩::r else x::y::r
def combL (l:List StD):List StD:=l.foldl (λL x=>putC x L) []
theorem zFN(a b:KeyD):lessK a b\/a=b\/lessK b a:=by
 unfold lessK
 have q_:=Int.lt_trichotomy a.slot b.slot
 rcases q_ with h|h|h
 ·omega
 ·have q_:=Int.lt_trichotomy a.dir b.dir
  rcases q_ with h2|h2|h2
  ·omega
  ·have q_:=Int.lt_trichotomy a.v b.v
   rcases q_ with h3|h3|h3
   ·omega
   ·exact .inr (.inl (zFl h h2 h3))
   ·omega
  ·omega
 ·omega
theorem zH7(x:StD):∀{L:List StD} {z:StD},z∈putC x L->z.key=x.key\/∃y∈L,y.key=z.key
 |[],z,h=>by simp [putC] at h;exact .inl (by rw [h])
 |y::r,z,h=>by
  unfold putC at h
  split at h
  ·have q_:=List.mem_cons.1 h
   rcases q_ with rfl|h
   ·exact .inr ⟨_,List.mem_cons_self,rfl⟩
   ·have q_:=zH7 x h
    rcases q_ with h|⟨w,h1,h2⟩
    ·exact .inl h
    ·exact .inr ⟨w,List.mem_cons_of_mem _ h1,h2⟩
  ·split at h
   ·have q_:=List.mem_cons.1 h
    rcases q_ with rfl|h
    ·exact .inl rfl
    ·exact .inr ⟨z,List.mem_cons_of_mem _ h,rfl⟩
   ·have q_:=List.mem_cons.1 h
    rcases q_ with rfl|h
    ·exact .inl rfl
    ·exact .inr ⟨z,h,rfl⟩
theorem zJB(x:StD):∀{L:List StD},SRis L->SRis (putC x L)
 |[],_=>by simp [putC]
 |y::r,h=>by
  rw [SRis,List.pairwise_cons] at h
  unfold putC
  split
  ·rename_i hy
   refine List.pairwise_cons.2 ⟨λz hz=>?_,zJB x h.2⟩
   have q_:=zH7 x hz
   rcases q_ with e|⟨w,h1,h2⟩
   ·rw [e];exact hy
   ·rw [<-h2];exact h.1 w h1
  ·rename_i hy
   split
   ·rename_i e
    exact List.pairwise_cons.2 ⟨λz hz=>by show lessK x.key z.key;rw [<-e];exact h.1 z hz,h.2⟩
   ·rename_i e
    have hx:lessK x.key y.key:=by
     have q_:=zFN x.key y.key
     rcases q_ with h|h|h
     ·exact h
     ·exact absurd h.symm e
     ·exact absurd h hy
    refine List.pairwise_cons.2 ⟨λz hz=>?_,List.pairwise_cons.2 h⟩
    have q_:=List.mem_cons.1 hz
    rcases q_ with rfl|hz
    ·exact hx
    ·exact zB4 hx (h.1 z hz)
def LeastOf (l:List StD) (z:StD):Prop:=z∈l/\∀y∈l,y.key=z.key->z.d<=y.d
theorem zFu{a b:StD}(h1:a.key=b.key)(h2:a.d=b.d):a=b:=by cases a;cases b;simp_all
theorem zJh(x:StD):∀{L:List StD},SRis L->∀{z:StD},z∈putC x L↔LeastOf (x::L) z
 |[],_,z=>by
  simp only [putC,LeastOf,List.mem_singleton,forall_eq]
  exact⟨λh=>⟨h,λ_=>by rw [h];exact Int.le_refl _⟩,λh=>h.1⟩
 |y::r,h,z=>by
  have hh:=h
  rw [SRis,List.pairwise_cons] at h
  have ih:=zJh x h.2 (z:=z)
  unfold putC
  split
  ·rename_i hy
   have hxy:x.key≠y.key:=λe=>zAL hy e.symm
   rw [List.mem_cons,ih]
   unfold LeastOf
   constructor
   ·rintro(rfl|⟨h1,h2⟩)
    ·refine⟨by simp,λw hw e=>?_⟩
     have q_:=List.mem_cons.1 hw
     rcases q_ with rfl|hw
     ·exact absurd e hxy
     ·rw [hh.inj hw List.mem_cons_self e];exact Int.le_refl _
    ·refine⟨by rcases List.mem_cons.1 h1 with h1|h1 <;> simp [h1],λw hw e=>?_⟩
     have q_:=List.mem_cons.1 hw
     rcases q_ with rfl|hw
     ·exact h2 w List.mem_cons_self e
     ·have q_:=List.mem_cons.1 hw
      rcases q_ with rfl|hw
      ·exfalso
       have q_:=List.mem_cons.1 h1
       rcases q_ with rfl|h1
       ·exact hxy e.symm
       ·exact zAL (h.1 z h1) e
      ·exact h2 w (List.mem_cons_of_mem _ hw) e
   ·rintro⟨h1,h2⟩
    have q_:=List.mem_cons.1 h1
    rcases q_ with rfl|h1
    ·exact .inr ⟨List.mem_cons_self,λw hw e=>h2 w (by rcases List.mem_cons.1 hw with h|h <;> simp [h]) e⟩
    ·have q_:=List.mem_cons.1 h1
     rcases q_ with rfl|h1
     ·exact .inl rfl
     ·exact .inr ⟨List.mem_cons_of_mem _ h1,λw hw e=>h2 w (by rcases List.mem_cons.1 hw with h|h <;> simp [h]) e⟩
  ·rename_i hy
   split
   ·rename_i e
    rw [List.mem_cons]
    unfold LeastOf
    constructor
    ·rintro(rfl|h1)
     ·refine⟨?_,λw hw e'=>?_⟩
      ·have q_:=Int.le_total x.d y.d
       rcases q_ with h5|h5
       ·rw [Int.min_eq_left h5];exact List.mem_cons_self
       ·rw [Int.min_eq_right h5,<-e];exact List.mem_cons_of_mem _ List.mem_cons_self
      ·have q_:=List.mem_cons.1 hw
       rcases q_ with rfl|hw
       ·exact Int.min_le_left _ _
       ·rw [hh.inj hw List.mem_cons_self (e'.trans e.symm)];exact Int.min_le_right _ _
     ·refine⟨by simp [h1],λw hw e'=>?_⟩
      have q_:=List.mem_cons.1 hw
      rcases q_ with rfl|hw
      ·exact absurd (e.trans e') (zAL (h.1 z h1))
      ·rw [hh.inj hw (List.mem_cons_of_mem _ h1) e'];exact Int.le_refl _
    ·rintro⟨h1,h2⟩
     have q_:=List.mem_cons.1 h1
     rcases q_ with rfl|h1
     ·left
      have:=h2 y (by simp) e
      exact zFu rfl (Int.min_eq_left this).symm
     ·have q_:=List.mem_cons.1 h1
      rcases q_ with rfl|h1
      ·left
       have:=h2 x (by simp) e.symm
       exact zFu e (Int.min_eq_right this).symm
      ·exact .inr h1
   ·rename_i e
    rw [List.mem_cons]
    unfold LeastOf
    have hx:lessK x.key y.key:=by
     have q_:=zFN x.key y.key
     rcases q_ with h|h|h
     ·exact h
     ·exact absurd h.symm e
     ·exact absurd h hy
    constructor
    ·intro hz
     refine⟨List.mem_cons.2 hz,λw hw e'=>?_⟩
     have key:∀u∈y::r,lessK x.key u.key:=λu hu=>by
      have q_:=List.mem_cons.1 hu
      rcases q_ with rfl|hu
      ·exact hx
      ·exact zB4 hx (h.1 u hu)
     rcases hz with rfl|hz
     ·have q_:=List.mem_cons.1 hw
      rcases q_ with rfl|hw
      ·exact Int.le_refl _
      ·exact absurd e'.symm (zAL (key w hw))
     ·have q_:=List.mem_cons.1 hw
      rcases q_ with rfl|hw
      ·exact absurd e' (zAL (key z hz))
      ·rw [hh.inj hw hz e'];exact Int.le_refl _
    ·exact λh=>List.mem_cons.1 h.1
theorem zJd:∀(s:List StD) (k:KeyD),(∃y∈s,y.key=k)->∃w,w∈s/\w.key=k/\∀u∈s,u.key=k->w.d<=u.d
 |[],_,⟨_,h,_⟩=>nomatch h
 |a::s,k,h=>by
  by_cases hex:∃y∈s,y.key=k
  ·have q_:=zJd s k hex
   obtain⟨w,a1,a2,a3⟩:=q_
   by_cases hak:a.key=k/\a.d<=w.d
   ·refine⟨a,List.mem_cons_self,hak.1,λu hu eu=>?_⟩
    have q_:=List.mem_cons.1 hu
    rcases q_ with rfl|hu
    ·exact Int.le_refl _
    ·exact Int.le_trans hak.2 (a3 u hu eu)
   ·refine⟨w,List.mem_cons_of_mem _ a1,a2,λu hu eu=>?_⟩
    have q_:=List.mem_cons.1 hu
    rcases q_ with rfl|hu
    ·have:¬u.d<=w.d:=λh=>hak ⟨eu,h⟩
     omega
    ·exact a3 u hu eu
  ·obtain⟨y,hy,e⟩:=h
   have q_:=List.mem_cons.1 hy
   rcases q_ with rfl|hy
   ·refine⟨y,List.mem_cons_self,e,λu hu eu=>?_⟩
    have q_:=List.mem_cons.1 hu
    rcases q_ with rfl|hu
    ·exact Int.le_refl _
    ·exact absurd ⟨u,hu,eu⟩ hex
   ·exact absurd ⟨y,hy,e⟩ hex
theorem zA5(l:List StD):SRis (combL l)/\∀z,z∈combL l↔LeastOf l z:=by
 have key:∀(m l L:List StD),SRis L->(∀z,z∈L↔LeastOf l z)->SRis (m.foldl (λL x=>putC x L) L)/\∀z,z∈m.foldl (λL x=>putC x L) L↔LeastOf (l++m) z:=by
  intro m
  induction m with
  |nil=>intro l L h1 h2;simpa using ⟨h1,h2⟩
  |cons x r ih =>
   intro l L h1 h2
   rw [List.foldl_cons]
   have:=ih (l++[x]) (putC x L) (zJB x h1) λz=>by
    rw [zJh x h1]
    unfold LeastOf
    constructor
    ·rintro⟨h3,h4⟩
     have hz:z∈l++[x]:=by
      have q_:=List.mem_cons.1 h3
      rcases q_ with rfl|h3
      ·simp
      ·exact List.mem_append_left _ ((h2 z).1 h3).1
     refine⟨hz,λy hy e=>?_⟩
     have q_:=List.mem_append.1 hy
     rcases q_ with hy1|hy1
     ·have q_:=zJd l y.key ⟨y,hy1,rfl⟩
      obtain⟨w,a1,a2,a3⟩:=q_
      have hw:=(h2 w).2 ⟨a1,λu hu eu=>a3 u hu (eu.trans a2)⟩
      exact Int.le_trans (h4 w (List.mem_cons_of_mem _ hw) (a2.trans e)) (a3 y hy1 rfl)
     ·rw [List.mem_singleton] at hy1;subst hy1
      exact h4 y List.mem_cons_self e
    ·rintro⟨h3,h4⟩
     refine⟨?_,λy hy e=>?_⟩
     ·have q_:=List.mem_append.1 h3
      rcases q_ with h3|h3
      ·exact List.mem_cons_of_mem _ ((h2 z).2 ⟨h3,λy hy e=>h4 y (List.mem_append_left _ hy) e⟩)
      ·rw [List.mem_singleton] at h3;subst h3;exact List.mem_cons_self
     ·have q_:=List.mem_cons.1 hy
      rcases q_ with rfl|hy
      ·exact h4 y (by simp) e
      ·exact h4 y (List.mem_append_left _ ((h2 y).1 hy).1) e
   simpa using this
 have:=key l [] [] .nil λz=>by simp [LeastOf]
 simpa [combL] using this
theorem zDS{l out:List StD}(h:SRis out)(hm:∀z,z∈out↔LeastOf l z):out=combL l:=
 h.uniq (zA5 l).1 λz=>(hm z).trans ((zA5 l).2 z).symm
theorem zLl{l:List StD}(h:SRis l):combL l=l:=
 ((zDS h λz=>⟨λhz=>⟨hz,λy hy e=>by rw [h.inj hy hz e];exact Int.le_refl _⟩,λhz=>hz.1⟩)).symm
theorem zLk{l m:List StD}(h:l.Perm m):combL l=combL m:=
 zDS (zA5 l).1 λz=>((zA5 l).2 z).trans (by unfold LeastOf;simp only [h.mem_iff])
def keyIn (S:List StD) (k:KeyD):Bool:=S.any λy=>decide (y.key=k)
theorem zC5{S:List StD}{k:KeyD}:keyIn S k=true↔∃y∈S,y.key=k:=by simp [keyIn]
def freshL (S M:List StD):List StD:=(combL M).filter λx=>!keyIn S x.key
theorem zGH(S M:List StD):SRis (freshL S M):=(zA5 M).1.filter _
theorem zEW{S M:List StD}{z:StD}:z∈freshL S M↔LeastOf M z/\∀y∈S,y.key≠z.key:=by
 unfold freshL
 rw [List.mem_filter,(zA5 M).2]
 simp [keyIn]
def nextL (g:GrD) (q:QyD) (x:StD):List StD:=
 if q.kind=3/\q.rad<=x.d then [] else (nbL g x.key.dir x.key.v.toNat).map λv:Nat=>⟨⟨x.key.slot,x.key.dir,v⟩,x.d+1⟩
def stepL (g:GrD) (q:QyD) (S M:List StD):List StD×List StD:=
 (insAll (freshL S M) S,freshL (insAll (freshL S M) S) ((freshL S M).flatMap (nextL g q)))
section
variable {g:GrD} {q:QyD} {slot:Int}
theorem zLW(i:Nat):freshL (sts g q slot i) (mls g q slot i)=mls g q slot i:=by
 unfold freshL
 rw [zLl (zHl i),List.filter_eq_self]
 intro x hx
 simp only [Bool.not_eq_true',<-Bool.not_eq_true,zC5]
 rintro⟨y,hy,e⟩
 have q_:=zAI.1 hy
 obtain⟨j,h1,h2⟩:=q_
 have:=zEZ h2 hx e
 omega
theorem nb_lt(hg:GrOk g){dir:Int}{u v:Nat}(h:v∈nbL g dir u):v<g.n:=by
 unfold nbL at h
 split at h
 ·have q_:=List.mem_map.1 h
  obtain⟨e,he,rfl⟩:=q_
  exact(hg.ed e (List.mem_filter.1 he).1).1
 ·have q_:=List.mem_map.1 h
  obtain⟨e,he,rfl⟩:=q_
  exact(hg.ed e (List.mem_filter.1 he).1).2
theorem zGc{z:StD}:z∈(mls g q slot i).flatMap (nextL g q)↔z.key.slot=slot/\z.d=(i:Int)+1/\(z.key.dir=0\/z.key.dir=1)/\goesOn q i=true/\∃u∈lv g q z.key.dir i,∃v:Nat,z.key.v=v/\v∈nbL g z.key.dir u:=by
 rw [List.mem_flatMap]
 constructor
 ·rintro⟨x,hx,hz⟩
  have q_:=zAq.1 hx
  obtain⟨h1,h2,h3,u,h4,h5⟩:=q_
  unfold nextL at hz
  split at hz
  ·cases hz
  ·rename_i hgo
   have q_:=List.mem_map.1 hz
   obtain⟨v,hv,rfl⟩:=q_
   refine⟨h1,by show x.d+1=_;rw [h2],h3,?_,u,h5,v,rfl,?_⟩
   ·rw [h2] at hgo;simp only [goesOn,Bool.not_eq_true',<-Bool.not_eq_true,Bool.and_eq_true,decide_eq_true_eq];exact hgo
   ·rw [h4] at hv;simpa using hv
 ·rintro⟨h1,h2,h3,h4,u,h5,v,h6,h7⟩
  refine⟨⟨⟨slot,z.key.dir,u⟩,i⟩,zAq.2 ⟨rfl,rfl,h3,u,rfl,h5⟩,?_⟩
  unfold nextL
  rw [if_neg (by rintro⟨b1,b2⟩;simp [goesOn,b1,b2] at h4)]
  refine List.mem_map.2 ⟨v,by simpa using h7,zFu (zFl h1.symm rfl h6.symm) ?_⟩
  exact h2.symm
theorem zNu(hg:GrOk g)(i:Nat):stepL g q (sts g q slot i) (mls g q slot i)=(sts g q slot (i+1),mls g q slot (i+1)):=by
 unfold stepL
 rw [zLW]
 refine Prod.ext rfl ?_
 refine(zGH _ _).uniq (zHl _) λz=>?_
 have e:insAll (mls g q slot i) (sts g q slot i)=sts g q slot (i+1):=rfl
 rw [e,zEW]
 constructor
 ·rintro⟨⟨h1,_⟩,h2⟩
  have q_:=zGc.1 h1
  obtain⟨a1,a2,a3,a4,u,a5,v,a6,a7⟩:=q_
  refine zAq.2 ⟨a1,by rw [a2];simp,a3,v,a6,zAW.2 ⟨a4,nb_lt hg a7,λhs=>?_,u,a5,a7⟩⟩
  have q_:=mem_sn.1 hs
  obtain⟨j,h3,h4⟩:=q_
  exact h2 ⟨⟨slot,z.key.dir,v⟩,j⟩ (zAI.2 ⟨j,h3,zAq.2 ⟨rfl,rfl,a3,v,rfl,h4⟩⟩) (zFl a1.symm rfl a6.symm)
 ·intro hz
  have q_:=zAq.1 hz
  obtain⟨a1,a2,a3,v,a4,a5⟩:=q_
  have q_:=zAW.1 a5
  obtain⟨b1,b2,b3,u,b4,b5⟩:=q_
  refine⟨⟨zGc.2 ⟨a1,by rw [a2];simp,a3,b1,u,b4,v,a4,b5⟩,λy hy _=>?_⟩,λy hy e=>?_⟩
  ·have:=(zGc.1 hy).2.1
   rw [a2,this];simp
  ·have q_:=zAI.1 hy
   obtain⟨j,h3,h4⟩:=q_
   have:=zEZ h4 hz e
   omega
end
end Go.W
namespace Go.W
open Go Go.Proofs
open Enc (enc)
set_option maxRecDepth 10000
variable {B N i j k m n:Nat} {D R:Nat -> Prop} {P:Program} {T:Tab} {a a':Option Addr} {g:GrD} {q:QyD} {s:List UInt8} {u u' w w':World}
section
variable {t:TypeId} {v:Value} {α:Type} [Inhabited α] {lt:α->α->Bool} {St:List α->World->Prop} {B0:Nat} {es:List TypeId}
theorem zKz{l:List α}{y:α}{p:Nat}(h:p<l.length):atL (l++[y]) p=atL l p:=by
 unfold atL;simp [List.getElem?_append_left h]
theorem zIM{l:List α}{p:Nat}(h:p<l.length - 1):atL l.dropLast p=atL l p:=by
 unfold atL;simp only [List.getD_eq_getElem?_getD,List.getElem?_dropLast];rw [if_pos h]
theorem HeapN.congr{l l':List α}(h:HeapN lt l n)(e:∀p,p<n->atL l' p=atL l p):HeapN lt l' n:=λc c0 cn=>by
 rw [e c cn,e _ (by omega)];exact h c c0 cn
theorem zKv(H:HeapI PP t v lt St B0 es){l:List α}{y:α}{x:Value}(hS:St l w)(hl:l.length<=99999)(hh:HeapN lt l l.length)
  (hpush : InvS PP t v "Push" [x] w λ_ w' => St (l ++ [y]) w' /\ FrT B0 es w w') :
  Sp PP F.zq #[.iface t v,x] w λ_ w'=>(∃l':List α,l'.Perm (l++[y])/\St l' w'/\HeapN lt l' l'.length)/\FrT B0 es w w':=by
 refine en TBok rfl ?_
 refine hpush.out rfl rfl rfl rfl ?_
 rintro _ w1 ⟨S1,f1⟩
 refine(H.len _ w1 S1).out rfl rfl rfl rfl ?_
 rintro _ w2 ⟨rfl,S2,f2⟩
 have hlen:(l++[y]).length=l.length+1:=by simp
 refine rarE (y:=((l.length:Nat):Int)) (by omega) (by omega) (rcall (up_sp H (n:=l.length+1) (j:=l.length) S2 (by omega) (by omega) ⟨λc c0 cn h1 h2=>?_,λc c0 cn h1 h2=>by omega⟩ (λc c0 cn h1=>by omega)) ?_)
 ·rw [zKz (by omega),zKz (by omega)];exact hh c c0 (by omega)
 rintro _ w3 ⟨⟨l',hp,_,S3,hn⟩,f3⟩
 have hl':=hp.length_eq
 exact⟨⟨l',hp,S3,by rw [hl',hlen];exact hn⟩,(f1.trans f2).trans f3⟩
theorem Pop_sp(H : HeapI PP t v lt St B0 es){RX : α -> Value -> Prop}(hpop : ∀ l w, St l w -> l ≠ [] -> InvS PP t v "Pop" [] w λx w' => RX (atL l (l.length - 1)) x /\ St l.dropLast w' /\ FrT B0 es w w'){l : List α}(hS : St l w)(hne : l ≠ [])(hh : HeapN lt l l.length) :
  Sp PP F.z7 #[.iface t v] w λx w'=>(RX (atL l 0) x/\∃l':List α,(atL l 0::l').Perm l/\St l' w'/\HeapN lt l' l'.length)/\FrT B0 es w w':=by
 have hsz:=H.size l w hS
 have hpos:0<l.length:=List.length_pos_iff.2 hne
 refine en TBok rfl ?_
 refine(H.len _ w hS).out rfl rfl rfl rfl ?_
 rintro _ w1 ⟨rfl,S1,f1⟩
 have q_:∃n,l.length=n+1:=⟨l.length - 1,by omega⟩
 obtain⟨n,hn⟩:=q_
 refine rarE (y:=((n:Nat):Int)) (by omega) (by omega) ?_
 refine(H.swap l w1 0 n S1 (by omega) (by omega)).out rfl rfl rfl rfl ?_
 rintro _ w2 ⟨S2,f2⟩
 have hsw:=λp=>atL_sw (l:=l) (i:=0) (j:=n) (p:=p) (by omega) (by omega)
 have hx:HeapX lt (swL l 0 n) n 0:=⟨λc c0 cn h1 h2=>by
  rw [hsw c,hsw,if_neg (by omega),if_neg h1,if_neg (by omega),if_neg h2];exact hh c c0 (by omega),λc c0 cn h1 h2=>by omega⟩
 refine rcall (zNU H (n:=n) (i0:=0) S2 (by omega) (by rw [zBH];omega) hx) ?_
 rintro _ w3 ⟨⟨b,l',rfl,hp,ha,S3,h1,h2⟩,f3⟩
 have hlen:l'.length=n+1:=by rw [hp.length_eq,zBH,hn]
 have hn':HeapN lt l' n:=by
  cases b with
  |true=>exact h1 rfl
  |false=>obtain⟨rfl,hb⟩:=h2 rfl;exact hx.full (λh=>by omega) hb
 have hlast:atL l' (l'.length - 1)=atL l 0:=by
  rw [hlen,Nat.add_sub_cancel,ha n (Nat.le_refl _),hsw,if_pos rfl]
 refine(hpop l' w3 S3 (by intro e;rw [e] at hlen;simp at hlen)).out rfl rfl rfl rfl ?_
 rintro x w4 ⟨hR,S4,f4⟩
 rw [hlast] at hR
 have hperm:(atL l 0::l'.dropLast).Perm l:=by
  have hne':l'≠[]:=by intro e;rw [e] at hlen;simp at hlen
  have e1:l'.dropLast++[atL l 0]=l':=by
   rw [<-hlast,zAH (by omega),<-List.getLast_eq_getElem hne'];exact List.dropLast_concat_getLast hne'
  have:=(List.perm_append_singleton (atL l 0) l'.dropLast).symm
  rw [e1] at this
  exact this.trans (hp.trans (zCT (by omega) (by omega)))
 refine⟨⟨hR,l'.dropLast,hperm,S4,?_⟩,((f1.trans f2).trans f3).trans f4⟩
 rw [List.length_dropLast,hlen,Nat.add_sub_cancel]
 exact hn'.congr λp hp'=>zIM (by omega)
end
def hlt (a b:HitD):Bool:=decide (a.d<b.d\/a.d=b.d/\a.v<b.v)
def toI (a b:HitD):Int:=if hlt a b then -1 else if hlt b a then 1 else 0
theorem toI_lt(a b:HitD):toI a b<0↔hlt a b=true:=by
 unfold toI;split
 ·rename_i h;simp [h]
 ·rename_i h;split <;> simp [h]
theorem zD6{b:Bool}:Sp PP F.qag #[.bool b] w λv w'=>v=.int .i64 (if b then -1 else 1)/\w'=w:=by
 refine en TBok rfl ?_
 cases b
 ·exact⟨rfl,rfl⟩
 ·exact⟨rfl,rfl⟩
theorem zHR{a b:HitD}:Sp PP F.cu #[agg a,agg b] w λv w'=>v=.int .i64 (toI a b)/\Gw w w':=by
 refine en TBok rfl ?_
 refine rbx λb1 w1 n1 B1=>rbx λb2 w2 n2 B2=>?_
 have g2:=n1.gw.trans n2.gw
 refine rld (B:=B1) rfl (rld (B:=B2) rfl ?_)
 refine ite (λh1=>?_) (λh1=>?_)
 ·refine rld (B:=B1) rfl (rld (B:=B2) rfl ?_)
  refine ite (λh2=>?_) (λh2=>?_)
  ·refine rcall zD6 ?_
   rintro v w3 ⟨rfl,rfl⟩
   have e:toI a b = -1:=by unfold toI hlt;rw [if_pos (by simp [h2])]
   exact⟨by rw [e];rfl,g2⟩
  ·refine rcall zD6 ?_
   rintro v w3 ⟨rfl,rfl⟩
   have e:toI a b=1:=by unfold toI hlt;rw [if_neg (by simp;omega),if_pos (by simp;omega)]
   exact⟨by rw [e];rfl,g2⟩
 ·have h1:=Classical.not_not.1 h1
  refine rld (B:=B1) rfl (rld (B:=B2) rfl ?_)
  refine ite (λh2=>?_) (λh2=>?_)
  ·refine rld (B:=B1) rfl (rld (B:=B2) rfl ?_)
   refine ite (λh3=>?_) (λh3=>?_)
   ·refine rcall zD6 ?_
    rintro v w3 ⟨rfl,rfl⟩
    have e:toI a b = -1:=by unfold toI hlt;rw [if_pos (by simp;omega)]
    exact⟨by rw [e];rfl,g2⟩
   ·refine rcall zD6 ?_
    rintro v w3 ⟨rfl,rfl⟩
    have e:toI a b=1:=by unfold toI hlt;rw [if_neg (by simp;omega),if_pos (by simp;omega)]
    exact⟨by rw [e];rfl,g2⟩
  ·have h2:=Classical.not_not.1 h2
   have e:toI a b=0:=by unfold toI hlt;rw [if_neg (by simp;omega),if_neg (by simp;omega)]
   exact⟨by rw [e];rfl,g2⟩
structure QAt (B:Nat) (w:World) (b:Nat) (a:Option Addr) (c:Nat) (most:Int) (l:List HitD):Prop where
 lo:B<=b
 cell:Bk w b [.slice a l.length c,.int .i64 most] E.q9
 row:Own B E.qu w (.slice a l.length c) l
 size:l.length<=100000
abbrev pE:List TypeId:=[E.q9,E.qu]
theorem QAt.up[L:Le w w']{b:Nat}{c:Nat}{most:Int}{l:List HitD}(h:QAt B w b a c most l):QAt B w' b a c most l:=⟨h.lo,h.cell.mv,h.row.up,h.size⟩
theorem sl_one(a:Option Addr)(n c:Nat):∀u∈[Value.slice a n c],u.oneCell'=true:=by intro u hu;simp at hu;subst hu;rfl
theorem zFP{b c:Nat}{most:Int}{l:List HitD}(Q:QAt B w b a c most l):Sp PP F.d1 #[.pointer (some ⟨b,0,none⟩)] w λv w'=>v=.int .i64 (l.length:Nat)/\w'=w:=by
 refine en TBok rfl ?_
 refine rld (B:=Q.cell) rfl ?_
 exact⟨rfl,rfl⟩
theorem zJq{b c:Nat}{most:Int}{l:List HitD}(Q:QAt B w b a c most l)(hi:i<l.length)(hj:j<l.length):
  Sp PP F.dr #[.pointer (some ⟨b,0,none⟩),.int .i64 i,.int .i64 j] w λv w'=>v=.bool (hlt (atL l j) (atL l i))/\Stp w w':=by
 refine en TBok rfl ?_
 refine drawR TBok mixed (λ_=>False) (upF 17 0) (by kernel_rfl) λu1 e1 _=>tld (B:=Q.cell) rfl nf (tix (Q.row.sl.up (w':=u1)) (x:=l[j]) (by simp) λb4 o4 A4 _=>tloadA A4 rfl nf (tld (B:=Q.cell) rfl nf (tix (Q.row.sl.up (w':=u1)) (x:=l[i]) (by simp) λb5 o5 A5 _=>tloadA A5 rfl nf (rcall (zHR (a:=l[j]) (b:=l[i])) ?_))))
 rintro v u2 ⟨rfl,g2⟩
 have s2:Stp u1 u2:=⟨g2.ext⟩
 refine⟨g2.ext,?_⟩
 rw [zAH hi,zAH hj]
 refine ite (λh=>?_) (λh=>?_)
 ·rw [(toI_lt _ _).1 h];exact⟨rfl,stp⟩
 ·have:hlt l[j] l[i]=false:=by
   cases hq:hlt l[j] l[i] with
   |false=>rfl
   |true=>exact absurd ((toI_lt _ _).2 hq) h
  rw [this];exact⟨rfl,stp⟩
theorem zJs{b c:Nat}{most:Int}{l:List HitD}(Q:QAt B w b a c most l)(hi:i<l.length)(hj:j<l.length):
  Sp PP F.dt #[.pointer (some ⟨b,0,none⟩),.int .i64 i,.int .i64 j] w λ_ w'=>QAt B w' b a c most (swL l i j)/\FrT B pE w w':=by
 refine en TBok rfl ?_
 have C:=Q.cell;have O:=Q.row
 refine drawRT TBok mixed (ownD B (.slice a l.length c)) (.one 0 (.one 1 (.one 2 (.one 3 (.one 4 (.one 5 (.one 6 (.one 7 (.one 8 (.one 9 (.one 10 (.one 11 (.one 12 (.one 13 (.one 14 (.one 15 (.one 17 (.one 18 (.one 19 (.one 20 (.one 21 (.one 22 (.duo 16 (.lone 23 (.one 24 (.one 25 (.one 26 (.one 27 .nil))))) 23 (.lone 16 (.one 24 (.one 25 (.one 26 (.one 27 .nil)))))))))))))))))))))))))))) (by kernel_rfl) λu1 e1 _=>tld (B:=C) rfl (C.notOwn O (by decide)) (tld (B:=C) rfl (C.notOwn O (by decide)) (tld (B:=C) rfl (C.notOwn O (by decide)) (tix (O.sl.up (w':=u1)) (x:=l[j]) (by simp) λb4 o4 A4 _=>tld (B:=C) rfl (C.notOwn O (by decide)) (tix (O.sl.up (w':=u1)) (x:=l[i]) (by simp) λb5 o5 A5 _=>?_))))
 have fin:∀u2,Own B E.qu u2 (.slice a l.length c) ((l.set i l[j]).set j l[i])->Bk u2 b [.slice a l.length c,.int .i64 most] E.q9->FrT B pE u1 u2->QAt B u2 b a c most (swL l i j)/\FrT B pE w u2:=λu2 O2 C2 F2=>by
  refine⟨⟨Q.lo,by rw [zBH];exact C2,?_,by rw [zBH];exact Q.size⟩,(FrT.ext Le.e).trans F2⟩
  rw [zBH]
  unfold swL
  rw [zAH hi,zAH hj];exact O2
 refine⟨rloadA A4 rfl ⟨Fr.refl _ _,rloadA A5 rfl ⟨Fr.refl _ _,?_⟩⟩,rloadA A5 rfl ⟨Fr.refl _ _,rloadA A4 rfl ⟨Fr.refl _ _,?_⟩⟩⟩
 all_goals
  refine tixO rfl (O.up (w':=u1)) (x:=l[i]) (by simp) λg1 hg1 _ A=>rstO' rfl l[j] (O.up (w':=u1)) hg1 hi rfl λu7 O7 f7 _=>⟨f7,?_⟩
  refine tixO rfl O7 (x:=(l.set i l[j])[j]'(by simpa using hj)) (by simp) λg2 hg2 _ A=>rstO' rfl l[i] O7 hg2 (by simpa using hj) rfl λu8 O8 f8 _=>⟨f8,?_⟩
  exact fin u8 O8 (((C.mv (w:=u1)).fro (O.up (w':=u1)) f7 (by decide)).fro O7 f8 (by decide)) (((O.up (w':=u1)).wrote f7 (Nat.le_refl _) (by decide)).trans (O7.wrote f8 (Nat.le_refl _) (by decide)))
theorem zJr{b c:Nat}{most:Int}{l:List HitD}{x:HitD}(Q:QAt B w b a c most l)(hl:l.length<=99999):
  Sp PP F.ds #[.pointer (some ⟨b,0,none⟩),.iface E.qu (agg x)] w λ_ w'=>(∃a c,QAt B w' b a c most (l++[x]))/\FrT B pE w w':=by
 have hb:=Q.cell.lt
 refine en TBok rfl ?_
 refine rta (ral λb4 w1 n1 B1=>rsto (B:=B1) (vs:=enc x) rfl rfl rfl (Enc.one _) λw2 B2 f2 _=>?_)
 have s2:Stp w w2:=⟨Fr.st Le.e f2 λi hi=>by subst hi;exact n1.lo⟩
 have C2:=Q.cell.mv (w:=w2)
 have O2:=Q.row.up (w':=w2)
 clear B1 f2
 have hb4:b≠b4:=by rintro rfl;have h1:=C2.h;have h2:=B2.h;rw [h1] at h2;cases h2
 refine drawRT TBok mixed (λi=>i=b\/ownD B (.slice a l.length c) i) (.one 0 (.one 1 (.one 2 (.one 3 (.one 5 (.duo 4 (.one 6 (.one 7 (.one 8 (.one 9 (.one 10 .nil))))) 6 (.lone 4 (.one 7 (.one 8 (.one 9 (.one 10 .nil))))))))))) (by kernel_rfl) λu3 e3 _=>tldG (ds:=enc x) (B:=B2) rfl rfl (λh=>h.elim (λh=>hb4 h.symm) (λh=>by have:=Q.row.wr h;have:=n1.lo (u:=w);omega)) ?_
 have C3:=C2.mv (w:=u3)
 have O3:=O2.up (w':=u3)
 have hB3:B<=u3.heap.size:=by have:=C3.lt;have:=Q.lo;omega
 have F3:FrT B pE w u3:=FrT.ext Le.e
 have hsz:=Q.size
 refine⟨rld (B:=C3) rfl ⟨Fr.refl _ _,rbs1 x rfl rfl (by decide) λb6 u6 e6 _ S6=>⟨Fr.fr e6.e,?_⟩⟩,rbs1 x rfl rfl (by decide) λb6 u6 e6 _ S6=>⟨Fr.fr e6.e,rld (B:=C3) rfl ⟨Fr.refl _ _,?_⟩⟩⟩
 all_goals
  refine rappB ⟨rfl,rfl⟩ (O3.up (w':=u6)) S6 (by have:=e6.e.size;omega) (by simp;omega) λv7 u7 O7 f7=>⟨f7.mono λi _ hi=>.inr hi,?_⟩
  have C7:=(C3.mv (w:=u6)).fro (O3.up (w':=u6)) f7 (by decide)
  have F7:=(O3.up (w':=u6)).wrote f7 (Nat.le_refl _) (show E.qu∈pE by decide)
  have q_:=O7.shape
  obtain⟨a7,c7,rfl⟩:=q_
  refine rsto (B:=C7) (vs:=[.slice a7 (l++[x]).length c7]) rfl rfl rfl (sl_one _ _ _) λu8 C8 f8 _=>⟨f8.mono λi _ hi=>.inl hi,?_⟩
  exact⟨⟨a7,c7,Q.lo,C8,O7.frc f8 C7 (by decide),by simp;omega⟩,((F3.trans (FrT.ext e6.e)).trans F7).trans (C7.wrote f8 Q.lo (by decide))⟩
theorem zKi{b c:Nat}{most:Int}{l:List HitD}(Q:QAt B w b a c most l)(hl:l≠[]):
  Sp PP F.d2 #[.pointer (some ⟨b,0,none⟩)] w λv w'=>v=.iface E.qu (agg (atL l (l.length - 1)))/\QAt B w' b a c most l.dropLast/\FrT B pE w w':=by
 have hpos:=List.length_pos_iff.2 hl
 have hsz:=Q.size
 have hi:l.length - 1<l.length:=by omega
 refine en TBok rfl ?_
 have C:=Q.cell;have O:=Q.row
 rw [zAH hi]
 refine drawR TBok mixed (λi=>w.heap.size<=i) [0,1,2,3,4,5,6,7,8,9,10,11,12,13] (by kernel_rfl) λu1 e1 _=>?_
 have hb:=C.lt
 refine tld (B:=C) rfl (by omega) (tld (B:=C) rfl (by omega) (rarE (y:=((l.length - 1:Nat):Int)) (by omega) (by omega) ?_))
 have hOlt:=O.lt hl
 obtain⟨g0,hg0,_,hg0'⟩:=hOlt
 refine tix (O.sl.up (w':=u1)) (x:=l[l.length - 1]) (by simp) λb4 o4 A4 hb4=>tloadA A4 rfl (by rw [hg0] at hb4;cases hb4;omega) (ral λb5 u2 n5 z5=>⟨n5.e.fr,?_⟩)
 refine rsto (B:=z5) (vs:=enc l[l.length - 1]) rfl rfl rfl (Enc.one _) λu3 B5 f5 _=>?_
 have s3:Stp w u3:=⟨Fr.st Le.e f5 λi hi=>by subst hi;exact n5.lo⟩
 refine⟨f5.mono λi _ hi=>by subst hi;exact n5.lo,?_⟩
 clear z5 f5
 have C3:=C.mv (w:=u3)
 have O3:=O.up (w':=u3)
 have hb5:b≠b5:=by rintro rfl;have h1:=C3.h;have h2:=B5.h;rw [h1] at h2;cases h2
 have hcut:=O3.cut (m:=l.length - 1) (by omega) hl
 obtain⟨Oc,ga,hga⟩:=hcut
 subst hga
 have hnc:l.length<=c:=by obtain⟨_,_,hv,hc,_⟩:=O3.sl;cases hv;exact hc
 have hdl:l.dropLast=l.take (l.length - 1):=List.dropLast_eq_take
 have hdlen:l.dropLast.length=l.length - 1:=by simp
 refine drawRT TBok mixed (λi=>i=b) (.one 0 (.one 1 (.one 2 (.one 3 (.one 5 (.one 6 (.one 7 (.duo 4 (.lone 8 (.one 9 (.one 10 (.one 11 (.one 12 (.one 13 (.one 14 .nil))))))) 8 (.one 9 (.one 10 (.lone 4 (.one 11 (.one 12 (.one 13 (.one 14 .nil))))))))))))))) (by kernel_rfl) λu4 e4 _=>?_
 have C4:=C3.mv (w:=u4)
 have F4:FrT B pE w u4:=FrT.ext Le.e
 refine⟨?_,?_⟩
 all_goals
  refine rld (B:=C4) rfl ⟨Fr.refl _ _,?_⟩
  first
  |refine rarE (y:=((l.length - 1:Nat):Int)) (by omega) (by omega) ?_
   refine rld (B:=C4) rfl ⟨Fr.refl _ _,?_⟩
  |refine rld (B:=C4) rfl ⟨Fr.refl _ _,?_⟩
   refine rarE (y:=((l.length - 1:Nat):Int)) (by omega) (by omega) ?_
  refine tslP (m:=l.length - 1) (by omega) ?_
  refine rsto (B:=C4) (vs:=[.slice (some ⟨ga,0,none⟩) (l.length - 1) c]) rfl rfl rfl (sl_one _ _ _) λu5 C5 f5 _=>⟨f5,?_⟩
  have B6:=(B5.mv (w:=u4)).fr f5 (Ne.symm hb5)
  refine rldG (ds:=enc l[l.length - 1]) (B:=B6) rfl rfl (rmki ?_)
  refine⟨rfl,⟨Q.lo,by rw [hdlen];exact C5,?_,by omega⟩,F4.trans (C4.wrote f5 Q.lo (by decide))⟩
  rw [hdlen,hdl]
  exact(Oc.up (w':=u4)).frc f5 C4 (by decide)
def hgt (x y:HitD):Bool:=hlt y x
theorem zHf(a b:HitD):hlt a b=true↔a.d<b.d\/a.d=b.d/\a.v<b.v:=by unfold hlt;simp
theorem hlt_ff(a b:HitD):hlt a b=false↔¬(a.d<b.d\/a.d=b.d/\a.v<b.v):=by unfold hlt;simp
theorem zKO:Ord hgt:=⟨λx=>by unfold hgt;rw [hlt_ff];omega,λx y z h k=>by unfold hgt at *;rw [zHf] at *;omega,λx y z h k=>by unfold hgt at *;rw [hlt_ff] at *;omega⟩
def QSt (B b:Nat) (most:Int) (l:List HitD) (w:World):Prop:=∃a c,QAt B w b a c most l
theorem QSt.up{b:Nat}{most:Int}{l:List HitD}[Le w w'](h:QSt B b most l w):QSt B b most l w':=by obtain⟨a,c,h⟩:=h;exact⟨a,c,h.up⟩
theorem zH6(B b:Nat)(most:Int):HeapI PP E.yb (.pointer (some ⟨b,0,none⟩)) hgt (QSt B b most) B pE where
 ord:=zKO
 size:=λ_ _ ⟨_,_,h⟩=>h.size
 len:=λ_ _ ⟨a,c,h⟩=>.p ((zFP h).mono λ_ _ ⟨h1,h2⟩=>by subst h2;exact⟨h1,⟨a,c,h⟩,FrT.refl _ _ _⟩)
 less:=λ_ _ _ _ ⟨a,c,h⟩ hi hj=>.p ((zJq h hi hj).mono λ_ _ ⟨h1,h2⟩=>⟨h1,⟨a,c,h.up⟩,FrT.ext h2.e⟩)
 swap:=λ_ _ _ _ ⟨a,c,h⟩ hi hj=>.p ((zJs h hi hj).mono λ_ _ ⟨h1,h2⟩=>⟨⟨a,c,h1⟩,h2⟩)
theorem zM3(B b : Nat)(most : Int) : ∀ l w, QSt B b most l w -> l ≠ [] -> InvS PP E.yb (.pointer (some ⟨b, 0, none⟩)) "Pop" [] w λx w' => x = .iface E.qu (agg (atL l (l.length - 1))) /\ QSt B b most l.dropLast w' /\ FrT B pE w w' :=
 λ_ _ ⟨a,c,h⟩ hl=>.p ((zKi h hl).mono λ_ _ ⟨h1,h2,h3⟩=>⟨h1,⟨a,c,h2⟩,h3⟩)
theorem zMd{b:Nat}{most : Int}{l : List HitD}{x : HitD}(h : QSt B b most l w)(hl : l.length <= 99999) : InvS PP E.yb (.pointer (some ⟨b, 0, none⟩)) "Push" [.iface E.qu (agg x)] w λ_ w' => QSt B b most (l ++ [x]) w' /\ FrT B pE w w' := by
 obtain⟨a,c,h⟩:=h
 exact .p ((zJr (x:=x) h hl).mono λ_ _ ⟨h1,h2⟩=>⟨h1,h2⟩)
end Go.W
namespace Go.W
open Go
variable {B N i j k m n:Nat} {D R:Nat -> Prop} {P:Program} {T:Tab} {a a':Option Addr} {g:GrD} {q:QyD} {s:List UInt8} {u u' w w':World}
abbrev SrtH (l:List HitD):Prop:=l.Pairwise (λa b=>hlt b a=false)
theorem zKP{a b:HitD}(h:hlt a b=false)(k:hlt b a=false):a=b:=by
 rw [hlt_ff] at h k
 cases a;cases b;simp at h k ⊢;omega
theorem hlt_tr{a b c:HitD}(h:hlt b a=false)(k:hlt c b=false):hlt c a=false:=by rw [hlt_ff] at *;omega
theorem SrtH.uniq:∀{l m:List HitD},SrtH l->SrtH m->l.Perm m->l=m
 |[],m,_,_,p=>p.nil_eq
 |a::l,[],_,_,p=>by have:=p.length_eq;simp at this
 |a::l,b::m,hl,hm,p=>by
  rw [SrtH,List.pairwise_cons] at hl hm
  have hab:a=b:=by
   have h1:a∈b::m:=p.mem_iff.1 (List.mem_cons_self ..)
   have h2:b∈a::l:=p.mem_iff.2 (List.mem_cons_self ..)
   have q_:=List.mem_cons.1 h1
   rcases q_ with h1|h1
   ·exact h1
   ·have q_:=List.mem_cons.1 h2
    rcases q_ with h2|h2
    ·exact h2.symm
    ·exact zKP (hm.1 a h1) (hl.1 b h2)
  subst hab
  rw [SrtH.uniq hl.2 hm.2 ((List.perm_cons _).1 p)]
def insH (x:HitD):List HitD->List HitD
 |[]=>[x]
 |y::r=>if hlt x y then x::y::r else y::insH x r
theorem zCa(x:HitD):∀l,(insH x l).Perm (x::l)
 |[]=>.refl _
 |y::r=>by
  unfold insH
  split
  ·exact .refl _
  ·exact((zCa x r).cons y).trans (.swap ..)
theorem zD1(x:HitD)(l:List HitD):(insH x l).length=l.length+1:=by rw [(zCa x l).length_eq];rfl
theorem zF7(x:HitD):∀{l},SrtH l->SrtH (insH x l)
 |[],_=>by simp [insH]
 |y::r,h=>by
  rw [SrtH,List.pairwise_cons] at h
  unfold insH
  split
  ·rename_i hxy
   have hyx:hlt y x=false:=by rw [hlt_ff];rw [zHf] at hxy;omega
   refine List.pairwise_cons.2 ⟨λz hz=>?_,List.pairwise_cons.2 h⟩
   have q_:=List.mem_cons.1 hz
   rcases q_ with rfl|hz
   ·exact hyx
   ·exact hlt_tr hyx (h.1 z hz)
  ·rename_i hxy
   refine List.pairwise_cons.2 ⟨λz hz=>?_,zF7 x h.2⟩
   have q_:=List.mem_cons.1 ((zCa x r).mem_iff.1 hz)
   rcases q_ with rfl|hz
   ·simpa using hxy
   ·exact h.1 z hz
theorem SrtH.last{x:HitD}{l L:List HitD}(h:SrtH L)(p:(x::l).Perm L)(hx:∀y∈L,hlt x y=false):L.getLast? = some x/\l.Perm L.dropLast:=by
 have hne:L≠[]:=by rintro rfl;have:=p.length_eq;simp at this
 have hs:=List.dropLast_concat_getLast hne
 have hg:x=L.getLast hne:=by
  have hm:x∈L.dropLast++[L.getLast hne]:=by rw [hs];exact p.mem_iff.1 (List.mem_cons_self ..)
  have q_:=List.mem_append.1 hm
  rcases q_ with hm|hm
  ·rw [<-hs] at h
   have h1:=(List.pairwise_append.1 h).2.2 x hm _ (List.mem_cons_self ..)
   exact(zKP h1 (hx _ (List.getLast_mem hne))).symm
  ·simpa using hm
 refine⟨by rw [hg];exact List.getLast?_eq_some_getLast hne,?_⟩
 have:(x::l).Perm (x::L.dropLast):=by
  refine p.trans ?_
  conv=>lhs;rw [<-hs,<-hg]
  exact List.perm_append_singleton _ _
 exact(List.perm_cons _).1 this
def zH:HitD:=⟨0,0⟩
def putQ (most:Int) (L:List HitD) (x:HitD):List HitD×HitD×Bool:=
 if ((insH x L).length:Int)<=most then (insH x L,zH,false) else ((insH x L).dropLast,(insH x L).getLast?.getD zH,true)
theorem zM7{most:Int}{L:List HitD}{x:HitD}:(putQ most L x).1.length<=L.length+1:=by
 unfold putQ
 split
 ·rw [zD1];exact Nat.le_refl _
 ·rw [List.length_dropLast,zD1];omega
end Go.W
namespace Go.W
open Go Go.Proofs Go.Shelf
open Enc (enc)
variable {B N i j k m n:Nat} {D R:Nat -> Prop} {P:Program} {T:Tab} {a a':Option Addr} {g:GrD} {q:QyD} {s:List UInt8} {u u' w w':World}
section
variable {α:Type} [Enc α] [Inhabited α]
theorem zGD(l:List α):(Go.Sort.flatK (enc:α->List Value) (Enc.sz α) l.toArray).toList=flat l:=by
 have hp:=Enc.pos (α:=α)
 apply List.ext_getElem?
 intro t
 rcases Nat.lt_or_ge t (l.length*Enc.sz α) with h|h
 ·have hi:t / Enc.sz α<l.length:=by rw [Nat.div_lt_iff_lt_mul hp];exact h
  have hm:t % Enc.sz α<Enc.sz α:=Nat.mod_lt _ hp
  have hx:l[t / Enc.sz α]? = some l[t / Enc.sz α]:=by simp [hi]
  have hf:=zIY l hx
  have e1:(enc l[t / Enc.sz α])[t % Enc.sz α]? = (flat l)[t]?:=by
   rw [<-hf,List.getElem?_take,if_pos hm,List.getElem?_drop]
   congr 1
   rw [Nat.mul_comm];exact Nat.div_add_mod t (Enc.sz α)
  rw [<-e1]
  have hs:t<(Go.Sort.flatK (enc:α->List Value) (Enc.sz α) l.toArray).size:=by simpa using h
  rw [Array.getElem?_toList,Array.getElem?_eq_getElem hs]
  have hg:=Go.Sort.get_flatK (enc:α->List Value) (Enc.sz α) l.toArray t (by simpa using h)
  rw [getElem!_pos _ t hs] at hg
  rw [hg,getElem!_pos l.toArray (t / Enc.sz α) (by simpa using hi),getElem!_pos _ (t % Enc.sz α) (by rw [Enc.len];exact hm)]
  rw [List.getElem?_eq_getElem (by rw [Enc.len];exact hm)]
  simp
 ·rw [List.getElem?_eq_none (by simpa using h),List.getElem?_eq_none (by rw [zAm];exact h)]
variable {P:Program} {w:World}
theorem zLw{e:TypeId}{l:List α}{g:Nat}{cur:Array Value}(hg:w.heap[g]? = some (.cells cur e (0,0)))(ht:cur.toList.take (l.length*Enc.sz α)=flat l):
  Go.Sort.HoldsK (enc:α->List Value) (Enc.sz α) w g 0 l.toArray:=by
 intro j hj
 have hj':j<l.length*Enc.sz α:=by simpa using hj
 constructor
 ·rw [cell_of_row w g (0+j) cur e (0,0) hg,Nat.zero_add]
  have:(flat l)[j]? = cur[j]?:=by rw [<-ht,List.getElem?_take,if_pos hj',Array.getElem?_toList]
  rw [<-this,<-zGD,Array.getElem?_toList,Array.getElem?_eq_getElem hj,getElem!_pos _ j hj];rfl
 ·simp [World.frozen?,hg]
theorem zIv(F cur:Array Value)(h:F.size<=cur.size):(Go.Sort.putCells id 0 F cur).toList.take F.size=F.toList:=by
 apply List.ext_getElem?
 intro j
 rw [List.getElem?_take]
 split
 ·rename_i hj
  rw [Array.getElem?_toList,Array.getElem?_toList]
  unfold Go.Sort.putCells
  rw [Array.getElem?_mapIdx,Array.getElem?_eq_getElem (by omega:j<cur.size),Option.map_some,if_pos ⟨by omega,by omega⟩,Array.getElem?_eq_getElem hj,Nat.sub_zero,getElem!_pos _ j hj];rfl
 ·rename_i hj
  rw [List.getElem?_eq_none (by simp;omega)]
theorem zJO{e:TypeId}{c:Nat}{l l':List α}{g:Nat}{os:Array Obj}(h:Own B e w (.slice (some ⟨g,0,none⟩) n c) l)(hl:l≠[])(hlen:l'.length=l.length):
  Own B e (sortWorldK enc (Enc.sz α) w g 0 m l'.toArray os) (.slice (some ⟨g,0,none⟩) n c) l'/\Fr (λi=>i=g) w (sortWorldK enc (Enc.sz α) w g 0 m l'.toArray os):=by
 obtain⟨g',cur,hgg,hn,hb,hg,hnc,hcm,hcs,htake⟩:=h.blk hl
 cases hgg
 have hgl:=blk_lt hg
 have hF:(Go.Sort.flatK (enc:α->List Value) (Enc.sz α) l'.toArray).size=l'.length*Enc.sz α:=by simp
 have hheap:∀i,i<w.heap.size->(sortWorldK enc (Enc.sz α) w g 0 m l'.toArray os).heap[i]? = (w.heap.modify g (Go.Sort.onCells (Go.Sort.putCells id 0 (Go.Sort.flatK (enc:α->List Value) (Enc.sz α) l'.toArray))))[i]?:=by
  intro i hi
  unfold sortWorldK
  rw [Go.Sort.heap_grow_old _ _ (by simpa [Go.Sort.putRowK,Go.Sort.putRow,Go.Sort.mapBlock,Go.Sort.ahead] using hi)]
  rfl
 constructor
 ·refine .inr ⟨zAm l',.inr ⟨g,c,Go.Sort.putCells id 0 (Go.Sort.flatK (enc:α->List Value) (Enc.sz α) l'.toArray) cur,by rw [hlen,hn],hb,?_,by rw [hlen];omega,hcm,?_,?_⟩⟩
  ·rw [hheap g hgl,Array.getElem?_modify,if_pos rfl,hg];rfl
  ·simpa [Go.Sort.putCells] using hcs
  ·rw [<-hF,zIv _ _ (by rw [hF,hlen,hcs];exact Nat.mul_le_mul_right _ (by omega)),zGD]
 ·refine⟨rfl,rfl,rfl,?_,λi hi hne=>?_,λi o ho hr=>?_⟩
  ·exact size_sortWorldK_c enc (Enc.sz α) w g 0 m l'.toArray os
  ·rw [hheap i hi,Array.getElem?_modify,if_neg (λh=>hne h.symm)]
  ·rw [hheap i (blk_lt ho),Array.getElem?_modify]
   by_cases hi:g=i
   ·subst hi;rw [hg] at ho;cases ho;cases hr
   ·rw [if_neg hi];exact ho
theorem zCA{ρ:Ren}(L:SlLaysF0.n6 P ρ)(ht:Agg P (ρ.t 24) k)(hsz:Enc.sz α=k)(cf:α->α->Int)(hO:Go.Sort.SWO (ltOf cf)){f g:FuncId}(hf:ρ.f 6=f)
  (hc:∀(x y:α) (W:World),Sp P g #[agg x,agg y] W λv w'=>v=.int .i64 (cf x y)/\Gw W w'){e:TypeId}{v:Value}{l:List α}(h:Own B e w v l)(hsmall:l.length<4611686018427387904):
  Sp P f #[v,.func (.func g) #[] #[]] w λr w'=>r=.tuple #[]/\∃l',l'.Perm l/\l'.Pairwise (λa b=>cf b a<0->False)/\Own B e w' v l'/\Fr (ownD B v) w w':=by
 subst hf hsz
 have can:callable P (ρ.f 6):=by
  obtain⟨nm,h1,h2⟩:=L.f6
  exact⟨_,h2,rfl,h1⟩
 obtain⟨a,c,rfl⟩:=h.shape
 refine⟨can,?_⟩
 by_cases hl:l=[]
 ·subst hl
  refine(AnyF.slices_SortFunc_none (P:=P) (ρ:=ρ) L a c (.func (.func g) #[] #[]) w).mono ?_
  rintro en w' ⟨rfl,rfl⟩
  exact⟨rfl,[],.refl _,.nil,h,Fr.refl _ _⟩
 ·obtain⟨g0,cur,rfl,hn,hb,hg,hnc,hcm,hcs,htake⟩:=h.blk hl
  have hd:l.toArray.size=l.length:=by simp
  have hcan:callable P g:=(hc default default w).can
  have hcmp:CmpLays P g #[] (enc:α->List Value) (Enc.sz α) cf g0 0 l.toArray.size w:=by
   intro m os dk _ x y
   refine(hc x y _).calls.mono ?_
   intro en w' he
   cases en with
   |returned v=>obtain⟨rfl,q,os',hw⟩:=he;exact⟨rfl,q,os',hw⟩
   |_=>exact he.elim
  have main:=AnyQ.slices_SortFunc L (Enc.sz α) (λw=>(zFY (w:=w) ht.h).1) (λw=>(zFY (w:=w) ht.h).2) (enc:α->List Value) Enc.len Enc.one cf hO g #[] g0 0 c l.toArray w (λargs w=>zAB hcan w) hcmp (zLw hg (hn ▸ htake)) (blk_lt hg) (by rw [hd];exact hsmall)
  rw [hd] at main
  refine main.mono ?_
  rintro en w' ⟨rfl,d',m,os,⟨hp1,_,hp2⟩,hs,rfl⟩
  have hd':d'.size=l.length:=by rw [hp1,hd]
  have e1:d'.extract 0 l.length=d':=by rw [<-hd'];simp
  have e2:l.toArray.extract 0 l.length=l.toArray:=by rw [<-hd];simp
  rw [e1,e2] at hp2
  have hw:=zJO (l':=d'.toList) (os:=os) (m:=m) h hl (by simpa using hd')
  rw [Array.toArray_toList] at hw
  refine⟨rfl,d'.toList,by simpa using hp2,?_,hw.1,hw.2.mono λi _ hi=>?_⟩
  ·rw [List.pairwise_iff_getElem]
   intro i j hi hj hij hlt
   have:=hs i j (Nat.zero_le _) hij (by simpa [hd'] using hj)
   simp only [ltOf] at this
   rw [getElem!_pos d' j (by simpa using hj),getElem!_pos d' i (by simpa using hi)] at this
   simp only [Array.getElem_toList] at hlt
   simp [hlt] at this
  ·subst hi
   exact⟨hb,rfl,h.not0 hl⟩
end
end Go.W
namespace Go.Proofs
open Go.Shelf
def Tryz.sortH_ren:Go.Shelf.Ren:=⟨fun|6=>290|15=>121|14=>334|28=>188|29=>189|20=>349|21=>350|22=>351|23=>352|24=>353|25=>354|26=>355|27=>356|46=>377|47=>242|48=>243|49=>378|50=>379|57=>386|n=>n,fun|22=>376|24=>429|25=>433|3=>3|39=>231|0=>0|53=>309|55=>311|4=>4|46=>303|45=>302|50=>129|5=>5|9=>9|66=>383|70=>387|76=>435|77=>436|n=>n,fun|n=>n⟩
theorem Tryz.sortH:Go.Proofs.SlLaysF0.n6 Tryz.prog Tryz.sortH_ren:={
 mixed:=by kernel_rfl
 f6:=⟨Tryz.f290.name,by decide,W.ff Tryz.func290⟩
 f14:=⟨Tryz.f334.name,by decide,W.ff Tryz.func334⟩
 f15:=W.ff Tryz.func121
 f20:=⟨Tryz.f349.name,by decide,W.ff Tryz.func349⟩
 f21:=⟨Tryz.f350.name,by decide,W.ff Tryz.func350⟩
 f22:=⟨Tryz.f351.name,by decide,W.ff Tryz.func351⟩
 f23:=⟨Tryz.f352.name,by decide,W.ff Tryz.func352⟩
 f24:=⟨Tryz.f353.name,by decide,W.ff Tryz.func353⟩
 f25:=⟨Tryz.f354.name,by decide,W.ff Tryz.func354⟩
 f26:=⟨Tryz.f355.name,by decide,W.ff Tryz.func355⟩
 f27:=⟨Tryz.f356.name,by decide,W.ff Tryz.func356⟩
 f28:=W.ff Tryz.func188
 f29:=W.ff Tryz.func189
 f46:=⟨Tryz.f377.name,by decide,W.ff Tryz.func377⟩
 f47:=W.ff Tryz.func242
 f48:=W.ff Tryz.func243
 f49:=⟨Tryz.f378.name,by decide,W.ff Tryz.func378⟩
 f50:=⟨Tryz.f379.name,by decide,W.ff Tryz.func379⟩
 f57:=⟨Tryz.f386.name,by decide,W.ff Tryz.func386⟩
 t0:=Tryz.underlying0
 a0:=Tryz.isAgg0
 z0:=Tryz.sizeOf0
 v0:=Tryz.zeroValue0
 t3:=Tryz.underlying3
 a3:=Tryz.isAgg3
 z3:=Tryz.sizeOf3
 v3:=Tryz.zeroValue3
 t4:=Tryz.underlying4
 a4:=Tryz.isAgg4
 z4:=Tryz.sizeOf4
 v4:=Tryz.zeroValue4
 t5:=Tryz.underlying5
 a5:=Tryz.isAgg5
 z5:=Tryz.sizeOf5
 v5:=Tryz.zeroValue5
 t9:=Tryz.underlying9
 a9:=Tryz.isAgg9
 z9:=Tryz.sizeOf9
 v9:=Tryz.zeroValue9
 t22:=Tryz.underlying376
 a22:=Tryz.isAgg376
 z22:=Tryz.sizeOf376
 v22:=Tryz.zeroValue376
 t25:=Tryz.underlying433
 a25:=Tryz.isAgg433
 z25:=Tryz.sizeOf433
 v25:=Tryz.zeroValue433
 t39:=Tryz.underlying231
 a39:=Tryz.isAgg231
 z39:=Tryz.sizeOf231
 v39:=Tryz.zeroValue231
 t45:=Tryz.underlying302
 a45:=Tryz.isAgg302
 z45:=Tryz.sizeOf302
 v45:=Tryz.zeroValue302
 t46:=Tryz.underlying303
 a46:=Tryz.isAgg303
 z46:=Tryz.sizeOf303
 v46:=Tryz.zeroValue303
 t50:=Tryz.underlying129
 a50:=Tryz.isAgg129
 z50:=Tryz.sizeOf129
 v50:=Tryz.zeroValue129
 t53:=Tryz.underlying309
 a53:=Tryz.isAgg309
 z53:=Tryz.sizeOf309
 v53:=Tryz.zeroValue309
 t55:=Tryz.underlying311
 a55:=Tryz.isAgg311
 z55:=Tryz.sizeOf311
 v55:=Tryz.zeroValue311
 t66:=Tryz.underlying383
 a66:=Tryz.isAgg383
 z66:=Tryz.sizeOf383
 v66:=Tryz.zeroValue383
 t70:=Tryz.underlying387
 a70:=Tryz.isAgg387
 z70:=Tryz.sizeOf387
 v70:=Tryz.zeroValue387
 t76:=Tryz.underlying435
 a76:=Tryz.isAgg435
 z76:=Tryz.sizeOf435
 v76:=Tryz.zeroValue435
 t77:=Tryz.underlying436
 a77:=Tryz.isAgg436
 z77:=Tryz.sizeOf436
 v77:=Tryz.zeroValue436 }
end Go.Proofs
namespace Go.W
open Go Go.Proofs
open Enc (enc)
set_option maxRecDepth 10000
variable {B N i j k m n:Nat} {D R:Nat -> Prop} {P:Program} {T:Tab} {a a':Option Addr} {g:GrD} {q:QyD} {s:List UInt8} {u u' w w':World}
def Qu (B:Nat) (w:World) (b:Nat) (most:Int) (L:List HitD):Prop:=(∃l:List HitD,QSt B b most l w/\HeapN hgt l l.length/\l.Perm L)/\SrtH L
theorem Qu.up[Le w w']{b:Nat}{most:Int}{L:List HitD}(h:Qu B w b most L):Qu B w' b most L:=by
 obtain⟨⟨l,h1,h2⟩,h3⟩:=h;exact⟨⟨l,h1.up,h2⟩,h3⟩
theorem Qu.kept{C:Nat}{es:List TypeId}{b:Nat}{most:Int}{L:List HitD}(h:Qu B w b most L)(f:FrT C es w w')(h1:E.q9∉es)(h2:E.qu∉es):Qu B w' b most L:=by
 obtain⟨⟨l,⟨a,c,q⟩,r⟩,h3⟩:=h
 exact⟨⟨l,⟨a,c,q.lo,q.cell.kept f h1,q.row.kept f h2,q.size⟩,r⟩,h3⟩
theorem Qu.lt{b:Nat}{most:Int}{L:List HitD}(h:Qu B w b most L):B<=b/\b<w.heap.size:=by
 obtain⟨⟨l,⟨a,c,q⟩,r⟩,h3⟩:=h;exact⟨q.lo,q.cell.lt⟩
theorem zIJ{b:Nat}{most:Int}{L:List HitD}(Q:Qu B w b most L):Sp PP F.dm #[.pointer (some ⟨b,0,none⟩)] w λv w'=>v=.int .i64 (L.length:Nat)/\Stp w w':=by
 obtain⟨⟨l,⟨a,c,q⟩,_,hp⟩,_⟩:=Q
 refine en TBok rfl ?_
 refine rpnil (rcall (zFP q) ?_)
 rintro v w1 ⟨rfl,rfl⟩
 rw [hp.length_eq]
 exact⟨rfl,stp⟩
theorem zJt{b:Nat}{most:Int}{l:List HitD}(S:QSt B b most l w)(hh:HeapN hgt l l.length)(hne:l≠[]):
  Sp PP F.dn #[.pointer (some ⟨b,0,none⟩)] w λv w'=>v=agg (atL l 0)/\(∃l':List HitD,(atL l 0::l').Perm l/\QSt B b most l' w'/\HeapN hgt l' l'.length)/\FrT B pE w w':=by
 refine en TBok rfl ?_
 refine ral λb2 w1 n1 B1=>rmki (rcall (Pop_sp (zH6 B b most) (RX:=λx v=>v=.iface E.qu (agg x)) (zM3 B b most) (S.up (w':=w1)) hne hh) ?_)
 rintro v w2 ⟨⟨rfl,l',hp,S2,hh2⟩,f2⟩
 have hb2:=n1.lo (u:=w)
 have F2:FrT B pE w w2:=(FrT.ext Le.e).trans f2
 have C2:Bk w2 b2 [.int .i64 0,.int .i64 0] E.qe:=B1.kept f2 (by decide)
 refine rta (ral λb3 w3 n3 B3=>rsto (B:=B3) (vs:=enc (atL l 0)) rfl rfl rfl (Enc.one _) λw4 B4 f4 _=>?_)
 have s4:Stp w2 w4:=⟨Fr.st Le.e f4 λi hi=>by subst hi;exact n3.lo⟩
 clear B3 f4
 refine rldG (ds:=enc (atL l 0)) (B:=B4) rfl rfl (rsto (B:=C2) (vs:=enc (atL l 0)) rfl rfl rfl (Enc.one _) λw5 B5 f5 _=>?_)
 have F5:FrT B pE w w5:=Fr.new (Fr.trans F2 (Fr.fr (Le.e (a:=w2) (b:=w4)))) f5 λi hi=>by subst hi;exact hb2
 have K5:FrT w.heap.size [E.qe] w4 w5:=(C2.mv (w:=w4)).wrote f5 hb2 (by decide)
 refine rresG rfl ?_
 have q_:=S2.up (w':=w4)
 obtain⟨a,c,q⟩:=q_
 exact⟨rfl,⟨l',hp,⟨a,c,q.lo,q.cell.kept K5 (by decide),q.row.kept K5 (by decide),q.size⟩,hh2⟩,F5⟩
theorem zIK{b:Nat}{most:Int}{L:List HitD}{x:HitD}(Q:Qu B w b most L)(hL:L.length<=99999):
  Sp PP F.dk #[.pointer (some ⟨b,0,none⟩),agg x] w λv w'=>v=.tuple #[agg (putQ most L x).2.1,.bool (putQ most L x).2.2]/\Qu B w' b most (putQ most L x).1/\FrT B pE w w':=by
 have QQ:=Q
 obtain⟨⟨l,S,hh,hp⟩,hs⟩:=Q
 have hll:=hp.length_eq
 refine en TBok rfl ?_
 refine rbx λbh w1 n1 B1=>ral λb2 w2 n2 B2=>?_
 have hb2:=n2.lo (u:=w)
 refine rpnil (drawR TBok mixed (λi=>i≠bh) [0,1,2,3,4,5,6] (by kernel_rfl) λw3 e3 _=>tmki (tldG (ds:=enc x) (B:=B1) rfl rfl (λh=>h rfl) (tmki (rcall (zKv (zH6 B b most) (y:=x) (S.up (w':=w3)) (by omega) hh (zMd (S.up (w':=w3)) (by omega))) ?_))))
 rintro v w4 ⟨⟨l',hp',S4,hh4⟩,f4⟩
 refine⟨f4.ne (B1.mv (w:=w3)) (by decide),?_⟩
 have F4:FrT B pE w w4:=(FrT.ext Le.e).trans f4
 have C4:Bk w4 b2 [.int .i64 0,.int .i64 0] E.qe:=(B2.mv (w:=w3)).kept f4 (by decide)
 have hq:l'.Perm (insH x L):=by
  refine hp'.trans ((List.perm_append_singleton x l).trans ((hp.cons x).trans (zCa x L).symm))
 have hsI:=zF7 x hs
 have Q4:Qu B w4 b most (insH x L):=⟨⟨l',S4,hh4,hq⟩,hsI⟩
 have hlI:=zD1 x L
 refine drawR TBok mixed (λ_=>False) [0,2,3,4,5,1,6] (by kernel_rfl) λw5 e5 _=>?_
 have q_:=S4.up (w':=w5)
 obtain⟨a5,c5,q5⟩:=q_
 refine tld (B:=q5.cell) rfl nf (rcall (zIJ (Q4.up (w':=w5))) ?_)
 rintro v w6 ⟨rfl,e6⟩
 refine⟨e6.e,?_⟩
 refine ite (λhle=>?_) (λhgt=>?_)
 ·have hpq:putQ most L x=(insH x L,zH,false):=by unfold putQ;rw [if_pos hle]
  rw [hpq]
  refine rbuild (cs:=enc zH) rfl (rsto (B:=C4) (vs:=enc zH) rfl rfl rfl (Enc.one _) λw7 B7 f7 _=>?_)
  have K7:FrT w.heap.size [E.qe] w6 w7:=(C4.mv (w:=w6)).wrote f7 hb2 (by decide)
  have F7:FrT B pE w w7:=Fr.new (Fr.trans F4 (Fr.fr (Le.e (a:=w4) (b:=w6)))) f7 λi hi=>by subst hi;exact hb2
  refine rresG rfl ?_
  exact⟨rfl,(Q4.up (w':=w6)).kept K7 (by decide) (by decide),F7⟩
 ·have hpq:putQ most L x=((insH x L).dropLast,(insH x L).getLast?.getD zH,true):=by unfold putQ;rw [if_neg hgt]
  rw [hpq]
  have hne:l'≠[]:=by rintro rfl;have:=hq.length_eq;simp at this;omega
  refine rcall (zJt (S4.up (w':=w6)) hh4 hne) ?_
  rintro v w7 ⟨rfl,⟨l7,hp7,S7,hh7⟩,f7⟩
  have hfst:=zLu zKO hh4
  have hlast:=hsI.last (hp7.trans hq) (λy hy=>by
   have q_:=List.mem_iff_getElem.1 (hq.mem_iff.2 hy)
   obtain⟨i,hi,rfl⟩:=q_
   have:=hfst i hi
   rw [zAH hi] at this;exact this)
  rw [hlast.1]
  have C7:=(C4.mv (w:=w6)).kept f7 (by decide)
  have F7:FrT B pE w w7:=(F4.trans (FrT.ext Le.e)).trans f7
  refine rsto (B:=C7) (vs:=enc (atL l' 0)) rfl rfl rfl (Enc.one _) λw8 B8 f8 _=>?_
  have K8:FrT w.heap.size [E.qe] w7 w8:=C7.wrote f8 hb2 (by decide)
  have F8:FrT B pE w w8:=Fr.new F7 f8 λi hi=>by subst hi;exact hb2
  have Q7:Qu B w7 b most (insH x L).dropLast:=⟨⟨l7,S7,hh7,hlast.2⟩,hsI.sublist (List.dropLast_sublist _)⟩
  refine rresG rfl ?_
  exact⟨rfl,Q7.kept K8 (by decide) (by decide),F8⟩
theorem zIF{c:Nat}{l:List HitD}(h:SlF w (.slice a n c) l)(hn:l.length<=1000000):Sp PP F.ze #[.slice a n c] w λv w'=>Own w.heap.size E.qu w' v l/\Stp w w':=by
 have q_:=h.len
 obtain rfl:=q_
 refine en TBok rfl ?_
 refine rsnil (λha=>?_) (λha=>?_)
 ·have hl:l=[]:=by
   obtain⟨a',c',hv,_,h'⟩:=h
   cases hv
   rcases h' with h'|⟨b,o,hb,_⟩
   ·exact h'
   ·rw [ha] at hb;cases hb
  subst hl
  exact⟨Own.nil _ _ _,stp⟩
 ·refine rbs (α:=HitD) [] rfl (vs:=[]) rfl rfl (by decide) λb1 w1 n1 _=>?_
  have s1:Stp w w1:=⟨n1.ext⟩
  refine rapp (u:=w) ⟨rfl,rfl⟩ (Own.nil' _ E.qu _ _) (h.up (w':=w1)) (by simp;omega) λv3 w3 O3 f3 s3=>?_
  rw [List.nil_append] at O3
  exact⟨O3,stp⟩
instance:Inhabited HitD:=⟨zH⟩
theorem zOA:Go.Sort.SWO (ltOf toI):=by
 have h:=toI_lt
 refine⟨λx=>?_,λx y z h1 h2=>?_,λx y z h1 h2=>?_⟩ <;> simp only [ltOf,decide_eq_false_iff_not,decide_eq_true_eq,h,zHf] at * <;> omega
theorem zII{b:Nat}{most:Int}{L:List HitD}(Q:Qu B w b most L):
  Sp PP F.dl #[.pointer (some ⟨b,0,none⟩)] w λv w'=>Own w.heap.size E.qe w' v L/\Stp w w':=by
 obtain⟨⟨l,⟨a,c,q⟩,hh,hp⟩,hs⟩:=Q
 have hll:=hp.length_eq
 have hsz:=q.size
 refine en TBok rfl ?_
 refine rpnil (rld (B:=q.cell) rfl (rcall (zIF q.row.sl (by omega)) ?_))
 rintro v w1 ⟨O1,e1⟩
 have q_:=O1.shape
 obtain⟨a1,c1,rfl⟩:=q_
 refine rcall (zCA Tryz.sortH (k:=2) (show Agg PP E.qu 2 from inferInstance) rfl toI zOA (f:=F.y3) rfl (λx y W=>zHR) O1 (by omega)) ?_
 rintro r w2 ⟨rfl,l2,hp2,hs2,O2,f2⟩
 have s2:Stw w w1 w2:=zAz f2
 have hS2:SrtH l2:=hs2.imp λ{x y} h=>by
  cases hq:hlt y x with
  |false=>rfl
  |true=>exact(h ((toI_lt _ _).2 hq)).elim
 have hl2:l2=L:=hS2.uniq hs (hp2.trans hp)
 subst hl2
 rw [hll] at O2 ⊢
 refine cnt1 TBok 19 [6] 4 19 l2.length (λk v u=>Own w2.heap.size E.qe u v (l2.take k)/\Stp w2 u) rfl rfl ⟨Own.nil _ E.qe _,stp⟩ ?_
 rintro k v g u hk ⟨O,e⟩
 refine ite (λhlt'=>?_) (λhge=>?_)
 ·have hka:k<l2.length:=by omega
  refine rix (O2.sl.up (w':=u)) (x:=l2[k]) (by simp) λb4 o4 A4=>rloadA A4 rfl (ral λb5 u5 n5 z5=>rsto (B:=z5) (vs:=enc l2[k]) rfl rfl rfl (Enc.one _) λu6 B6 f6 _=>?_)
  have s6:Stp u u6:=⟨Fr.st Le.e f6 λi hi=>by subst hi;exact n5.lo⟩
  clear z5 f6
  refine rldG (ds:=enc l2[k]) (B:=B6) rfl rfl (rbs1 l2[k] rfl rfl (by decide) λb7 u7 e7 _ S7=>rapp1 (u:=w2) ⟨rfl,rfl⟩ (O.up (w':=u7)) S7 (by rw [List.length_take];omega) λv8 u8 O8 f8 s8=>rA ⟨rfl,hka,?_,stp⟩)
  rw [zAa hka];exact O8
 ·have q_:k=l2.length:=by omega
  obtain rfl:=q_
  rw [List.take_length] at O
  exact⟨O.older,stp⟩
def firstQ (k:Int) (l:List HitD):List HitD:=l.foldl (λL x=>(putQ k L x).1) []
theorem zLs(k:Int)(l:List HitD):(firstQ k l).length<=l.length:=by
 have:∀(l L:List HitD),(l.foldl (λL x=>(putQ k L x).1) L).length<=L.length+l.length:=by
  intro l
  induction l with
  |nil=>intro L;simp
  |cons x r ih=>intro L;rw [List.foldl_cons];have:=ih (putQ k L x).1;have:=zM7 (most:=k) (L:=L) (x:=x);simp;omega
 have:=this l []
 unfold firstQ;simpa using this
theorem zJ7{k:Int}{l:List HitD}(h:i<l.length):firstQ k (l.take (i+1))=(putQ k (firstQ k (l.take i)) l[i]).1:=by
 unfold firstQ;rw [zAa h,List.foldl_append];rfl
theorem zIn{c:Nat}{l:List HitD}{k:Int}(h:SlF w (.slice a n c) l)(hn:l.length<=1000):
  Sp PP F.c6 #[.slice a n c,.int .i64 k] w λv w'=>Own w.heap.size E.qe w' v (if k<1 then [] else firstQ k l)/\Stp w w':=by
 have q_:=h.len
 obtain rfl:=q_
 refine en TBok rfl ?_
 refine ite (λh1=>?_) (λh1=>?_)
 ·rw [if_pos h1];exact⟨Own.nil _ _ _,stp⟩
 rw [if_neg h1]
 refine rbuild (cs:=[.slice none 0 0,.int .i64 k]) rfl (rbx λb w1 n1 B1=>?_)
 have Q1:Qu w.heap.size w1 b k (firstQ k (l.take 0)):=⟨⟨[],⟨none,0,n1.lo,B1,Own.nil _ _ _,by simp⟩,λc c0 cn=>absurd cn (by simp),.refl _⟩,.nil⟩
 refine cnt TBok 15 [7] 15 l.length (λi u=>Qu w.heap.size u b k (firstQ k (l.take i))/\Stp w u) rfl rfl ⟨Q1,stp⟩ ?_
 rintro i g u hi ⟨Q,e⟩
 refine ite (λhlt'=>?_) (λhge=>?_)
 ·have hka:i<l.length:=by omega
  refine rix (h.up (w':=u)) (x:=l[i]) (by simp) λb4 o4 A4=>rloadA A4 rfl (ral λb5 u5 n5 z5=>rsto (B:=z5) (vs:=enc l[i]) rfl rfl rfl (Enc.one _) λu6 B6 f6 _=>?_)
  have s6:Stp u u6:=⟨Fr.st Le.e f6 λi hi=>by subst hi;exact n5.lo⟩
  clear z5 f6
  have hfl:=zLs k (l.take i)
  rw [List.length_take] at hfl
  refine rldG (ds:=enc l[i]) (B:=B6) rfl rfl (rcall (zIK (x:=l[i]) (Q.up (w':=u6)) (by omega)) ?_)
  rintro v u7 ⟨rfl,Q7,f7⟩
  have s7:Stp w u7:=⟨FrT.st Le.e f7 (Nat.le_refl _)⟩
  refine rA ⟨rfl,hka,?_,stp⟩
  rw [zJ7 hka];exact Q7
 ·have q_:i=l.length:=by omega
  obtain rfl:=q_
  rw [List.take_length] at Q
  refine rcall (zII Q) ?_
  rintro v u1 ⟨O1,e1⟩
  exact⟨O1.older,stp⟩
def srtH (l:List HitD):List HitD:=l.foldl (λL x=>insH x L) []
theorem zLK(l:List HitD):SrtH (srtH l)/\(srtH l).Perm l:=by
 have:∀(l L:List HitD),SrtH L->SrtH (l.foldl (λL x=>insH x L) L)/\(l.foldl (λL x=>insH x L) L).Perm (L++l):=by
  intro l
  induction l with
  |nil=>intro L h;exact⟨h,by simp⟩
  |cons x r ih =>
   intro L h
   rw [List.foldl_cons]
   have:=ih (insH x L) (zF7 x h)
   exact⟨this.1,this.2.trans (((zCa x L).append_right r).trans List.perm_middle.symm)⟩
 have h:=this l [] .nil
 exact⟨h.1,h.2⟩
theorem zHW(x:HitD):∀(l:List HitD) (n:Nat),(insH x l).take n=(insH x (l.take n)).take n
 |[],n=>by simp
 |y::r,0=>by simp
 |y::r,n+1=>by
  rw [List.take_succ_cons]
  unfold insH
  split
  ·rw [List.take_succ_cons,List.take_succ_cons]
   congr 1
   cases n with
   |zero=>simp
   |succ m=>rw [List.take_succ_cons,List.take_succ_cons,List.take_take,Nat.min_eq_left (by omega)]
  ·rw [List.take_succ_cons,List.take_succ_cons,zHW x r n]
theorem zMf(hk:k=n){M:List HitD}(hM:M.length<=n)(x:HitD):(putQ (k:Int) M x).1=(insH x M).take n:=by
 subst hk
 unfold putQ
 have hl:=zD1 x M
 split
 ·rw [List.take_of_length_le (by omega)]
 ·rw [List.dropLast_eq_take,show (insH x M).length - 1=k by omega]
theorem zJ8(k:Nat)(l:List HitD):firstQ (k:Int) l=(srtH l).take k:=by
 have:∀(l L M:List HitD),M=L.take k->l.foldl (λL x=>(putQ (k:Int) L x).1) M=(l.foldl (λL x=>insH x L) L).take k:=by
  intro l
  induction l with
  |nil=>intro L M h;exact h
  |cons x r ih =>
   intro L M h
   rw [List.foldl_cons,List.foldl_cons]
   refine ih (insH x L) _ ?_
   subst h
   rw [zMf rfl (by rw [List.length_take];omega),<-zHW]
 exact this l [] [] (by simp)
end Go.W
namespace Go.W
open Go
variable {B N i j k m n:Nat} {D R:Nat -> Prop} {P:Program} {T:Tab} {a a':Option Addr} {g:GrD} {q:QyD} {s:List UInt8} {u u' w w':World}
def minL:List Int->Option Int
 |[]=>none
 |x::r=>match minL r with
  |none=>some x
  |some y=>some (min x y)
theorem zH1{l:List Int}:minL l=none↔l=[]:=by
 cases l with
 |nil=>simp [minL]
 |cons x r=>unfold minL;cases minL r <;> simp
theorem zEY{l:List Int}{m:Int}:minL l=some m↔m∈l/\∀y∈l,m<=y:=by
 induction l generalizing m with
 |nil=>simp [minL]
 |cons x r ih =>
  unfold minL
  cases hr:minL r with
  |none =>
   have:=zH1.1 hr;subst this
   simp only [Option.some.injEq,List.mem_singleton,forall_eq]
   exact⟨λh=>⟨h.symm,by omega⟩,λh=>h.1.symm⟩
  |some y =>
   have q_:=ih.1 hr
   obtain⟨h1,h2⟩:=q_
   simp only [Option.some.injEq,List.mem_cons,forall_eq_or_imp]
   constructor
   ·rintro rfl
    refine⟨?_,Int.min_le_left _ _,λz hz=>Int.le_trans (Int.min_le_right _ _) (h2 z hz)⟩
    have q_:=Int.le_total x y
    rcases q_ with h|h
    ·exact .inl (Int.min_eq_left h)
    ·right;rw [Int.min_eq_right h];exact h1
   ·rintro⟨h3,h4,h5⟩
    have:=h5 y h1
    rcases h3 with rfl|h3
    ·omega
    ·have:=h2 m h3;omega
def sums (S:List StD):List Int:=S.flatMap λx=>if x.key.dir=0 then (S.filter λy=>decide (y.key.dir=1/\y.key.v=x.key.v)).map λy=>x.d+y.d else []
theorem zCK{S:List StD}{m:Int}:m∈sums S↔∃x∈S,∃y∈S,x.key.dir=0/\y.key.dir=1/\y.key.v=x.key.v/\m=x.d+y.d:=by
 unfold sums
 simp only [List.mem_flatMap]
 constructor
 ·rintro⟨x,hx,h⟩
  split at h
  ·rename_i h0
   have q_:=List.mem_map.1 h
   obtain⟨y,hy,rfl⟩:=q_
   have q_:=List.mem_filter.1 hy
   obtain⟨hy,h1⟩:=q_
   simp only [decide_eq_true_eq] at h1
   exact⟨x,hx,y,hy,h0,h1.1,h1.2,rfl⟩
  ·cases h
 ·rintro⟨x,hx,y,hy,h0,h1,h2,rfl⟩
  refine⟨x,hx,?_⟩
  rw [if_pos h0]
  exact List.mem_map.2 ⟨y,List.mem_filter.2 ⟨hy,by simp [h1,h2]⟩,rfl⟩
structure AnP where
 found:Bool
 num:Int
 hits:List HitD
deriving DecidableEq
def zAn:AnP:=⟨false,0,[]⟩
def hasDir (M:List StD) (d:Int):Bool:=M.any λm=>decide (m.key.dir=d)
def firstK (k:Int) (l:List HitD):List HitD:=if k<1 then [] else firstQ k l
def hitsL (pl:List Int) (S:List StD):List HitD:=(S.filter λx=>decide (x.key.dir=0) && pl.contains x.key.v).map λx=>⟨x.key.v,x.d⟩
def distL (S M:List StD):AnP×Bool:=match minL (sums S) with
 |some m=>(⟨true,m,[]⟩,true)
 |none=>(zAn,!hasDir M 0 || !hasDir M 1)
def reachL (to:Int) (S M:List StD):AnP×Bool:=
 if S.any λx=>decide (x.key.dir=0/\x.key.v=to) then (⟨true,0,[]⟩,true) else (zAn,M.isEmpty)
def nearL (pl:List Int) (most:Int) (S M:List StD):AnP×Bool:=
 if M.isEmpty then (⟨!(firstK most (hitsL pl S)).isEmpty,0,firstK most (hitsL pl S)⟩,true) else (zAn,false)
def placesL (g:GrD) (ws:List ByteArray):List Int:=((List.range g.n).filter λv=>ws.all λs=>(g.ws.getD v []).contains s).map λv:Nat=>(v:Int)
def doneL (g:GrD) (q:QyD) (S M:List StD):AnP×Bool:=
 if q.kind=1 then distL S M else if q.kind=2 then reachL q.to S M else if q.kind=3 then nearL (placesL g q.words) q.most S M else (zAn,true)
structure CfD where
 workers:Nat
 slots:Nat
 queue:Nat
 pool:Nat
 budget:Nat
structure RqD where
 id:Int
 kind:Int
 q:QyD
structure SvD where
 wait:List RqD
 held:List (Option (RqD×Nat))
def homW (W:Nat) (v:Int):Int:=(v*40503+12345) % 65536 % W
def sts1 (g:GrD) (h:Option (RqD×Nat)) (at':Nat):List StD:=match h with
 |some (x,i)=>sts g x.q at' i
 |none=>[]
def allS (g:GrD) (h:List (Option (RqD×Nat))):List StD:=(List.range h.length).flatMap λk=>sts1 g (h.getD k none) k
def liveW (g:GrD) (W:Nat) (h:List (Option (RqD×Nat))) (w:Nat):Nat:=((allS g h).filter λx=>decide (homW W x.key.v=w)).length
def overS (g:GrD) (c:CfD) (h:List (Option (RqD×Nat))):Bool:=(List.range c.workers).any λw=>decide (c.pool<liveW g c.workers h w)
def repOf (id code:Int) (a:AnP):RepD:=⟨id,code,⟨a.found,a.num,⟨none,0,0⟩⟩⟩
open Classical in
/-- a reply's bytes; one that may not be has none -/
noncomputable def repB (id code:Int) (a:AnP):List UInt8:=if RepOk (repOf id code a) a.hits then encR (repOf id code a) a.hits else []
noncomputable def stepS (g:GrD) (c:CfD) (h:List (Option (RqD×Nat))) (k:Nat):List (Option (RqD×Nat))×Option (List UInt8):=
 match h.getD k none with
 |none=>(h,none)
 |some (x,i) =>
  if overS g c (h.set k (some (x,i+1))) then (h.set k none,some (repB x.id 250 zAn))
  else if (doneL g x.q (sts g x.q k (i+1)) (mls g x.q k (i+1))).2 then (h.set k none,some (repB x.id 0 (doneL g x.q (sts g x.q k (i+1)) (mls g x.q k (i+1))).1))
  else if c.budget<=i+1 then (h.set k none,some (repB x.id 251 zAn))
  else (h.set k (some (x,i+1)),none)
def usedS (h:List (Option (RqD×Nat))):List Nat:=selN (λk=>(h.getD k none).isSome) h.length
def freeS (h:List (Option (RqD×Nat))):Option Nat:=h.findIdx? λx=>x.isNone
def admitS:List RqD->List (Option (RqD×Nat))->List RqD×List (Option (RqD×Nat))
 |[],h=>([],h)
 |x::r,h=>match freeS h with
  |some k=>admitS r (h.set k (some (x,0)))
  |none=>(x::r,h)
noncomputable def stepsS (g:GrD) (c:CfD):List Nat->List (Option (RqD×Nat))->List (Option (RqD×Nat))×List (List UInt8)
 |[],h=>(h,[])
 |k::r,h=>((stepsS g c r (stepS g c h k).1).1,(stepS g c h k).2.toList++(stepsS g c r (stepS g c h k).1).2)
noncomputable def tickS (g:GrD) (c:CfD) (s:SvD):SvD×List (List UInt8):=
 (⟨(admitS s.wait s.held).1,(stepsS g c (usedS (admitS s.wait s.held).2) (admitS s.wait s.held).2).1⟩,(stepsS g c (usedS (admitS s.wait s.held).2) (admitS s.wait s.held).2).2)
def heldAt (h:List (Option (RqD×Nat))) (id:Int):Option Nat:=h.findIdx? λx=>match x with
 |some (r,_)=>decide (r.id=id)
 |none=>false
def waitAt (l:List RqD) (id:Int):Option Nat:=l.findIdx? λr=>decide (r.id=id)
def backS (s:SvD) (id:Int):SvD×Int:=match waitAt s.wait id with
 |some k=>(⟨s.wait.eraseIdx k,s.held⟩,253)
 |none=>match heldAt s.held id with
  |some k=>(⟨s.wait,s.held.set k none⟩,253)
  |none=>(s,141)
open Classical in
noncomputable def askS (g:GrD) (c:CfD) (s:SvD) (x:RqD) (ok:Prop):SvD×Int:=
 if ok then (if (heldAt s.held x.id).isSome then (s,150) else if (waitAt s.wait x.id).isSome then (s,150) else if c.queue<=s.wait.length then (s,252) else (⟨s.wait++[x],s.held⟩,0)) else (s,180)
end Go.W
namespace Go.W
open Go
variable {B N i j k m n:Nat} {D R:Nat -> Prop} {P:Program} {T:Tab} {a a':Option Addr} {g:GrD} {q:QyD} {s:List UInt8} {u u' w w':World}
open Classical in
/-- a number at the front of bytes, and what is left -/
noncomputable def rdN (r:List UInt8):Option (Nat×List UInt8):=if h:∃p:Nat×List UInt8,p.1<=2147483647/\r=numB p.1++p.2 then some h.choose else none
theorem zDv{r t:List UInt8}:rdN r=some (n,t)↔n<=2147483647/\r=numB n++t:=by
 unfold rdN
 split
 ·rename_i h
  have hs:=h.choose_spec
  constructor
  ·intro e
   rw [Option.some.inj e] at hs;exact hs
  ·rintro⟨_,h2⟩
   have e:=zAc (hs.2.symm.trans h2)
   congr 1
   exact Prod.ext e.1 e.2
 ·rename_i h
  exact⟨(λe=>nomatch e),λe=>absurd ⟨(n,t),e⟩ h⟩
theorem zM9{r:List UInt8}:rdN r=none↔∀(n:Nat) (t:List UInt8),n<=2147483647->r≠numB n++t:=by
 constructor
 ·intro h n t h1 h2
  rw [zDv.2 ⟨h1,h2⟩] at h;cases h
 ·intro h
  cases e:rdN r with
  |none=>rfl
  |some p=>obtain⟨h1,h2⟩:=zDv.1 e;exact absurd h2 (h _ _ h1)
theorem zOa(h:n<=2147483647)(t:List UInt8):rdN (numB n++t)=some (n,t):=zDv.2 ⟨h,rfl⟩
noncomputable def rdT (r:List UInt8):Option (List UInt8×List UInt8):=match rdN r with
 |some (n,t)=>if n<=4000/\n<=t.length then some (t.take n,t.drop n) else none
 |none=>none
def rdMany {α:Type} (f:List UInt8->Option (α×List UInt8)):Nat->List UInt8->Option (List α×List UInt8)
 |0,r=>some ([],r)
 |k+1,r=>match f r with
  |none=>none
  |some (x,t)=>match rdMany f k t with
   |none=>none
   |some (l,u)=>some (x::l,u)
def preR {α:Type} (acc:List α) (o:Option (List α×List UInt8)):Option (List α×List UInt8):=o.map λp=>(acc++p.1,p.2)
section
variable {α:Type} {f:List UInt8->Option (α×List UInt8)}
theorem zD8(o:Option (List α×List UInt8)):preR [] o=o:=by cases o <;> simp [preR]
theorem zCc{r:List UInt8}(h:f r=none):rdMany f (k+1) r=none:=by simp [rdMany,h]
theorem zAS{r t:List UInt8}{x:α}(h:f r=some (x,t))(acc:List α):preR acc (rdMany f (k+1) r)=preR (acc++[x]) (rdMany f k t):=by
 simp only [rdMany,h]
 cases rdMany f k t with
 |none=>rfl
 |some p=>simp [preR]
end
noncomputable def rdRow (r:List UInt8):Option (List Nat×List UInt8):=match rdN r with
 |some (n,t)=>if n<=4000 then rdMany rdN n t else none
 |none=>none
noncomputable def rdWs (r:List UInt8):Option (List (List UInt8)×List UInt8):=match rdN r with
 |some (n,t)=>if n<=8 then rdMany rdT n t else none
 |none=>none
noncomputable def rdPl (r:List UInt8):Option ((List Nat×List (List UInt8))×List UInt8):=match rdRow r with
 |some (l,t)=>match rdWs t with
  |some (w,u)=>some ((l,w),u)
  |none=>none
 |none=>none
def bsOf (l:List UInt8):ByteArray:=⟨l.toArray⟩
theorem zMG{a b:List UInt8}(h:bsOf a=bsOf b):a=b:=by
 have:=congrArg (λx:ByteArray=>x.data.toList) h
 simpa [bsOf] using this
def edsOf:Nat->List (List Nat)->List EdN
 |_,[]=>[]
 |v,l::r=>l.map (λt=>⟨v,t⟩)++edsOf (v+1) r
theorem zGz(l:List Nat):∀(rs:List (List Nat)) (v:Nat),edsOf v (rs++[l])=edsOf v rs++l.map λt=>⟨v+rs.length,t⟩
 |[],v=>by simp [edsOf]
 |r::rs,v=>by
  rw [List.cons_append,edsOf,zGz l rs (v+1),edsOf,List.append_assoc,List.length_cons,show v+1+rs.length=v+(rs.length+1) by omega]
def grOf (n:Nat) (ps:List (List Nat×List (List UInt8))):GrD:=⟨n,edsOf 0 (ps.map (·.1)),ps.map λp=>p.2.map bsOf⟩
def WordB (s:ByteArray):Prop:=(∀c∈s.data.toList,97<=c.toNat/\c.toNat<=122)/\1<=s.size/\s.size<=12
def ltE (a b:EdN):Prop:=a.f<b.f\/a.f=b.f/\a.t<b.t
def ltW (a b:ByteArray):Prop:=a.data.toList<b.data.toList
structure GrIs (g:GrD):Prop where
 ok:GrOk g
 ne:g.es.length<=2000
 nw:g.ws.length=g.n
 word:∀l∈g.ws,l.length<=8/\∀s∈l,WordB s
 er:g.es.Pairwise ltE
 wr:∀l∈g.ws,l.Pairwise ltW
noncomputable def rdI (s:List UInt8):Option (Nat×List (List Nat×List (List UInt8))×List UInt8):=match s with
 |119::103::r=>match rdN r with
  |some (n,t)=>if n<=200 then (match rdMany rdPl n t with|some (ps,u)=>some (n,ps,u)|none=>none) else none
  |none=>none
 |_=>none
open Classical in
/-- an image's graph -/
noncomputable def imgOf (s:List UInt8):Option GrD:=match rdI s with
 |some (n,ps,u)=>if u=[]/\GrIs (grOf n ps) then some (grOf n ps) else none
 |none=>none
theorem zI9(h:imgOf s=some g):GrIs g:=by
 unfold imgOf at h
 split at h
 ·split at h
  ·rename_i h1;cases h;exact h1.2
  ·cases h
 ·cases h
noncomputable def rdQ (kind:Nat) (r:List UInt8):Option (QyD×List UInt8):=match rdN r with
 |none=>none
 |some (a,r1) =>
  if kind<=2 then (match rdN r1 with
   |none=>none
   |some (b,r2)=>some (⟨kind,a,b,[],0,0⟩,r2))
  else match rdWs r1 with
   |none=>none
   |some (ws,r2)=>match rdN r2 with
    |none=>none
    |some (x,r3)=>match rdN r3 with
     |none=>none
     |some (y,r4)=>some (⟨kind,a,0,ws.map bsOf,x,y⟩,r4)
def zQy:QyD:=⟨0,0,0,[],0,0⟩
noncomputable def rdR (s:List UInt8):Option (RqD×List UInt8):=match rdN s with
 |none=>none
 |some (id,r1)=>match rdN r1 with
  |none=>none
  |some (k,r2)=>if k<=4 then (if k=4 then some (⟨id,4,zQy⟩,r2) else match rdQ k r2 with
   |none=>none
   |some (q,r3)=>some (⟨id,k,q⟩,r3)) else none
def QyIs (q:QyD) (n:Int):Prop:=(q.kind=1\/q.kind=2\/q.kind=3)/\(0<=q.frm/\q.frm<n)/\(q.kind<3->0<=q.to/\q.to<n) /\
 (q.kind=3->(1<=q.words.length/\q.words.length<=8)/\(0<=q.rad/\q.rad<=200)/\(1<=q.most/\q.most<=100)/\∀s∈q.words,WordB s)
theorem QyIs.ok(h:QyIs q n):QyOk q n:=⟨h.1,h.2.1,h.2.2.1,λk=>by have:=h.2.2.2 k;omega⟩
def RqIs (x:RqD):Prop:=(x.kind=4\/x.q.kind=x.kind/\QyIs x.q 200)/\(0<=x.id/\x.id<=2147483647) /\
 (if x.kind=4 then x.q=zQy else if x.kind=3 then x.q.to=0 else x.q.words=[]/\x.q.rad=0/\x.q.most=0)
open Classical in
noncomputable def reqOf (s:List UInt8):Option RqD:=match rdR s with
 |some (x,[])=>if RqIs x then some x else none
 |_=>none
noncomputable def idOf (s:List UInt8):Option Nat:=(rdN s).map (·.1)
theorem zEc{x:RqD}(h:reqOf s=some x):RqIs x:=by
 unfold reqOf at h
 split at h
 ·split at h
  ·rename_i h1;cases h;exact h1
  ·cases h
 ·cases h
noncomputable def comeS (g:GrD) (c:CfD) (s:SvD) (f:List UInt8):SvD×Option (List UInt8):=match reqOf f with
 |none=>match idOf f with
  |none=>(s,none)
  |some id=>(s,some (repB id 220 zAn))
 |some x=>if x.kind=4 then ((backS s x.id).1,some (repB x.id (backS s x.id).2 zAn))
  else if (askS g c s x (QyIs x.q g.n)).2=0 then ((askS g c s x (QyIs x.q g.n)).1,none) else (s,some (repB x.id (askS g c s x (QyIs x.q g.n)).2 zAn))
end Go.W
namespace Go.W
open Go Go.Proofs
open Enc (enc)
set_option maxRecDepth 10000
variable {B N i j k m n:Nat} {D R:Nat -> Prop} {P:Program} {T:Tab} {a a':Option Addr} {g:GrD} {q:QyD} {s:List UInt8} {u u' w w':World}
def RdsV {α:Type} (f:List UInt8->Option (α×List UInt8)) (s:List UInt8) (A:Nat) (x:α) (A':Nat):Prop:=A'<=s.length/\f (s.drop A)=some (x,s.drop A')
theorem rdn_of{A:Nat}(h:RdAt s A n):RdsV rdN s A n (A+(numB n).length):=by
 obtain⟨h1,t,h2⟩:=h
 have hl:=congrArg List.length h2
 rw [List.length_drop,List.length_append] at hl
 have hp:=List.length_pos_iff.2 (zHn n)
 refine⟨by omega,zDv.2 ⟨h1,?_⟩⟩
 rw [<-List.drop_drop,h2,List.drop_left]
theorem rdn_no{A:Nat}(h:∀n,¬RdAt s A n):rdN (s.drop A)=none:=zM9.2 λn t h1 h2=>h n ⟨h1,t,h2⟩
theorem rdN_le{r t:List UInt8}(h:rdN r=some (n,t)):n<=2147483647:=(zDv.1 h).1
theorem zE6{A b:Nat}(B:Bk w b [txt s,.int .i64 (A:Int),.bool false] E.qj)(hs:s.length<=4611686018427387904):
  Sp PP F.qu #[.pointer (some ⟨b,0,none⟩)] w λv w' =>
   ((∃n A':Nat,RdsV rdN s A n A'/\v=.int .i64 (n:Int)/\Bk w' b [txt s,.int .i64 (A':Int),.bool false] E.qj) \/
   (rdN (s.drop A)=none/\∃x a':Int,v=.int .i64 x/\Bk w' b [txt s,.int .i64 a',.bool true] E.qj))/\Fr (λi=>i=b) w w':=
 (zBI B hs).mono λv w' ⟨h,f⟩=>⟨by
  rcases h with ⟨A0,n,e,h1,h2,h3⟩|⟨h1,h2⟩
  ·have q_:A0=A:=by omega
   obtain rfl:=q_
   exact .inl ⟨n,_,rdn_of h1,h2,h3⟩
  ·exact .inr ⟨rdn_no λn=>h1 A n rfl,h2⟩,f⟩
theorem zCq{A:Nat}(hs:s.length<=4611686018427387904):Sp PP F.yh #[txt s,.int .i64 (A:Int)] w λv w' =>
  ((∃n A':Nat,RdsV rdN s A n A'/\v=.tuple #[.int .i64 (n:Int),.int .i64 (A':Int),.bool true])\/(rdN (s.drop A)=none/\v=.tuple #[.int .i64 0,.int .i64 0,.bool false]))/\Stp w w':=
 (zCg hs).mono λv w' ⟨h,f⟩=>⟨by
  rcases h with ⟨A0,n,e,h1,h2⟩|⟨h1,h2⟩
  ·have q_:A0=A:=by omega
   obtain rfl:=q_
   exact .inl ⟨n,_,rdn_of h1,h2⟩
  ·exact .inr ⟨rdn_no λn=>h1 A n rfl,h2⟩,f⟩
theorem zBz(s:List UInt8):(⟨s.toArray⟩:ByteArray).size=s.length:=by simp [ByteArray.size]
theorem zNc{r t:List UInt8}(h:rdN r=some (n,t)):rdT r=if n<=4000/\n<=t.length then some (t.take n,t.drop n) else none:=by unfold rdT;rw [h]
theorem zNb{r:List UInt8}(h:rdN r=none):rdT r=none:=by unfold rdT;rw [h]
theorem zLG{r t:List UInt8}(h:rdN r=some (n,t)):rdRow r=if n<=4000 then rdMany rdN n t else none:=by unfold rdRow;rw [h]
theorem zGX{r:List UInt8}(h:rdN r=none):rdRow r=none:=by unfold rdRow;rw [h]
theorem zEK{A b:Nat}(B:Bk w b [txt s,.int .i64 (A:Int),.bool false] E.qj)(hs:s.length<=4611686018427387904):
  Sp PP F.yc #[.pointer (some ⟨b,0,none⟩)] w λv w' =>
   ((∃x A',RdsV rdT s A x A'/\v=txt x/\Bk w' b [txt s,.int .i64 ((A':Nat):Int),.bool false] E.qj) \/
   (rdT (s.drop A)=none/\∃a':Int,v=txt []/\Bk w' b [txt s,.int .i64 a',.bool true] E.qj))/\Fr (λi=>i=b) w w':=by
 refine en TBok rfl ?_
 refine rcall (zE6 B hs) ?_
 rintro v w1 ⟨⟨n,A1,hr,rfl,B1⟩|⟨hno,x,a',rfl,B1⟩,f1⟩
 case' inr =>
  refine drawR TBok mixed (λ_=>False) (upF 22 0) (by kernel_rfl) λu2 e2 _=>tld (B:=B1) rfl nf (rsto (B:=B1) (vs:=[.bool true]) rfl rfl rfl (zAo _) λu3 B3 f3 _=>?_)
  exact⟨.inr ⟨zNb hno,_,rfl,B3⟩,(f1.trans (Fr.fr e2.e)).trans f3⟩
 have hn:=rdN_le hr.2
 have hT:=zNc hr.2
 have hA1:=hr.1
 refine drawR TBok mixed (λ_=>False) (upF 22 0) (by kernel_rfl) λu2 e2 _=>tld (B:=B1) rfl nf ?_
 have C:=B1.mv (w:=u2)
 have F2:=f1.trans (Fr.fr (D:=λi=>i=b) e2.e)
 refine ite (λh1=>?_) (λh1=>?_)
 ·refine rsto (B:=C) (vs:=[.bool true]) rfl rfl rfl (zAo _) λu3 B3 f3 _=>?_
  exact⟨.inr ⟨by rw [hT,if_neg (by omega)],_,rfl,B3⟩,F2.trans f3⟩
 refine tld (B:=C) rfl nf (tld (B:=C) rfl nf ?_)
 have hz:=zBz s
 refine rA (ite (λh2=>?_) (λh2=>?_))
 ·refine rsto (B:=C) (vs:=[.bool true]) rfl rfl rfl (zAo _) λu3 B3 f3 _=>?_
  exact⟨.inr ⟨by rw [hT,if_neg (by rw [List.length_drop];omega)],_,rfl,B3⟩,F2.trans f3⟩
 have h2':A1+n<=s.length:=by omega
 refine rld (B:=C) rfl (rarE (y:=((A1+n:Nat):Int)) (by omega) (by omega) (rsto (B:=C) (vs:=[.int .i64 ((A1+n:Nat):Int)]) rfl rfl rfl (zAf _) λu3 B3 f3 _=>?_))
 have B3:Bk u3 b [txt s,.int .i64 ((A1+n:Nat):Int),.bool false] E.qj:=B3
 refine drawR TBok mixed (λ_=>False) (upF 16 0) (by kernel_rfl) λu4 e4 _=>tld (B:=B3) rfl nf (tld (B:=B3) rfl nf ?_)
 refine rarE (y:=((A1:Nat):Int)) (by omega) (by omega) (tld (B:=B3) rfl nf (tssl rfl rfl (by omega) (by omega) ?_))
 refine⟨.inl ⟨(s.drop A1).take n,A1+n,⟨h2',?_⟩,?_,B3.mv⟩,(F2.trans f3).trans (Fr.fr e4.e)⟩
 ·rw [hT,if_pos ⟨by omega,by rw [List.length_drop];omega⟩,List.drop_drop]
 ·exact congrArg Value.string ((zEj s A1 (A1+n)).trans (by rw [show A1+n - A1=n by omega]))
theorem zFh{v:Value}:Sp PP F.yj #[v] w λr w'=>r=.func (.func F.yc) #[v] #[]/\w'=w:=by
 refine en TBok rfl ?_
 exact⟨rfl,rfl⟩
theorem zEJ{A:Nat}(hs:s.length<=4611686018427387904):Sp PP F.pz #[txt s,.int .i64 (A:Int),.func (.func F.yj) #[] #[]] w λv w' =>
  ((∃x A',RdsV rdT s A x A'/\v=.tuple #[txt x,.int .i64 ((A':Nat):Int),.bool true])\/(rdT (s.drop A)=none/\v=.tuple #[txt [],.int .i64 0,.bool false]))/\Stp w w':=by
 refine en TBok rfl ?_
 refine rbuild (cs:=[txt s,.int .i64 (A:Int),.bool false]) rfl (rbx λb w1 n1 B1=>rcall (zFh) ?_)
 rintro _ _ ⟨rfl,rfl⟩
 refine rcall (zEK B1 hs) ?_
 rintro v w2 ⟨⟨x,A',hr,rfl,B2⟩|⟨hno,a',rfl,B2⟩,f2⟩
 ·have s2:Stp w w2:=⟨Fr.st Le.e f2 λi hi=>by subst hi;exact n1.lo⟩
  refine rld (B:=B2) rfl (drawR TBok mixed (λ_=>False) (upF 8 0) (by kernel_rfl) λu3 e3 _=>tld (B:=B2) rfl nf ?_)
  exact⟨.inl ⟨x,A',hr,rfl⟩,stp⟩
 ·have s2:Stp w w2:=⟨Fr.st Le.e f2 λi hi=>by subst hi;exact n1.lo⟩
  refine rld (B:=B2) rfl ?_
  exact⟨.inr ⟨hno,rfl⟩,stp⟩
theorem zCU{A:Nat}(hs:s.length<=4611686018427387904):Sp PP F.dv #[txt s,.int .i64 (A:Int)] w λv w' =>
  ((∃x A',RdsV rdT s A x A'/\v=.tuple #[txt x,.int .i64 ((A':Nat):Int),.bool true])\/(rdT (s.drop A)=none/\v=.tuple #[txt [],.int .i64 0,.bool false]))/\Stp w w':=by
 refine en TBok rfl ?_
 refine rcall (zEJ hs) ?_
 rintro v w2 ⟨⟨x,A',hr,rfl⟩|⟨hno,rfl⟩,e2⟩
 ·exact⟨.inl ⟨x,A',hr,rfl⟩,stp⟩
 ·exact⟨.inr ⟨hno,rfl⟩,stp⟩
def intsN (l:List Nat):List Int:=l.map λn:Nat=>(n:Int)
theorem zDi{A b:Nat}(B:Bk w b [txt s,.int .i64 (A:Int),.bool false] E.qj)(hs:s.length<=4611686018427387904):
  Sp PP F.q3 #[.pointer (some ⟨b,0,none⟩)] w λv w' =>
   ((∃l A',RdsV rdRow s A l A'/\Own w.heap.size E.qa w' v (intsN l)/\Bk w' b [txt s,.int .i64 ((A':Nat):Int),.bool false] E.qj) \/
   (rdRow (s.drop A)=none/\∃a':Int,Bk w' b [txt s,.int .i64 a',.bool true] E.qj))/\Fr (λi=>i=b) w w':=by
 have hbw:=B.lt
 refine en TBok rfl ?_
 refine rcall (zE6 B hs) ?_
 rintro v w1 ⟨⟨n,A1,hr,rfl,B1⟩|⟨hno,x,a',rfl,B1⟩,f1⟩
 case' inr =>
  refine rld (B:=B1) rfl (rsto (B:=B1) (vs:=[.bool true]) rfl rfl rfl (zAo _) λu3 B3 f3 _=>cnt1 TBok 23 [2] 3 22 0 (λk v u=>k=0/\Fr (λi=>i=b) w u/\Bk u b [txt s,.int .i64 a',.bool true] E.qj) rfl rfl ⟨rfl,f1.trans f3,B3⟩ ?_)
  rintro k v g u hk ⟨rfl,fu,Bu⟩
  refine ite (λh=>?_) (λh=>⟨.inr ⟨zGX hno,_,Bu⟩,fu⟩)
  refine rld (B:=Bu) rfl ?_
  exact⟨.inr ⟨zGX hno,_,Bu⟩,fu⟩
 have hn:=rdN_le hr.2
 have hT:=zLG hr.2
 have hA1:=hr.1
 refine rld (B:=B1) rfl (ite (λh1=>?_) (λh1=>?_))
 ·refine rsto (B:=B1) (vs:=[.bool true]) rfl rfl rfl (zAo _) λu3 B3 f3 _=>?_
  have hno:rdRow (s.drop A)=none:=by rw [hT,if_neg (by omega)]
  refine cnt1 TBok 23 [2] 3 22 0 (λk v u=>k=0/\Fr (λi=>i=b) w u/\Bk u b [txt s,.int .i64 (A1:Int),.bool true] E.qj) rfl rfl ⟨rfl,f1.trans f3,B3⟩ ?_
  rintro k v g u hk ⟨rfl,fu,Bu⟩
  refine ite (λh=>?_) (λh=>⟨.inr ⟨hno,_,Bu⟩,fu⟩)
  refine rld (B:=Bu) rfl ?_
  exact⟨.inr ⟨hno,_,Bu⟩,fu⟩
 rw [if_pos (by omega)] at hT
 refine rsto (B:=B1) (vs:=[.bool false]) rfl rfl rfl (zAo _) λu3 B3 f3 _=>?_
 refine cnt1 TBok 23 [2] 3 22 n (λk v u=>Fr (λi=>i=b) w u/\((∃acc A',acc.length=k/\A'<=s.length/\Own w.heap.size E.qa u v (intsN acc)/\Bk u b [txt s,.int .i64 ((A':Nat):Int),.bool false] E.qj/\preR acc (rdMany rdN (n - k) (s.drop A'))=rdMany rdN n (s.drop A1)) \/
   (rdRow (s.drop A)=none/\∃a':Int,Bk u b [txt s,.int .i64 a',.bool true] E.qj))) rfl rfl ⟨f1.trans f3,.inl ⟨[],A1,rfl,hA1,Own.nil _ _ _,B3,by rw [zD8,Nat.sub_zero]⟩⟩ ?_
 rintro k v g u hk ⟨fu,⟨acc,A',hl,hA',O,Bu,hp⟩|⟨hno,a',Bu⟩⟩
 ·refine ite (λh=>?_) (λh=>?_)
  ·refine rld (B:=Bu) rfl (rcall (zE6 Bu hs) ?_)
   rintro v2 u1 ⟨⟨m,A2,hr2,rfl,B2⟩|⟨hno,x,a',rfl,B2⟩,f2⟩
   ·have O2:=O.frc f2 Bu (by decide)
    refine rbs1 (m:Int) rfl rfl (by decide) λb4 u4 e4 _ S4=>?_
    have hB4:w.heap.size<=u4.heap.size:=by have h1:=fu.size;have h2:=f2.size;have h3:=e4.e.size;omega
    refine rappB ⟨rfl,rfl⟩ (O2.up (w':=u4)) S4 hB4 (by simp [intsN];omega) λv5 u5 O5 f5=>?_
    have B5:=(B2.mv (w:=u4)).fro (O2.up (w':=u4)) f5 (by decide)
    have O5':Own w.heap.size E.qa u5 v5 (intsN (acc++[m])):=by rw [show intsN (acc++[m])=intsN acc++[(m:Int)] by simp [intsN]];exact O5
    refine rA ⟨rfl,by omega,Fr.new ((fu.trans f2).trans (Fr.fr e4.e)) f5 (λi hi=>hi.1),.inl ⟨acc++[m],A2,by simp [hl],hr2.1,O5',B5,?_⟩⟩
    rw [<-hp,show n - k=(n - (k+1))+1 by omega,zAS hr2.2]
   ·have hno':rdRow (s.drop A)=none:=by
     rw [hT,<-hp,show n - k=(n - (k+1))+1 by omega,zCc hno];rfl
    refine rbs1 (x:Int) rfl rfl (by decide) λb4 u4 e4 _ S4=>?_
    have hB4:w.heap.size<=u4.heap.size:=by have h1:=fu.size;have h2:=f2.size;have h3:=e4.e.size;omega
    refine rappB ⟨rfl,rfl⟩ ((O.frc f2 Bu (by decide)).up (w':=u4)) S4 hB4 (by simp [intsN];omega) λv5 u5 O5 f5=>?_
    have B5:=(B2.mv (w:=u4)).fro ((O.frc f2 Bu (by decide)).up (w':=u4)) f5 (by decide)
    exact rA ⟨rfl,by omega,Fr.new ((fu.trans f2).trans (Fr.fr e4.e)) f5 (λi hi=>hi.1),.inr ⟨hno',_,B5⟩⟩
  ·have q_:k=n:=by omega
   obtain rfl:=q_
   refine⟨.inl ⟨acc,A',⟨hA',?_⟩,O,Bu⟩,fu⟩
   rw [hT,<-hp,Nat.sub_self]
   simp [rdMany,preR]
 ·refine ite (λh=>?_) (λh=>⟨.inr ⟨hno,_,Bu⟩,fu⟩)
  refine rld (B:=Bu) rfl ?_
  exact⟨.inr ⟨hno,_,Bu⟩,fu⟩
theorem zDJ{v:Value}:Sp PP F.q6 #[v] w λr w'=>r=.func (.func F.q3) #[v] #[]/\w'=w:=by
 refine en TBok rfl ?_
 exact⟨rfl,rfl⟩
abbrev RowV (s:List UInt8) (A:Nat) (w:World) (v:Value) (w':World):Prop:=
 ((∃l A' v',RdsV rdRow s A l A'/\v=.tuple #[v',.int .i64 ((A':Nat):Int),.bool true]/\Own w.heap.size E.qa w' v' (intsN l))\/(rdRow (s.drop A)=none/\v=.tuple #[.slice none 0 0,.int .i64 0,.bool false]))/\Stp w w'
theorem zFC{A:Nat}(hs:s.length<=4611686018427387904):Sp PP F.dh #[txt s,.int .i64 (A:Int),.func (.func F.q6) #[] #[]] w (RowV s A w):=by
 refine en TBok rfl ?_
 refine rbuild (cs:=[txt s,.int .i64 (A:Int),.bool false]) rfl (rbx λb w1 n1 B1=>rcall (zDJ) ?_)
 rintro _ w1' ⟨rfl,rfl⟩
 refine rcall (zDi B1 hs) ?_
 rintro v w2 ⟨⟨l,A',hr,O,B2⟩|⟨hno,a',B2⟩,f2⟩
 ·have s2:Stp w w2:=⟨Fr.st Le.e f2 λi hi=>by subst hi;exact n1.lo⟩
  refine rld (B:=B2) rfl (drawR TBok mixed (λ_=>False) (upF 8 0) (by kernel_rfl) λu3 e3 _=>tld (B:=B2) rfl nf ?_)
  exact⟨.inl ⟨l,A',_,hr,rfl,(O.up (w':=u3)).mono (Le.size (a:=w) (b:=w1'))⟩,stp⟩
 ·have s2:Stp w w2:=⟨Fr.st Le.e f2 λi hi=>by subst hi;exact n1.lo⟩
  refine rld (B:=B2) rfl ?_
  exact⟨.inr ⟨hno,rfl⟩,stp⟩
theorem zEI{A:Nat}(hs:s.length<=4611686018427387904):Sp PP F.pw #[txt s,.int .i64 (A:Int)] w (RowV s A w):=by
 refine en TBok rfl ?_
 refine rcall (zFC hs) ?_
 rintro v w2 ⟨⟨l,A',v',hr,rfl,O⟩|⟨hno,rfl⟩,e2⟩
 ·exact⟨.inl ⟨l,A',v',hr,rfl,O⟩,stp⟩
 ·exact⟨.inr ⟨hno,rfl⟩,stp⟩
section
variable {P:Program} {α:Type} [Enc α] [DecidableEq α] {t:TypeId}
theorem findAsk(Q:EqT P t α)(k:α)(w:World):∀(es:List MapEntry) (m:List (α×Value)) (i:Nat),EntM agg es m->(Instr.findAsking t (agg k) es i).run P w=.ok (findM k m i) w
 |[],m,i,h=>by rw [zDk h];rfl
 |e::es,m,i,h=>by
  have q_:=zDU h
  obtain⟨k',r,rfl,hk,hr⟩:=q_
  have ih:=findAsk Q k w es r (i+1) hr
  unfold Instr.findAsking findM
  rw [hk]
  have q_:=Q.eq 9992 k k' w
  obtain⟨b,h1,h2⟩:=q_
  have h1':(Op.equal t (agg k) (agg k')).run P w=.ok b w:=h1
  simp only [Sem.run_bind,h1',Result.andThen_ok]
  cases b with
  |true=>rw [if_pos rfl,if_pos (h2.1 rfl)];rfl
  |false=>rw [if_neg (by simp),if_neg (λe=>by have:=h2.2 e;cases this)];exact ih
@[reducible] def mkStc {fs:Array Field} (Q:EqT P t α) (hu:P.underlying t=some (.struct fs)) (hc:∀(e:Bool) (k:α) (w:World),(Instr.checkKey e 10000 t (agg k)).run P w=.ok () w) (hs:∀k:α,Instr.sameBits 10000 (agg k) (agg k)=true):MKey P t α where
 val:=agg
 check:=hc
 find k es m w h:=by
  unfold Instr.findKey
  simp only [underlying,Sem.run_bind,run_program,Result.andThen_ok,hu,Sem.run_pure]
  cases es with
  |nil=>rw [zDk h];rfl
  |cons e r =>
   have:Instr.findNow (.struct fs) (agg k) (e::r) 0=none:=by
    unfold Instr.findNow
    rfl
   rw [this]
   exact findAsk Q k w _ _ _ h
 same:=hs
end
theorem rlookE{kt:TypeId}{κ:Type}[DecidableEq κ][M:MKey P kt κ]{k:Value->World->Prop}{pn:List PanicEntry->World->Prop}{t e:TypeId}{z:Value}{sz by':Nat}[ht:MapT P t kt e][he:Elem P e z sz by']{b:Nat}{m:List (κ×Value)}{xv:Value}(h:MapL P kt w b m)(x:κ)(hx:xv=M.val x){v:Value}(hv:(getM m x).getD z=v)(hk:k v w):SemV P (Instr.lookup t (.map (some b)) xv false) k pn w:=by
 subst hv;exact rlook h x hx hk
theorem zMW(k:KeyD):Instr.sameBits 10000 (agg k) (agg k)=true:=by
 show Instr.sameBits 10000 (.agg #[.int .i64 k.slot,.int .i64 k.dir,.int .i64 k.v]) (.agg #[.int .i64 k.slot,.int .i64 k.dir,.int .i64 k.v])=true
 simp [Instr.sameBits]
theorem zLj{t ti:TypeId}{fs:Array Field}{q:IntKind}(hu:P.underlying t=some (.struct fs))(h1:One P ti)(hi:P.underlying ti=some (.int q))(xs:Array Value)
  (hb : fs.toList.all (λf => f.name != "_" && f.type == ti && decide (f.offset < xs.size)) = true)(e : Bool)(w : World) : (Instr.checkKey e 10000 t (.agg xs)).run P w = .ok () w := by
 rw [show (10000:Nat)=9999+1 from rfl,Instr.checkKey]
 simp only [Sem.run_bind,run_underlying hu,Result.andThen_ok]
 rw [<-Array.forIn_toList]
 generalize fs.toList=L at hb
 induction L with
 |nil=>simp
 |cons f L ih =>
  rw [List.all_cons,Bool.and_eq_true] at hb
  obtain⟨hf,hr⟩:=hb
  simp only [Bool.and_eq_true,bne_iff_ne,ne_eq,beq_iff_eq,decide_eq_true_eq] at hf
  obtain⟨⟨hn,ht⟩,ho⟩:=hf
  have p1:=zGe (P:=P) (ht ▸ h1) (cs:=xs) (o:=f.offset) (v:=xs[f.offset]) (by simp) w
  have p2:(Instr.checkKey e 9999 f.type xs[f.offset]).run P w=.ok () w:=by
   rw [ht,show (9999:Nat)=9998+1 from rfl,Instr.checkKey]
   simp only [Sem.run_bind,run_underlying hi,Result.andThen_ok]
   rfl
  simp only [List.forIn_cons,Sem.run_bind,hn,ne_eq,not_false_eq_true,if_true,Result.andThen_ok,p1,p2,Sem.run_pure]
  exact ih hr
theorem zL2(e:Bool)(k:KeyD)(w:World):(Instr.checkKey e 10000 E.ql (agg k)).run PP w=.ok () w:=
 zLj (ti:=E.qa) (q:=.i64) (fs:=Program.fieldsOf PP E.ql) (by kernel_rfl) inferInstance (by kernel_rfl) _ (by kernel_rfl) e w
noncomputable instance:MKey PP E.ql KeyD:=mkStc (fs:=Program.fieldsOf PP E.ql) inferInstance (by kernel_rfl) zL2 zMW
theorem zNf{l:List Int}(hk:k<l.length):(l.drop (l.length - (k+1))).reverse=(l.drop (l.length - k)).reverse++[l[l.length - 1 - k]]:=by
 have e:l.length - (k+1)=l.length - 1 - k:=by omega
 rw [e,List.drop_eq_getElem_cons (by omega),List.reverse_cons,show l.length - 1 - k+1=l.length - k by omega]
section
variable {P:Program} {k:Value->World->Prop} {pn:List PanicEntry->World->Prop} {w:World}
theorem rarU{x:Int}(hk:∀y,((-9223372036854775808<=x/\x<=9223372036854775807)->y=x)->k (.int .i64 y) w):ArS .i64 x k w:=by
 rw [zDj];exact hk _ λh=>zB2 h.1 h.2
theorem rixAI{t e:TypeId}{z:Value}{sz by':Nat}[ht:ArrT P t N e][he:Elem P e z sz by']{b o:Nat}{i:Int}(h0:0<=i)(h1:i<N)(hk:k (.pointer (some ⟨b,o+i.toNat*sz,none⟩)) w):
  SemV P (Instr.indexAt t (.pointer (some ⟨b,o,none⟩)) (.int .i64 i)) k pn w:=SemV.of (zNh ht he h0 h1 w) hk
end
theorem zA9{c:Nat}{l:List Int}(h:SlF w (.slice a n c) l)(hn:l.length<=1000000):
  Sp PP F.p6 #[.slice a n c] w λv w'=>Own w.heap.size E.qa w' v l/\Stp w w':=by
 have q_:=h.len
 obtain rfl:=q_
 refine en TBok rfl ?_
 refine rsnil (λh0=>?_) (λh0=>?_)
 ·obtain⟨a',c',hv,hc,hh⟩:=h
  cases hv
  have:l=[]:=by rcases hh with h|⟨b,o,h,_⟩;exact h;rw [h0] at h;cases h
  subst this
  exact⟨Own.nil _ _ _,stp⟩
 ·refine rbs (n:=0) (vs:=[]) ([]:List Int) rfl rfl rfl (by omega) λb w1 n1 S1=>rapp (u:=w) ⟨rfl,rfl⟩ (Own.nil' w.heap.size E.qa w1 _) h.up (by simp;omega) λv3 w3 O3 f3 s3=>?_
  rw [List.nil_append] at O3
  exact⟨O3,stp⟩
theorem zIG{c:Nat}{l:List Int}{x:Int}(h:SlF w (.slice a n c) l)(hn:l.length<=1000000):
  Sp PP F.p8 #[.slice a n c,.int .i64 x] w λv w'=>(∃i:Int,v=.int .i64 i/\(0<=i↔x∈l))/\Stp w w':=by
 have q_:=h.len
 obtain rfl:=q_
 refine en TBok rfl ?_
 refine cnt TBok 8 [4,5] 8 l.length (λk w'=>(∀j,j<k->¬l[j]? = some x)/\Stp w w') rfl rfl ⟨by omega,stp⟩ ?_
 rintro k g w' hk ⟨hb,e⟩
 refine ite (λhlt=>?_) (λhge=>?_)
 ·have hka:k<l.length:=by omega
  refine rix h.up (x:=l[k]) (by simp) λb2 o2 A2=>rload1 (A2.cell0 rfl) (ite (λhe=>?_) (λhne=>?_))
  ·exact⟨⟨_,rfl,⟨λ_=>by rw [he];exact List.getElem_mem hka,λ_=>by omega⟩⟩,stp⟩
  ·exact rA ⟨rfl,hka,below hb (by simpa [hka] using Ne.symm hne),stp⟩
 ·have q_:k=l.length:=by omega
  obtain rfl:=q_
  refine⟨⟨_,rfl,⟨λh=>absurd h (by decide),λhm=>?_⟩⟩,stp⟩
  have q_:=List.mem_iff_getElem.1 hm
  obtain⟨j,hj,rfl⟩:=q_
  exact absurd (by simp) (hb j hj)
theorem zCX{c:Nat}{l:List Int}{x:Int}(h:SlF w (.slice a n c) l)(hn:l.length<=1000000):
  Sp PP F.zv #[.slice a n c,.int .i64 x] w λv w'=>Tells (x∈l) v/\Stp w w':=by
 refine en TBok rfl ?_
 refine rcall (zIG h hn) ?_
 rintro v w1 ⟨⟨i,rfl,hi⟩,e1⟩
 exact ite (λh=>⟨.t (hi.1 h),stp⟩) (λh=>⟨.f λhm=>h (hi.2 hm),stp⟩)
def markC (s:List Int):List Value:=(List.range 400).map λi:Nat=>Value.bool (decide ((i:Int)∈s))
theorem zH0(s:List Int):(markC s).length=400:=by simp [markC]
theorem zL7(s:List Int){i:Int}(h0:0<=i)(h1:i<400):(markC s)[i.toNat]? = some (.bool (decide (i∈s))):=by
 unfold markC
 rw [List.getElem?_map,List.getElem?_range (by omega)]
 simp [Int.toNat_of_nonneg h0]
theorem zL9(s:List Int){i:Int}(h0:0<=i)(h1:i<400):splice (markC s) i.toNat [.bool true]=markC (s++[i]):=by
 rw [splice1 _ _ _ (by rw [zH0];omega)]
 refine List.ext_getElem? λj=>?_
 rw [List.getElem?_set]
 unfold markC
 simp only [List.getElem?_map,List.length_map,List.length_range]
 by_cases hj:j<400
 ·rw [List.getElem?_range hj]
  by_cases e:i.toNat=j
  ·have:(j:Int)=i:=by omega
   simp [e,hj,this]
  ·have:(j:Int)≠i:=by omega
   simp [e,this]
 ·have:¬i.toNat=j:=by omega
  rw [if_neg this,List.getElem?_eq_none (by simpa using hj)];rfl
theorem zL8:(Value.agg (Array.replicate 400 (Value.bool false))).cells.toList=markC []:=by kernel_rfl
theorem zEr{sz:Int}{c:Nat}{l:List Int}(h:SlF w (.slice a n c) l)(hn:l.length<=1000000):
  Sp PP F.qad #[plV sz a n c] w λv w'=>Tells (okP sz l) v/\Stp w w':=by
 have q_:=h.len
 obtain rfl:=q_
 refine en TBok rfl ?_
 refine rbx λb1 w1 n1 B1=>ral λb2 w2 n2 B2=>?_
 rw [zL8] at B2
 refine rld rfl ?_
 refine cnt TBok 9 [2,5] 9 l.length (λk u=>(∀j,j<k->(hl:j<l.length)->0<=l[j]/\l[j]<sz)/\(l.take k).Nodup/\Bk u b2 (markC (l.take k)) E.yv/\Stp w1 u) rfl rfl ⟨by omega,by simp,by rw [List.take_zero];exact B2,stp⟩ ?_
 rintro k g u hk ⟨hb,hnd,Bm,e⟩
 clear B2
 refine ite (λhlt=>?_) (λhge=>?_)
 ·have hka:k<l.length:=by omega
  refine rix (h.up (w':=u)) (x:=l[k]) (by simp) λb4 o4 A4=>rload1 (A4.cell0 rfl) ?_
  refine ite (λh3=>⟨.f λo=>by have:=o.2.2.1 _ (List.getElem_mem hka);omega,stp⟩) (λh3=>?_)
  refine rld rfl ?_
  refine ite (λh4=>⟨.f λo=>by have:=o.2.2.1 _ (List.getElem_mem hka);omega,stp⟩) (λh4=>?_)
  refine ite (λh5=>⟨.f λo=>by have:=o.2.2.1 _ (List.getElem_mem hka);have:=o.2.1;omega,stp⟩) (λh5=>?_)
  refine rixAI (by omega) (by omega) ?_
  refine rldK (B:=Bm) (v:=.bool (decide (l[k]∈l.take k))) (by rw [Nat.zero_add,Nat.mul_one];exact zL7 _ (by omega) (by omega)) ?_
  by_cases hm:l[k]∈l.take k
  ·rw [decide_eq_true hm]
   refine⟨.f λo=>?_,stp⟩
   have hnd2:(l.take (k+1)).Nodup:=o.2.2.2.sublist (List.take_sublist _ _)
   rw [zAa hka,List.nodup_append] at hnd2
   exact hnd2.2.2 _ hm l[k] (by simp) rfl
  ·rw [decide_eq_false hm]
   refine rixAI (by omega) (by omega) ?_
   refine rstK (B:=Bm) (vs:=[.bool true]) rfl rfl (by rw [zH0];simp only [List.length_singleton];omega) (by simp;rfl) λw6 B6 f6 _=>?_
   have s6:Stp w1 w6:=⟨Fr.st Le.e f6 λi hi=>by subst hi;exact n2.lo⟩
   rw [Nat.zero_add,Nat.mul_one,zL9 _ (by omega) (by omega),<-zAa hka] at B6
   refine rA ⟨rfl,hka,below2 hb λ_=>⟨by omega,by omega⟩,?_,B6,s6⟩
   rw [zAa hka,List.nodup_append]
   exact⟨hnd,by simp,λa ha b hb=>by simp only [List.mem_singleton] at hb;subst hb;exact λe=>hm (e ▸ ha)⟩
 ·have q_:k=l.length:=by omega
  obtain rfl:=q_
  rw [List.take_length] at hnd
  have hall:∀x∈l,0<=x/\x<sz:=λx hx=>by
   have q_:=List.mem_iff_getElem.1 hx
   obtain⟨j,hj,rfl⟩:=q_
   exact hb j hj hj
  refine rld (B:=B1) rfl ?_
  refine ite (λh6=>?_) (λh6=>⟨.f λo=>h6 o.1,stp⟩)
  refine rld (B:=B1) rfl ?_
  exact ite (λh7=>⟨.t ⟨h6,h7,hall,hnd⟩,stp⟩) (λh7=>⟨.f λo=>h7 o.2.1,stp⟩)
theorem zKk{size:Int}:Sp PP F.qa4 #[.int .i64 size] w λv w'=>(∃pv,v=.tuple #[pv,.int .i64 (newP size).2]/\PoolO w.heap.size w' pv (newP size).1)/\Stp w w':=by
 refine en TBok rfl ?_
 refine ral λb1 w1 n1 B1=>?_
 unfold newP
 refine ite (λh1=>?_) (λh1=>?_)
 ·rw [if_pos (.inl h1)]
  refine rbuild (cs:=[.int .i64 0,.slice none 0 0]) rfl (rsto (vs:=[.int .i64 0,.slice none 0 0]) rfl rfl rfl (pl_one _ _ _ _) λw2 B2 f2 _=>?_)
  have s2:Stp w w2:=⟨Fr.st Le.e f2 λi hi=>by subst hi;exact n1.lo⟩
  refine rresG rfl ?_
  exact⟨⟨_,rfl,zP_o _ _⟩,stp⟩
 refine ite (λh2=>?_) (λh2=>?_)
 ·rw [if_pos (.inr h2)]
  refine rbuild (cs:=[.int .i64 0,.slice none 0 0]) rfl (rsto (vs:=[.int .i64 0,.slice none 0 0]) rfl rfl rfl (pl_one _ _ _ _) λw2 B2 f2 _=>?_)
  have s2:Stp w w2:=⟨Fr.st Le.e f2 λi hi=>by subst hi;exact n1.lo⟩
  refine rresG rfl ?_
  exact⟨⟨_,rfl,zP_o _ _⟩,stp⟩
 rw [if_neg (by omega)]
 have q_:=Int.eq_ofNat_of_zero_le (show (0:Int)<=size by omega)
 obtain⟨N,rfl⟩:=q_
 rw [Int.toNat_natCast]
 have hdl:=zCr N
 refine rbuild (cs:=[.int .i64 (N:Nat),.slice none 0 0]) rfl (ral λb2 w2 n2 B2=>rsto (vs:=[.int .i64 (N:Nat),.slice none 0 0]) rfl rfl rfl (pl_one _ _ _ _) λw3 B3 f3 _=>?_)
 have s3:Stp w1 w3:=⟨Fr.st Le.e f3 λi hi=>by subst hi;exact n2.lo⟩
 refine cnt TBok 16 [5] 16 N (λk u=>∃a c,Bk u b2 [.int .i64 (N:Nat),.slice a k c] E.yk/\Own w1.heap.size E.qa u (.slice a k c) ((downTo N).take k)/\Stp w1 u) rfl rfl ⟨none,0,B3,Own.nil _ _ _,stp⟩ ?_
 rintro k g u hk ⟨a,c,Bp,O,e⟩
 clear B3
 refine ite (λhlt=>?_) (λhge=>?_)
 ·have hka:k<N:=by omega
  refine rld (B:=Bp) rfl (rA (rA ?_))
  refine rbs1 ((N:Int) - 1 - k) rfl rfl (by decide) λb4 w4 e4 _ S4=>rapp1 (u:=w1) ⟨rfl,rfl⟩ O.up S4 (by rw [List.length_take];omega) λv5 w5 O5 f5 s5=>?_
  have Bp5:=(Bp.mv (w:=w4)).fro O.up f5 (by decide)
  have hn5:((downTo N).take k++[((N:Int) - 1 - k)])=(downTo N).take (k+1):=by
   rw [zJ6 hka,show (((N - 1 - k:Nat)):Int)=(N:Int) - 1 - k by omega]
  rw [hn5] at O5
  have hl5:((downTo N).take (k+1)).length=k+1:=by rw [List.length_take];omega
  have q5:=O5.shape
  rw [hl5] at q5
  obtain⟨a5,c5,rfl⟩:=q5
  refine rsto (B:=Bp5) (vs:=[.slice a5 (k+1) c5]) rfl rfl rfl (by simp;rfl) λw6 B6 f6 _=>?_
  have s6:Stp w1 w6:=⟨Fr.st Le.e f6 λi hi=>by subst hi;exact n2.lo⟩
  exact rA ⟨rfl,hka,a5,c5,B6,O5.frc f6 Bp5 (by decide),s6⟩
 ·have q_:k=N:=by omega
  obtain rfl:=q_
  refine rldG (B:=Bp) rfl rfl ?_
  have C1:=B1.mv (w:=u)
  refine rsto (B:=C1) (vs:=[.int .i64 (k:Nat),.slice a k c]) rfl rfl rfl (pl_one _ _ _ _) λw6 B6 f6 _=>?_
  have s6:Stp w w6:=⟨Fr.st Le.e f6 λi hi=>by subst hi;exact n1.lo⟩
  refine rresG rfl ?_
  have O6:=O.frc f6 C1 (by decide)
  rw [List.take_of_length_le (by omega)] at O6
  exact⟨⟨_,rfl,(PoolO.mk O6).older⟩,stp⟩
theorem zJv{sz m:Int}{c:Nat}{l:List Int}(h:SlF w (.slice a n c) l)(hn:l.length<=100000):
  Sp PP F.qau #[plV sz a n c,.int .i64 m] w λv w'=>(∃pv,v=.tuple #[pv,.int .i64 (giveP (sz,l) m).2]/\PoolO w.heap.size w' pv (giveP (sz,l) m).1)/\Stp w w':=by
 have q_:=h.len
 obtain rfl:=q_
 refine en TBok rfl ?_
 refine rbx λb1 w1 n1 B1=>ral λb3 w2 n2 B3=>?_
 have hb1:=n1.b;have hb3:=n2.b;have hs1:=n1.s;have hs2:=n2.s
 have zero:∀(e:Int) (u:World),Stp w2 u->giveP (sz,l) m=(zP,e)->∀w4,Bk w4 b3 [.int .i64 0,.slice none 0 0] E.yk->Fr (λi=>i=b3) u w4->(∃pv,Value.tuple #[plV 0 none 0 0,.int .i64 e]=.tuple #[pv,.int .i64 (giveP (sz,l) m).2]/\PoolO w.heap.size w4 pv (giveP (sz,l) m).1)/\Stp w w4:=by
  intro e u s ht w4 _ f4
  rw [ht]
  exact⟨⟨_,rfl,zP_o _ _⟩,⟨Fr.st Le.e f4 λi hi=>by subst hi;exact n2.lo⟩⟩
 refine rldG rfl rfl ?_
 refine rcall (zEr (h.up (w':=w2)) (by omega)) ?_
 rintro v w3 ⟨⟨rfl,ho⟩|⟨rfl,ho⟩,e3⟩
 ·refine ite (λh1=>?_) (λh1=>?_)
  ·refine rbuild (cs:=[.int .i64 0,.slice none 0 0]) rfl ?_
   refine rsto (vs:=[.int .i64 0,.slice none 0 0]) rfl rfl rfl (pl_one _ _ _ _) λw4 B4 f4 _=>?_
   refine rresG rfl ?_
   exact zero 1 _ stp (by unfold giveP;rw [if_pos ho,if_pos (.inl h1)]) w4 B4 f4
  refine rld rfl ?_
  refine ite (λh2=>?_) (λh2=>?_)
  ·refine rbuild (cs:=[.int .i64 0,.slice none 0 0]) rfl ?_
   refine rsto (vs:=[.int .i64 0,.slice none 0 0]) rfl rfl rfl (pl_one _ _ _ _) λw4 B4 f4 _=>?_
   refine rresG rfl ?_
   exact zero 1 _ stp (by unfold giveP;rw [if_pos ho,if_pos (.inr h2)]) w4 B4 f4
  refine rld rfl ?_
  refine rcall (zCX (h.up (w':=w3)) (by omega)) ?_
  rintro v w4 ⟨⟨rfl,hi⟩|⟨rfl,hi⟩,e4⟩
  ·refine rbuild (cs:=[.int .i64 0,.slice none 0 0]) rfl ?_
   refine rsto (vs:=[.int .i64 0,.slice none 0 0]) rfl rfl rfl (pl_one _ _ _ _) λw5 B5 f5 _=>?_
   refine rresG rfl ?_
   exact zero 150 _ stp (by unfold giveP;rw [if_pos ho,if_neg (λh=>h.elim h1 h2),if_pos hi]) w5 B5 f5
  ·have hg:giveP (sz,l) m=((sz,l++[m]),0):=by unfold giveP;rw [if_pos ho,if_neg (λh=>h.elim h1 h2),if_neg hi]
   rw [hg]
   refine drawRT TBok mixed (λi=>i=b3\/w2.heap.size<=i) (.one 0 (.one 1 (.one 2 (.one 3 (.one 5 (.two 4 (.one 6 (.one 7 (.one 8 (.one 9 (.one 10 .nil))))) 6 (.one 4 (.one 7 (.one 8 (.one 9 (.one 10 .nil))))))))))) (by kernel_rfl) λu1 e1 _=>?_
   refine tld rfl (by omega) ?_
   refine tld rfl (by omega) ?_
   refine⟨?_,?_⟩
   ·refine rcall (zA9 (h.up (w':=u1)) (by omega)) ?_
    rintro v w5 ⟨O5,e5⟩
    refine⟨e5.e.fr,?_⟩
    refine rbs1 m rfl rfl (by decide) λb6 w6 e6 _ S6=>⟨e6.e.fr,?_⟩
    refine rapp1 (u:=u1) ⟨rfl,rfl⟩ O5.up S6 (by omega) λv7 w7 O7 f7 s7=>⟨s7.e.mono λi _ hi=>.inr (Nat.le_trans (Le.size (a:=w2) (b:=u1)) hi),?_⟩
    have q_:=O7.shape
    obtain⟨a7,c7,rfl⟩:=q_
    refine tbuild (cs:=[.int .i64 sz,.slice a7 (l++[m]).length c7]) rfl ?_
    have C3:=B3.mv (w:=w7)
    refine rsto (B:=C3) (vs:=[.int .i64 sz,.slice a7 (l++[m]).length c7]) rfl rfl rfl (pl_one _ _ _ _) λw8 B8 f8 _=>?_
    have s8:Stp w w8:=⟨Fr.st Le.e f8 λi hi=>by subst hi;exact n2.lo⟩
    refine⟨f8.mono λi _ hi=>.inl hi,?_⟩
    refine rresG rfl ?_
    exact⟨⟨_,rfl,(PoolO.mk (O7.frc f8 C3 (by decide))).older⟩,stp⟩
   ·refine rbs1 m rfl rfl (by decide) λb6 w6 e6 _ S6=>⟨e6.e.fr,?_⟩
    refine rcall (zA9 (h.up (w':=w6)) (by omega)) ?_
    rintro v w5 ⟨O5,e5⟩
    refine⟨e5.e.fr,?_⟩
    refine rapp1 (u:=w6) ⟨rfl,rfl⟩ O5.up (S6.up (w':=w5)) (by omega) λv7 w7 O7 f7 s7=>⟨s7.e.mono λi _ hi=>.inr (Nat.le_trans (Le.size (a:=w2) (b:=w6)) hi),?_⟩
    have q_:=O7.shape
    obtain⟨a7,c7,rfl⟩:=q_
    refine tbuild (cs:=[.int .i64 sz,.slice a7 (l++[m]).length c7]) rfl ?_
    have C3:=B3.mv (w:=w7)
    refine rsto (B:=C3) (vs:=[.int .i64 sz,.slice a7 (l++[m]).length c7]) rfl rfl rfl (pl_one _ _ _ _) λw8 B8 f8 _=>?_
    have s8:Stp w w8:=⟨Fr.st Le.e f8 λi hi=>by subst hi;exact n2.lo⟩
    refine⟨f8.mono λi _ hi=>.inl hi,?_⟩
    refine rresG rfl ?_
    exact⟨⟨_,rfl,(PoolO.mk (O7.frc f8 C3 (by decide))).older⟩,stp⟩
 ·refine rbuild (cs:=[.int .i64 0,.slice none 0 0]) rfl ?_
  refine rsto (vs:=[.int .i64 0,.slice none 0 0]) rfl rfl rfl (pl_one _ _ _ _) λw4 B4 f4 _=>?_
  refine rresG rfl ?_
  exact zero 130 _ stp (by unfold giveP;rw [if_neg ho]) w4 B4 f4
def backXs (l:List Int):List (List Value):=(List.range l.length).reverse.map λi:Nat=>[.int .i64 i,.int .i64 (l.getD i 0)]
theorem zDP(l:List Int):(backXs l).length=l.length:=by simp [backXs]
theorem zLh{l:List Int}:∀x∈backXs l,x.length=2:=by
 intro x hx;unfold backXs at hx;obtain⟨k,_,rfl⟩:=List.mem_map.1 hx;rfl
theorem zGx{l:List Int}(h:k<l.length):(backXs l)[k]? = some [.int .i64 ((l.length - 1 - k:Nat):Int),.int .i64 (l[l.length - 1 - k]'(by omega))]:=by
 unfold backXs
 rw [List.getElem?_map,List.getElem?_reverse (by simpa using h),List.length_range,List.getElem?_range (by omega)]
 simp only [Option.map_some,zAx (show l.length - 1 - k<l.length by omega)]
structure BackDat (l:List Int) (a:Option Addr) (c bs:Nat) (u:World):Prop where
 s:SlF u (.slice a l.length c) l
 b:Bk u bs [.slice a l.length c] E.q7
theorem zMx{l:List Int}{c bs:Nat}(hn:l.length<=1000000):
  SeqOf PP F.qo [] [.pointer (some ⟨bs,0,none⟩)] (BackDat l a c bs) (backXs l):=by
 refine⟨λy J Jx w hJ hJx hD hY h0=>?_⟩
 refine en TBok rfl ?_
 refine rload1 ((hD 0 w h0).b.at.cell0 rfl) (rA (loop1 TBok 4 [] 3 (λv u=>∃k:Nat,k<=l.length/\∃j:Int,v=.int .i64 j/\j=(l.length:Int) - 1 - k/\J k u) (λv _=>((Go.RowKit.intOf v)+1).toNat) rfl ⟨0,by omega,_,rfl,by omega,h0⟩ ?_))
 rintro v g u ⟨k,hk,j,rfl,hj,hJk⟩
 refine ite (λhge=>?_) (λhlt=>?_)
 ·have q_:=Int.eq_ofNat_of_zero_le hge
  obtain⟨jn,rfl⟩:=q_
  have hka:k<l.length:=by omega
  have hjn:jn=l.length - 1 - k:=by omega
  have hd:=hD _ _ hJk
  refine rload1 (hd.b.at.cell0 rfl) (rix hd.s (x:=l[jn]'(by omega)) (by simp) λb4 o4 A4=>rload1 (A4.cell0 rfl) ?_)
  have hx:(backXs l)[k]? = some [.int .i64 (jn:Nat),.int .i64 (l[jn]'(by omega))]:=by subst hjn;exact zGx hka
  refine ryield rfl rfl rfl rfl (hY k u _ hx hJk) ?_
  rintro b u' (⟨rfl,hu'⟩|⟨rfl,hu'⟩)
  ·refine rA ⟨⟨k+1,by omega,_,rfl,by omega,hu'⟩,?_⟩
   show (((jn:Int) - 1)+1).toNat<((jn:Int)+1).toNat
   omega
  ·exact .inr hu'
 ·have q_:k=l.length:=by omega
  obtain rfl:=q_
  rw [<-zDP l] at hJk
  exact .inl hJk
theorem zJ3{c:Nat}{l:List Int}(h:SlF w (.slice a n c) l):
  Sp PP F.zx #[.slice a n c] w λv w'=>(∃bs,v=.func (.func F.qo) #[] #[.pointer (some ⟨bs,0,none⟩)]/\w.heap.size<=bs/\BackDat l a c bs w')/\Stp w w':=by
 have q_:=h.len
 obtain rfl:=q_
 refine en TBok rfl ?_
 refine rbx λb1 w1 n1 B1=>?_
 exact⟨⟨b1,rfl,n1.lo,h.up,B1.mv⟩,stp⟩
theorem takeX{l:List Int}{y:List Value}(hm:m<=l.length)(h:(backXs (l.drop m))[k]? = some y):∃hk:k<l.length - m,y=[.int .i64 (((l.length - m) - 1 - k:Nat):Int),.int .i64 (l[l.length - 1 - k]'(by omega))]/\(l.drop (l.length - (k+1))).reverse=(l.drop (l.length - k)).reverse++[l[l.length - 1 - k]'(by omega)]:=by
 have hk:=(List.getElem?_eq_some_iff.1 h).1
 rw [zDP,List.length_drop] at hk
 refine⟨hk,?_,zNf (by omega)⟩
 rw [zGx (by rw [List.length_drop];exact hk)] at h
 injection h with h
 subst h
 have e:m+(l.length - m - 1 - k)=l.length - 1 - k:=by omega
 simp only [List.length_drop,List.getElem_drop,e]
theorem zIt{sz m:Int}{c:Nat}{l:List Int}(h:SlF w (.slice a n c) l)(hn:l.length<=100000)(hm:-9223372036854775808<=m/\m<=9223372036854775807):
  Sp PP F.qaf #[plV sz a n c,.int .i64 m] w λv w'=>(∃lv pv,v=.tuple #[lv,pv,.int .i64 (takesP (sz,l) m).2.2]/\Own w.heap.size E.qa w' lv (takesP (sz,l) m).1/\PoolO w.heap.size w' pv (takesP (sz,l) m).2.1)/\Stp w w':=by
 have q_:=h.len
 obtain rfl:=q_
 refine en TBok rfl ?_
 refine rbx λb1 w1 n1 B1=>ral λb3 w2 n2 B3=>?_
 have hb1:=n1.b;have hb3:=n2.b;have hs1:=n1.s;have hs2:=n2.s
 have zero:∀(e:Int) (u:World),Stp w2 u->takesP (sz,l) m=([],zP,e)->∀w4,Bk w4 b3 [.int .i64 0,.slice none 0 0] E.yk->Fr (λi=>i=b3) u w4->(∃lv pv,Value.tuple #[.slice none 0 0,plV 0 none 0 0,.int .i64 e]=.tuple #[lv,pv,.int .i64 (takesP (sz,l) m).2.2]/\Own w.heap.size E.qa w4 lv (takesP (sz,l) m).1/\PoolO w.heap.size w4 pv (takesP (sz,l) m).2.1)/\Stp w w4:=by
  intro e u s ht w4 _ f4
  rw [ht]
  exact⟨⟨_,_,rfl,Own.nil _ _ _,zP_o _ _⟩,⟨Fr.st Le.e f4 λi hi=>by subst hi;exact n2.lo⟩⟩
 refine rld rfl ?_
 refine rarU λleft hleft=>?_
 refine rldG rfl rfl ?_
 refine rcall (zEr (h.up (w':=w2)) (by omega)) ?_
 rintro v w3 ⟨⟨rfl,ho⟩|⟨rfl,ho⟩,e3⟩
 ·refine ite (λh1=>?_) (λh1=>?_)
  ·refine rbuild (cs:=[.int .i64 0,.slice none 0 0]) rfl ?_
   refine rsto (vs:=[.int .i64 0,.slice none 0 0]) rfl rfl rfl (pl_one _ _ _ _) λw4 B4 f4 _=>?_
   refine rresG rfl ?_
   exact zero 1 _ stp (by unfold takesP;rw [if_pos ho,if_pos h1]) w4 B4 f4
  have hleft:=hleft (by omega)
  refine ite (λh2=>?_) (λh2=>?_)
  ·refine rbuild (cs:=[.int .i64 0,.slice none 0 0]) rfl ?_
   refine rsto (vs:=[.int .i64 0,.slice none 0 0]) rfl rfl rfl (pl_one _ _ _ _) λw4 B4 f4 _=>?_
   refine rresG rfl ?_
   exact zero 140 _ stp (by unfold takesP;rw [if_pos ho,if_neg h1,if_pos (by dsimp only;omega)]) w4 B4 f4
  have q_:=Int.eq_ofNat_of_zero_le (show (0:Int)<=m by omega)
  obtain⟨M,rfl⟩:=q_
  have q_:=Int.eq_ofNat_of_zero_le (show (0:Int)<=left by omega)
  obtain⟨K,rfl⟩:=q_
  have hK:K=l.length - M:=by omega
  have hKl:K<=l.length:=by omega
  have ht:takesP (sz,l) (M:Nat)=((l.drop (l.length - M)).reverse,(sz,l.take K),0):=by
   unfold takesP;rw [if_pos ho,if_neg h1,if_neg (by dsimp only;omega),hK];rfl
  rw [ht]
  refine ral λb4 w4 n4 B4=>?_
  have hb4:=n4.b;have hs4:=n4.s;have z3:=Le.size (a:=w2) (b:=w3)
  refine rld rfl ?_
  refine rslB (some K) none h hKl (by simp) λa5 c5 S5=>?_
  rw [zK8] at S5
  refine rcall (zJ3 (S5.up (w':=w4))) ?_
  rintro v w5 ⟨⟨bs,rfl,hbs,D5⟩,e5⟩
  have z5:=Le.size (a:=w4) (b:=w5)
  have C4:=B4.mv (w:=w5)
  have hdl:(l.drop K).length=l.length - K:=by simp
  have S5':SlF w (.slice a5 (l.drop K).length c5) (l.drop K):=by rw [hdl];exact S5
  have T0:∀i,i<=M->(l.drop (l.length - i)).reverse.length=i:=λi hi=>by rw [List.length_reverse,List.length_drop];omega
  refine rrange TBok rfl (gf:=F.qo) (first:=[]) (cap:=[.pointer (some ⟨bs,0,none⟩)]) rfl rfl (zMx (l:=l.drop K) (a:=a5) (c:=c5) (bs:=bs) (by simp;omega)) zLh
   (λi u=>i<=M/\∃oa oc,Bk u b4 [.slice oa i oc] E.q7/\Bk u bs [.slice a5 (l.drop K).length c5] E.q7/\Own w3.heap.size E.qa u (.slice oa i oc) (l.drop (l.length - i)).reverse/\Stp w3 u) (λ_ _=>False) ?_ ?_ ?_
   ⟨by omega,none,0,C4,D5.b,by have:=Own.nil (α:=Int) w3.heap.size E.qa w5;simpa using this,stp⟩ ?_ ?_ ?_
  ·rintro i u u' ⟨hi,oa,oc,q1,q2,q3,q4⟩ q;exact⟨hi,oa,oc,q1.qt q,q2.qt q,q3.qt q,q4.qt (q.mono (by omega))⟩
  ·rintro _ u u' h;exact h.elim
  ·rintro i u ⟨hi,oa,oc,q1,q2,q3,q4⟩;exact⟨S5'.up,q2⟩
  ·rintro i y u hx ⟨hi,oa,oc,q1,q2,q3,q4⟩
   have hy:=takeX hKl hx
   obtain⟨hiK,rfl,hrev⟩:=hy
   refine⟨Fr.refl _ _,λu1 q=>?_⟩
   have q1:=q1.qt q;have q2:=q2.qt q;have q3:=q3.qt q;have q4:=q4.qt (q.mono (by omega))
   refine rld (B:=q1) rfl ?_
   refine rbs1 (l[l.length - 1 - i]'(by omega)) rfl rfl (by decide) λb6 w6 e6 _ S6=>?_
   refine rapp1 (u:=w3) ⟨rfl,rfl⟩ (q3.up (w':=w6)) S6 (by rw [T0 i hi];omega) λv7 w7 O7 f7 s7=>?_
   have r1:=(q1.mv (w:=w6)).fro q3.up f7 (by decide)
   have r2:=(q2.mv (w:=w6)).fro q3.up f7 (by decide)
   rw [<-hrev] at O7
   have q7:=O7.shape
   rw [T0 (i+1) (by omega)] at q7
   obtain⟨a7,c7,rfl⟩:=q7
   refine rsto (B:=r1) (vs:=[.slice a7 (i+1) c7]) rfl rfl rfl (by simp;rfl) λw8 B8 f8 _=>?_
   have s8:Stp w3 w8:=⟨Fr.st Le.e f8 λi hi=>by subst hi;exact n4.lo⟩
   exact⟨⟨by omega,a7,c7,B8,r2.fr f8 (by omega),O7.frc f8 r1 (by decide),s8⟩,λi=>w3.heap.size<=i,((Fr.fr e6.e).trans s7.e).trans (f8.mono λi _ hi=>by subst hi;omega)⟩
  ·rintro D u ⟨hi,oa,oc,q1,q2,q3,q4⟩ hD hd
   rw [zDP,hdl] at hi q1 q3
   have hM:l.length - K=M:=by omega
   rw [hM] at hi q1 q3
   refine drawR TBok mixed (λi=>i=b3\/u.heap.size<=i) (upF 12 0) (by kernel_rfl) λu1 e1 _=>?_
   have zu:=Le.size (a:=w3) (b:=u)
   have zb:=q1.lt
   refine tld (B:=q1) rfl (by omega) ?_
   refine tld rfl (by omega) (tld rfl (by omega) ?_)
   refine tslB none (some K) h (by simp) (by simpa using hKl) λa8 c8 S8=>?_
   rw [zOt] at S8
   refine rcall (zA9 (S8.up (w':=u1)) (by rw [List.length_take];omega)) ?_
   rintro v u2 ⟨O2,e2⟩
   refine⟨e2.e.fr,?_⟩
   have q_:=O2.shape
   obtain⟨a2,c2,rfl⟩:=q_
   refine tbuild (cs:=[.int .i64 sz,.slice a2 (l.take K).length c2]) rfl ?_
   have C3:=B3.mv (w:=u2)
   refine rsto (B:=C3) (vs:=[.int .i64 sz,.slice a2 (l.take K).length c2]) rfl rfl rfl (pl_one _ _ _ _) λw9 B9 f9 _=>?_
   have s9:Stp w w9:=⟨Fr.st Le.e f9 λi hi=>by subst hi;exact n2.lo⟩
   refine⟨f9.mono λi _ hi=>.inl hi,?_⟩
   have hd':=f9.nc _ _ (e2.e.nc _ _ (e1.e.nc _ _ hd rfl) rfl) rfl
   have Oo:=((q3.up (w':=u2)).frc f9 C3 (by decide))
   have Op:=O2.frc f9 C3 (by decide)
   refine leave1 hd' λu' q=>?_
   have B9':=B9.qt (q 0 (by omega))
   refine rresG rfl ?_
   exact⟨⟨_,_,rfl,(Oo.qt (q 0 (by omega))).older,(PoolO.mk (Op.qt (q 0 (by omega)))).older⟩,s9.qt (q _ (by have:=Le.size (a:=w) (b:=w3);omega))⟩
  ·rintro c D u h;exact h.elim
 ·refine rbuild (cs:=[.int .i64 0,.slice none 0 0]) rfl ?_
  refine rsto (vs:=[.int .i64 0,.slice none 0 0]) rfl rfl rfl (pl_one _ _ _ _) λw4 B4 f4 _=>?_
  refine rresG rfl ?_
  exact zero 130 _ stp (by unfold takesP;rw [if_neg ho]) w4 B4 f4
theorem zKq(sz:Int)(l:List Int):(takeP (sz,l)).2.2=(takesP (sz,l) 1).2.2 /\
  ((takesP (sz,l) 1).2.2=0->(takesP (sz,l) 1).1[0]? = some (takeP (sz,l)).1/\(takesP (sz,l) 1).2.1=(takeP (sz,l)).2.1) /\
  ((takesP (sz,l) 1).2.2≠0->takeP (sz,l)=(0,zP,(takesP (sz,l) 1).2.2)):=by
 unfold takeP takesP
 by_cases ho:okP sz l
 ·rw [if_pos ho,if_pos ho,if_neg (by decide)]
  by_cases hl:l=[]
  ·subst hl
   rw [if_pos (by simp)]
   simp
  ·have hpos:0<l.length:=List.length_pos_iff.2 hl
   rw [if_neg (by dsimp only;omega)]
   have h1:=List.getLast?_eq_getElem? (l:=l)
   rw [List.getElem?_eq_getElem (show l.length - 1<l.length by omega)] at h1
   simp only [h1]
   have h2:(l.drop (l.length - (1:Int).toNat)).reverse[0]? = some l[l.length - 1]:=by
    have e:l.drop (l.length - (1:Int).toNat)=[l[l.length - 1]]:=by
     rw [show (1:Int).toNat=1 from rfl,List.drop_eq_getElem_cons (by omega),List.drop_of_length_le (by omega)]
    rw [e];rfl
   refine⟨by first|rfl|trivial,λ_=>⟨h2,?_⟩,λh=>absurd rfl h⟩
   rw [List.dropLast_eq_take];rfl
 ·rw [if_neg ho,if_neg ho];simp
theorem zJw{sz:Int}{c:Nat}{l:List Int}(h:SlF w (.slice a n c) l)(hn:l.length<=100000):
  Sp PP F.qay #[plV sz a n c] w λv w'=>(∃pv,v=.tuple #[.int .i64 (takeP (sz,l)).1,pv,.int .i64 (takeP (sz,l)).2.2]/\PoolO w.heap.size w' pv (takeP (sz,l)).2.1)/\Stp w w':=by
 have q_:=h.len
 obtain rfl:=q_
 refine en TBok rfl ?_
 refine rbx λb1 w1 n1 B1=>ral λb3 w2 n2 B3=>?_
 have hb1:=n1.b;have hb3:=n2.b;have hs1:=n1.s;have hs2:=n2.s
 have q_:=zKq sz l
 obtain⟨t1,t2,t3⟩:=q_
 refine rldG rfl rfl ?_
 refine rcall (zIt (m:=1) (h.up (w':=w2)) hn (by decide)) ?_
 rintro v w3 ⟨⟨lv,pv,rfl,O3,⟨a3,c3,rfl,P3⟩⟩,e3⟩
 have q_:=O3.shape
 obtain⟨ao,co,rfl⟩:=q_
 refine ral λb4 w4 n4 B4=>?_
 refine rsto (vs:=[.int .i64 (takesP (sz,l) 1).2.1.1,.slice a3 (takesP (sz,l) 1).2.1.2.length c3]) rfl rfl rfl (pl_one _ _ _ _) λw5 B5 f5 _=>?_
 have s5:Stp w3 w5:=⟨Fr.st Le.e f5 λi hi=>by subst hi;exact n4.lo⟩
 refine ite (λh1=>?_) (λh1=>?_)
 ·rw [t3 h1]
  refine rbuild (cs:=[.int .i64 0,.slice none 0 0]) rfl ?_
  have C3:=B3.mv (w:=w5)
  refine rsto (B:=C3) (vs:=[.int .i64 0,.slice none 0 0]) rfl rfl rfl (pl_one _ _ _ _) λw6 B6 f6 _=>?_
  have s6:Stp w w6:=⟨Fr.st Le.e f6 λi hi=>by subst hi;exact n2.lo⟩
  refine rresG rfl ?_
  exact⟨⟨_,rfl,zP_o _ _⟩,s6⟩
 ·have h1:=Classical.not_not.1 h1
  have q_:=t2 h1
  obtain⟨q1,q2⟩:=q_
  rw [<-q2]
  have hb4:=n4.b;have z3:=Le.size (a:=w2) (b:=w3)
  refine drawR TBok mixed (λi=>i=b3) (upF 7 0) (by kernel_rfl) λu1 e1 _=>?_
  refine tix (O3.sl.up (w':=u1)) (x:=(takeP (sz,l)).1) (i:=0) q1 λb7 o7 A7 hb7=>?_
  have hlt:=O3.lt (λe=>by rw [e] at q1;cases q1)
  obtain⟨g,hg1,hg2,_⟩:=hlt
  refine tload1 (A7.cell0 rfl) (by rw [hg1] at hb7;cases hb7;omega) ?_
  refine tldG (B:=B5) rfl rfl (by omega) ?_
  have C3:=B3.mv (w:=u1)
  refine rsto (B:=C3) (vs:=[.int .i64 (takesP (sz,l) 1).2.1.1,.slice a3 (takesP (sz,l) 1).2.1.2.length c3]) rfl rfl rfl (pl_one _ _ _ _) λw6 B6 f6 _=>?_
  have s6:Stp w w6:=⟨Fr.st Le.e f6 λi hi=>by subst hi;exact n2.lo⟩
  refine⟨f6,?_⟩
  refine rresG rfl ?_
  rw [t1,h1]
  exact⟨⟨_,rfl,(PoolO.mk ((P3.up (w':=u1)).frc f6 C3 (by decide))).older⟩,s6⟩
instance:Enc StD:=⟨4,λx=>[.int .i64 x.key.slot,.int .i64 x.key.dir,.int .i64 x.key.v,.int .i64 x.d],λ_=>rfl,by intro x u hu;simp at hu;rcases hu with rfl|rfl|rfl|rfl <;> rfl,by decide⟩
abbrev tbE:List TypeId:=[E.qx,E.q4]
theorem TabS.wrote{b c most:Nat}{s:TS}(T:TabS B w b a c most s)(f:Fr (tabD B b a c most) w w'):FrT B tbE w w':=by
 obtain⟨h0,R,T,_⟩:=T
 refine Fr.mono f λi hi hd=>?_
 rcases hd with rfl|hd
 ·exact .mk h0 T.cell.h (by decide)
 ·have hO:=T.row
  rcases hO with ⟨_,a,h⟩|hO
  ·exact absurd h (hd.2.2 a)
  ·have q_:=hO.2
   rcases q_ with ⟨h,_⟩|⟨g,cap,cur,h,hb,hg,_⟩
   ·have:=hd.2.1;rw [h] at this;cases this
   ·have h2:=hd.2.1
    rw [h] at h2
    simp only [Value.blk] at h2;cases h2
    exact .mk hb hg (by decide)
theorem TabS.kept{C b c most:Nat}{s:TS}{es:List TypeId}(T:TabS B w b a c most s)(f:FrT C es w w')(h1:E.qx∉es)(h2:E.q4∉es):TabS B w' b a c most s:=by
 obtain⟨h0,R,T,r⟩:=T
 exact⟨h0,R,⟨T.cell.kept f h1,T.row.kept f h2,T.len,T.tab,T.bnd,T.may,T.zero⟩,r⟩
theorem zND{b c most:Nat}{s:TS}{k:KeyD}{n:Int}(T:TabS B w b a c most s):
  Sp PP F.yl #[.pointer (some ⟨b,0,none⟩),agg k,.int .i64 n] w λv w'=>v=.int .i64 (putTS most s k n).2/\TabS B w' b a c most (putTS most s k n).1/\FrT B tbE w w':=
 (Put_sp T).mono λ_ _ ⟨h1,h2,h3⟩=>⟨h1,h2,T.wrote h3⟩
theorem zFd{x:StD}:Sp PP F.qax #[agg x] w λv w'=>v=.int .i64 (if mayX x then 0 else 1)/\Stp w w':=by
 refine en TBok rfl ?_
 refine rbx λb w1 n1 B1=>rcall (zFe (most:=1) (w:=w1)) ?_
 rintro v w2 ⟨⟨h,_⟩|⟨N,bt,ta,tc,hN,_,_,rfl,T⟩,e2⟩
 ·omega
 have q_:N=1:=by omega
 obtain rfl:=q_
 refine iT rfl (rldG (ds:=enc x.key) (B:=B1) rfl rfl (rcall (zND (k:=x.key) (n:=0) T) ?_))
 rintro v w3 ⟨rfl,T3,f3⟩
 have s3:Stp w1 w3:=⟨FrT.st Le.e f3 (Nat.le_refl _)⟩
 have hp:(putTS 1 zTS x.key 0).2=if mayK x.key then 0 else 1:=by
  unfold putTS;split
  ·rfl
  ·rfl
 rw [hp]
 refine rld (B:=B1) rfl (ite (λh1=>?_) (λh1=>?_))
 ·rw [if_neg (λh:mayX x=>by have:=h.2.1;omega)];exact⟨rfl,stp⟩
 refine rld (B:=B1) rfl (ite (λh2=>?_) (λh2=>?_))
 ·rw [if_neg (λh:mayX x=>by have:=h.2.2;omega)];exact⟨rfl,stp⟩
 ·refine⟨?_,stp⟩
  by_cases hk:mayK x.key
  ·rw [if_pos hk,if_pos ⟨hk,by omega,by omega⟩];rfl
  ·rw [if_neg hk,if_neg (λh:mayX x=>hk h.1)];rfl
theorem zHx{sv:Value}{x:StD}:Sp PP F.pn #[sv,agg x] w λv w'=>v=.int .i64 (if mayX x then 150 else 1)/\Stp w w':=by
 refine en TBok rfl ?_
 refine rbx λb w1 n1 B1=>rldG (ds:=enc x) (B:=B1) rfl rfl ?_
 have M:=zFd (x:=x) (w:=w1)
 by_cases hm:mayX x
 ·rw [if_pos hm] at M ⊢
  refine rcall M ?_
  rintro v w2 ⟨rfl,e2⟩
  refine iF (· rfl) ?_
  exact⟨rfl,stp⟩
 ·rw [if_neg hm] at M ⊢
  refine rcall M ?_
  rintro v w2 ⟨rfl,e2⟩
  refine iT (by first|omega|decide|(dsimp only <;> omega)) ?_
  exact⟨rfl,stp⟩
structure StoH (B:Nat) (w:World) (b gs size bt:Nat) (ta:Option Addr) (tc:Nat) (ts:TS) (fa:Option Addr) (fc:Nat) (fr:List Int) (sc:Nat) (st:List StD) (bm:Nat) (m:List (Int×Value)) (ch:Int->List Int):Prop where
 lo:B<=b/\B<=bm/\B<=gs
 cell:Bk w b [.pointer (some ⟨bt,0,none⟩),.int .i64 size,.slice fa fr.length fc,.slice (some ⟨gs,0,none⟩) size sc,.map (some bm)] E.qz
 tab:TabS B w bt ta tc size ts
 free:SlY E.qa w (.slice fa fr.length fc) fr
 sts:Own B E.qh w (.slice (some ⟨gs,0,none⟩) size sc) st
 map:MapL PP E.qa w bm m
 rows:∀s v,(s,v)∈m->Own B E.qa w v (ch s)/\ch s≠[]
 empt:∀s,s∉m.map (·.1)->ch s=[]
 apart:∀s v s' v',(s,v)∈m->(s',v')∈m->s≠s'->∀g,Value.blk v=some g->Value.blk v'≠some g
 apart2:fr≠[]->∀s v,(s,v)∈m->∀g,Value.blk v=some g->Value.blk (.slice fa fr.length fc)≠some g
structure FpS (R:Nat->Prop) (b gs size bt:Nat) (ta:Option Addr) (tc:Nat) (fa:Option Addr) (fc:Nat) (fr:List Int) (bm:Nat) (m:List (Int×Value)):Prop where
 b:R b
 bt:R bt
 ta:∀g,Value.blk (.slice ta (2*size) tc)=some g->R g
 gs:R gs
 bm:R bm
 fr:fr≠[]->∀g,Value.blk (.slice fa fr.length fc)=some g->R g
 rows:∀s v,(s,v)∈m->∀g,Value.blk v=some g->R g
def gR (R:Nat->Prop) (w w':World):Nat->Prop:=λi=>R i\/(w.heap.size<=i/\i<w'.heap.size)
abbrev gP (R:Nat->Prop) (w:World):Nat->Prop:=λi=>R i\/w.heap.size<=i
def StoP (R:Nat->Prop) (B:Nat) (w:World) (b gs size:Nat) (L:List StD):Prop:=
 ∃bt ta tc ts fa fc fr sc st bm m ch,StoH B w b gs size bt ta tc ts fa fc fr sc st bm m ch/\StoT size ts fr st/\StoM fr st L/\ChI fr st ch/\FpS R b gs size bt ta tc fa fc fr bm m
abbrev psE:List TypeId:=[E.qz,E.qx,E.q4,E.qa,mapK]
abbrev FrS (gs B:Nat) (w w':World):Prop:=FrX (λi=>i=gs) B psE w w'
section
variable {B C:Nat} {w w':World} {b gs size bt:Nat} {ta:Option Addr} {tc:Nat} {ts:TS} {fa:Option Addr} {fc:Nat} {fr:List Int} {sc:Nat} {st:List StD} {bm:Nat} {m:List (Int×Value)} {ch:Int->List Int} {es:List TypeId} {L:List StD}
theorem StoH.up[Le w w'](h:StoH B w b gs size bt ta tc ts fa fc fr sc st bm m ch):StoH B w' b gs size bt ta tc ts fa fc fr sc st bm m ch:=
 ⟨h.lo,h.cell.mv,h.tab.up,h.free.up,h.sts.up,h.map.up,λs v hv=>⟨(h.rows s v hv).1.up,(h.rows s v hv).2⟩,h.empt,h.apart,h.apart2⟩
theorem StoP.up[Le w w'](h:StoP R B w b gs size L):StoP R B w' b gs size L:=by
 obtain⟨bt,ta,tc,ts,fa,fc,fr,sc,st,bm,m,ch,h,r⟩:=h
 exact⟨bt,ta,tc,ts,fa,fc,fr,sc,st,bm,m,ch,h.up,r⟩
theorem StoH.look(h:StoH B w b gs size bt ta tc ts fa fc fr sc st bm m ch)(s:Int):Own B E.qa w ((getM m s).getD (.slice none 0 0)) (ch s) /\
  (∀g,Value.blk ((getM m s).getD (.slice none 0 0))=some g->∃v,(s,v)∈m/\Value.blk v=some g):=by
 cases hg:getM m s with
 |none =>
  have hc:=h.empt s (zC0.1 hg)
  rw [hc]
  exact⟨Own.nil _ _ _,λg hg=>by cases hg⟩
 |some v=>exact⟨(h.rows s v (zAU hg)).1,λg hgg=>⟨v,zAU hg,hgg⟩⟩
end
theorem StoP.lt{b gs size:Nat}{L:List StD}(h:StoP R B w b gs size L):B<=b/\b<w.heap.size/\B<=gs/\L.length<=size/\SRis L/\1<=size/\size<=400/\R b:=by
 obtain⟨bt,ta,tc,ts,fa,fc,fr,sc,st,bm,m,ch,h,T,M,C,Z⟩:=h
 have h1:=T.len M
 have h2:=T.cnt
 have h3:=T.ok
 exact⟨h.lo.1,h.cell.lt,h.lo.2.2,by omega,M.ris,by have:=h3.1;omega,by have:=h3.2.1;omega,Z.b⟩
theorem zHr{α:Type}[Enc α]{e:TypeId}{v:Value}{l:List α}(h:Own B e w v l)(hl:l≠[]){g:Nat}(hg:Value.blk v=some g):g<w.heap.size:=by
 have q_:=h.lt hl
 obtain⟨g',h1,_,h2⟩:=q_
 rw [h1] at hg;cases hg;exact h2
theorem StoP.mono{R':Nat->Prop}{b gs size:Nat}{L:List StD}(h:StoP R B w b gs size L)(hr:∀i,i<w.heap.size->R i->R' i):StoP R' B w b gs size L:=by
 obtain⟨bt,ta,tc,ts,fa,fc,fr,sc,st,bm,m,ch,h,T,M,C,Z⟩:=h
 have hs:st≠[]:=by intro e;have:=T.stl;rw [e] at this;have:=T.ok.1;simp at *;omega
 have ht:=h.tab
 obtain⟨_,Rw,hT,_⟩:=ht
 refine⟨bt,ta,tc,ts,fa,fc,fr,sc,st,bm,m,ch,h,T,M,C,hr _ h.cell.lt Z.b,hr _ hT.cell.lt Z.bt,λg hg=>hr _ ?_ (Z.ta g hg),hr _ (zHr h.sts hs rfl) Z.gs,hr _ h.map.lt Z.bm,λhn g hg=>hr _ ?_ (Z.fr hn g hg),λs v hv g hg=>hr _ (zHr (h.rows s v hv).1 (h.rows s v hv).2 hg) (Z.rows s v hv g hg)⟩
 ·refine zHr hT.row (λe=>?_) hg
  have h1:=hT.len;have h2:=hT.bnd;rw [e] at h1;simp at h1;omega
 ·have q_:=h.free.blkN hn
  obtain⟨g',h1,h2⟩:=q_
  rw [h1] at hg;cases hg;exact h2
theorem StoP.end{b gs size:Nat}{L:List StD}(h:StoP (gP R w) B w' b gs size L):StoP (gR R w w') B w' b gs size L:=
 h.mono λi hi hr=>hr.imp id λh=>⟨h,hi⟩
theorem StoP.gr{b gs size:Nat}{L:List StD}(h:StoP R B w' b gs size L):StoP (gR R w w') B w' b gs size L:=h.mono λ_ _ hr=>.inl hr
theorem StoP.fr{b gs size:Nat}{L:List StD}(h:StoP R B w b gs size L)(f:Fr D w w')(hd:∀i,R i->¬D i):StoP R B w' b gs size L:=by
 obtain⟨bt,ta,tc,ts,fa,fc,fr,sc,st,bm,m,ch,h,T,M,C,Z⟩:=h
 have ht:=h.tab
 obtain⟨h0,Rw,hT,hr⟩:=ht
 exact⟨bt,ta,tc,ts,fa,fc,fr,sc,st,bm,m,ch,⟨h.lo,h.cell.fr f (hd _ Z.b),⟨h0,Rw,⟨hT.cell.fr f (hd _ Z.bt),hT.row.fr f λg _ hg=>hd _ (Z.ta g hg),hT.len,hT.tab,hT.bnd,hT.may,hT.zero⟩,hr⟩,
  h.free.frN f λg hn hg=>hd _ (Z.fr hn g hg),h.sts.fr f λg _ hg=>by cases hg;exact hd _ Z.gs,h.map.fr f (hd _ Z.bm),λs v hv=>⟨(h.rows s v hv).1.fr f λg _ hg=>hd _ (Z.rows s v hv g hg),(h.rows s v hv).2⟩,h.empt,h.apart,h.apart2⟩,T,M,C,Z⟩
theorem FpS.tab{b gs size bt:Nat}{ta:Option Addr}{tc:Nat}{fa:Option Addr}{fc:Nat}{fr:List Int}{bm:Nat}{m:List (Int×Value)}(Z:FpS R b gs size bt ta tc fa fc fr bm m)(f:Fr (tabD B bt ta tc size) w w'):Fr R w w':=
 f.mono λi _ hi=>hi.elim (λh=>h ▸ Z.bt) λh=>Z.ta i h.2.1
theorem FpS.look{b gs size bt:Nat}{ta:Option Addr}{tc:Nat}{fa:Option Addr}{fc:Nat}{fr:List Int}{bm:Nat}{m:List (Int×Value)}(Z:FpS R b gs size bt ta tc fa fc fr bm m){s:Int}{g:Nat}(h:Value.blk ((getM m s).getD (.slice none 0 0))=some g):R g:=by
 cases hg:getM m s with
 |none=>rw [hg] at h;cases h
 |some v=>rw [hg] at h;exact Z.rows s v (zAU hg) g h
theorem FpS.up{R':Nat->Prop}{b gs size bt:Nat}{ta:Option Addr}{tc:Nat}{fa:Option Addr}{fc:Nat}{fr:List Int}{bm:Nat}{m:List (Int×Value)}(Z:FpS R b gs size bt ta tc fa fc fr bm m)(h:∀i,R i->R' i):FpS R' b gs size bt ta tc fa fc fr bm m:=
 ⟨h _ Z.b,h _ Z.bt,λg hg=>h _ (Z.ta g hg),h _ Z.gs,h _ Z.bm,λhn g hg=>h _ (Z.fr hn g hg),λs v hv g hg=>h _ (Z.rows s v hv g hg)⟩
theorem Fr.gP(f:Fr (gP R w) w w'):Fr R w w':=Fr.mono f λi hi h=>h.elim id λh=>by omega
theorem zN3{n:Int}(h:¬(n<1\/400<n)):newP n=((n,downTo n.toNat),0)/\okP n (downTo n.toNat)/\(downTo n.toNat).length=n.toNat/\∀p:Nat,(p:Int)<n->(p:Int)∈downTo n.toNat:=by
 refine⟨by unfold newP;rw [if_neg h],⟨by omega,by omega,λx hx=>?_,?_⟩,zCr _,λp hp=>?_⟩
 ·unfold downTo at hx
  simp only [List.mem_map,List.mem_reverse,List.mem_range] at hx
  obtain⟨k,hk,rfl⟩:=hx;omega
 ·unfold downTo
  rw [List.nodup_iff_pairwise_ne,List.pairwise_map]
  rw [List.pairwise_reverse]
  have:=List.nodup_range (n:=n.toNat)
  rw [List.nodup_iff_pairwise_ne] at this
  exact this.imp λ{a b} h e=>h (by omega)
 ·unfold downTo
  simp only [List.mem_map,List.mem_reverse,List.mem_range]
  exact⟨p,by omega,rfl⟩
theorem zJS{size:Int}:Sp PP F.qaj #[.int .i64 size] w λv w' =>
  ((size<1\/400<size)/\v=.tuple #[.pointer none,.int .i64 1]\/∃(N b gs:Nat),size=(N:Int)/\1<=N/\N<=400/\v=.tuple #[.pointer (some ⟨b,0,none⟩),.int .i64 0]/\StoP (λi=>w.heap.size<=i/\i<w'.heap.size) w.heap.size w' b gs N [])/\Stp w w':=by
 refine en TBok rfl ?_
 refine rcall (zKk (size:=size) (w:=w)) ?_
 rintro v w1 ⟨⟨pv,rfl,a1,c1,rfl,O1⟩,e1⟩
 refine ral λb2 w2 n2 z2=>rsto (B:=z2) (vs:=[.int .i64 (newP size).1.1,.slice a1 (newP size).1.2.length c1]) rfl rfl rfl (pl_one _ _ _ _) λw3 B3 f3 _=>?_
 have s3:Stp w1 w3:=⟨Fr.st Le.e f3 λi hi=>by subst hi;exact n2.lo⟩
 clear z2 f3
 by_cases hs:size<1\/400<size
 ·have hp:(newP size).2=1:=by unfold newP;rw [if_pos hs]
  rw [hp]
  refine iT (by first|omega|decide|(dsimp only <;> omega)) ?_
  exact⟨.inl ⟨hs,rfl⟩,stp⟩
 have q_:=zN3 hs
 obtain⟨hp,hok,hdl,hall⟩:=q_
 rw [hp] at O1 B3 ⊢
 refine iF (· rfl) (rcall (zFe (most:=size) (w:=w3)) ?_)
 rintro v w4 ⟨⟨h,_⟩|⟨N,bt,ta,tc,rfl,hN1,hN2,rfl,T⟩,e4⟩
 ·exact absurd h hs
 refine iF (· rfl) ?_
 have fin:∀(u:World) (gs sc b bm:Nat),Stp w u->StoP (λi=>w.heap.size<=i) w.heap.size u b gs N []->((((N:Int)<1\/400<(N:Int))/\Value.tuple #[.pointer (some ⟨b,0,none⟩),.int .i64 0]=.tuple #[.pointer none,.int .i64 1]\/∃(N' b' gs':Nat),(N:Int)=(N':Int)/\1<=N'/\N'<=400/\Value.tuple #[.pointer (some ⟨b,0,none⟩),.int .i64 0]=.tuple #[.pointer (some ⟨b',0,none⟩),.int .i64 0]/\StoP (λi=>w.heap.size<=i/\i<u.heap.size) w.heap.size u b' gs' N' [])/\Stp w u):=
  λu gs sc b bm s P=>⟨.inr ⟨N,b,gs,rfl,hN1,hN2,rfl,P.mono λi h1 h2=>⟨h2,h1⟩⟩,s⟩
 have O4:=O1.up (w':=w4)
 have T0:StoT N zTS (downTo N) (List.replicate N zSt):=by
  refine⟨hok,by simp,λk n=>Iff.intro (λh=>nomatch h) (λ⟨p,_,h1,x,h2,_⟩=>absurd (hall p ?_) h1),?_⟩
  ·have:=(List.getElem?_eq_some_iff.1 h2).1
   simp at this;omega
  ·show 0+(downTo N).length=N
   rw [zCr];omega
 have M0:StoM (downTo N) (List.replicate N zSt) []:=⟨.nil,λx=>Iff.intro (λh=>nomatch h) (λ⟨p,h1,h2⟩=>absurd (hall p (by have:=(List.getElem?_eq_some_iff.1 h2).1;simp at this;omega)) h1)⟩
 have C0:ChI (downTo N) (List.replicate N zSt) (λ_=>[]):=λs=>⟨by simp,λn=>Iff.intro (λh=>nomatch h) (λ⟨p,_,h1,x,h2,_⟩=>absurd (hall p (by have:=(List.getElem?_eq_some_iff.1 h2).1;simp at this;omega)) h1)⟩
 have mk:∀(u:World) (gs sc b bm:Nat),w.heap.size<=b->w.heap.size<=bm->w.heap.size<=gs->Le w4 u->Bk u b [.pointer (some ⟨bt,0,none⟩),.int .i64 N,.slice a1 (downTo N).length c1,.slice (some ⟨gs,0,none⟩) N sc,.map (some bm)] E.qz->Own w.heap.size E.qh u (.slice (some ⟨gs,0,none⟩) N sc) (List.replicate N zSt)->MapL PP E.qa u bm ([]:List (Int×Value))->StoP (λi=>w.heap.size<=i) w.heap.size u b gs N []:=by
  intro u gs sc b bm h1 h2 h3 L CB OS MB
  refine⟨bt,ta,tc,zTS,a1,c1,downTo N,sc,List.replicate N zSt,bm,[],λ_=>[],⟨⟨h1,h2,h3⟩,CB,?_,(O4.up (w':=u)).y,OS,MB,(λs v h=>nomatch h),λ_ _=>rfl,(λs v s' v' h=>nomatch h),(λ_ s v h=>nomatch h)⟩,T0,M0,C0,h1,Nat.le_trans (Le.size (a:=w) (b:=w3)) T.1,λg hg=>?_,h3,h2,λhn g hg=>?_,(λs v h=>nomatch h)⟩
  rotate_left
  ·obtain⟨_,Rw,hT,_⟩:=T
   obtain⟨g',q1,q2,_⟩:=hT.row.lt (λe=>by have h1:=hT.len;have h2:=hT.bnd;rw [e] at h1;simp at h1;omega)
   rw [q1] at hg;cases hg
   exact Nat.le_trans (Le.size (a:=w) (b:=w3)) q2
  ·have q_:=O4.lt hn
   obtain⟨g',q1,q2,_⟩:=q_
   have q3:Value.blk (.slice a1 (downTo N).length c1)=some g':=q1
   rw [q3] at hg;cases hg;exact q2
  have:=T.up (w':=u)
  obtain⟨g0,R,H,r⟩:=this
  exact⟨Nat.le_trans (Le.size (a:=w) (b:=w3)) g0,R,⟨H.cell,H.row.mono (Le.size (a:=w) (b:=w3)),H.len,H.tab,H.bnd,H.may,H.zero⟩,r⟩
 have Z:(Value.agg #[Value.int IntKind.i64 0,Value.int IntKind.i64 0,Value.int IntKind.i64 0,Value.int IntKind.i64 0]).cells.toList=enc zSt:=rfl
 refine drawRT TBok mixed (λ_=>False) (.one 0 (.one 1 (.one 2 (.two 3 (.one 4 (.one 5 (.one 6 (.one 7 (.one 8 .nil))))) 4 (.one 3 (.one 5 (.one 6 (.one 7 (.one 8 .nil))))))))) (by kernel_rfl) λu5 e5 _=>tldG (ds:=[.int .i64 (N:Nat),.slice a1 (downTo N).length c1]) (B:=B3) rfl rfl nf ?_
 refine⟨?_,?_⟩
 ·refine rmk zSt rfl rfl (by omega) λgs u6 O6 s6 hg=>⟨s6.e,?_⟩
  refine rmkN (kt:=E.qa) (κ:=Int) rfl λbm u7 n7 M7=>⟨n7.e,?_⟩
  refine tbuild (cs:=[.pointer (some ⟨bt,0,none⟩),.int .i64 (N:Nat),.slice a1 (downTo N).length c1,.slice (some ⟨gs,0,none⟩) N N,.map (some bm)]) rfl (rbx λb u8 n8 B8=>⟨n8.e,?_⟩)
  have hw5:w.heap.size<=u5.heap.size:=Le.size
  refine fin u8 gs N b bm stp (mk u8 gs N b bm n8.lo n7.lo (by omega) inferInstance B8 (O6.up.mono hw5) M7.up)
 ·refine rmkN (kt:=E.qa) (κ:=Int) rfl λbm u7 n7 M7=>⟨n7.e,?_⟩
  refine rmk zSt rfl rfl (by omega) λgs u6 O6 s6 hg=>⟨s6.e,?_⟩
  refine tbuild (cs:=[.pointer (some ⟨bt,0,none⟩),.int .i64 (N:Nat),.slice a1 (downTo N).length c1,.slice (some ⟨gs,0,none⟩) N N,.map (some bm)]) rfl (rbx λb u8 n8 B8=>⟨n8.e,?_⟩)
  have hw5:w.heap.size<=u7.heap.size:=Le.size
  refine fin u8 gs N b bm stp (mk u8 gs N b bm n8.lo n7.lo (by omega) inferInstance B8 (O6.up.mono hw5) M7.up)
theorem zD4{κ:Type}[DecidableEq κ]{m:List (κ×Value)}(hn:(m.map (·.1)).Nodup){k:κ}{v:Value}:(k,v)∈m↔getM m k=some v:=⟨zAA hn,zAU⟩
theorem zAi{κ:Type}[DecidableEq κ]{m:List (κ×Value)}(hn:(m.map (·.1)).Nodup){k s:κ}{v v':Value}:(s,v)∈setM k v' m↔(s=k/\v=v')\/(s≠k/\(s,v)∈m):=by
 rw [zD4 (zBn k v' m hn),zDY,zD4 hn]
 by_cases e:s=k
 ·rw [if_pos e];simp [e];exact eq_comm
 ·rw [if_neg e];simp [e]
theorem zBX{κ:Type}[DecidableEq κ]{m:List (κ×Value)}(hn:(m.map (·.1)).Nodup){k s:κ}{v:Value}:(s,v)∈delM k m↔s≠k/\(s,v)∈m:=by
 rw [zD4 (zDT k hn),zI1 k s m hn,zD4 hn]
 by_cases e:s=k
 ·rw [if_pos e];simp [e]
 ·rw [if_neg e];simp [e]
theorem MapL.frO{α:Type}[Enc α]{kt:TypeId}{κ:Type}[DecidableEq κ][MKey PP kt κ]{C:Nat}{e:TypeId}{v:Value}{l:List α}{bm:Nat}{m:List (κ×Value)}(h:MapL PP kt w bm m)(O:Own C e w v l)(f:Fr (ownD B v) w w'):MapL PP kt w' bm m:=by
 refine h.fr f λhd=>?_
 rcases O with ⟨_,a,e⟩|hO
 ·exact hd.2.2 a e
 ·have q_:=hO.2
  rcases q_ with ⟨e,_⟩|⟨g,cap,cur,e,_,hg,_⟩
  ·rw [e] at hd;cases hd.2.1
  ·have h2:=hd.2.1
   rw [e] at h2
   simp only [Value.blk] at h2;cases h2
   obtain⟨⟨es,c,h3,_⟩,_⟩:=h
   rw [hg] at h3;cases h3
theorem StoH.chain{b gs size bt:Nat}{ta:Option Addr}{tc:Nat}{ts:TS}{fa:Option Addr}{fc:Nat}{fr:List Int}{sc:Nat}{st:List StD}{bm:Nat}{m:List (Int×Value)}{ch:Int->List Int}{s n:Int}{v':Value}
  (h:StoH B w b gs size bt ta tc ts fa fc fr sc st bm m ch){u1:World}(O:Own B E.qa u1 v' (ch s++[n]))(f1:Fr (ownD B ((getM m s).getD (.slice none 0 0))) w u1)
  (hv:Value.blk v'=Value.blk ((getM m s).getD (.slice none 0 0))\/Value.blk v'=some w.heap.size)(M:MapL PP E.qa u bm (setM s v' m))(f2:Fr (λi=>i=bm) u1 u):
  StoH B u b gs size bt ta tc ts fa fc fr sc st bm (setM s v' m) (λs'=>if s'=s then ch s'++[n] else ch s')/\FrT B [E.qa,mapK] w u/\∀R,FpS R b gs size bt ta tc fa fc fr bm m->Fr R w u/\∀R',(∀i,R i->R' i)->R' w.heap.size->FpS R' b gs size bt ta tc fa fc fr bm (setM s v' m):=by
 have q_:=h.look s
 obtain⟨hOo,hin⟩:=q_
 have hnd:=h.map.2
 have F1:FrT B [E.qa,mapK] w u1:=hOo.wrote f1 (Nat.le_refl _) (by decide)
 have M1:MapL PP E.qa u1 bm m:=h.map.frO hOo f1
 have F2:FrT B [E.qa,mapK] u1 u:=M1.wrote f2 h.lo.2.1 (by decide)
 have F2':FrT B [mapK] u1 u:=M1.wrote f2 h.lo.2.1 (by decide)
 have FF:=F1.trans F2
 have lt:∀s2 v2,(s2,v2)∈m->∃g,Value.blk v2=some g/\g<w.heap.size:=λs2 v2 hv2=>by
  have q_:=h.rows s2 v2 hv2
  obtain⟨hO2,hne⟩:=q_
  have q_:=hO2.lt hne
  obtain⟨g,h1,_,h2⟩:=q_
  exact⟨g,h1,h2⟩
 have nd:∀s2 v2,(s2,v2)∈m->s2≠s->∀g,Value.blk v2=some g->¬ownD B ((getM m s).getD (.slice none 0 0)) g:=λs2 v2 hv2 hne g hg hd=>by
  have q_:=hin g hd.2.1
  obtain⟨v0,hm0,hb0⟩:=q_
  exact h.apart s2 v2 s v0 hv2 hm0 hne g hg hb0
 have free:SlY E.qa u (.slice fa fr.length fc) fr:=by
  refine(h.free.frN f1 λg hne hg hd=>?_).kept F2' (by decide)
  have q_:=hin g hd.2.1
  obtain⟨v0,hm0,hb0⟩:=q_
  exact h.apart2 hne s v0 hm0 g hb0 hg
 refine⟨⟨h.lo,h.cell.kept FF (by decide),h.tab.kept FF (by decide) (by decide),free,h.sts.kept FF (by decide),M,λs2 v2 hv2=>?_,λs2 hs2=>?_,λs2 v2 s3 v3 h2 h3 hne g hg hg3=>?_,λhne s2 v2 h2 g hg=>?_⟩,FF,λR Z=>⟨(f1.mono λi _ hi=>Z.look hi.2.1).trans (f2.mono λi _ hi=>hi ▸ Z.bm),λR' hR hn=>⟨hR _ Z.b,hR _ Z.bt,λg hg=>hR _ (Z.ta g hg),hR _ Z.gs,hR _ Z.bm,λhne g hg=>hR _ (Z.fr hne g hg),λs2 v2 h2 g hg=>?_⟩⟩⟩
 rotate_left 4
 ·have q_:=(zAi hnd).1 h2
  rcases q_ with ⟨rfl,rfl⟩|⟨_,hm2⟩
  ·rcases hv with hv|hv
   ·rw [hv] at hg;exact hR _ (Z.look hg)
   ·rw [hv] at hg;cases hg;exact hn
  ·exact hR _ (Z.rows s2 v2 hm2 g hg)
 ·have q_:=(zAi hnd).1 hv2
  rcases q_ with ⟨rfl,rfl⟩|⟨hne,hm2⟩
  ·rw [if_pos rfl]
   exact⟨O.kept F2' (by decide),by simp⟩
  ·rw [if_neg hne]
   have q_:=h.rows s2 v2 hm2
   obtain⟨hO2,hne2⟩:=q_
   exact⟨(hO2.fr f1 λg _ hg=>nd s2 v2 hm2 hne g hg).kept F2' (by decide),hne2⟩
 ·have hns:s2≠s:=by rintro rfl;exact hs2 ((setM_keys s2 v' m s2).2 (.inl rfl))
  rw [if_neg hns]
  exact h.empt s2 λhm=>hs2 ((setM_keys s v' m s2).2 (.inr hm))
 ·have q_:=(zAi hnd).1 h2
  rcases q_ with ⟨rfl,rfl⟩|⟨hne2,hm2⟩
  ·have q_:=(zAi hnd).1 h3
   rcases q_ with ⟨e,_⟩|⟨hne3,hm3⟩
   ·exact hne e.symm
   ·rcases hv with hv|hv
    ·rw [hv] at hg
     have q_:=hin g hg
     obtain⟨v0,hm0,hb0⟩:=q_
     exact h.apart _ v0 s3 v3 hm0 hm3 hne g hb0 hg3
    ·rw [hv] at hg;cases hg
     have q_:=lt s3 v3 hm3
     obtain⟨g',h1,h4⟩:=q_
     rw [h1] at hg3;cases hg3;omega
  ·have q_:=(zAi hnd).1 h3
   rcases q_ with ⟨rfl,rfl⟩|⟨hne3,hm3⟩
   ·rcases hv with hv|hv
    ·rw [hv] at hg3
     have q_:=hin g hg3
     obtain⟨v0,hm0,hb0⟩:=q_
     exact h.apart s2 v2 _ v0 hm2 hm0 hne g hg hb0
    ·rw [hv] at hg3;cases hg3
     have q_:=lt s2 v2 hm2
     obtain⟨g',h1,h4⟩:=q_
     rw [h1] at hg;cases hg;omega
   ·exact h.apart s2 v2 s3 v3 hm2 hm3 hne g hg hg3
 ·have q_:=(zAi hnd).1 h2
  rcases q_ with ⟨rfl,rfl⟩|⟨hne2,hm2⟩
  ·rcases hv with hv|hv
   ·rw [hv] at hg
    have q_:=hin g hg
    obtain⟨v0,hm0,hb0⟩:=q_
    exact h.apart2 hne _ v0 hm0 g hb0
   ·rw [hv] at hg;cases hg
    intro hf
    have q_:=h.free.blkN hne
    obtain⟨g',h1,h4⟩:=q_
    rw [h1] at hf;cases hf;omega
  ·exact h.apart2 hne s2 v2 hm2 g hg
theorem zJT{b gs size:Nat}{L:List StD}{x:StD}(S:StoP R B w b gs size L):
  Sp PP F.dd #[.pointer (some ⟨b,0,none⟩),agg x] w λv w'=>v=.int .i64 (putS' size L x).2/\StoP (gR R w w') B w' b gs size (putS' size L x).1/\FrS gs B w w'/\Fr R w w':=by
 have SS:=S
 have hlt:=S.lt
 obtain⟨hBb,hbw,hBg,hLs,hris,hs1,hs4,_⟩:=hlt
 obtain⟨bt,ta,tc,ts,fa,fc,fr,sc,st,bm,m,ch,H,T,M,C,Z⟩:=S
 have hLu:=T.len M
 have hcnt:=T.cnt
 refine en TBok rfl ?_
 refine rbx λbx w1 n1 B1=>?_
 have hbx:=n1.lo (u:=w)
 refine rpnil ?_
 have H1:=H.up (w':=w1)
 refine drawR TBok mixed (λ_=>False) (upF 12 0) (by kernel_rfl) λw2 e2 _=>tld (B:=H1.cell) rfl nf (tldG (ds:=enc x.key) (B:=B1) rfl rfl nf ?_)
 have H2:=H1.up (w':=w2)
 refine rcall (Get_sp (k:=x.key) H2.tab) ?_
 rintro v w3 ⟨rfl,e3⟩
 refine⟨e3.e,?_⟩
 have q_:=T.get M x.key
 rcases q_ with ⟨p,y,hm,hp,hy,hyk,hhas⟩|⟨hm,hhas⟩
 ·-- it is there
  have hg:getTS ts x.key=((p:Int),true):=by unfold getTS;rw [hm]
  rw [hg]
  refine rldG (ds:=enc x) (B:=B1) rfl rfl (rcall (zHx (x:=x)) ?_)
  rintro v w4 ⟨rfl,e4⟩
  have hp':putS' size L x=(L,if mayX x then 150 else 1):=by
   unfold putS';split
   ·rw [hhas]
   ·rfl
  rw [hp']
  exact⟨rfl,SS.up.gr,FrX.ext Le.e,Fr.fr Le.e⟩
 have hg:getTS ts x.key=(0,false):=by unfold getTS;rw [hm]
 rw [hg]
 refine rldG (ds:=enc x) (B:=B1) rfl rfl ?_
 have MY:=zFd (x:=x) (w:=w3)
 by_cases hmay:mayX x
 case neg =>
  rw [if_neg hmay] at MY
  refine rcall MY ?_
  rintro v w4 ⟨rfl,e4⟩
  have hp':putS' size L x=(L,1):=by unfold putS';rw [if_neg hmay]
  rw [hp']
  refine iT (by first|omega|decide|(dsimp only <;> omega)) ?_
  exact⟨rfl,SS.up.gr,FrX.ext Le.e,Fr.fr Le.e⟩
 rw [if_pos hmay] at MY
 refine rcall MY ?_
 rintro v w4 ⟨rfl,e4⟩
 refine iF (· rfl) ?_
 have H4:=H.up (w':=w4)
 refine rldG (ds:=[.int .i64 (size:Nat),.slice fa fr.length fc]) (B:=H4.cell) rfl rfl ?_
 have hokl:fr.length<=size:=by omega
 refine rcall (zJw (sz:=(size:Int)) H4.free.sl (by omega)) ?_
 rintro v w5 ⟨⟨pv,rfl,a5,c5,rfl,O5⟩,e5⟩
 refine ral λb6 w6 n6 z6=>rsto (B:=z6) (vs:=[.int .i64 (takeP ((size:Int),fr)).2.1.1,.slice a5 (takeP ((size:Int),fr)).2.1.2.length c5]) rfl rfl rfl (pl_one _ _ _ _) λw7 B7 f7 _=>?_
 have s7:Stp w5 w7:=⟨Fr.st Le.e f7 λi hi=>by subst hi;exact n6.lo⟩
 clear z6 f7
 by_cases hfr:fr=[]
 ·-- it is full
  have ht:takeP ((size:Int),fr)=(0,zP,140):=by unfold takeP;rw [if_pos T.ok,hfr];rfl
  rw [ht]
  have hp':putS' size L x=(L,140):=by
   unfold putS';rw [if_pos hmay,hhas];simp only
   rw [if_pos (by rw [hfr] at hcnt;simp at hcnt;omega)]
  rw [hp']
  refine iT (by first|omega|decide|(dsimp only <;> omega)) ?_
  exact⟨rfl,SS.up.gr,FrX.ext Le.e,Fr.fr Le.e⟩
 have q_:∃fr' n,fr=fr'++[n]:=⟨fr.dropLast,fr.getLast hfr,(List.dropLast_concat_getLast hfr).symm⟩
 obtain⟨fr',n,hfre⟩:=q_
 subst hfre
 have hn:=T.ok.2.2.1 n (by simp)
 have q_:=Int.eq_ofNat_of_zero_le hn.1
 obtain⟨p,rfl⟩:=q_
 have ht:takeP ((size:Int),fr'++[(p:Int)])=((p:Int),((size:Int),fr'),0):=by
  unfold takeP;rw [if_pos T.ok]
  rw [List.getLast?_concat]
  show ((p:Int),((size:Int),(fr'++[(p:Int)]).dropLast),(0:Int))=_
  rw [List.dropLast_concat]
 rw [ht] at O5 B7 ⊢
 refine iF (· rfl) ?_
 have hput:=T.put M C hmay.1 hm
 obtain⟨hp0,T',M',C'⟩:=hput
 have hlf:(fr'++[(p:Int)]).length=fr'.length+1:=by simp
 have hp':putS' size L x=(insS x L,0):=by
  unfold putS';rw [if_pos hmay,hhas];simp only
  rw [if_neg (by omega)]
 rw [hp']
 have H7:=H.up (w':=w7)
 have hgw:gs<w.heap.size:=by
  have:=H.sts.lt (by intro h;have:=T.stl;rw [h] at this;simp at this;omega)
  obtain⟨g,h1,_,h2⟩:=this
  have hge:gs=g:=Option.some.inj h1
  omega
 have hb6:=n6.lo (u:=w)
 refine drawR TBok mixed (λi=>i≠b/\i≠bx) [0,1,2,3,4,5,6,7,8] (by kernel_rfl) λw8 e8 _=>tld (B:=H7.cell) rfl (λh=>h.1 rfl) (tldG (ds:=enc x.key) (B:=B1) rfl rfl (λh=>h.2 rfl) ?_)
 have H8:=H7.up (w':=w8)
 have PT:=Put_sp (k:=x.key) (n:=(p:Int)) H8.tab
 rw [hp0] at PT
 refine rcall PT ?_
 rintro v w9 ⟨rfl,T9,f9t⟩
 have f9:=H8.tab.wrote f9t
 have G9:Fr R w w9:=(Fr.fr Le.e:Fr R w w8).trans (Z.tab f9t)
 have B8:=B1.mv (w:=w8)
 refine⟨Fr.mono f9 λi _ hi=>⟨by rintro rfl;exact absurd (hi.cells H8.cell.h) (by decide),by rintro rfl;exact absurd (hi.cells B8.h) (by decide)⟩,?_⟩
 refine iF (· rfl) ?_
 have F9:FrS gs B w w9:=(FrX.ext Le.e).trans (f9.x (Nat.le_refl _) (by decide))
 have B9:=B8.kept f9 (by decide)
 have P9:=(B7.mv (w:=w8)).kept f9 (by decide)
 have C9:=H8.cell.kept f9 (by decide)
 have S9:=H8.sts.kept f9 (by decide)
 have R9:SlY E.qa w9 (.slice a5 fr'.length c5) fr':=(O5.y.up (w':=w8)).kept f9 (by decide)
 refine drawRT TBok mixed (λi=>i=b\/ownD B (.slice (some ⟨gs,0,none⟩) size sc) i) (.one 0 (.one 1 (.one 2 (.one 3 (.one 5 (.one 6 (.one 7 (.lone 4 (.one 8 (.one 9 (.one 10 (.one 11 (.one 12 .nil))))))))))))) (by kernel_rfl) λw10 e10 _=>?_
 have nb6:¬(b6=b\/ownD B (.slice (some ⟨gs,0,none⟩) size sc) b6):=λh=>h.elim (λh=>by omega) (λh=>by have:=Option.some.inj h.2.1;simp only at this;omega)
 have nbx:¬(bx=b\/ownD B (.slice (some ⟨gs,0,none⟩) size sc) bx):=λh=>h.elim (λh=>by omega) (λh=>by have:=Option.some.inj h.2.1;simp only at this;omega)
 refine tldG (ds:=[.int .i64 (size:Nat),.slice a5 fr'.length c5]) (B:=P9) rfl rfl nb6 (tldG (ds:=enc x) (B:=B9) rfl rfl nbx (rld (B:=C9) rfl ⟨Fr.refl _ _,?_⟩))
 have C10:=C9.mv (w:=w10)
 refine rsto (B:=C10) (vs:=[.int .i64 (size:Nat),.slice a5 fr'.length c5]) rfl rfl rfl (pl_one _ _ _ _) λw11 C11 f11 _=>⟨f11.mono λi _ hi=>.inl hi,?_⟩
 have K11:FrT B [E.qz] w10 w11:=C10.wrote f11 hBb (by decide)
 have S11:=(S9.up (w':=w10)).kept K11 (by decide)
 have hpl:p<st.length:=by rw [T.stl];omega
 refine tixO rfl S11 (x:=st[p]) (by simp [hpl]) λg hg _ A=>rstO' rfl x S11 hg hpl rfl λw12 S12 f12 _=>⟨f12.mono λi _ hi=>.inr hi,?_⟩
 have hgg:g=gs:=(Option.some.inj hg).symm
 have G12:Fr (λi=>i=gs) w11 w12:=Fr.mono f12 λi _ hi=>(Option.some.inj hi.2.1).symm
 have F12:FrS gs B w w12:=(((F9.trans (FrX.ext e10.e)).trans (K11.x (Nat.le_refl _) (by decide))).trans (S11.wroteX f12 λg hg=>(Option.some.inj hg).symm))
 have GG12:Fr R w w12:=((G9.trans (Fr.fr e10.e)).trans (f11.mono λi _ hi=>hi ▸ Z.b)).trans (G12.mono λi _ hi=>hi ▸ Z.gs)
 have hSb:¬ownD B (.slice (some ⟨gs,0,none⟩) size sc) b:=C11.notOwn S11 (by decide)
 have H12:StoH B w12 b gs size bt ta tc (putTS size ts x.key p).1 a5 c5 fr' sc (st.set p x) bm m ch:=by
  have T10:=(T9.up (w':=w10)).kept K11 (by decide) (by decide)
  have T12:TabS B w12 bt ta tc size (putTS size ts x.key p).1:=T10.kept (S11.wrote f12 (Nat.le_refl _) (show E.qh∈[E.qh] by decide)) (by decide) (by decide)
  have K12:FrT B [E.qh] w11 w12:=S11.wrote f12 (Nat.le_refl _) (by decide)
  refine⟨H.lo,C11.fr f12 hSb,T12,((R9.up (w':=w10)).kept K11 (by decide)).kept K12 (by decide),S12,(((H8.map.kept f9 (by decide)).up (w':=w10)).kept K11 (by decide)).kept K12 (by decide),λs v hv=>?_,H.empt,H.apart,λhne s v hv g hg hf=>?_⟩
  ·have:=H8.rows s v hv
   exact⟨(((this.1.kept f9 (by decide)).up (w':=w10)).kept K11 (by decide)).kept K12 (by decide),this.2⟩
  ·have q_:=O5.lt hne
   obtain⟨g5,h1,h2,_⟩:=q_
   rw [h1] at hf;cases hf
   have q_:=H.rows s v hv
   obtain⟨hO2,hne2⟩:=q_
   have q_:=hO2.lt hne2
   obtain⟨g',h3,_,h4⟩:=q_
   rw [h3] at hg;cases hg
   have:=Le.size (a:=w) (b:=w4);omega
 have B12:Bk w12 bx (enc x) E.qh:=((B9.mv (w:=w10)).kept K11 (by decide)).fr f12 (λh=>nbx (.inr h))
 have hbm:bm≠b:=by intro e;exact H12.map.ne H12.cell e.symm
 have hbmx:bm≠bx:=by intro e;exact H12.map.ne B12 e.symm
 have hlk:=H12.look x.key.slot
 obtain⟨hOo,hin⟩:=hlk
 have nold:∀i,w.heap.size<=i\/i=b->¬ownD B ((getM m x.key.slot).getD (.slice none 0 0)) i:=λi hi hd=>by
  have q_:=hin i hd.2.1
  obtain⟨v0,hm0,hb0⟩:=q_
  have q_:=H.rows _ v0 hm0
  obtain⟨hO2,hne2⟩:=q_
  have q_:=hO2.lt hne2
  obtain⟨g',h3,_,h4⟩:=q_
  rw [h3] at hb0;cases hb0
  rcases hi with h|rfl
  ·omega
  ·rcases hOo with ⟨_,a,e⟩|hO
   ·exact hd.2.2 a e
   ·have q_:=hO.2
    rcases q_ with ⟨e,_⟩|⟨g2,cap,cur,e,_,hg2,_⟩
    ·rw [e] at hd;cases hd.2.1
    ·have h5:=hd.2.1
     rw [e] at h5
     simp only [Value.blk] at h5;cases h5
     have:=H12.cell.h
     rw [hg2] at this;cases this
 have hchl:(ch x.key.slot).length<=1000:=by
  have h1:=(T.of M C x.key.slot).length_eq
  have h2:(ofS L x.key.slot).length<=L.length:=List.length_filter_le _ _
  rw [List.length_map] at h1;omega
 refine drawRT TBok mixed (λi=>i=bm\/ownD B ((getM m x.key.slot).getD (.slice none 0 0)) i) (.one 0 (.one 1 (.one 2 (.one 3 (.one 4 (.one 5 (.one 6 (.one 7 (.one 8 (.one 9 (.one 10 (.one 11 (.one 12 (.one 13 (.one 15 (.duo 14 (.one 16 (.one 17 (.one 18 .nil))) 16 (.lone 14 (.one 17 (.one 18 .nil))))))))))))))))))) (by kernel_rfl) λw13 e13 _=>?_
 have nb:¬(b=bm\/ownD B ((getM m x.key.slot).getD (.slice none 0 0)) b):=λh=>h.elim (λh=>hbm h.symm) (nold b (.inr rfl))
 have nx:¬(bx=bm\/ownD B ((getM m x.key.slot).getD (.slice none 0 0)) bx):=λh=>h.elim (λh=>hbmx h.symm) (nold bx (.inl hbx))
 refine tld (B:=H12.cell) rfl nb (tld (B:=B12) rfl nx (tld (B:=H12.cell) rfl nb (tld (B:=B12) rfl nx ?_)))
 have H13:=H12.up (w':=w13)
 have fin:∀(u0 u1 u2:World) (v':Value),Le w13 u0->Own B E.qa u1 v' (ch x.key.slot++[(p:Int)])->Fr (ownD B ((getM m x.key.slot).getD (.slice none 0 0))) u0 u1->(Value.blk v'=Value.blk ((getM m x.key.slot).getD (.slice none 0 0))\/Value.blk v'=some u0.heap.size) ->
   MapL PP E.qa u2 bm (setM x.key.slot v' m)->Fr (λi=>i=bm) u1 u2->StoP (gR R w u2) B u2 b gs size (insS x L)/\FrS gs B w u2/\Fr R w u2:=λu0 u1 u2 v' L0 O1 f1 hv M2 f2=>by
  have hc:=(H13.up (w':=u0)).chain O1 f1 hv M2 f2
  have Z5:FpS (gP R w) b gs size bt ta tc a5 c5 fr' bm m:=⟨.inl Z.b,.inl Z.bt,λg hg=>.inl (Z.ta g hg),.inl Z.gs,.inl Z.bm,λhne g hg=>.inr (by
   have q_:=O5.lt hne
   obtain⟨g5,h1,h2,_⟩:=q_
   rw [h1] at hg;cases hg
   have:=Le.size (a:=w) (b:=w4);omega),λs v hv g hg=>.inl (Z.rows s v hv g hg)⟩
  have hz:=hc.2.2 _ Z5
  have hw0:w.heap.size<=u0.heap.size:=by have h1:=GG12.size;have h2:=e13.e.size;have h3:=L0.e.size;omega
  exact⟨(show StoP (gP R w) B u2 b gs size (insS x L) from ⟨bt,ta,tc,_,a5,c5,fr',sc,_,bm,_,_,hc.1,T',M',C',hz.2 _ (λ_ h=>h) (.inr hw0)⟩).end,(F12.trans (FrX.ext Le.e)).trans ((FrX.ext L0.e).trans (hc.2.1.x (Nat.le_refl _) (by decide))),Fr.gP (((GG12.mono λi _ hi=>.inl hi).trans (Fr.fr e13.e)).trans ((Fr.fr L0.e).trans hz.1))⟩
 refine⟨?_,?_⟩
 ·refine rlook H13.map x.key.slot rfl ⟨Fr.refl _ _,?_⟩
  refine rbs1 (p:Int) rfl rfl (by decide) λb14 w14 e14 _ S14=>⟨Fr.fr e14.e,?_⟩
  have h14:B<=w14.heap.size:=by have:=Le.size (a:=w13) (b:=w14);have:=H13.cell.lt;omega
  refine rappD ⟨rfl,rfl⟩ (hOo.up (w':=w14)) S14 (by simp) h14 (by simp;omega) λv' w15 O15 f15 hv=>⟨f15.mono λi _ hi=>.inr hi,?_⟩
  have M15:MapL PP E.qa w15 bm m:=(H13.map.up (w':=w14)).frO (hOo.up (w':=w14)) f15
  refine rupd M15 x.key.slot rfl λw16 M16 f16 _=>⟨f16.mono λi _ hi=>.inl hi,?_⟩
  exact⟨rfl,fin w14 w15 w16 v' inferInstance O15 f15 hv M16 f16⟩
 ·refine rbs1 (p:Int) rfl rfl (by decide) λb14 w14 e14 _ S14=>⟨Fr.fr e14.e,?_⟩
  refine rlook (H13.map.up (w':=w14)) x.key.slot rfl ⟨Fr.refl _ _,?_⟩
  have h14:B<=w14.heap.size:=by have:=Le.size (a:=w13) (b:=w14);have:=H13.cell.lt;omega
  refine rappD ⟨rfl,rfl⟩ (hOo.up (w':=w14)) S14 (by simp) h14 (by simp;omega) λv' w15 O15 f15 hv=>⟨f15.mono λi _ hi=>.inr hi,?_⟩
  have M15:MapL PP E.qa w15 bm m:=(H13.map.up (w':=w14)).frO (hOo.up (w':=w14)) f15
  refine rupd M15 x.key.slot rfl λw16 M16 f16 _=>⟨f16.mono λi _ hi=>.inl hi,?_⟩
  exact⟨rfl,fin w14 w15 w16 v' inferInstance O15 f15 hv M16 f16⟩
def cmpI (x y:Int):Int:=if x<y then -1 else if y<x then 1 else 0
def orI:List Int->Int
 |[]=>0
 |x::r=>if x=0 then orI r else x
theorem zCE{x:Int}:Sp PP F.d0 #[.int .i64 x] w λv w'=>v=.bool false/\w'=w:=by
 refine en TBok rfl ?_
 refine iF (· rfl) ?_
 exact⟨rfl,rfl⟩
theorem zAe{x y:Int}:Sp PP F.db #[.int .i64 x,.int .i64 y] w λv w'=>v=.int .i64 (cmpI x y)/\w'=w:=by
 unfold cmpI
 refine en TBok rfl ?_
 refine rcall (zCE) ?_
 rintro v w1 ⟨rfl,rfl⟩
 refine rcall (zCE) ?_
 rintro v w2 ⟨rfl,rfl⟩
 refine ite (λh1=>?_) (λh1=>?_)
 ·rw [if_pos h1];exact⟨rfl,rfl⟩
 rw [if_neg h1]
 refine ite (λh2=>?_) (λh2=>?_)
 ·rw [if_pos h2];exact⟨rfl,rfl⟩
 rw [if_neg h2];exact⟨rfl,rfl⟩
theorem zM1{l:List Int}(h:k<l.length):orI (l.drop k)=if l[k]=0 then orI (l.drop (k+1)) else l[k]:=by
 rw [List.drop_eq_getElem_cons h];rfl
theorem zBB{c:Nat}{l:List Int}(h:SlF w (.slice a n c) l)(hn:l.length<=1000000):Sp PP F.c5 #[.slice a n c] w λv w'=>v=.int .i64 (orI l)/\w'=w:=by
 have q_:=h.len
 obtain rfl:=q_
 refine en TBok rfl ?_
 refine cnt TBok 8 [2,5] 8 l.length (λk u=>orI (l.drop k)=orI l/\u=w) rfl rfl ⟨rfl,rfl⟩ ?_
 rintro k g u hk ⟨hd,rfl⟩
 refine ite (λhlt=>?_) (λhge=>?_)
 ·have hka:k<l.length:=by omega
  refine rix h (x:=l[k]) (by simp) λb1 o1 A1=>rload1 (A1.cell0 rfl) ?_
  have e:=zM1 hka
  refine ite (λhne=>?_) (λhe=>?_)
  ·rw [if_neg hne] at e
   rw [<-hd,e];exact⟨rfl,rfl⟩
  ·have he:=Classical.not_not.1 he
   rw [if_pos he] at e
   exact rA ⟨rfl,hka,by rw [<-e,hd],rfl⟩
 ·have q_:k=l.length:=by omega
  obtain rfl:=q_
  rw [List.drop_length] at hd
  rw [<-hd];exact⟨rfl,rfl⟩
theorem or_neg(x y:Int)(r:List Int):orI (cmpI x y::r)<0↔x<y\/x=y/\orI r<0:=by
 rw [show orI (cmpI x y::r)=if cmpI x y=0 then orI r else cmpI x y from rfl]
 have q_:=Int.lt_trichotomy x y
 rcases q_ with h|h|h
 ·have e:cmpI x y = -1:=by unfold cmpI;rw [if_pos h]
  rw [e,if_neg (by decide)]
  exact⟨λ_=>.inl h,λ_=>by decide⟩
 ·have e:cmpI x y=0:=by unfold cmpI;rw [if_neg (by omega),if_neg (by omega)]
  rw [e,if_pos rfl]
  exact⟨λh1=>.inr ⟨h,h1⟩,λh1=>h1.elim (λh2=>by omega) (·.2)⟩
 ·have e:cmpI x y=1:=by unfold cmpI;rw [if_neg (by omega),if_pos h]
  rw [e,if_neg (by decide)]
  exact⟨λh1=>absurd h1 (by decide),λh1=>by omega⟩
theorem or_nil:¬orI []<0:=by decide
theorem swo_of{α:Type}{cf:α->α->Int}(lt:α->α->Prop)(h:∀x y,cf x y<0↔lt x y)(h1:∀x,¬lt x x)(h2:∀x y z,lt x y->lt y z->lt x z)(h3:∀x y z,¬lt x y->¬lt y z->¬lt x z):Go.Sort.SWO (ltOf cf):=
 ⟨λx=>by simpa [ltOf,h] using h1 x,λx y z=>by simpa [ltOf,h] using h2 x y z,λx y z=>by
  have:=h3 x y z
  simp only [ltOf,decide_eq_false_iff_not,h];exact this⟩
end Go.W
namespace Go.Proofs
open Go.Shelf
def Tryz.sortS_ren:Go.Shelf.Ren:=⟨fun|6=>207|15=>121|14=>260|28=>188|29=>189|20=>300|21=>301|22=>302|23=>303|24=>304|25=>305|26=>306|27=>307|46=>338|47=>242|48=>243|49=>339|50=>340|57=>365|n=>n,fun|22=>180|24=>330|25=>340|3=>3|39=>231|0=>0|53=>309|55=>311|4=>4|46=>303|45=>302|50=>129|5=>5|9=>9|66=>383|70=>387|76=>435|77=>436|n=>n,fun|n=>n⟩
theorem Tryz.sortS:Go.Proofs.SlLaysF0.n6 Tryz.prog Tryz.sortS_ren:={
 mixed:=by kernel_rfl
 f6:=⟨Tryz.f207.name,by decide,W.ff Tryz.func207⟩
 f14:=⟨Tryz.f260.name,by decide,W.ff Tryz.func260⟩
 f15:=W.ff Tryz.func121
 f20:=⟨Tryz.f300.name,by decide,W.ff Tryz.func300⟩
 f21:=⟨Tryz.f301.name,by decide,W.ff Tryz.func301⟩
 f22:=⟨Tryz.f302.name,by decide,W.ff Tryz.func302⟩
 f23:=⟨Tryz.f303.name,by decide,W.ff Tryz.func303⟩
 f24:=⟨Tryz.f304.name,by decide,W.ff Tryz.func304⟩
 f25:=⟨Tryz.f305.name,by decide,W.ff Tryz.func305⟩
 f26:=⟨Tryz.f306.name,by decide,W.ff Tryz.func306⟩
 f27:=⟨Tryz.f307.name,by decide,W.ff Tryz.func307⟩
 f28:=W.ff Tryz.func188
 f29:=W.ff Tryz.func189
 f46:=⟨Tryz.f338.name,by decide,W.ff Tryz.func338⟩
 f47:=W.ff Tryz.func242
 f48:=W.ff Tryz.func243
 f49:=⟨Tryz.f339.name,by decide,W.ff Tryz.func339⟩
 f50:=⟨Tryz.f340.name,by decide,W.ff Tryz.func340⟩
 f57:=⟨Tryz.f365.name,by decide,W.ff Tryz.func365⟩
 t0:=Tryz.underlying0
 a0:=Tryz.isAgg0
 z0:=Tryz.sizeOf0
 v0:=Tryz.zeroValue0
 t3:=Tryz.underlying3
 a3:=Tryz.isAgg3
 z3:=Tryz.sizeOf3
 v3:=Tryz.zeroValue3
 t4:=Tryz.underlying4
 a4:=Tryz.isAgg4
 z4:=Tryz.sizeOf4
 v4:=Tryz.zeroValue4
 t5:=Tryz.underlying5
 a5:=Tryz.isAgg5
 z5:=Tryz.sizeOf5
 v5:=Tryz.zeroValue5
 t9:=Tryz.underlying9
 a9:=Tryz.isAgg9
 z9:=Tryz.sizeOf9
 v9:=Tryz.zeroValue9
 t22:=Tryz.underlying180
 a22:=Tryz.isAgg180
 z22:=Tryz.sizeOf180
 v22:=Tryz.zeroValue180
 t25:=Tryz.underlying340
 a25:=Tryz.isAgg340
 z25:=Tryz.sizeOf340
 v25:=Tryz.zeroValue340
 t39:=Tryz.underlying231
 a39:=Tryz.isAgg231
 z39:=Tryz.sizeOf231
 v39:=Tryz.zeroValue231
 t45:=Tryz.underlying302
 a45:=Tryz.isAgg302
 z45:=Tryz.sizeOf302
 v45:=Tryz.zeroValue302
 t46:=Tryz.underlying303
 a46:=Tryz.isAgg303
 z46:=Tryz.sizeOf303
 v46:=Tryz.zeroValue303
 t50:=Tryz.underlying129
 a50:=Tryz.isAgg129
 z50:=Tryz.sizeOf129
 v50:=Tryz.zeroValue129
 t53:=Tryz.underlying309
 a53:=Tryz.isAgg309
 z53:=Tryz.sizeOf309
 v53:=Tryz.zeroValue309
 t55:=Tryz.underlying311
 a55:=Tryz.isAgg311
 z55:=Tryz.sizeOf311
 v55:=Tryz.zeroValue311
 t66:=Tryz.underlying383
 a66:=Tryz.isAgg383
 z66:=Tryz.sizeOf383
 v66:=Tryz.zeroValue383
 t70:=Tryz.underlying387
 a70:=Tryz.isAgg387
 z70:=Tryz.sizeOf387
 v70:=Tryz.zeroValue387
 t76:=Tryz.underlying435
 a76:=Tryz.isAgg435
 z76:=Tryz.sizeOf435
 v76:=Tryz.zeroValue435
 t77:=Tryz.underlying436
 a77:=Tryz.isAgg436
 z77:=Tryz.sizeOf436
 v77:=Tryz.zeroValue436 }
end Go.Proofs
namespace Go.W
open Go Go.Proofs
open Enc (enc)
set_option maxRecDepth 10000
variable {B N i j k m n:Nat} {D R:Nat -> Prop} {P:Program} {T:Tab} {a a':Option Addr} {g:GrD} {q:QyD} {s:List UInt8} {u u' w w':World}
instance:Inhabited StD:=⟨zSt⟩
def cfS (a b:StD):Int:=orI [cmpI a.key.dir b.key.dir,cmpI a.key.v b.key.v]
theorem zHb(a b:StD):cfS a b<0↔a.key.dir<b.key.dir\/a.key.dir=b.key.dir/\a.key.v<b.key.v:=by
 unfold cfS
 rw [or_neg,or_neg]
 have:=or_nil
 constructor
 ·rintro(h|⟨h,h1|⟨_,h2⟩⟩)
  ·exact .inl h
  ·exact .inr ⟨h,h1⟩
  ·exact absurd h2 this
 ·rintro(h|⟨h,h1⟩)
  ·exact .inl h
  ·exact .inr ⟨h,.inl h1⟩
theorem zKF:Go.Sort.SWO (ltOf cfS):=swo_of (λa b=>a.key.dir<b.key.dir\/a.key.dir=b.key.dir/\a.key.v<b.key.v) zHb (λx h=>by omega) (λx y z h k=>by omega) (λx y z h k=>by omega)
theorem zIs{a b:StD}:Sp PP F.p3 #[agg a,agg b] w λv w'=>v=.int .i64 (cfS a b)/\Gw w w':=by
 refine en TBok rfl ?_
 refine rbx λba w1 n1 B1=>rbx λbb w2 n2 B2=>drawRE TBok mixed (λ_=>False) (.one 0 (.one 1 (.one 2 (.one 3 (.one 4 (.one 5 (.one 7 (.one 8 (.one 9 (.one 10 (.one 11 (.one 12 (.one 6 (.one 13 (.one 14 (.one 15 (.one 16 .nil))))))))))))))))) (by kernel_rfl) λw3 e3 g3=>?_
 refine tld (B:=B1) rfl nf (tld (B:=B2) rfl nf ?_)
 refine tld (B:=B1) rfl nf (tld (B:=B2) rfl nf ?_)
 refine rcall zAe ?_
 rintro v w4 ⟨rfl,rfl⟩
 refine⟨Fr.refl _ _,?_⟩
 refine rcall zAe ?_
 rintro v w5 ⟨rfl,rfl⟩
 refine⟨Fr.refl _ _,?_⟩
 refine rbsN [cmpI a.key.dir b.key.dir,cmpI a.key.v b.key.v] rfl (vs:=[.int .i64 (cmpI a.key.dir b.key.dir),.int .i64 (cmpI a.key.v b.key.v)]) rfl rfl (by decide) λb7 w7 n7 S7=>⟨n7.e,?_⟩
 refine rcall (zBB S7 (by simp)) ?_
 rintro v w8 ⟨rfl,rfl⟩
 refine⟨Fr.refl _ _,?_⟩
 exact⟨rfl,n1.gw.trans (n2.gw.trans (g3.trans n7.gw))⟩
theorem zKo{b gs size:Nat}{L:List StD}{s:Int}(S:StoP R B w b gs size L):
  Sp PP F.dj #[.pointer (some ⟨b,0,none⟩),.int .i64 s] w λv w'=>Own w.heap.size E.qh w' v (ofS L s)/\Stp w w':=by
 obtain⟨bt,ta,tc,ts,fa,fc,fr,sc,st,bm,m,ch,H,T,M,C,Z⟩:=S
 have hperm:=T.of M C s
 have hofl:(ofS L s).length<=L.length:=List.length_filter_le _ _
 have h1:=T.len M
 have h2:=T.cnt
 have h3:=T.ok.2.1
 have hlen:=hperm.length_eq
 rw [List.length_map] at hlen
 have hlk:=H.look s
 obtain⟨hOo,_⟩:=hlk
 refine en TBok rfl ?_
 refine rpnil (rld (B:=H.cell) rfl (rlook H.map s rfl ?_))
 have q_:∃cv,cv=(getM m s).getD (.slice none 0 0):=⟨_,rfl⟩
 obtain⟨cv,hcv⟩:=q_
 rw [<-hcv] at hOo ⊢
 have q_:=hOo.shape
 obtain⟨ca,cc,rfl⟩:=q_
 refine cnt1 TBok 17 [7] 5 17 (ch s).length (λk v u=>Own w.heap.size E.qh u v (((ch s).take k).map λn=>st.getD n.toNat zSt)/\Stp w u) rfl rfl ⟨Own.nil _ _ _,stp⟩ ?_
 rintro k v g u hk ⟨O,e⟩
 refine ite (λhlt=>?_) (λhge=>?_)
 ·have hka:k<(ch s).length:=by omega
  refine rix (hOo.sl.up (w':=u)) (x:=(ch s)[k]) (by simp) λb4 o4 A4=>rload1 (A4.cell0 rfl) ?_
  have hmem:=(C s).2 (ch s)[k]
  have q_:=hmem.1 (List.getElem_mem hka)
  obtain⟨p,hp,_,x,hx,_⟩:=q_
  have Hu:=H.up (w':=u)
  refine rld (B:=Hu.cell) rfl ?_
  rw [hp]
  refine rixO rfl Hu.sts (x:=x) hx λg hg _ A=>rloadA A rfl (rbs1 x rfl rfl (by decide) λb7 u7 e7 _ S7=>rapp1 (u:=w) ⟨rfl,rfl⟩ (O.up (w':=u7)) S7 (by simp;omega) λv8 u8 O8 f8 s8=>rA ⟨rfl,hka,?_,stp⟩)
  rw [zAa hka,List.map_append,hp]
  have:([(p:Int)].map λn=>st.getD n.toNat zSt)=[x]:=by simp [hx]
  rw [this];exact O8
 ·have q_:k=(ch s).length:=by omega
  obtain rfl:=q_
  rw [List.take_length] at O
  refine rcall (zCA Tryz.sortS (k:=4) (show Agg PP E.qh 4 from inferInstance) rfl cfS zKF (f:=F.qn) rfl (λx y W=>zIs) O (by simp;omega)) ?_
  rintro r u1 ⟨rfl,l',hp,hs,O1,f1⟩
  have s1:Stw w u u1:=zAz f1
  have hp2:=hp.trans hperm
  have hl':l'=ofS L s:=by
   refine SRis.uniq ?_ (M.ris.sublist (List.filter_sublist ..)) λx=>hp2.mem_iff
   have hnd:l'.Nodup:=hp2.nodup_iff.2 (M.ris.nodup.filter _)
   rw [List.nodup_iff_pairwise_ne] at hnd
   refine List.Pairwise.imp_of_mem (λ{a b} ha hb hh=>?_) (hs.and hnd)
   have ha':=List.mem_filter.1 (hp2.mem_iff.1 ha)
   have hb':=List.mem_filter.1 (hp2.mem_iff.1 hb)
   have hsa:a.key.slot=s:=by simpa using ha'.2
   have hsb:b.key.slot=s:=by simpa using hb'.2
   refine zCb (λhl=>hh.1 ((zHb _ _).2 ?_)) (λhe=>hh.2 (M.ris.inj ha'.1 hb'.1 he.symm))
   unfold lessK at hl;omega
  rw [<-hl']
  exact⟨O1,stp⟩
section
variable {B:Nat} {w u:World} {b gs size bt:Nat} {ta:Option Addr} {tc:Nat} {ts ts':TS} {fa a':Option Addr} {fc c':Nat} {fr fr':List Int} {sc:Nat} {st:List StD} {bm:Nat} {m:List (Int×Value)} {ch:Int->List Int}
theorem StoH.tabd(h:StoH B w b gs size bt ta tc ts fa fc fr sc st bm m ch)(T:TabS B u bt ta tc size ts')(f:FrT B tbE w u):StoH B u b gs size bt ta tc ts' fa fc fr sc st bm m ch:=
 ⟨h.lo,h.cell.kept f (by decide),T,h.free.kept f (by decide),h.sts.kept f (by decide),h.map.kept f (by decide),λs v hv=>⟨(h.rows s v hv).1.kept f (by decide),(h.rows s v hv).2⟩,h.empt,h.apart,h.apart2⟩
theorem StoH.pooled(h:StoH B w b gs size bt ta tc ts fa fc fr sc st bm m ch){w0:World}(O:Own w0.heap.size E.qa w (.slice a' fr'.length c') fr')(hw0:∀s v,(s,v)∈m->∀g,Value.blk v=some g->g<w0.heap.size)
  (C:Bk u b [.pointer (some ⟨bt,0,none⟩),.int .i64 size,.slice a' fr'.length c',.slice (some ⟨gs,0,none⟩) size sc,.map (some bm)] E.qz)(f:Fr (λi=>i=b) w u):StoH B u b gs size bt ta tc ts a' c' fr' sc st bm m ch/\FrT B [E.qz] w u:=by
 have F:FrT B [E.qz] w u:=h.cell.wrote f h.lo.1 (by decide)
 refine⟨⟨h.lo,C,h.tab.kept F (by decide) (by decide),O.y.kept F (by decide),h.sts.kept F (by decide),h.map.kept F (by decide),λs v hv=>⟨(h.rows s v hv).1.kept F (by decide),(h.rows s v hv).2⟩,h.empt,h.apart,λhne s v hv g hg hf=>?_⟩,F⟩
 have q_:=O.lt hne
 obtain⟨g5,h1,h2,_⟩:=q_
 rw [h1] at hf;cases hf
 have:=hw0 s v hv _ hg
 omega
theorem StoH.rowlt(h:StoH B w b gs size bt ta tc ts fa fc fr sc st bm m ch):∀s v,(s,v)∈m->∀g,Value.blk v=some g->g<w.heap.size:=λs v hv g hg=>by
 have q_:=h.rows s v hv
 obtain⟨hO2,hne2⟩:=q_
 have q_:=hO2.lt hne2
 obtain⟨g',h3,_,h4⟩:=q_
 rw [h3] at hg;cases hg;exact h4
theorem StoH.del(h:StoH B w b gs size bt ta tc ts fa fc fr sc st bm m ch)(s:Int)(M:MapL PP E.qa u bm (delM s m))(f:Fr (λi=>i=bm) w u):
  StoH B u b gs size bt ta tc ts fa fc fr sc st bm (delM s m) (λs'=>if s'=s then [] else ch s')/\FrT B [mapK] w u:=by
 have F:FrT B [mapK] w u:=h.map.wrote f h.lo.2.1 (by decide)
 have hnd:=h.map.2
 refine⟨⟨h.lo,h.cell.kept F (by decide),h.tab.kept F (by decide) (by decide),h.free.kept F (by decide),h.sts.kept F (by decide),M,λs2 v hv=>?_,λs2 hs2=>?_,λs2 v s3 v3 h2 h3=>?_,λhne s2 v hv=>?_⟩,F⟩
 ·have hv':=(zBX hnd).1 hv
  rw [if_neg hv'.1]
  have:=h.rows s2 v hv'.2
  exact⟨this.1.kept F (by decide),this.2⟩
 ·show (if s2=s then [] else ch s2)=[]
  split
  ·rfl
  ·rename_i hne
   refine h.empt s2 λhm=>hs2 ?_
   have q_:=List.mem_map.1 hm
   obtain⟨⟨k,v⟩,hk,rfl⟩:=q_
   exact List.mem_map.2 ⟨_,(zBX hnd).2 ⟨hne,hk⟩,rfl⟩
 ·exact h.apart s2 v s3 v3 ((zBX hnd).1 h2).2 ((zBX hnd).1 h3).2
 ·exact h.apart2 hne s2 v ((zBX hnd).1 hv).2
end
theorem zIA{b gs size:Nat}{L:List StD}{s:Int}(S:StoP R B w b gs size L):
  Sp PP F.py #[.pointer (some ⟨b,0,none⟩),.int .i64 s] w λv w'=>v=.int .i64 ((ofS L s).length:Nat)/\StoP (gR R w w') B w' b gs size (dropS L s)/\FrS gs B w w'/\Fr R w w':=by
 obtain⟨bt,ta,tc,ts,fa,fc,fr,sc,st,bm,m,ch,H,T,M,C,Z⟩:=S
 have hperm:=T.of M C s
 have h1:=T.len M
 have h2:=T.cnt
 have h3:=T.ok.2.1
 have hlen:=hperm.length_eq
 rw [List.length_map] at hlen
 have hofl:(ofS L s).length<=L.length:=List.length_filter_le _ _
 rw [<-hlen]
 have hnd:=(C s).1
 refine en TBok rfl ?_
 refine rpnil (rld (B:=H.cell) rfl (rlook H.map s rfl ?_))
 have hlk:=H.look s
 obtain⟨hOo,_⟩:=hlk
 have q_:∃cv,cv=(getM m s).getD (.slice none 0 0):=⟨_,rfl⟩
 obtain⟨cv,hcv⟩:=q_
 rw [<-hcv] at hOo ⊢
 have q_:=hOo.shape
 obtain⟨ca,cc,rfl⟩:=q_
 refine cnt TBok 20 [7,8,9] 20 (ch s).length (λk u=>∃tk fk ck,StoH B u b gs size bt ta tc tk fk ck (fr++(ch s).take k) sc st bm m ch/\StoT size tk (fr++(ch s).take k) st/\FrS gs B w u/\Fr (gP R w) w u/\FpS (gP R w) b gs size bt ta tc fk ck (fr++(ch s).take k) bm m) rfl rfl ⟨ts,fa,fc,by simpa using H,by simpa using T,FrX.refl _ _ _ _,Fr.refl _ _,by simpa using Z.up λ_ h=>.inl h⟩ ?_
 rintro k g u hk ⟨tk,fk,ck,Hu,Tu,Fu,Gu,Zu⟩
 have hlk:=Hu.look s
 obtain⟨hOu,_⟩:=hlk
 rw [<-hcv] at hOu
 refine ite (λhlt=>?_) (λhge=>?_)
 ·have hka:k<(ch s).length:=by omega
  have hmem:=(C s).2 (ch s)[k]
  have q_:=hmem.1 (List.getElem_mem hka)
  obtain⟨p,hp,hpf,x,hx,hxs⟩:=q_
  have hpk:(p:Int)∉fr++(ch s).take k:=by
   rw [List.mem_append,not_or]
   refine⟨hpf,λh=>?_⟩
   have q_:=List.mem_iff_getElem.1 h
   obtain⟨j,hj,hjp⟩:=q_
   rw [List.length_take] at hj
   rw [List.getElem_take,<-hp] at hjp
   have:=(List.getElem_inj hnd).1 hjp
   omega
  have hfl:(fr++(ch s).take k).length<=1000:=by rw [List.length_append,List.length_take];omega
  refine rix hOu.sl (x:=(ch s)[k]) (by simp) λb4 o4 A4=>rload1 (A4.cell0 rfl) ?_
  rw [hp]
  refine drawR TBok mixed (λi=>i≠b/\i≠gs) [0,1,2,3,4,5,6,7,8,9,10,11,12] (by kernel_rfl) λu1 e1 _=>tld (B:=Hu.cell) rfl (λh=>h.1 rfl) (tld (B:=Hu.cell) rfl (λh=>h.1 rfl) ?_)
  have H1:=Hu.up (w':=u1)
  refine tixO rfl H1.sts (x:=x) hx λg1 hg1 _ A1=>?_
  have hgs:g1=gs:=(Option.some.inj hg1).symm
  refine tloadA (cs:=enc x.key) (A1.sub 0 3) rfl (λh=>h.2 hgs) (rcall (zNC (k:=x.key) H1.tab) ?_)
  rintro v u2 ⟨rfl,T2,f2t⟩
  have f2:=H1.tab.wrote f2t
  have hSg:¬Ty B tbE u1 gs:=λh=>by
   have hO:=H1.sts
   have:=hO.blk (by intro h;rw [h] at hx;simp at hx)
   obtain⟨g2,cur,e2,_,_,hg2,_⟩:=this
   cases e2
   exact absurd (h.cells hg2) (by decide)
  refine⟨Fr.mono f2 λi _ hi=>⟨by rintro rfl;exact absurd (hi.cells H1.cell.h) (by decide),by rintro rfl;exact hSg hi⟩,?_⟩
  have H2:=H1.tabd T2 f2
  have F2:FrS gs B w u2:=(Fu.trans (FrX.ext e1.e)).trans (f2.x (Nat.le_refl _) (by decide))
  refine rldG (ds:=[.int .i64 (size:Nat),.slice fk (fr++(ch s).take k).length ck]) (B:=H2.cell) rfl rfl (rcall (zJv (sz:=(size:Int)) (m:=(p:Int)) H2.free.sl (by omega)) ?_)
  have hps:p<size:=by rw [<-T.stl];exact(List.getElem?_eq_some_iff.1 hx).1
  have hgv:giveP ((size:Int),fr++(ch s).take k) (p:Int)=(((size:Int),fr++(ch s).take k++[(p:Int)]),0):=by
   unfold giveP;rw [if_pos Tu.ok];dsimp only;rw [if_neg (by omega),if_neg hpk]
  rw [hgv]
  rintro v u3 ⟨⟨pv,rfl,a5,c5,rfl,O5⟩,e5⟩
  refine ral λb6 u6 n6 z6=>rsto (B:=z6) (vs:=[.int .i64 (size:Nat),.slice a5 (fr++(ch s).take k++[(p:Int)]).length c5]) rfl rfl rfl (pl_one _ _ _ _) λu7 B7 f7 _=>?_
  have s7:Stp u3 u7:=⟨Fr.st Le.e f7 λi hi=>by subst hi;exact n6.lo⟩
  clear z6 f7
  refine iT rfl (rldG (ds:=[.int .i64 (size:Nat),.slice a5 (fr++(ch s).take k++[(p:Int)]).length c5]) (B:=B7) rfl rfl ?_)
  have H7:=H2.up (w':=u7)
  refine rsto (B:=H7.cell) (vs:=[.int .i64 (size:Nat),.slice a5 (fr++(ch s).take k++[(p:Int)]).length c5]) rfl rfl rfl (pl_one _ _ _ _) λu8 C8 f8 _=>?_
  have P8:=H7.pooled (O5.up (w':=u7)) H2.rowlt C8 f8
  obtain⟨H8,F8⟩:=P8
  have Td:=Tu.drop hpk hx
  have htk:fr++(ch s).take (k+1)=fr++(ch s).take k++[(p:Int)]:=by rw [zAa hka,hp,List.append_assoc]
  have hwu:=Gu.size
  have hu2:=Le.size (a:=u) (b:=u1)
  have f2s:=f2.size
  refine rA ⟨rfl,hka,_,a5,c5,by rw [htk];exact H8,by rw [htk];exact Td,(F2.trans (FrX.ext Le.e)).trans (F8.x (Nat.le_refl _) (by decide)),((((Gu.trans (Fr.fr e1.e)).trans (Zu.tab f2t)).trans (Fr.fr (Le.e (a:=u2) (b:=u7)))).trans (f8.mono λi _ hi=>hi ▸ Zu.b)),⟨Zu.b,Zu.bt,Zu.ta,Zu.gs,Zu.bm,λhne g hg=>.inr ?_,Zu.rows⟩⟩
  have q_:=O5.lt (by simp)
  obtain⟨g5,h1,h2,_⟩:=q_
  rw [htk] at hg
  rw [h1] at hg;cases hg
  omega
 ·have q_:k=(ch s).length:=by omega
  obtain rfl:=q_
  rw [List.take_length] at Hu Tu
  refine rld (B:=Hu.cell) rfl (rdel Hu.map s rfl λu1 M1 f1 _=>?_)
  have D1:=Hu.del s M1 f1
  obtain⟨H1,F1⟩:=D1
  have MD:=M.drop C s
  rw [List.take_length] at Zu
  exact⟨rfl,(show StoP (gP R w) B u1 b gs size (dropS L s) from ⟨bt,ta,tc,_,_,_,_,sc,st,bm,_,_,H1,Tu,MD.1,MD.2,Zu.b,Zu.bt,Zu.ta,Zu.gs,Zu.bm,Zu.fr,λs2 v hv g hg=>Zu.rows s2 v ((zBX Hu.map.2).1 hv).2 g hg⟩).end,Fu.trans (F1.x (Nat.le_refl _) (by decide)),Fr.gP (Gu.trans (f1.mono λi _ hi=>hi ▸ Zu.bm))⟩
end Go.W
namespace Go.Proofs
open Go.Shelf
def Tryz.sortM_ren:Go.Shelf.Ren:=⟨fun|6=>296|15=>121|14=>336|28=>188|29=>189|20=>357|21=>358|22=>359|23=>360|24=>361|25=>362|26=>363|27=>364|46=>380|47=>242|48=>243|49=>381|50=>382|57=>387|n=>n,fun|22=>243|24=>318|25=>441|3=>3|39=>231|0=>0|53=>309|55=>311|4=>4|46=>303|45=>302|50=>129|5=>5|9=>9|66=>383|70=>387|76=>435|77=>436|n=>n,fun|n=>n⟩
theorem Tryz.sortM:Go.Proofs.SlLaysF0.n6 Tryz.prog Tryz.sortM_ren:={
 mixed:=by kernel_rfl
 f6:=⟨Tryz.f296.name,by decide,W.ff Tryz.func296⟩
 f14:=⟨Tryz.f336.name,by decide,W.ff Tryz.func336⟩
 f15:=W.ff Tryz.func121
 f20:=⟨Tryz.f357.name,by decide,W.ff Tryz.func357⟩
 f21:=⟨Tryz.f358.name,by decide,W.ff Tryz.func358⟩
 f22:=⟨Tryz.f359.name,by decide,W.ff Tryz.func359⟩
 f23:=⟨Tryz.f360.name,by decide,W.ff Tryz.func360⟩
 f24:=⟨Tryz.f361.name,by decide,W.ff Tryz.func361⟩
 f25:=⟨Tryz.f362.name,by decide,W.ff Tryz.func362⟩
 f26:=⟨Tryz.f363.name,by decide,W.ff Tryz.func363⟩
 f27:=⟨Tryz.f364.name,by decide,W.ff Tryz.func364⟩
 f28:=W.ff Tryz.func188
 f29:=W.ff Tryz.func189
 f46:=⟨Tryz.f380.name,by decide,W.ff Tryz.func380⟩
 f47:=W.ff Tryz.func242
 f48:=W.ff Tryz.func243
 f49:=⟨Tryz.f381.name,by decide,W.ff Tryz.func381⟩
 f50:=⟨Tryz.f382.name,by decide,W.ff Tryz.func382⟩
 f57:=⟨Tryz.f387.name,by decide,W.ff Tryz.func387⟩
 t0:=Tryz.underlying0
 a0:=Tryz.isAgg0
 z0:=Tryz.sizeOf0
 v0:=Tryz.zeroValue0
 t3:=Tryz.underlying3
 a3:=Tryz.isAgg3
 z3:=Tryz.sizeOf3
 v3:=Tryz.zeroValue3
 t4:=Tryz.underlying4
 a4:=Tryz.isAgg4
 z4:=Tryz.sizeOf4
 v4:=Tryz.zeroValue4
 t5:=Tryz.underlying5
 a5:=Tryz.isAgg5
 z5:=Tryz.sizeOf5
 v5:=Tryz.zeroValue5
 t9:=Tryz.underlying9
 a9:=Tryz.isAgg9
 z9:=Tryz.sizeOf9
 v9:=Tryz.zeroValue9
 t22:=Tryz.underlying243
 a22:=Tryz.isAgg243
 z22:=Tryz.sizeOf243
 v22:=Tryz.zeroValue243
 t25:=Tryz.underlying441
 a25:=Tryz.isAgg441
 z25:=Tryz.sizeOf441
 v25:=Tryz.zeroValue441
 t39:=Tryz.underlying231
 a39:=Tryz.isAgg231
 z39:=Tryz.sizeOf231
 v39:=Tryz.zeroValue231
 t45:=Tryz.underlying302
 a45:=Tryz.isAgg302
 z45:=Tryz.sizeOf302
 v45:=Tryz.zeroValue302
 t46:=Tryz.underlying303
 a46:=Tryz.isAgg303
 z46:=Tryz.sizeOf303
 v46:=Tryz.zeroValue303
 t50:=Tryz.underlying129
 a50:=Tryz.isAgg129
 z50:=Tryz.sizeOf129
 v50:=Tryz.zeroValue129
 t53:=Tryz.underlying309
 a53:=Tryz.isAgg309
 z53:=Tryz.sizeOf309
 v53:=Tryz.zeroValue309
 t55:=Tryz.underlying311
 a55:=Tryz.isAgg311
 z55:=Tryz.sizeOf311
 v55:=Tryz.zeroValue311
 t66:=Tryz.underlying383
 a66:=Tryz.isAgg383
 z66:=Tryz.sizeOf383
 v66:=Tryz.zeroValue383
 t70:=Tryz.underlying387
 a70:=Tryz.isAgg387
 z70:=Tryz.sizeOf387
 v70:=Tryz.zeroValue387
 t76:=Tryz.underlying435
 a76:=Tryz.isAgg435
 z76:=Tryz.sizeOf435
 v76:=Tryz.zeroValue435
 t77:=Tryz.underlying436
 a77:=Tryz.isAgg436
 z77:=Tryz.sizeOf436
 v77:=Tryz.zeroValue436 }
end Go.Proofs
namespace Go.W
open Go Go.Proofs Go.Shelf
open Enc (enc)
variable {B N i j k m n:Nat} {D R:Nat -> Prop} {P:Program} {T:Tab} {a a':Option Addr} {g:GrD} {q:QyD} {s:List UInt8} {u u' w w':World}
theorem zE4{β:Type}[Inhabited β](f:β->Value)(o:Nat)(d:Array β)(cur:Array Value):Go.Sort.putCells f o d cur=Go.Sort.putCells id o (d.map f) cur:=by
 unfold Go.Sort.putCells
 apply Array.ext
 ·simp
 ·intro i h1 h2
  simp only [Array.getElem_mapIdx,Array.size_map,id]
  split
  ·rename_i h
   rw [getElem!_pos d (i - o) (by omega),getElem!_pos (d.map f) (i - o) (by simp;omega)];simp
  ·rfl
theorem zIZ(l:List Int):flat l=l.map (Value.int .i64):=by
 induction l with
 |nil=>rfl
 |cons x r ih=>rw [flat_cons,ih];rfl
theorem takeC(F cur:Array Value)(h:F.size<=cur.size):(Go.Sort.putCells id 0 F cur).toList.take F.size=F.toList:=by
 apply List.ext_getElem?
 intro j
 rw [List.getElem?_take]
 split
 ·rename_i hj
  rw [Array.getElem?_toList,Array.getElem?_toList]
  unfold Go.Sort.putCells
  rw [Array.getElem?_mapIdx,Array.getElem?_eq_getElem (by omega:j<cur.size),Option.map_some,if_pos ⟨by omega,by omega⟩,Array.getElem?_eq_getElem hj,Nat.sub_zero,getElem!_pos _ j hj];rfl
 ·rename_i hj
  rw [List.getElem?_eq_none (by simp;omega)]
abbrev srtI (l:List Int):List Int:=l.mergeSort λx y=>decide (x<=y)
section
variable {P:Program} {w:World}
theorem zNr{ρ:Ren}(L:SlLaysN.n53 P ρ){f:FuncId}(hf:ρ.f 53=f){e:TypeId}{v:Value}{l:List Int}(h:Own B e w v l)(hsmall:l.length<4611686018427387904):
  Sp P f #[v] w λr w'=>r=.tuple #[]/\Own B e w' v (srtI l)/\Fr (ownD B v) w w':=by
 subst hf
 have can:callable P (ρ.f 53):=by
  obtain⟨nm,h1,h2⟩:=L.f53
  exact⟨_,h2,rfl,h1⟩
 obtain⟨a,c,rfl⟩:=h.shape
 refine⟨can,?_⟩
 by_cases hl:l=[]
 ·subst hl
  refine(AnyG.slices_Sort_int_none (P:=P) (ρ:=ρ) L a c w).mono ?_
  rintro en w' ⟨rfl,rfl⟩
  have e0:srtI ([]:List Int)=[]:=by simp [srtI]
  rw [e0]
  exact⟨rfl,h,Fr.refl _ _⟩
 ·obtain⟨g,cur,rfl,hn,hb,hg,hnc,hcm,hcs,htake⟩:=h.blk hl
  have hsz:Enc.sz Int=1:=rfl
  rw [hsz,Nat.mul_one] at htake
  rw [zIZ] at htake
  have hH:Go.Sort.Holds (Value.int .i64) w g 0 l.toArray:=by
   intro j hj
   have hj':j<l.length:=by simpa using hj
   constructor
   ·rw [cell_of_row w g (0+j) cur e (0,0) hg,Nat.zero_add]
    have:(l.map (Value.int .i64))[j]? = cur[j]?:=by rw [<-htake,List.getElem?_take,if_pos hj',Array.getElem?_toList]
    rw [<-this,getElem!_pos l.toArray j hj];simp [hj']
   ·simp [World.frozen?,hg]
  have main:=AnyG.slices_Sort_int L g 0 c l w hH (blk_lt hg) hsmall
  refine main.mono ?_
  rintro en w' ⟨rfl,m,os,rfl⟩
  have hlen:(srtI l).length=l.length:=List.length_mergeSort _
  have hheap:∀i,i<w.heap.size->(Go.Sort.grow (Go.Sort.putRow (Value.int .i64) (Go.Sort.ahead w m) g 0 (srtI l).toArray) os).heap[i]? = (w.heap.modify g (Go.Sort.onCells (Go.Sort.putCells (Value.int .i64) 0 (srtI l).toArray)))[i]?:=by
   intro i hi
   rw [Go.Sort.heap_grow_old _ _ (by simpa [Go.Sort.putRow,Go.Sort.mapBlock,Go.Sort.ahead] using hi)]
   rfl
  have hgl:=blk_lt hg
  refine⟨rfl,.inr ⟨zAm _,.inr ⟨g,c,Go.Sort.putCells (Value.int .i64) 0 (srtI l).toArray cur,by rw [hlen],hb,?_,by rw [hlen];omega,hcm,?_,?_⟩⟩,⟨rfl,rfl,rfl,?_,λi hi hne=>?_,λi o ho hr=>?_⟩⟩
  ·rw [hheap g hgl,Array.getElem?_modify,if_pos rfl,hg];rfl
  ·simpa [Go.Sort.putCells] using hcs
  ·rw [zE4,zIZ,hsz,Nat.mul_one]
   have hs:((srtI l).toArray.map (Value.int .i64)).size=(srtI l).length:=by simp
   have:=takeC ((srtI l).toArray.map (Value.int .i64)) cur (by rw [hs,hlen];rw [hsz] at hcs;omega)
   rw [hs] at this
   rw [this];simp
  ·simp [Go.Sort.grow,Go.Sort.putRow,Go.Sort.mapBlock,Go.Sort.ahead]
  ·rw [hheap i hi,Array.getElem?_modify,if_neg (λh=>hne (by subst h;exact⟨hb,rfl,h.not0 hl⟩))]
  ·rw [hheap i (blk_lt ho),Array.getElem?_modify]
   by_cases hi:g=i
   ·subst hi;rw [hg] at ho;cases ho;cases hr
   ·rw [if_neg hi];exact ho
theorem zIc(l:List Int):(srtI l).Perm l:=List.mergeSort_perm _ _
theorem zMr(l:List Int):(srtI l).Pairwise (·<=·):=by
 have:=List.pairwise_mergeSort (le:=λx y:Int=>decide (x<=y)) (λa b c h1 h2=>by simp at *;omega) (λa b=>by simp;omega) l
 exact this.imp λh=>by simpa using h
end
section
variable {α:Type} [Enc α] [Inhabited α] {w:World}
omit [Inhabited α] in
theorem zHM{val:α->Value}(hv:∀x:α,enc x=[val x])(l:List α):flat l=l.map val:=by
 induction l with
 |nil=>rfl
 |cons x r ih=>rw [flat_cons,ih,hv];rfl
theorem sz_one{val:α->Value}(hv:∀x:α,enc x=[val x]):Enc.sz α=1:=by
 rw [<-Enc.len (default:α),hv];rfl
theorem zHU{val:α->Value}(hv:∀x:α,enc x=[val x]){e:TypeId}{l:List α}{g:Nat}{cur:Array Value}(hg:w.heap[g]? = some (.cells cur e (0,0)))(ht:cur.toList.take (l.length*Enc.sz α)=flat l):Go.Sort.Holds val w g 0 l.toArray:=by
 rw [sz_one hv,Nat.mul_one,zHM hv] at ht
 intro j hj
 have hj':j<l.length:=by simpa using hj
 constructor
 ·rw [cell_of_row w g (0+j) cur e (0,0) hg,Nat.zero_add]
  have:(l.map val)[j]? = cur[j]?:=by rw [<-ht,List.getElem?_take,if_pos hj',Array.getElem?_toList]
  rw [<-this,getElem!_pos l.toArray j hj];simp [hj']
 ·simp [World.frozen?,hg]
theorem zKZ{val:α->Value}(hv:∀x:α,enc x=[val x]){e:TypeId}{g c:Nat}{l l':List α}{os:Array Obj}(h:Own B e w (.slice (some ⟨g,0,none⟩) n c) l)(hl:l≠[])(hlen:l'.length=l.length){β:Type}[Inhabited β](val':β->Value)(d:Array β)(hd:d.map val'=l'.toArray.map val):
  Own B e (Go.Sort.grow (Go.Sort.putRow val' (Go.Sort.ahead w m) g 0 d) os) (.slice (some ⟨g,0,none⟩) n c) l'/\Fr (ownD B (.slice (some ⟨g,0,none⟩) n c)) w (Go.Sort.grow (Go.Sort.putRow val' (Go.Sort.ahead w m) g 0 d) os):=by
 have h0:=h
 have hb0:=h.blk hl
 obtain⟨g',cur,hgg,hn,hb,hg,hnc,hcm,hcs,htake⟩:=hb0
 cases hgg
 have hsz:=sz_one hv
 have hheap:∀i,i<w.heap.size->(Go.Sort.grow (Go.Sort.putRow val' (Go.Sort.ahead w m) g 0 d) os).heap[i]? = (w.heap.modify g (Go.Sort.onCells (Go.Sort.putCells val' 0 d)))[i]?:=by
  intro i hi
  rw [Go.Sort.heap_grow_old _ _ (by simpa [Go.Sort.putRow,Go.Sort.mapBlock,Go.Sort.ahead] using hi)]
  rfl
 have hgl:=blk_lt hg
 refine⟨.inr ⟨zAm _,.inr ⟨g,c,Go.Sort.putCells val' 0 d cur,by rw [hlen,<-hn],hb,?_,by rw [hlen];omega,hcm,?_,?_⟩⟩,⟨rfl,rfl,rfl,?_,λi hi hne=>?_,λi o ho hr=>?_⟩⟩
 ·rw [hheap g hgl,Array.getElem?_modify,if_pos rfl,hg];rfl
 ·simpa [Go.Sort.putCells] using hcs
 ·rw [zE4,hd,zHM hv,hsz,Nat.mul_one]
  have hs:(l'.toArray.map val).size=l'.length:=by simp
  have:=takeC (l'.toArray.map val) cur (by rw [hs,hlen];rw [hsz] at hcs;omega)
  rw [hs] at this
  rw [this];simp
 ·simp [Go.Sort.grow,Go.Sort.putRow,Go.Sort.mapBlock,Go.Sort.ahead]
 ·rw [hheap i hi,Array.getElem?_modify,if_neg (λh1=>hne (by subst h1;exact⟨hb,rfl,h0.not0 hl⟩))]
 ·rw [hheap i (blk_lt ho),Array.getElem?_modify]
  by_cases hi:g=i
  ·subst hi;rw [hg] at ho;cases ho;cases hr
  ·rw [if_neg hi];exact ho
variable {P:Program}
theorem zNq{ρ ρ0:Ren}(L:SlLaysF.n6 P ρ)(L0:SlLaysF0.n6 P ρ0){val:α->Value}(hv:∀x:α,enc x=[val x])(cf:α->α->Int)(hO:Go.Sort.SWO (ltOf cf)){f g:FuncId}(hf:ρ.f 6=f)(hf0:ρ0.f 6=f)
  (hc:∀(x y:α) (W:World),Sp P g #[val x,val y] W λv w'=>v=.int .i64 (cf x y)/\Gw W w'){e:TypeId}{v:Value}{l:List α}(h:Own B e w v l)(hsmall:l.length<4611686018427387904):
  Sp P f #[v,.func (.func g) #[] #[]] w λr w'=>r=.tuple #[]/\∃l',l'.Perm l/\l'.Pairwise (λa b=>cf b a<0->False)/\Own B e w' v l'/\Fr (ownD B v) w w':=by
 subst hf
 have can:callable P (ρ.f 6):=by
  obtain⟨nm,h1,h2⟩:=L.f6
  exact⟨_,h2,rfl,h1⟩
 obtain⟨a,c,rfl⟩:=h.shape
 refine⟨can,?_⟩
 by_cases hl:l=[]
 ·subst hl
  have:=AnyF.slices_SortFunc_none (P:=P) (ρ:=ρ0) L0 a c (.func (.func g) #[] #[]) w
  rw [hf0] at this
  refine this.mono ?_
  rintro en w' ⟨rfl,rfl⟩
  exact⟨rfl,[],.refl _,.nil,h,Fr.refl _ _⟩
 ·obtain⟨g0,cur,rfl,hn,hb,hg,hnc,hcm,hcs,htake⟩:=h.blk hl
  have hd:l.toArray.size=l.length:=by simp
  have hcan:callable P g:=(hc default default w).can
  have h1:OneCell val:=λx=>Enc.one x _ (by rw [hv];simp)
  have hcmp:CmpLays1 P g #[] val cf g0 0 l.toArray.size w:=by
   intro m os dk _ x y
   refine(hc x y _).calls.mono ?_
   intro en w' he
   cases en with
   |returned v=>obtain⟨rfl,q,os',hw⟩:=he;exact⟨rfl,q,os',hw⟩
   |_=>exact he.elim
  have main:=Any.slices_SortFunc L val h1 cf hO g #[] g0 0 c l.toArray w (λargs w=>zAB hcan w) hcmp (zHU hv hg (hn ▸ htake)) (blk_lt hg) (by rw [hd];exact hsmall)
  rw [hd] at main
  refine main.mono ?_
  rintro en w' ⟨rfl,d',m,os,⟨hp1,_,hp2⟩,hs,rfl⟩
  have hd':d'.size=l.length:=by rw [hp1,hd]
  have e1:d'.extract 0 l.length=d':=by rw [<-hd'];simp
  have e2:l.toArray.extract 0 l.length=l.toArray:=by rw [<-hd];simp
  rw [e1,e2] at hp2
  have hw:=zKZ hv (l':=d'.toList) (m:=m) (os:=os) h hl (by simpa using hd') val d' (by simp)
  refine⟨rfl,d'.toList,by simpa using hp2,?_,hw.1,hw.2⟩
  rw [List.pairwise_iff_getElem]
  intro i j hi hj hij hlt
  have:=hs i j (Nat.zero_le _) hij (by simpa [hd'] using hj)
  simp only [ltOf] at this
  rw [getElem!_pos d' j (by simpa using hj),getElem!_pos d' i (by simpa using hi)] at this
  simp only [Array.getElem_toList] at hlt
  simp [hlt] at this
end
instance:Inhabited ByteArray:=⟨⟨#[]⟩⟩
theorem zNs{ρ:Ren}(L:SlLaysN.n54 P ρ){f:FuncId}(hf:ρ.f 54=f){e:TypeId}{v:Value}{l:List ByteArray}(h:Own B e w v l)(hsmall:l.length<4611686018427387904):
  Sp P f #[v] w λr w'=>r=.tuple #[]/\∃l',l'.Perm l/\l'.Pairwise (λa b=>a.data.toList<=b.data.toList)/\Own B e w' v l'/\Fr (ownD B v) w w':=by
 subst hf
 have can:callable P (ρ.f 54):=by
  obtain⟨nm,h1,h2⟩:=L.f54
  exact⟨_,h2,rfl,h1⟩
 obtain⟨a,c,rfl⟩:=h.shape
 refine⟨can,?_⟩
 by_cases hl:l=[]
 ·subst hl
  refine(AnyG.slices_Sort_string_none (P:=P) (ρ:=ρ) L a c w).mono ?_
  rintro en w' ⟨rfl,rfl⟩
  exact⟨rfl,[],.refl _,.nil,h,Fr.refl _ _⟩
 ·obtain⟨g,cur,rfl,hn,hb,hg,hnc,hcm,hcs,htake⟩:=h.blk hl
  have hH0:=zHU (val:=Value.string) (λ_=>rfl) hg (hn ▸ htake)
  have hH:Go.Sort.Holds encStr w g 0 (l.map λs=>s.data.toList).toArray:=by
   intro j hj
   have hj':j<l.length:=by simpa using hj
   have h1:=hH0 j (by simpa using hj')
   rw [getElem!_pos _ j (by simpa using hj')] at h1 ⊢
   simpa [encStr] using h1
  have main:=AnyG.slices_Sort_string L g 0 c (l.map λs=>s.data.toList) w hH (blk_lt hg) (by simpa using hsmall)
  rw [List.length_map] at main
  refine main.mono ?_
  rintro en w' ⟨rfl,m,os,rfl⟩
  obtain⟨M,hM⟩:∃M,M=(l.map λs=>s.data.toList).mergeSort λx y=>decide (x<=y):=⟨_,rfl⟩
  rw [<-hM]
  have hMl:M.length=l.length:=by rw [hM,List.length_mergeSort,List.length_map]
  have hw:=zKZ (val:=Value.string) (λ_=>rfl) (l':=M.map λs=>(⟨s.toArray⟩:ByteArray)) (m:=m) (os:=os) h hl (by simp [hMl]) encStr M.toArray (by simp [encStr])
  refine⟨rfl,M.map λs=>(⟨s.toArray⟩:ByteArray),?_,?_,hw.1,hw.2⟩
  ·have hp:M.Perm (l.map λs=>s.data.toList):=by rw [hM];exact List.mergeSort_perm _ _
   have:=hp.map λs=>(⟨s.toArray⟩:ByteArray)
   rw [List.map_map] at this
   have e:((λs:List UInt8=>(⟨s.toArray⟩:ByteArray)) ∘ λs:ByteArray=>s.data.toList)=id:=by funext s;simp
   rw [e,List.map_id] at this
   exact this
  ·rw [List.pairwise_map]
   have:=List.pairwise_mergeSort (le:=λx y:List UInt8=>decide (x<=y)) (λa b c h1 h2=>by simp at *;exact List.le_trans h1 h2) (λa b=>by simp;exact List.le_total a b) (l.map λs=>s.data.toList)
   rw [<-hM] at this
   exact this.imp λh=>by simpa using h
def BldB (T e:TypeId) (B b:Nat) (l:List UInt8) (w:World):Prop:=Lib.IsBuilderF T e B b (Lib.byteCells l) w
theorem zNO{T e:TypeId}{b:Nat}(hB:B<=b)(k:Bk w b [.pointer none,.slice none 0 0] T):BldB T e B b [] w:=
 .inl ⟨hB,.slice none 0 0,k.h,World.ownsRowF_nil w B e 1,by simp [Value.ownBlock]⟩
theorem atF_fr{T e:TypeId}{b:Nat}{p:Value}{bs:List Value}(h:Lib.BuilderAtF T e B b p bs w)(f:Fr D w w')(hd:∀i c t z,w.heap[i]? = some (.cells c t z)->(t=T/\i=b\/t=e/\B<=i)->¬D i):Lib.BuilderAtF T e B b p bs w':=by
 obtain⟨hB,v,hb,hown,hne⟩:=h
 refine⟨hB,v,f.blk hb (hd _ _ _ _ hb (.inl ⟨rfl,rfl⟩)),⟨hown.1,?_⟩,hne⟩
 rcases hown.2 with hn|⟨g,cap,cur,fz,rfl,hg,hgg,rest⟩
 ·exact .inl hn
 ·exact .inr ⟨g,cap,cur,fz,rfl,hg,f.blk hgg (hd _ _ _ _ hgg (.inr ⟨rfl,hg⟩)),rest⟩
theorem BldB.fr{T e:TypeId}{b:Nat}{l:List UInt8}(h:BldB T e B b l w)(f:Fr D w w')(hd:∀i c t z,w.heap[i]? = some (.cells c t z)->(t=T/\i=b\/t=e/\B<=i)->¬D i):BldB T e B b l w':=by
 rcases h with h|h
 ·exact .inl (atF_fr h f hd)
 ·exact .inr (atF_fr h f hd)
theorem BldB.up{T e:TypeId}{b:Nat}{l:List UInt8}[L:Le w w'](h:BldB T e B b l w):BldB T e B b l w':=h.fr L.e λ_ _ _ _ _ _ h=>h
theorem BldB.obj{T e:TypeId}{b:Nat}{l:List UInt8}(h:BldB T e B b l w):∃c z,w.heap[b]? = some (.cells c T z):=by
 rcases h with ⟨_,v,hb,_⟩|⟨_,v,hb,_⟩ <;> exact⟨_,_,hb⟩
theorem zHC{T e:TypeId}{b:Nat}{l:List UInt8}(h:BldB T e B b l w)(h1:Go.RowKit.Below B w w')(h2:Lib.OthersKept e (some b) w w'):FrX (λi=>i=b) B [e] w w':=by
 refine⟨h1.os,h1.tape,h1.output,h1.size,λi hi hd=>?_,λi o ho hr=>?_⟩
 ·obtain⟨o,ho⟩:∃o,w.heap[i]? = some o:=⟨_,Array.getElem?_eq_getElem hi⟩
  by_cases hB:i<B
  ·exact h1.block i hB
  ·rw [ho]
   refine h2 i o ho (λhe=>hd (.inl (Option.some.inj he))) λc fz he=>hd (.inr ?_)
   subst he
   exact Ty.mk (by omega) ho (by simp)
 ·obtain⟨c,z,hb⟩:=h.obj
  refine h2 i o ho (λhe=>?_) λc fz he=>?_
  ·have:i=b:=Option.some.inj he
   subst this
   rw [hb] at ho;cases ho;cases hr
  ·subst he;cases hr
section
variable {P:Program}
theorem zLQ{ρ:Ren}(L:Lays.n166 P ρ)(X:Builder.Extra P ρ){f:FuncId}{T e:TypeId}(hf:ρ.f 166=f)(hT:ρ.t 72=T)(he:ρ.t 5=e)(hc:callable P f){b:Nat}{l m:List UInt8}(h:BldB T e B b l w)(hB:B<=w.heap.size)(hlen:l.length+m.length<=140737488355328):
  Sp P f #[.pointer (some ⟨b,0,none⟩),.string ⟨m.toArray⟩] w λv w'=>v=.tuple #[.int .i64 m.length,.nilIface]/\BldB T e B b (l++m) w'/\FrX (λi=>i=b) B [e] w w':=by
 subst hf;subst hT;subst he
 refine⟨hc,(Any.Builder_WriteString_k L X B b (Lib.byteCells l) ⟨m.toArray⟩ w h (by rw [Lib.byteCells_length];exact hlen) hB).mono ?_⟩
 rintro en w' ⟨rfl,h1,h2,h3⟩
 refine⟨rfl,.inr ?_,zHC h h2 h3⟩
 rw [Lib.byteCells_append]
 exact h1
theorem zLi{ρ:Ren}(L:Lays.n169 P ρ)(X:Builder.Extra P ρ){f:FuncId}{T e:TypeId}(hf:ρ.f 169=f)(hT:ρ.t 72=T)(he:ρ.t 5=e)(hc:callable P f){b:Nat}{l:List UInt8}(h:BldB T e B b l w)(hB:B<=w.heap.size):
  Sp P f #[.pointer (some ⟨b,0,none⟩)] w λv w'=>v=.string ⟨l.toArray⟩/\BldB T e B b l w'/\FrX (λi=>i=b) B [e] w w':=by
 subst hf;subst hT;subst he
 refine⟨hc,(Any.Builder_String_any_k L X B b l w h hB).mono ?_⟩
 rintro en w' ⟨rfl,h1,h2,h3⟩
 exact⟨rfl,h1,zHC h h2 h3⟩
theorem FnAt.can{f:FuncId}{fn:Func}(h:FnAt P f fn n):callable P f:=⟨fn,h.hf,h.hb,h.hm⟩
end
end Go.W
namespace Go.W
open Go
open Enc (enc)
variable {B N i j k m n:Nat} {D R:Nat -> Prop} {P:Program} {T:Tab} {a a':Option Addr} {g:GrD} {q:QyD} {s:List UInt8} {u u' w w':World}
theorem Fr.blk'(h:Fr D w w'){b:Nat}{o:Obj}(hb:w.heap[b]? = some o)(hd:¬D b):w'.heap[b]? = some o:=by rw [h.block b (blk_lt hb) hd];exact hb
theorem zNP{b o:Nat}{f:Option Nat}{v:Value}(h:w.cell? ⟨b,o,f⟩=some v):b<w.heap.size:=by
 rcases Nat.lt_or_ge b w.heap.size with h1|h1
 ·exact h1
 ·unfold World.cell? at h;rw [Array.getElem?_eq_none h1] at h;cases h
theorem Qt.trans{a b c:World}(h:Qt B a b)(k:Qt B b c):Qt B a c:=
 ⟨k.os.trans h.os,k.tape.trans h.tape,k.output.trans h.output,Nat.le_trans h.size k.size,λi o ho hb=>k.block i o (h.block i o ho hb) hb⟩
section
variable {P:Program}
structure SeqG (P:Program) (g:FuncId) (first cap:List Value) (Qi Rb:World->World->Prop) (St:World->Prop) (Nx:List (List Value)->List Value->World->Prop) (En:List (List Value)->Prop):Prop where
 out:∀(l:Nat) (J:List (List Value)->World->Prop) (Jx:World->Prop) (w:World),(∀i u u',J i u->Qi u u'->J i u')->(∀u u',Jx u->Qi u u'->Jx u') ->
  (∀i u x,Nx i x u->J i u->YieldS P l x u λb u'=>((b=true/\J (i++[x]) u')\/(b=false/\Jx u'))/\Rb u u')->J [] w->St w ->
  Sp P g (first++[yl l]++cap).toArray w λ_ w'=>(∃i,En i/\J i w')\/Jx w'
theorem rrangeG(hT:T.ok P=true)(hr:T.round=false){g:Operand}{ps:Array Tmp}{assign body:Code}{Q:KS}{F:Nat->Value}{gf:FuncId}{first cap:List Value}{Qi Rb Rc:World->World->Prop}{St:World->Prop}{Nx:List (List Value)->List Value->World->Prop}{En:List (List Value)->Prop}
  (hg:ev F g=.func (.func gf) first.toArray cap.toArray)(hps:allLt n ps.toList=true)
  (hseq:SeqG P gf first cap Qi Rb St Nx En)(hxs:∀ys x u,Nx ys x u->x.length=ps.toList.length)(hQi:∀u u',Qi u u'->∃D,Fr D u u')
  (I:List (List Value)->World->Prop)(Ix:Code->World->Prop)(hI:∀i u u',I i u->Qt w.heap.size u u'->I i u')(hIx:∀c u u',Ix c u->Qt w.heap.size u u'->Ix c u')
  (hIQ:∀i u u',w.heap.size<=u.heap.size->I i u->Qi u u'->I i u')(hIxQ:∀c u u',w.heap.size<=u.heap.size->Ix c u->Qi u u'->Ix c u')
  (hRb:∀u c u2 u3,Qt w.heap.size u c->Rc c u2->Qt w.heap.size u2 u3->Rb u u3)(hRc:∀c u,Rc c u->∃D,Fr D c u)(hSt:∀w',Ext w w'->St w')(h0:I [] w)
  (hround:∀i x u,Nx i x u->(∃o,u.heap[w.heap.size]? = some o)->I i u->S P { T with round:=true } n assign
   { nrm:=λF1 u1=>Ext u u1/\(∀c,Qt w.heap.size u1 c->S P { T with round:=true } n body { nrm:=λ_ u2=>I (i++[x]) u2/\Rc c u2,ext:=λj _ u2=>Ix (.exit j) u2/\Rc c u2,ret:=λ_ u2=>Ix .ret u2/\Rc c u2,pan:=λ_ _ _=>False } F1 c),ext:=λ_ _ _=>False,ret:=λ_ _=>False,pan:=λ_ _ _=>False } (rdF F ps.toList x) u)
  (hdone:∀i D u,En i->I i u->w.heap.size<=D->u.heap[D]? = some (.deferred (some []))->Q.nrm (markF F D) u)
  (hstop:∀c D u,Ix c u->w.heap.size<=D->u.heap[D]? = some (.deferred (some []))->match c with | .ret=>Q.ret (markF F D) u | .exit j=>Q.ext j (markF F D) u|_=>False):
  DeepS P T n (.rangeFunc g ps assign body) Q F w:=by
 rw [zAN]
 intro md hmd a ha
 have hmn:md=none:=by cases md with|none=>rfl|some _=>rw [hr] at hmd;cases hmd
 subst hmn
 refine wpIn_rangeFunc ?_
 intro fn _
 have hro:(fw none).round=none:=rfl
 rw [hro]
 obtain⟨rec,hrec⟩:∃rec:LoopState->Option Code->Loop,rec=λst pe=>{ state:=st,pending:=pe,fn,tmps:=a.tmps,params:=ps,assign,body,defers:=w.heap.size }:=⟨_,rfl⟩
 obtain⟨W1,hW1⟩:∃W1,(w.alloc (.deferred (some []))).alloc (.loop (rec .ready none))=W1:=⟨_,rfl⟩
 have hE1:Ext w W1:=by rw [<-hW1];exact(Ext.alloc w _).t (Ext.alloc _ _)
 have hL1:W1.heap[w.heap.size+1]? = some (.loop (rec .ready none)):=by
  rw [<-hW1];have:=World.alloc_heap_new (w.alloc (.deferred (some []))) (.loop (rec .ready none));rwa [World.size_alloc] at this
 have hK1:W1.heap[w.heap.size]? = some (.deferred (some [])):=by
  rw [<-hW1];exact(Go.RowKit.Below.heap_alloc _ _ _ (by simp)).trans (World.alloc_heap_new w _)
 have hgv:a.eval g=.func (.func gf) first.toArray cap.toArray:=by rw [ha.eval];exact hg
 have hiter:=hseq.out (w.heap.size+1)
  (λi u=>I i u/\u.heap[w.heap.size+1]? = some (.loop (rec .ready none))/\u.heap[w.heap.size]? = some (.deferred (some [])))
  (λu=>∃c,Ix c u/\u.heap[w.heap.size+1]? = some (.loop (rec .done (some c)))/\u.heap[w.heap.size]? = some (.deferred (some []))) W1
  (λi u u' h q=>by obtain⟨D,e⟩:=hQi u u' q;exact⟨hIQ i u u' (by have:=blk_lt h.2.1;omega) h.1 q,e.nc _ _ h.2.1 rfl,e.nc _ _ h.2.2 rfl⟩)
  (λu u' h q=>by obtain⟨D,e⟩:=hQi u u' q;obtain⟨c,h1,h2,h3⟩:=h;exact⟨c,hIxQ c u u' (by have:=blk_lt h2;omega) h1 q,e.nc _ _ h2 rfl,e.nc _ _ h3 rfl⟩)
  ?_ ⟨hI [] w W1 h0 (.of_ext hE1),hL1,hK1⟩ (hSt W1 hE1)
 ·refine⟨w.heap.size+1,[{ target:=.collected w.heap.size,args:=#[] }],W1,{ target:=.fn (.func gf) cap.toArray,args:=first.toArray++#[yl (w.heap.size+1)] },W1,gf,
   (first++[yl (w.heap.size+1)]++cap).toArray,W1,?_,?_,λ_ _=>trivial,?_,λh=>by simp [fw,Fence.wide] at h,?_⟩
  ·rw [<-hW1,hrec];exact run_enterLoop_outer _ _ _ _ _
  ·simp only [resolve,hgv]
   simp [Deferred.ofValue,yl,Act.eval]
  ·have:(callFunc gf (first++[yl (w.heap.size+1)]++cap).toArray).run P W1=.ok (.enter gf (first++[yl (w.heap.size+1)]++cap).toArray) W1:=zAB hiter.can W1
   simpa [invoke] using this
  ·refine zDQ none (hiter.calls.mono ?_)
   intro e u he
   have hrel:∀u:World,Rel n (markF F w.heap.size) { a with defers:=[{ target:=.collected w.heap.size,args:=#[] }]++a.defers }:=λ_=>by
    refine⟨ha.size,ha.le,?_,λt ht=>?_⟩
    ·show _::a.defers=decD (markF F w.heap.size 4294967296)
     unfold markF upd
     rw [show Nat.beq 4294967296 4294967296=true from rfl,cond_true,ha.defers]
     exact(zCZ _ _ _ rfl).symm
    ·have hb:Nat.beq t 4294967296=false:=by
      cases hq:Nat.beq t 4294967296 with
      |false=>rfl
      |true=>exact absurd (Nat.eq_of_beq_eq_true hq) ht
     show a.tmps.getD t undef=markF F w.heap.size t
     unfold markF upd;rw [hb];exact ha.get t ht
   have hag:agree (wr (.rangeFunc g ps assign body)) F (markF F w.heap.size):=by
    intro t ht
    unfold markF upd
    have:Nat.beq t 4294967296=false:=ht
    rw [this];rfl
   cases e with
   |returned v =>
    rcases he with ⟨ys,hys,h1,h2,h3⟩|⟨c,h1,h2,h3⟩
    ·refine⟨none,u.putObj (w.heap.size+1) (.loop { rec .ready none with state:=.exhausted }),?_,?_⟩
     ·have:=run_endLoop (P:=P) h2 (by rw [hrec];simp);rw [hrec] at this ⊢;exact this
     ·exact⟨_,hrel u,hag,hdone _ _ _ hys (hI _ _ _ h1 (Qt.put h2 rfl (by omega))) (Nat.le_refl _) ((World.putObj_heap_other (by omega)).trans h3)⟩
    ·refine⟨some c,u.putObj (w.heap.size+1) (.loop { rec .done (some c) with state:=.exhausted }),?_,?_⟩
     ·have:=run_endLoop (P:=P) h2 (by rw [hrec];simp);rw [hrec] at this ⊢;exact this
     ·have hs:=hstop c w.heap.size _ (hIx _ _ _ h1 (Qt.put (o':=.loop { rec .done (some c) with state:=.exhausted }) h2 rfl (by omega))) (Nat.le_refl _) ((World.putObj_heap_other (by omega)).trans h3)
      cases c <;> first|exact hs.elim|skip
      ·exact wpIn_exit ⟨_,hrel u,hag,hs⟩
      ·exact wpIn_ret ⟨_,hrel u,hag,hs⟩
   |panicked c=>exact he.elim
   |outgrown=>exact he.elim
 ·-- one round
  intro i u x hx hh
  obtain⟨hi,hl,hk⟩:=hh
  have hlt:=blk_lt hl
  have hxl:=hxs i x u hx
  have hln:rec .ready none = { state:=.ready,pending:=none,fn,tmps:=a.tmps,params:=ps,assign,body,defers:=w.heap.size }:=by rw [hrec]
  refine⟨rec .ready none,hl,by rw [hln];simpa using hxl,?_⟩
  have htm:(((rec .ready none).params.zip x.toArray).foldl (λtmps (t,a)=>tmps.setIfInBounds t a) (rec .ready none).tmps)=(ps.toList.zip x).foldl (λt (s,v)=>t.setIfInBounds s v) a.tmps:=by
   rw [hln]
   show (ps.zip x.toArray).foldl _ a.tmps=_
   rw [<-Array.foldl_toList];simp
  have hrel:=zE7 ha.le ps.toList x F a ha (zDO hps) hxl
  have hR:=hround i x u hx ⟨_,hk⟩ hi
  have e1:(rec .ready none).fn=fn:=by rw [hln]
  have e2:(rec .ready none).assign=assign:=by rw [hln]
  have e3:(rec .ready none).body=body:=by rw [hln]
  rw [htm,e1,e2,e3]
  have hTR:({ T with round:=true }:Tab).ok P=true:=hT
  have hround':RoundIn (fw none) 0 P (w.heap.size+1) fn ((ps.toList.zip x).foldl (λt (s,v)=>t.setIfInBounds s v) a.tmps) assign body u
    (RetP (λv w'=>∃b,v=.bool b/\(((b=true/\(I (i++[x]) w'/\w'.heap[w.heap.size+1]? = some (.loop (rec .ready none))/\w'.heap[w.heap.size]? = some (.deferred (some [])))) \/
     (b=false/\∃c,Ix c w'/\w'.heap[w.heap.size+1]? = some (.loop (rec .done (some c)))/\w'.heap[w.heap.size]? = some (.deferred (some []))))/\Rb u w')) (λ_ _=>False)):=by
   refine roundIn_of_wpIn trivial ?_
   rw [fw_in]
   refine Code.wpIn_mono ?_ (zBA hTR assign _ _ _ hR (some (w.heap.size+1)) rfl _ hrel)
   intro e a1 u1 hq
   cases e <;> simp only [KS.lift,Exit.then] at hq ⊢
   case normal =>
    obtain⟨F1,h1,_,hE,hb⟩:=hq
    have hl1:=hE.nc _ _ hl rfl
    have hk1:=hE.nc _ _ hk rfl
    refine⟨_,run_beginRound hl1 (by rw [hln]),?_⟩
    have hlt1:=blk_lt hl1
    have hl2:(u1.putObj (w.heap.size+1) (.loop { rec .ready none with state:=.busy })).heap[w.heap.size+1]? = some (.loop { rec .ready none with state:=.busy }):=World.putObj_heap_same hlt1
    have hk2:(u1.putObj (w.heap.size+1) (.loop { rec .ready none with state:=.busy })).heap[w.heap.size]? = some (.deferred (some [])):=(World.putObj_heap_other (by omega)).trans hk1
    have hqc:=(Qt.of_ext (B:=w.heap.size) hE).trans (Qt.put (o':=.loop { rec .ready none with state:=.busy }) hl1 rfl (by omega))
    have hbody:=hb _ (Qt.put (o':=.loop { rec .ready none with state:=.busy }) hl1 rfl (by omega))
    refine Code.wpIn_mono ?_ (zBA hTR body _ _ _ hbody (some (w.heap.size+1)) rfl a1 h1)
    have fin:∀(jump:Option Code) (W3:World),Rc (u1.putObj (w.heap.size+1) (.loop { rec .ready none with state:=.busy })) W3 ->
      (Instr.endRound (w.heap.size+1) jump).run P W3=.ok (.bool jump.isNone) (W3.putObj (w.heap.size+1) (.loop (rec (if jump.isNone then .ready else .done) jump))) /\
      (Qt w.heap.size W3 (W3.putObj (w.heap.size+1) (.loop (rec (if jump.isNone then .ready else .done) jump)))) /\
      (W3.putObj (w.heap.size+1) (.loop (rec (if jump.isNone then .ready else .done) jump))).heap[w.heap.size+1]? = some (.loop (rec (if jump.isNone then .ready else .done) jump)) /\
      (W3.putObj (w.heap.size+1) (.loop (rec (if jump.isNone then .ready else .done) jump))).heap[w.heap.size]? = some (.deferred (some [])):=λjump W3 hk3=>by
     obtain⟨D,hk3⟩:=hRc _ _ hk3
     have hl3:=hk3.nc _ _ hl2 rfl
     have:=run_endRound (P:=P) jump hl3
     refine⟨?_,Qt.put hl3 rfl (by omega),World.putObj_heap_same (blk_lt hl3),(World.putObj_heap_other (by omega)).trans (hk3.nc _ _ hk2 rfl)⟩
     rw [hrec] at this ⊢;exact this
    intro e a3 W3 hp
    cases e <;> simp only [KS.lift,roundPost] at hp ⊢
    case normal =>
     obtain⟨_,_,_,hi3,hk3⟩:=hp
     obtain⟨h1,h2,h3,h4⟩:=fin none W3 hk3
     exact⟨_,_,h1,_,rfl,.inl ⟨rfl,hI _ _ _ hi3 h2,h3,h4⟩,hRb _ _ _ _ hqc hk3 h2⟩
    case exit j =>
     obtain⟨_,_,_,hi3,hk3⟩:=hp
     obtain⟨h1,h2,h3,h4⟩:=fin (some (.exit j)) W3 hk3
     exact⟨_,_,h1,_,rfl,.inr ⟨rfl,_,hIx _ _ _ hi3 h2,h3,h4⟩,hRb _ _ _ _ hqc hk3 h2⟩
    case ret =>
     obtain⟨_,_,_,hi3,hk3⟩:=hp
     obtain⟨h1,h2,h3,h4⟩:=fin (some .ret) W3 hk3
     exact⟨_,_,h1,_,rfl,.inr ⟨rfl,_,hIx _ _ _ hi3 h2,h3,h4⟩,hRb _ _ _ _ hqc hk3 h2⟩
    case panic c=>obtain⟨_,_,_,h⟩:=hp;exact h.elim
   case exit j=>obtain⟨_,_,_,h⟩:=hq;exact h.elim
   case ret=>obtain⟨_,_,_,h⟩:=hq;exact h.elim
   case panic c=>obtain⟨_,_,_,h⟩:=hq;exact h.elim
  exact hround'
theorem rremE{kd:IntKind}{x y z:Int}{k:Value->World->Prop}(h0:0<=x)(h1:0<y)(hz:x % y=z)(hk:k (.int kd z) w):RemS kd x y k w:=rrem h0 h1 (hz ▸ hk)
theorem loop0(hT:T.ok P=true)(m:Nat)(keep:List Nat)(I:World->Prop)(μ:World->Nat){body:Code}{Q:KS}{F:Nat->Value}(hok:okB m keep [] body=true)(h0:I w)
  (hr:∀g w,I w->S P T n body { Q with nrm:=λ_ w'=>I w'/\μ w'<μ w } (hdF m keep [] g F) w):DeepS P T n (.loop body) Q F w:=
 loopL hT m keep [] (λ_ u=>I u) (λ_ u=>μ u) hok h0 λvs g u hl hI=>by
  have:vs=[]:=List.eq_nil_of_length_eq_zero hl
  subst this
  exact hr g u hI
end
structure Kp (X:Nat->Prop) (u u':World):Prop where
 k:∀b o,u.heap[b]? = some o->isRec o=false->X b->u'.heap[b]? = some o
theorem Kp.of_ext{X:Nat->Prop}(e:Ext u u'):Kp X u u':=⟨λ_ _ h _ _=>e.blk' h nf⟩
theorem Kp.of_qt{X:Nat->Prop}(q:Qt B u u'):Kp X u u':=⟨λb o h hr _=>q.block b o h (.inr hr)⟩
theorem Kp.trans{X:Nat->Prop}{a b c:World}(h:Kp X a b)(k:Kp X b c):Kp X a c:=⟨λi o ho hr hb=>k.k i o (h.k i o ho hr hb) hr hb⟩
theorem Kp.of_fr{X:Nat->Prop}(f:Fr D u u')(hd:∀i,X i->¬D i):Kp X u u':=⟨λb o h _ hb=>f.blk' h (hd b hb)⟩
theorem Bk.kp{X:Nat->Prop}{b:Nat}{cs:List Value}{e:TypeId}(k:Bk u b cs e)(h:Kp X u u')(hb:X b):Bk u' b cs e:=⟨h.k _ _ k.h rfl hb⟩
theorem SlF.kp{α:Type}[Enc α]{X:Nat->Prop}{v:Value}{l:List α}(h:SlF u v l)(k:Kp X u u')(hb:l≠[]->∀b,Value.blk v=some b->X b):SlF u' v l:=by
 obtain⟨a,c,hv,hlc,hl⟩:=h
 refine⟨a,c,hv,hlc,?_⟩
 by_cases hn:l=[]
 ·exact .inl hn
 rcases hl with hl|⟨b,o,ha,hA⟩
 ·exact .inl hl
 ·refine .inr ⟨b,o,ha,λj v hj=>?_⟩
  have h1:=hA j v hj
  have hbb:=hb hn b (by rw [hv,ha];rfl)
  have hlt:b<u.heap.size:=zNP h1
  obtain⟨ob,hob⟩:∃ob,u.heap[b]? = some ob:=⟨_,Array.getElem?_eq_getElem hlt⟩
  have hr:isRec ob=false:=by
   unfold World.cell? at h1
   rw [hob] at h1
   cases ob <;> first|rfl|(simp at h1;done)
  have h2:=k.k b ob hob hr hbb
  unfold World.cell? at h1 ⊢
  rw [hob] at h1;rw [h2]
  exact h1
def cellN (b:Nat) (u:World):Nat:=match u.cell? ⟨b,0,none⟩ with|some (.int _ x)=>x.toNat|_=>0
theorem zIQ{b:Nat}{kd:IntKind}{x:Int}{cs:List Value}{e:TypeId}(B:Bk u b (.int kd x::cs) e):cellN b u=x.toNat:=by
 have:u.cell? ⟨b,0,none⟩=some (.int kd x):=B.at.cell0 rfl
 unfold cellN;rw [this]
section
variable {P:Program} {kt:TypeId} {κ:Type} [DecidableEq κ] [M:MKey P kt κ] {k:Value->World->Prop} {pn:List PanicEntry->World->Prop} {w:World}
theorem rnx{o:Oper}{F:Nat->Value}{s:Sem Value}(e:execOp (ev F) o=(do let v <-s;pure (Next.value v)))(h:SemV P s k pn w):NextS P (execOp (ev F) o) k pn w:=by
 rw [zAR,e,run_v]
 rw [zCC] at h
 cases hs:s.run P w with
 |ok v w'=>rw [hs] at h;exact h
 |halt x w'=>rw [hs] at h;cases x <;> exact h
theorem MapB.lt{w:World}{b:Nat}{m:List (κ×Value)}(h:MapB P kt w b m):b<w.heap.size:=by
 obtain⟨⟨es,c,h1,_⟩,_⟩:=h;exact blk_lt h1
theorem zGQ{α:Type}[Enc α]{w:World}{b B':Nat}{e:TypeId}{v:Value}{l:List α}{o:Obj}(hb:w.heap[b]? = some o)(ho:∀c t z,o≠.cells c t z)(O:Own B e w v l):¬ownD B' v b:=by
 rintro⟨h1,h2,h3⟩
 rcases O with ⟨_,a,rfl⟩|O
 ·exact h3 a rfl
 ·rcases O.2 with ⟨rfl,_⟩|⟨g,cap,cur,rfl,_,hg,_⟩
  ·exact h3 none rfl
  ·have:g=b:=by simpa [Value.blk] using h2
   subst this
   rw [hg] at hb;cases hb;exact ho _ _ _ rfl
theorem ItB.fro{α:Type}[Enc α]{w:World}{r b:Nat}{rest:List (κ×Value)}{B':Nat}{e:TypeId}{v:Value}{l:List α}(h:ItB P kt w r b rest)(O:Own B e w v l)(f:Fr (ownD B' v) w w'):ItB P kt w' r b rest:=by
 have h':=h
 obtain⟨Z,c,s,h1,h2,h3,h4⟩:=h'
 exact h.fr f (zGQ h3 (by simp) O) (zGQ h2 (by simp) O)
theorem zCQ{κ:Type}[DecidableEq κ](x:κ)(v:Value):∀(m:List (κ×Value)),(setM x v m).length<=m.length+1
 |[]=>by simp [setM]
 |(k1,v1)::r=>by
  unfold setM
  split
  ·simp
  ·have:=zCQ x v r;simp;omega
end
theorem zJe{p:Nat->Prop}(h:∃n,p n):∃n,p n/\∀m,p m->n<=m:=by
 obtain⟨n,hn⟩:=h
 induction n using Nat.strongRecOn with
 |ind n ih =>
  by_cases hm:∃m,m<n/\p m
  ·obtain⟨m,hlt,hp⟩:=hm;exact ih m hlt hp
  ·exact⟨n,hn,λm hp=>by
    rcases Nat.lt_or_ge m n with h|h
    ·exact(hm ⟨m,h,hp⟩).elim
    ·exact h⟩
open Classical in
/-- the least of these numbers -/
noncomputable def leastN (p:Nat->Prop):Nat:=if h:∃n,p n then (zJe h).choose else 0
theorem zFM{p:Nat->Prop}(h:∃n,p n):p (leastN p)/\∀m,p m->leastN p<=m:=by
 unfold leastN;rw [dif_pos h];exact(zJe h).choose_spec
section
variable {P:Program} {T:Tab} {n:Nat}
theorem loopLG(hT:T.ok P=true)(m:Nat)(keep slots:List Nat)(I:Nat->List Value->World->Prop){body:Code}{Q:KS}{F:Nat->Value}(hok:okB m keep slots body=true)(h0:∃n,I n (mapF F slots) w)
  (hr:∀i vs g w,vs.length=slots.length->I i vs w->S P T n body { Q with nrm:=λF' w'=>∃i',i'<i/\I i' (mapF F' slots) w' } (hdF m keep (zipS slots vs) g F) w):DeepS P T n (.loop body) Q F w:=
 loopL hT m keep slots (λvs u=>∃i,I i vs u) (λvs u=>leastN λi=>I i vs u) hok h0 λvs g u hl hI=>by
  obtain⟨h1,_⟩:=zFM hI
  refine S_mono body _ _ _ _ (hr _ vs g u hl h1) (λG w' _ h=>?_) (λ_ _ _ _ h=>h) (λ_ _ _ h=>h) (λ_ _ _ _ h=>h)
  obtain⟨i',hlt,hi⟩:=h
  exact⟨⟨i',hi⟩,Nat.lt_of_le_of_lt ((zFM ⟨i',hi⟩).2 i' hi) hlt⟩
theorem loop0G(hT:T.ok P=true)(m:Nat)(keep:List Nat)(I:Nat->World->Prop){body:Code}{Q:KS}{F:Nat->Value}(hok:okB m keep [] body=true)(h0:∃n,I n w)
  (hr:∀i g w,I i w->S P T n body { Q with nrm:=λ_ w'=>∃i',i'<i/\I i' w' } (hdF m keep [] g F) w):DeepS P T n (.loop body) Q F w:=
 loopLG hT m keep [] (λi _ u=>I i u) hok h0 λi vs g u hl hI=>by
  have:vs=[]:=List.eq_nil_of_length_eq_zero hl
  subst this
  exact hr i g u hI
theorem loop1G(hT:T.ok P=true)(m:Nat)(keep:List Nat)(s1:Nat)(I:Nat->Value->World->Prop){body:Code}{Q:KS}{F:Nat->Value}(hok:okB m keep [s1] body=true)(h0:∃n,I n (F s1) w)
  (hr:∀i v1 g w,I i v1 w->S P T n body { Q with nrm:=λF' w'=>∃i',i'<i/\I i' (F' s1) w' } (hdF m keep [(s1,v1)] g F) w):DeepS P T n (.loop body) Q F w:=
 loopLG hT m keep [s1] (λi vs u=>match vs with|[v]=>I i v u|_=>False) hok h0 λi vs g u hl hI=>by
  match vs,hI with
  |[v],hI=>exact hr i v g u hI
end
def isIt:Obj->Bool
 |.mapIter ..=>true
 |_=>false
abbrev ItQ (B:Nat) (u u':World):Prop:=Fr (λi=>B<=i/\∃o,u.heap[i]? = some o/\isIt o=true) u u'
theorem Own.itq{α:Type}[Enc α]{C:Nat}{e:TypeId}{v:Value}{l:List α}(h:Own C e u v l)(q:ItQ B u u'):Own C e u' v l:=by
 rcases h with ⟨h1,h2⟩|h
 ·exact .inl ⟨h1,h2⟩
 ·rcases h.2 with ⟨rfl,h1⟩|⟨g,cap,cur,rfl,hg,hgg,rest⟩
  ·exact .inr ⟨h.1,.inl ⟨rfl,h1⟩⟩
  ·exact .inr ⟨h.1,.inr ⟨g,cap,cur,rfl,hg,q.blk hgg (λ⟨_,o,h1,h2⟩=>by rw [hgg] at h1;cases h1;cases h2),rest⟩⟩
theorem ItB.itq{kt:TypeId}{κ:Type}[DecidableEq κ][M:MKey P kt κ]{r b:Nat}{rest:List (κ×Value)}(h:ItB P kt w r b rest)(f:Fr (λi=>i=r) w w')(hB:B<=r):ItQ B w w':=
 f.mono λi _ hi=>by
  subst hi
  obtain⟨Z,c',s,h1,h2,h3,h4⟩:=h
  exact⟨hB,_,h3,rfl⟩
theorem Gw.dr(h:Gw w w'):w.drawn<=w'.drawn:=by
 obtain⟨q,os,rfl⟩:=h
 simp [World.drewN,Go.Sort.grow]
theorem Gw.ofE(h:Ext w w')(hd:w.drawn<=w'.drawn):Gw w w':=by
 refine⟨w'.drawn - w.drawn,w'.heap.extract w.heap.size w'.heap.size,?_⟩
 have h1:=h.os
 have h2:=h.tape
 have h3:=h.output
 have hh:w'.heap=w.heap++w'.heap.extract w.heap.size w'.heap.size:=by
  apply Array.ext_getElem?
  intro i
  rcases Nat.lt_or_ge i w.heap.size with hi|hi
  ·rw [Array.getElem?_append_left hi];exact h.block i hi nf
  ·rw [Array.getElem?_append_right hi]
   simp only [Array.getElem?_extract]
   have:=h.size
   split
   ·congr 1;omega
   ·rw [Array.getElem?_eq_none (by omega)]
 cases w;cases w'
 simp only [World.drewN,Go.Sort.grow,World.mk.injEq] at *
 refine⟨hh,h2,by omega,h1,h3⟩
section
variable {P:Program} {k:Value->World->Prop} {pn:List PanicEntry->World->Prop} {w:World}
theorem rstoD{t:TypeId}[ht:Size P t n]{x:World}{b off:Nat}{cs:List Value}{e:TypeId}[B:Bk x b cs e][L:Le x w]{v:Value}{vs:List Value}(hv:v.cells.toList=vs)(hn:vs.length=n)(hfit:Nat.ble (off+n) cs.length=true)(h1:∀u∈vs,u.oneCell'=true)
  (hk:∀w',Bk w' b (splice cs off vs) e->Fr (λi=>i=b) w w'->w'.heap.size=w.heap.size->w'.drawn=w.drawn->k undef w'):SemU P (Instr.storeAt t (.pointer (some ⟨b,off,none⟩)) v) k pn w:=
 have hB:=Bk.up (w:=w) B
 SemU.of (zK7 ht hB hv hn (Nat.le_of_ble_eq_true hfit) h1) (hk _ ⟨by simpa using setRow_heap w b _ _ e _ hB⟩ (Fr.setRow w b _) (by simp) (by rfl))
variable {α:Type} [Enc α]
theorem rclr{t ty e:TypeId}{z:Value}{sz by':Nat}[ht:SlT P t e][he:Elem P e z sz by'](x:α)(hsz:Enc.sz α=sz)(hz:z.cells.toList=enc x){v:Value}{l:List α}{dn dc:Nat}(lo:Nat)(hO:Own B e w v l)
  (hd:dn=0\/∃g,Value.blk v=some g/\a'=some ⟨g,lo*sz,none⟩)(hle:lo+dn<=l.length)
  (hk:∀w',Own B e w' v (l.take lo++List.replicate dn x++l.drop (lo+dn))->Fr (ownD B v) w w'->k (.tuple #[]) w'):SemV P (Builtin.clear_ #[t] ty #[.slice a' dn dc]) k pn w:=by
 subst hsz
 rcases Nat.eq_zero_or_pos dn with h0|h0
 ·subst h0
  have hres:l.take lo++List.replicate 0 x++l.drop (lo+0)=l:=by simp
  refine SemV.of (v:=.tuple #[]) (w':=w) ?_ (hk w (by rw [hres];exact hO) (Fr.refl _ w))
  cases a' <;> simp [Builtin.clear_,run_underlying ht.h]
 ·rcases hd with hd|⟨g,hg,rfl⟩
  ·omega
  obtain⟨m,rfl⟩:∃m,dn=m+1:=⟨dn - 1,by omega⟩
  have hl0:l≠[]:=by intro h0;subst h0;simp at hle
  have hfl:(flat (List.replicate (m+1) x)).length=(m+1)*Enc.sz α:=by rw [zAm];simp
  have hoff:lo*Enc.sz α+(flat (List.replicate (m+1) x)).length<=l.length*Enc.sz α:=by
   rw [hfl,<-Nat.add_mul];exact Nat.mul_le_mul_right _ (by omega)
  have hspl:splice (flat l) (lo*Enc.sz α) (flat (List.replicate (m+1) x))=flat (l.take lo++List.replicate (m+1) x++l.drop (lo+(m+1))):=by
   simp only [flat_append,zB9,zB8,splice,zAm,List.length_replicate,<-Nat.add_mul]
  obtain⟨cur,hcur,hfit,hw⟩:=hO.stored (l':=l.take lo++List.replicate (m+1) x++l.drop (lo+(m+1))) (vs:=flat (List.replicate (m+1) x)) hg hl0 (by simp;omega) hoff hspl
  have hst:=run_storeCells_at P g (lo*Enc.sz α) e (flat (List.replicate (m+1) x)) 0 cur w hcur (by simpa using hfit) (zBS _)
  simp only [Nat.add_zero] at hst
  have hzs:z.cells.size=Enc.sz α:=by rw [<-Enc.len x,<-hz];simp
  have hzc:(Builtin.zeroCells z.cells (m+1)).toList=flat (List.replicate (m+1) x):=by
   rw [<-zHZ z.cells x hz (m+1)]
   unfold Builtin.zeroCells madeCells
   rw [hzs]
  have hB:B<=g:=by obtain⟨g',hg',hB,_⟩:=hO.lt hl0;rw [hg] at hg';cases hg';exact hB
  refine SemV.of (v:=.tuple #[]) (w':=w.setRow g (splice cur.toList (lo*Enc.sz α) (flat (List.replicate (m+1) x))).toArray) ?_ (hk _ (hw _ (setRow_heap w g cur _ e _ hcur)) ((Fr.setRow w g _).mono λj _ hj=>⟨by omega,by rw [hj];exact hg,hO.not0 hl0⟩))
  simp only [Builtin.clear_]
  simp [hst,splice,run_underlying ht.h,zJL he,hzc]
theorem rappE{t ty e:TypeId}{z:Value}{sz by':Nat}[ht:SlT P t e][he:Elem P e z sz by']{v x:Value}{l m:List α}(hsz:Enc.sz α=sz/\z.cells.size=sz)
  (hO:Own B e w v l)(hS:SlF w x m)(hB:B<=w.heap.size)(hb:(l.length+m.length)*by'<=140737488355328/\l.length+m.length<=9223372036854775807)
  (hk:∀v' w',Own B e w' v' (l++m)->Fr (ownD B v) w w'->(Value.blk v'=Value.blk v\/(Value.blk v'=some w.heap.size/\w.heap.size<w'.heap.size))->k v' w'):SemV P (Builtin.append_ #[t,t] ty #[v,x]) k pn w:=by
 by_cases hm0:m=[]
 ·subst hm0
  obtain⟨i,hi,hz,hs,hby⟩:=info_parts he.h
  obtain⟨xa,xc,rfl,hxc,hx⟩:=hS
  refine SemV.of (v:=v) (w':=w) ?_ (hk v w (by rw [List.append_nil];exact hO) (Fr.refl _ w) (.inl rfl))
  rcases hO with ⟨rfl,a,rfl⟩|hO
  ·cases xa <;> cases a <;> simp [Builtin.append_,run_underlying ht.h,sizeOf,typeInfo,hi,Builtin.lenOf,Builtin.firstCells,loadCells,loadCellsFrom,storeCells]
  ·rcases hO.2 with ⟨rfl,hn⟩|⟨g,cap,cur,rfl,hb',hg,hnc,_⟩
   ·cases xa <;> simp [Builtin.append_,run_underlying ht.h,sizeOf,typeInfo,hi,Builtin.lenOf,Builtin.firstCells,loadCells,loadCellsFrom]
   ·cases xa <;> simp [Builtin.append_,run_underlying ht.h,sizeOf,typeInfo,hi,Builtin.lenOf,Builtin.firstCells,hnc,storeCells,loadCells,loadCellsFrom]
 ·exact rappD hsz hO hS hm0 hB hb λv' w' O f h=>hk v' w' O f (h.imp (λh=>h) λh=>⟨h,by
   obtain⟨g,h1,_,h2⟩:=O.lt (by simp [hm0])
   rw [h] at h1;cases h1;exact h2⟩)
theorem rnclr{o:Oper}{F:Nat->Value}{t:TypeId}{x:Operand}{v:Value}(ho:o.op=.call { callee:=.builtin .clear,args:=#[x],argTypes:=#[t] })(hx:ev F x=v)(h:SemV P (Builtin.clear_ #[t] o.type #[v]) k pn w):NextS P (execOp (ev F) o) k pn w:=
 rnx (s:=Builtin.clear_ #[t] o.type #[v]) (by
  unfold execOp
  simp only [ho,resolve,pure_bind,invoke]
  simp only [List.map_toArray,List.map_cons,List.map_nil,hx]
  rfl) h
end
end Go.W
namespace Go.W
open Go Go.Proofs
open Enc (enc)
set_option maxRecDepth 10000
variable {B N i j k m n:Nat} {D R:Nat -> Prop} {P:Program} {T:Tab} {a a':Option Addr} {g:GrD} {q:QyD} {s:List UInt8} {u u' w w':World}
section
variable {P:Program} {kt:TypeId} {κ:Type} [DecidableEq κ] [M:MKey P kt κ] {k:Value->World->Prop} {pn:List PanicEntry->World->Prop} {w:World}
theorem rlookN{t e:TypeId}{z:Value}{sz by':Nat}[ht:MapT P t kt e][he:Elem P e z sz by']{b:Nat}{m:List (κ×Value)}{xv:Value}(h:MapL P kt w b m)(x:κ)(hx:xv=M.val x)(hv:getM m x=none)(hk:k (.tuple #[z,.bool false]) w):SemV P (Instr.lookup t (.map (some b)) xv true) k pn w:=
 rlook2 h x hx (by rw [hv];exact hk)
theorem rlookS{t e:TypeId}{z:Value}{sz by':Nat}[ht:MapT P t kt e][he:Elem P e z sz by']{b:Nat}{m:List (κ×Value)}{xv:Value}(h:MapL P kt w b m)(x:κ)(hx:xv=M.val x){v:Value}(hv:getM m x=some v)(hk:k (.tuple #[v,.bool true]) w):SemV P (Instr.lookup t (.map (some b)) xv true) k pn w:=
 rlook2 h x hx (by rw [hv];exact hk)
end
theorem zKc{x:StD}:Sp PP F.p2 #[agg x] w λv w'=>Tells (mayX x) v/\Stp w w':=by
 refine en TBok rfl ?_
 refine rbx λb w1 n1 B1=>rldG (ds:=enc x.key) (B:=B1) rfl rfl (ral λb2 w2 n2 Z2=>rsto (B:=Z2) (vs:=enc x.key) rfl rfl rfl (Enc.one _) λw3 B3 f3 _=>?_)
 have B3:Bk w3 b2 (enc x.key) E.ql:=B3
 have s3:Stp w w3:=⟨Fr.st Le.e f3 λi hi=>by subst hi;exact n2.lo⟩
 have B1:=(B1.mv (w:=w2)).fr f3 (by have:=n1.b;have:=n1.s;have:=n2.b;omega)
 clear Z2 f3
 refine rld (B:=B3) rfl (ite (λh1=>?_) (λh1=>⟨.f λm=>h1 m.1.1,stp⟩))
 refine rld (B:=B3) rfl (ite (λh2=>?_) (λh2=>⟨.f λm=>h2 m.1.2.1,stp⟩))
 refine rld (B:=B3) rfl (ite (λh3=>?pos) (λh3=>?neg))
 case' neg =>
  refine rld (B:=B3) rfl (ite (λh4=>?one) (λh4=>⟨.f λm=>by have:=m.1.2.2.1;omega,stp⟩))
 all_goals
  refine rld (B:=B3) rfl (ite (λh5=>?_) (λh5=>⟨.f λm=>h5 m.1.2.2.2.1,stp⟩))
  refine rld (B:=B3) rfl (ite (λh6=>?_) (λh6=>⟨.f λm=>h6 m.1.2.2.2.2,stp⟩))
  refine rld (B:=B1) rfl (ite (λh7=>?_) (λh7=>⟨.f λm=>h7 m.2.1,stp⟩))
  refine rld (B:=B1) rfl (ite (λh8=>?_) (λh8=>⟨.f λm=>h8 m.2.2,stp⟩))
  exact⟨.t ⟨⟨h1,h2,by omega,h5,h6⟩,h7,h8⟩,stp⟩
theorem zCh{c:Nat}{l:List StD}(h:SlF w (.slice a n c) l)(hn:l.length<=1000000):Sp PP F.qaa #[.slice a n c] w λv w'=>Tells (∀x∈l,mayX x) v/\Stp w w':=by
 have q_:=h.len
 obtain rfl:=q_
 refine en TBok rfl ?_
 refine cnt TBok 7 [2,4] 7 l.length (λk u=>(∀x∈l.take k,mayX x)/\Stp w u) rfl rfl ⟨by simp,stp⟩ ?_
 rintro k g u hk ⟨hall,e⟩
 refine ite (λhlt=>?_) (λhge=>?_)
 ·have hka:k<l.length:=by omega
  refine rix (h.up (w':=u)) (x:=l[k]) (by simp) λb1 o1 A1=>rloadA A1 rfl (ral λb2 u2 n2 z2=>rsto (B:=z2) (vs:=enc l[k]) rfl rfl rfl (Enc.one _) λu3 X3 f3 _=>?_)
  have X3:Bk u3 b2 (enc l[k]) E.qb:=X3
  have s3:Stp w u3:=⟨Fr.st (Le.e (a:=w) (b:=u2)) f3 λi hi=>by subst hi;exact n2.lo⟩
  refine rldG (ds:=enc l[k]) (B:=X3) rfl rfl (rcall zKc ?_)
  rintro _ u4 ⟨⟨rfl,h4⟩|⟨rfl,h4⟩,e4⟩
  ·refine rA ⟨rfl,hka,λx hx=>?_,stp⟩
   rw [zAa hka] at hx
   have q_:=List.mem_append.1 hx
   rcases q_ with hx|hx
   ·exact hall x hx
   ·rw [List.mem_singleton.1 hx];exact h4
  ·exact⟨.f λhh=>h4 (hh _ (List.getElem_mem hka)),stp⟩
 ·have q_:k=l.length:=by omega
  obtain rfl:=q_
  rw [List.take_length] at hall
  exact⟨.t hall,e⟩
theorem zHj{x y:StD}:Sp PP F.zw #[agg x,agg y] w λv w'=>Tells (x.d<y.d) v/\Stp w w':=by
 refine en TBok rfl ?_
 refine rbx λb w1 n1 B1=>rbx λb2 w2 n2 B2=>rld (B:=B1) rfl (rld (B:=B2) rfl ?_)
 refine ite (λh=>⟨.t h,stp⟩) (λh=>⟨.f h,stp⟩)
def cfM (a b:StD):Int:=orI [cmpI a.key.slot b.key.slot,cmpI a.key.dir b.key.dir,cmpI a.key.v b.key.v]
theorem zFj(a b:StD):cfM a b<0↔lessK a.key b.key:=by
 unfold cfM lessK
 rw [or_neg,or_neg,or_neg]
 have:=or_nil
 constructor
 ·rintro(h|⟨h,h1|⟨h1,h2|⟨_,h2⟩⟩⟩)
  ·exact .inl h
  ·exact .inr ⟨h,.inl h1⟩
  ·exact .inr ⟨h,.inr ⟨h1,h2⟩⟩
  ·exact absurd h2 this
 ·rintro(h|⟨h,h1|⟨h1,h2⟩⟩)
  ·exact .inl h
  ·exact .inr ⟨h,.inl h1⟩
  ·exact .inr ⟨h,.inr ⟨h1,.inl h2⟩⟩
theorem zKE:Go.Sort.SWO (ltOf cfM):=swo_of (λa b=>lessK a.key b.key) zFj (λx h=>zAL h rfl) (λ_ _ _=>zB4) (λx y z h k=>by unfold lessK at *;omega)
theorem zEO{x y:StD}:Sp PP F.dp #[agg x,agg y] w λv w'=>v=.int .i64 (cfM x y)/\Gw w w':=by
 refine en TBok rfl ?_
 refine rbx λbx w1 n1 B1=>rbx λby' w2 n2 B2=>?_
 have d2:=(n1.gw.trans n2.gw).dr
 have l1:bx<w2.heap.size:=(B1.mv (w:=w2)).lt
 have l2:by'<w2.heap.size:=B2.lt
 refine drawRE TBok mixed (λi=>w2.heap.size<=i) (.one 0 (.one 1 (.one 2 (.one 3 (.duo 4 (.one 5 (.one 6 (.one 7 .nil))) 5 (.one 4 (.one 6 (.one 7 .nil)))))))) (by kernel_rfl) λw3 e3 g3=>?_
 have l3:=e3.e.size
 refine tldG (ds:=enc x.key) (B:=B1) rfl rfl (by omega) (tldG (ds:=enc y.key) (B:=B2) rfl rfl (by omega) ?_)
 refine⟨?_,?_⟩
 ·refine ral λb4 w4 n4 Z4=>⟨Fr.fr n4.e,?_⟩
  refine ral λb5 w5 n5 Z5=>⟨Fr.fr n5.e,?_⟩
  have hz4:=n4.b;have hs4:=n4.s;have hz5:=n5.b;have hs5:=n5.s
  refine rstoD (B:=Z4.mv (w:=w5)) (vs:=enc x.key) rfl rfl rfl (Enc.one _) λw6 Y4 f6 _ d6=>⟨f6.mono λi _ hi=>by omega,?_⟩
  have Y4:Bk w6 b4 (enc x.key) E.ql:=Y4
  refine rstoD (B:=(Z5.mv (w:=w5)).fr f6 (by omega)) (vs:=enc y.key) rfl rfl rfl (Enc.one _) λw7 Y5 f7 _ d7=>⟨f7.mono λi _ hi=>by omega,?_⟩
  have Y5:Bk w7 b5 (enc y.key) E.ql:=Y5
  have Y4:=Y4.fr f7 (by omega)
  have s7:Stp w w7:=⟨Fr.st (Fr.st (Le.e (a:=w) (b:=w5)) f6 λi hi=>by have:=Le.size (a:=w) (b:=w3);omega) f7 λi hi=>by have:=Le.size (a:=w) (b:=w3);omega⟩
  have D7:w.drawn<=w7.drawn:=by have:=g3.dr;have:=n4.gw.dr;have:=n5.gw.dr;omega
  clear Z4 Z5
  refine drawRE TBok mixed (λ_=>False) (.one 0 (.one 1 (.one 2 (.one 3 (.one 5 (.one 6 (.one 7 (.one 8 (.one 10 (.one 11 (.one 12 (.one 13 (.one 4 (.one 9 (.one 14 (.one 15 (.one 16 (.one 17 .nil)))))))))))))))))) (by kernel_rfl) λw8 e8 g8=>?_
  refine tld (B:=Y4) rfl nf (tld (B:=Y5) rfl nf ?_)
  refine tld (B:=Y4) rfl nf (tld (B:=Y5) rfl nf ?_)
  refine tld (B:=Y4) rfl nf (tld (B:=Y5) rfl nf ?_)
  refine rcall zAe ?_
  rintro v u4 ⟨rfl,rfl⟩
  refine⟨Fr.refl _ _,?_⟩
  refine rcall zAe ?_
  rintro v u5 ⟨rfl,rfl⟩
  refine⟨Fr.refl _ _,?_⟩
  refine rcall zAe ?_
  rintro v u6 ⟨rfl,rfl⟩
  refine⟨Fr.refl _ _,?_⟩
  refine rbsN [cmpI x.key.slot y.key.slot,cmpI x.key.dir y.key.dir,cmpI x.key.v y.key.v] rfl (vs:=[.int .i64 (cmpI x.key.slot y.key.slot),.int .i64 (cmpI x.key.dir y.key.dir),.int .i64 (cmpI x.key.v y.key.v)]) rfl rfl (by decide) λb9 w9 n9 S9=>⟨n9.e,?_⟩
  refine rcall (zBB S9 (by simp)) ?_
  rintro v u9 ⟨rfl,rfl⟩
  refine⟨Fr.refl _ _,?_⟩
  exact⟨rfl,(Gw.ofE s7.e D7).trans (g8.trans n9.gw)⟩
 ·refine ral λb5 w4 n4 Z5=>⟨Fr.fr n4.e,?_⟩
  refine ral λb4 w5 n5 Z4=>⟨Fr.fr n5.e,?_⟩
  have hz4:=n4.b;have hs4:=n4.s;have hz5:=n5.b;have hs5:=n5.s
  refine rstoD (B:=Z4.mv (w:=w5)) (vs:=enc x.key) rfl rfl rfl (Enc.one _) λw6 Y4 f6 _ d6=>⟨f6.mono λi _ hi=>by omega,?_⟩
  have Y4:Bk w6 b4 (enc x.key) E.ql:=Y4
  refine rstoD (B:=(Z5.mv (w:=w5)).fr f6 (by omega)) (vs:=enc y.key) rfl rfl rfl (Enc.one _) λw7 Y5 f7 _ d7=>⟨f7.mono λi _ hi=>by omega,?_⟩
  have Y5:Bk w7 b5 (enc y.key) E.ql:=Y5
  have Y4:=Y4.fr f7 (by omega)
  have s7:Stp w w7:=⟨Fr.st (Fr.st (Le.e (a:=w) (b:=w5)) f6 λi hi=>by have:=Le.size (a:=w) (b:=w3);omega) f7 λi hi=>by have:=Le.size (a:=w) (b:=w3);omega⟩
  have D7:w.drawn<=w7.drawn:=by have:=g3.dr;have:=n4.gw.dr;have:=n5.gw.dr;omega
  clear Z4 Z5
  refine drawRE TBok mixed (λ_=>False) (.one 0 (.one 1 (.one 2 (.one 3 (.one 5 (.one 6 (.one 7 (.one 8 (.one 10 (.one 11 (.one 12 (.one 13 (.one 4 (.one 9 (.one 14 (.one 15 (.one 16 (.one 17 .nil)))))))))))))))))) (by kernel_rfl) λw8 e8 g8=>?_
  refine tld (B:=Y4) rfl nf (tld (B:=Y5) rfl nf ?_)
  refine tld (B:=Y4) rfl nf (tld (B:=Y5) rfl nf ?_)
  refine tld (B:=Y4) rfl nf (tld (B:=Y5) rfl nf ?_)
  refine rcall zAe ?_
  rintro v u4 ⟨rfl,rfl⟩
  refine⟨Fr.refl _ _,?_⟩
  refine rcall zAe ?_
  rintro v u5 ⟨rfl,rfl⟩
  refine⟨Fr.refl _ _,?_⟩
  refine rcall zAe ?_
  rintro v u6 ⟨rfl,rfl⟩
  refine⟨Fr.refl _ _,?_⟩
  refine rbsN [cmpI x.key.slot y.key.slot,cmpI x.key.dir y.key.dir,cmpI x.key.v y.key.v] rfl (vs:=[.int .i64 (cmpI x.key.slot y.key.slot),.int .i64 (cmpI x.key.dir y.key.dir),.int .i64 (cmpI x.key.v y.key.v)]) rfl rfl (by decide) λb9 w9 n9 S9=>⟨n9.e,?_⟩
  refine rcall (zBB S9 (by simp)) ?_
  rintro v u9 ⟨rfl,rfl⟩
  refine⟨Fr.refl _ _,?_⟩
  exact⟨rfl,(Gw.ofE s7.e D7).trans (g8.trans n9.gw)⟩
def zof:Value->StD
 |.agg cs=>match cs.toList with
  |[.int _ a,.int _ b,.int _ c,.int _ d]=>⟨⟨a,b,c⟩,d⟩
  |_=>zSt
 |_=>zSt
theorem zFv(z:StD):zof (agg z)=z:=rfl
structure CombM (l:List StD) (m:List (KeyD×Value)):Prop where
 val:∀p∈m,∃z,p.1=z.key/\p.2=agg z/\LeastOf l z
 all:∀x∈l,∃v,(x.key,v)∈m
theorem CombM.set{l:List StD}{m:List (KeyD×Value)}{x:StD}(h:CombM l m)(hn:(m.map (·.1)).Nodup)(hx:∀y∈l,y.key=x.key->x.d<=y.d):CombM (l++[x]) (setM x.key (agg x) m):=by
 refine⟨λp hp=>?_,λy hy=>?_⟩
 ·obtain⟨p1,p2⟩:=p
  have q_:=(zAi hn).1 hp
  rcases q_ with ⟨h1,h2⟩|⟨h1,h2⟩
  ·subst h1;subst h2
   refine⟨x,rfl,rfl,by simp,λy hy e=>?_⟩
   have q_:=List.mem_append.1 hy
   rcases q_ with hy|hy
   ·exact hx y hy e
   ·rw [List.mem_singleton.1 hy];exact Int.le_refl _
  ·have q_:=h.val _ h2
   obtain⟨z,e1,e2,h3,h4⟩:=q_
   refine⟨z,e1,e2,List.mem_append_left _ h3,λy hy e=>?_⟩
   have q_:=List.mem_append.1 hy
   rcases q_ with hy|hy
   ·exact h4 y hy e
   ·rw [List.mem_singleton.1 hy] at e
    exact absurd (e1.trans e.symm) h1
 ·have q_:=List.mem_append.1 hy
  rcases q_ with hy|hy
  ·have q_:=h.all y hy
   obtain⟨v,hv⟩:=q_
   by_cases e:y.key=x.key
   ·exact⟨agg x,(zAi hn).2 (.inl ⟨e,rfl⟩)⟩
   ·exact⟨v,(zAi hn).2 (.inr ⟨e,hv⟩)⟩
  ·rw [List.mem_singleton.1 hy]
   exact⟨agg x,(zAi hn).2 (.inl ⟨rfl,rfl⟩)⟩
theorem CombM.keep{l:List StD}{m:List (KeyD×Value)}{x z:StD}(h:CombM l m)(hz:LeastOf l z)(hk:z.key=x.key)(hd:¬x.d<z.d):CombM (l++[x]) m:=by
 refine⟨λp hp=>?_,λy hy=>?_⟩
 ·have q_:=h.val p hp
  obtain⟨u,e1,e2,h3,h4⟩:=q_
  refine⟨u,e1,e2,List.mem_append_left _ h3,λy hy e=>?_⟩
  have q_:=List.mem_append.1 hy
  rcases q_ with hy|hy
  ·exact h4 y hy e
  ·rw [List.mem_singleton.1 hy] at e ⊢
   have:=h4 z hz.1 (hk.trans e)
   omega
 ·have q_:=List.mem_append.1 hy
  rcases q_ with hy|hy
  ·exact h.all y hy
  ·rw [List.mem_singleton.1 hy,<-hk];exact h.all z hz.1
theorem CombM.out{l out:List StD}{m:List (KeyD×Value)}(h:CombM l m)(hn:(m.map (·.1)).Nodup)(hp:out.Perm (m.map λp=>zof p.2))(hs:SRis out):out=combL l:=by
 refine zDS hs λz=>?_
 rw [hp.mem_iff,List.mem_map]
 constructor
 ·rintro⟨p,h1,rfl⟩
  have q_:=h.val p h1
  obtain⟨u,e1,e2,h3⟩:=q_
  rw [e2,zFv];exact h3
 ·intro hz
  have q_:=h.all z hz.1
  obtain⟨v,hv⟩:=q_
  have q_:=h.val _ hv
  obtain⟨u,e1,e2,h3,h4⟩:=q_
  refine⟨_,hv,?_⟩
  simp only at e1 e2
  rw [e2,zFv]
  have a1:=h4 z hz.1 e1
  have a2:=hz.2 u h3 e1.symm
  exact zFu e1.symm (by omega)
theorem CombM.apart{l:List StD}{m:List (KeyD×Value)}(h:CombM l m)(hn:(m.map (·.1)).Nodup):(m.map λp=>zof p.2).Pairwise λa b=>a.key≠b.key:=by
 rw [List.nodup_iff_pairwise_ne,List.pairwise_map] at hn
 rw [List.pairwise_map]
 refine List.Pairwise.imp_of_mem (λ{a b} ha hb hh=>?_) hn
 have q_:=h.val a ha
 obtain⟨u,e1,e2,_⟩:=q_
 have q_:=h.val b hb
 obtain⟨u',e1',e2',_⟩:=q_
 rw [e2,e2',zFv,zFv,<-e1,<-e1'];exact hh
theorem zGO{c:Nat}{l:List StD}(h:SlF w (.slice a n c) l)(hl:l.length<=1000000):
  Sp PP F.cb #[.slice a n c] w λv w'=>Own w.heap.size E.qb w' v (combL l)/\Stp w w':=by
 have q_:=h.len
 obtain rfl:=q_
 refine en TBok rfl ?_
 refine rmkNB (kt:=E.ql) (κ:=KeyD) rfl λbm w1 n1 M1=>?_
 have hb:=n1.lo (u:=w)
 refine cnt TBok 15 [5,6,7,8] 15 l.length (λk u=>∃m,MapB PP E.ql u bm m/\CombM (l.take k) m/\m.length<=k/\Stp w u) rfl rfl ⟨[],M1,⟨by simp,by simp⟩,by simp,stp⟩ ?_
 rintro k g u hk ⟨m,M,C,hm,su⟩
 have hnd:=M.2
 refine ite (λhlt=>?_) (λhge=>?_)
 ·have hka:k<l.length:=by omega
  refine rix (h.up (w':=u)) (x:=l[k]) (by simp) λb1 o1 A1=>rloadA A1 rfl (ral λb2 u2 n2 z2=>?_)
  have hz2:=n2.b;have hs2:=n2.s
  refine rsto (B:=z2) (vs:=enc l[k]) rfl rfl rfl (Enc.one _) λu3 X3 f3 _=>?_
  have X3:Bk u3 b2 (enc l[k]) E.qb:=X3
  have hmu:=M.lt
  have s3:Stp u u3:=⟨Fr.st (Le.e (a:=u) (b:=u2)) f3 λi hi=>by omega⟩
  have M3:MapB PP E.ql u3 bm m:=M.up
  refine rldG (ds:=enc l[k]) (B:=X3) rfl rfl (rldG (ds:=enc l[k].key) (B:=X3) rfl rfl ?_)
  have hlk:l.take (k+1)=l.take k++[l[k]]:=zAa hka
  cases hg:getM m l[k].key with
  |none =>
   have hle:∀y∈l.take k,y.key=l[k].key->l[k].d<=y.d:=λy hy e=>by
    have q_:=C.all y hy
    obtain⟨v,hv⟩:=q_
    have:=zAA hnd hv
    rw [e,hg] at this;cases this
   refine rlookN M3.l l[k].key rfl hg ?_
   refine ral λb4 u4 n4 z4=>rsto (B:=z4) (vs:=enc zSt) rfl rfl rfl (Enc.one _) λu5 Y5 f5 _=>?_
   have hz4:=n4.b;have hs4:=n4.s
   have X5:Bk u5 b2 (enc l[k]) E.qb:=(X3.mv (w:=u4)).fr f5 (by have:=X3.lt;omega)
   have s5:Stp u3 u5:=⟨Fr.st (Le.e (a:=u3) (b:=u4)) f5 λi hi=>by omega⟩
   have M5:MapB PP E.ql u5 bm m:=M3.up
   refine rldG (ds:=enc l[k].key) (B:=X5) rfl rfl (rldG (ds:=enc l[k]) (B:=X5) rfl rfl (rupdB M5 l[k].key rfl λu6 M6 f6 _=>?_))
   exact rA ⟨rfl,hka,_,M6,by rw [hlk];exact C.set hnd hle,Nat.le_trans (zCQ _ _ _) (by omega),⟨Fr.st (Le.e (a:=w)) f6 λi hi=>by omega⟩⟩
  |some v =>
   have hmv:=zAU hg
   have q_:=C.val _ hmv
   obtain⟨z,e1,e2,hz⟩:=q_
   simp only at e1 e2
   subst e2
   refine rlookS M3.l l[k].key rfl hg ?_
   refine ral λb4 u4 n4 z4=>rsto (B:=z4) (vs:=enc z) rfl rfl rfl (Enc.one _) λu5 Y5 f5 _=>?_
   have hz4:=n4.b;have hs4:=n4.s
   have X5:Bk u5 b2 (enc l[k]) E.qb:=(X3.mv (w:=u4)).fr f5 (by have:=X3.lt;omega)
   have s5:Stp u3 u5:=⟨Fr.st (Le.e (a:=u3) (b:=u4)) f5 λi hi=>by omega⟩
   have M5:MapB PP E.ql u5 bm m:=M3.up
   have Y5:Bk u5 b4 (enc z) E.qb:=Y5
   refine rldG (ds:=enc z) (B:=Y5) rfl rfl (rcall (zHj (x:=l[k]) (y:=z)) ?_)
   rintro _ u6 ⟨⟨rfl,h6⟩|⟨rfl,h6⟩,e6⟩
   ·have hle:∀y∈l.take k,y.key=l[k].key->l[k].d<=y.d:=λy hy e=>by
     have:=hz.2 y hy (e.trans e1)
     omega
    have X5:=X5.mv (w:=u6)
    have M5:=M5.up (w':=u6)
    refine rldG (ds:=enc l[k].key) (B:=X5) rfl rfl (rldG (ds:=enc l[k]) (B:=X5) rfl rfl (rupdB M5 l[k].key rfl λu6 M6 f6 _=>?_))
    exact rA ⟨rfl,hka,_,M6,by rw [hlk];exact C.set hnd hle,Nat.le_trans (zCQ _ _ _) (by omega),⟨Fr.st (Le.e (a:=w)) f6 λi hi=>by omega⟩⟩
   ·exact rA ⟨rfl,hka,m,M5.up,by rw [hlk];exact C.keep hz e1.symm h6,by omega,stp⟩
 ·have q_:k=l.length:=by omega
  obtain rfl:=q_
  rw [List.take_length] at C
  refine rnx rfl (rrangeM M λr w2 nr It0 Mr=>?_)
  have hr:=nr.b
  have hwu:=Le.size (a:=w) (b:=u)
  refine loop1G TBok 42 [11] 9 (λi v u=>∃(done rest:List (KeyD×Value)) (L:List StD),rest.length=i/\(done++rest).Perm m/\L=(done.map λp=>zof p.2)/\Own w.heap.size E.qb u v L/\ItB PP E.ql u r bm rest/\Stp w u) rfl
   ⟨_,[],m,[],rfl,.refl _,rfl,Own.nil _ _ _,It0,stp⟩ ?_
  rintro i vl G u4 ⟨done,rest,L,hi,hp,rfl,O,It,s4⟩
  have hdl:=hp.length_eq
  rw [List.length_append] at hdl
  refine rnx rfl (rnextM It (λhrest=>?_) λx v rest' u5 hp2 hC f5 hsz=>?_)
  ·subst hrest
   rw [List.append_nil] at hp
   refine rcall (zCA Tryz.sortM (k:=4) (show Agg PP E.qb 4 from inferInstance) rfl cfM zKE (f:=F.zm) rfl (λx y W=>zEO) O (by simp;omega)) ?_
   rintro _ u6 ⟨rfl,l',hp6,hs6,O6,f6⟩
   have s6:Stw w u4 u6:=zAz f6
   have hpm:=hp6.trans (hp.map λp=>zof p.2)
   have hap:=C.apart hnd
   have e6:l'=combL l:=by
    refine C.out hnd hpm ?_
    have hap2:l'.Pairwise λa b=>a.key≠b.key:=(hpm.pairwise_iff λh=>Ne.symm h).2 hap
    exact(hs6.and hap2).imp λ⟨g1,g2⟩=>zCb (λhl=>g1 ((zFj _ _).2 hl)) (Ne.symm g2)
   rw [<-e6]
   exact⟨O6,stp⟩
  ·have hxs:(x,v)∈m:=hp.mem_iff.1 (List.mem_append_right _ (hp2.mem_iff.1 List.mem_cons_self))
   have q_:=C.val _ hxs
   obtain⟨z,e1,e2,hz⟩:=q_
   simp only at e1 e2
   subst e2
   have s5:Stp w u5:=⟨Fr.st s4.e f5 λi hi=>by omega⟩
   have hp3:(done++[(x,agg z)]++rest').Perm m:=by
    rw [List.append_assoc];exact(List.Perm.append_left done hp2).trans hp
   have hi2:=hp2.length_eq
   rw [List.length_cons] at hi2
   have O5:Own w.heap.size E.qb u5 vl (done.map λp=>zof p.2):=O.itq (It.itq f5 (Nat.le_refl r))
   refine rnx rfl (rentryM hC ?_)
   have It5:=hC.b
   refine ral λb6 u6 n6 z6=>?_
   have hz6:=n6.b;have hs6:=n6.s
   refine rsto (B:=z6) (vs:=enc z) rfl rfl rfl (Enc.one _) λu7 X7 f7 _=>?_
   have X7:Bk u7 b6 (enc z) E.qb:=X7
   have s7:Stp u5 u7:=⟨Fr.st (Le.e (a:=u5) (b:=u6)) f7 λi hi=>by omega⟩
   refine rldG (ds:=enc z) (B:=X7) rfl rfl (rbs1 z rfl rfl (by decide) λb8 u8 e8 _ S8=>rapp1 (u:=w) ⟨rfl,rfl⟩ (O5.up (w':=u8)) S8 (by simp;omega) λv9 u9 O9 f9 s9=>?_)
   have It9:=(It5.up (w':=u8)).fro (O5.up (w':=u8)) f9
   have fin:∃(done rest0:List (KeyD×Value)) (L:List StD),rest0.length=rest'.length/\(done++rest0).Perm m/\L=(done.map λp=>zof p.2)/\Own w.heap.size E.qb u9 v9 L/\ItB PP E.ql u9 r bm rest0/\Stp w u9:=
    ⟨done++[(x,agg z)],rest',(done.map λp=>zof p.2)++[z],rfl,hp3,by rw [List.map_append];rfl,O9,It9,stp⟩
   exact⟨rest'.length,by omega,fin⟩
end Go.W
