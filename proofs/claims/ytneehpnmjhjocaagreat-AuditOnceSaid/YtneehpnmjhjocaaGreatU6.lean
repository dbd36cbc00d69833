/-
  Proved here: a part of the walks and plain laws of this claim (merged by a program of mine).
  Conditions: those that each fact names.
-/
import Derived.Test.YtneehpnmjhjocaaGreatU5
set_option linter.unusedVariables false
set_option linter.unusedSimpArgs false
namespace Go.W
open Go Go.Proofs
open Enc (enc)
set_option maxRecDepth 10000
variable {B k n:Nat} {a:Option Addr} {g:GrD} {s:List UInt8} {u u' w w':World}
theorem zND{x:RCfg}{im:List UInt8}(hf:im.length≤4611686018427387904):
  Sp PP F.zd #[agg x,txt im] w fun v w'=>((errN x im≠0∧v=.tuple #[.pointer none,.int .i64 (errN x im)]) ∨
   ∃g bs,cfgOk x∧imgOf im=some g∧errN x im=0∧v=.tuple #[.pointer (some ⟨bs,0,none⟩),.int .i64 0]∧SrvP (fun i=>w.heap.size≤i∧i<w'.heap.size) w.heap.size w' bs g (cfOf x) (newS (cfOf x)))∧Stp w w':=
 (zIw hf).mono fun v w' ⟨h,e⟩=>⟨by
  rcases h with ⟨hc,rfl⟩|⟨hc,hi,rfl⟩|⟨g,bs,hc,hi,rfl,S⟩
  ·left;unfold errN;rw [if_neg hc];exact⟨by decide,rfl⟩
  ·left;unfold errN;rw [if_pos hc,if_pos hi];exact⟨by decide,rfl⟩
  ·right;exact⟨g,bs,hc,hi,zCW.2 ⟨hc,g,hi⟩,rfl,S⟩,e⟩
theorem zBE(l:List REv):(evD l).length=l.length:=by simp [evD]
theorem zKG{l:List REv}(h:k<l.length):(evD l)[k]'(by rw [zBE];exact h)=((l[k]).tick,(l[k]).frame):=by simp [evD]
def RanT (x:RCfg) (im:List UInt8) (l:List REv) (w:World) (v:Value) (w':World):Prop:=
 (errA x im l.length≠0∧v=.tuple #[.pointer none,.int .i64 (errA x im l.length)]) ∨
 ∃g br bs X B,w.heap.size≤B∧cfgOk x∧imgOf im=some g∧errA x im l.length=0∧v=.tuple #[.pointer (some ⟨br,0,none⟩),.int .i64 0]∧RunP X B w' br bs g (cfOf x) (audR g (cfOf x) (evD l))
theorem RunP.cf{X:Nat→Prop}{br bs:Nat}{c:CfD}{r:AuD}(h:RunP X B w br bs g c r):CfOk c:=by
 obtain⟨R,vt,vk,S,_⟩:=h
 exact S.ok.2.1
instance:Elem PP 224 .nilFunc 1 8:=⟨by kernel_rfl⟩
theorem fn_one(f g:FuncId):∀u∈[Value.func (.func f) #[] #[],.func (.func g) #[] #[]],u.oneCell'=true:=by intro u hu;simp at hu;rcases hu with rfl|rfl <;> rfl
set_option maxHeartbeats 2000000 in
theorem zEK{x:RCfg}{im:List UInt8}(him:im.length≤4611686018427387904){c:Nat}{l:List REv}(h:SlF w (.slice a n c) l)(hm:EvsM w l)(hf:∀y∈l,y.frame.length≤4611686018427387904):
  Sp PP F.qae #[agg x,txt im,.slice a n c] w fun v w'=>RanT x im l w v w'∧Stp w w':=by
 have q_:=h.len
 obtain rfl:=q_
 refine en TBok rfl ?_
 refine rbx fun b w1 n1 B1=>?_
 have B1:Bk w1 b (enc x) E.qr:=B1
 refine ite (fun h1=>?_) (fun h1=>?_)
 ·have he:errA x im l.length=2:=if_pos (by omega)
  have hv:Value.tuple #[.pointer none,.int .i64 2]=.tuple #[.pointer none,.int .i64 (errA x im l.length)]:=by rw [he]
  exact⟨.inl ⟨by rw [he];decide,hv⟩,stp⟩
 have hl1:l.length≤1000:=by omega
 refine rldG (B:=B1) rfl rfl ?_
 refine rcall (zND him) ?_
 rintro _ w2 ⟨⟨he,rfl⟩|⟨g,bs,hc,hi,he,rfl,S⟩,e2⟩
 ·have he2:errA x im l.length=errN x im:=if_neg (by omega)
  refine ite (fun _=>?_) (fun h=>absurd he h)
  have hv:Value.tuple #[.pointer none,.int .i64 (errN x im)]=.tuple #[.pointer none,.int .i64 (errA x im l.length)]:=by rw [he2]
  exact⟨.inl ⟨by rw [he2];exact he,hv⟩,stp⟩
 have he2:errA x im l.length=0:=zEO.2 ⟨hl1,he⟩
 have z2:=e2.e.size
 refine ite (fun h=>absurd rfl h) (fun _=>?_)
 refine rbuild (cs:=[.pointer (some ⟨bs,0,none⟩),.slice none 0 0,.slice none 0 0]) rfl ?_
 refine rbx fun br w3 n3 K3=>?_
 have K3:Bk w3 br [.pointer (some ⟨bs,0,none⟩),.slice none 0 0,.slice none 0 0] E.yk:=K3
 have hbr:=n3.lo (u:=w2)
 have lbr:=K3.lt
 refine rbuildA (zero:=[.nilFunc,.nilFunc]) (sz:=1) (by kernel_rfl) (by kernel_rfl) (cs:=[.func (.func F.qo) #[] #[],.func (.func F.qp) #[] #[]]) rfl ?_
 refine ral fun bd w4 n4 D4=>?_
 have hbd:=n4.lo (u:=w3)
 have hbd2:=n4.b
 refine rsto (B:=D4) (vs:=[.func (.func F.qo) #[] #[],.func (.func F.qp) #[] #[]]) rfl rfl rfl (fn_one _ _) fun w5 D5 f5 _=>?_
 have D5:Bk w5 bd [.func (.func F.qo) #[] #[],.func (.func F.qp) #[] #[]] E.ya:=D5
 have s5:Stp w3 w5:=⟨Fr.st (Le.e (a:=w3) (b:=w4)) f5 fun i hi=>by omega⟩
 have z5:=s5.e.size
 have lbd:=D5.lt
 have Q5:RunP (fun i=>i=bd) w1.heap.size w5 br bs g (cfOf x) (audR g (cfOf x) []):=
  ⟨_,⟨none,0,0⟩,⟨none,0,0⟩,S.up (w':=w5),K3.mv (w:=w5),Own.nil _ _ _,Own.nil _ _ _,(fun b hb=>nomatch hb),(fun b hb=>nomatch hb),fun hr=>by omega,by omega,by omega,
   fun i hi=>⟨by omega,fun hr=>by omega,by omega,(fun h=>nomatch h),(fun h=>nomatch h)⟩⟩
 refine cnt TBok 32 [12,13] 32 l.length (fun k u=>RunP (fun i=>i=bd) w1.heap.size u br bs g (cfOf x) (audR g (cfOf x) ((evD l).take k))∧Fr (fun i=>w1.heap.size≤i∧¬i=bd) w5 u) rfl rfl ⟨Q5,Fr.refl _ _⟩ ?_
 rintro k G u hk ⟨Q,fu⟩
 have su:Stw w1 w5 u:=⟨fu.mono fun i _ hi=>hi.1⟩
 have zu:=fu.size
 have Du:=D5.fr fu fun h=>h.2 rfl
 have hok:=zKv (g:=g) Q.cf ((evD l).take k)
 have htk:((evD l).take k).length≤1000:=by rw [List.length_take,zBE];omega
 refine ite (fun hlt=>?_) (fun hge=>?_)
 ·have hk1:k<l.length:=by omega
  have hiy:l[k]? = some l[k]:=by simp
  have q_:∃y,y=l[k]:=⟨_,rfl⟩
  obtain⟨y,hy⟩:=q_
  rw [←hy] at hiy
  have hym:y∈l:=by rw [hy];exact List.getElem_mem hk1
  have q_:=hm y hym
  obtain⟨ps,hps⟩:=q_
  have hyf:=hf y hym
  have hnx:audR g (cfOf x) ((evD l).take (k+1))=audS g (cfOf x) (audR g (cfOf x) ((evD l).take k)) (y.tick,y.frame):=by
   rw [zLS (by rw [zBE];exact hk1),zKG hk1,←hy]
  refine rix (i:=k) (h.up (w':=u)) hiy fun b6 o6 A6=>?_
  refine rloadA A6 rfl ?_
  refine ral fun b7 w7 n7 X7=>?_
  refine rsto (B:=X7) (vs:=enc y) rfl rfl rfl (Enc.one _) fun w8 B8 f8 _=>?_
  have B8:Bk w8 b7 (enc y) E.qn:=B8
  have hb7:=n7.lo (u:=u)
  have t8:Stp u w8:=⟨Fr.st (Le.e (a:=u) (b:=w7)) f8 fun i hi=>by omega⟩
  have z8:=t8.e.size
  have Q8:=Q.up (u':=w8)
  have hps1:∀v,Fr (fun i=>w1.heap.size≤i) w8 v→SlF v y.picks.v ps:=fun v fv=>by
   have t:Stw w1 w8 v:=⟨fv⟩
   exact SlF.up (w:=w) hps
  have fin:∀u',RunP (fun i=>i=bd) w1.heap.size u' br bs g (cfOf x) (audS g (cfOf x) (audR g (cfOf x) ((evD l).take k)) (y.tick,y.frame))∧Fr (fun i=>w1.heap.size≤i∧¬i=bd) w8 u' →
    RunP (fun i=>i=bd) w1.heap.size u' br bs g (cfOf x) (audR g (cfOf x) ((evD l).take (k+1)))∧Fr (fun i=>w1.heap.size≤i∧¬i=bd) w5 u':=fun u' hu=>by
   rw [hnx]
   exact⟨hu.1,(fu.trans (Fr.fr t8.e)).trans hu.2⟩
  have Dt:=zFo (y:=y) Q8 (by omega) hps1 (by omega)
  have Dc:=zFn (y:=y) Q8 (by omega) hyf (by omega) (by omega)
  obtain⟨yt,yf,pa,pn,pc⟩:=y
  refine rld (B:=B8) rfl ?_
  cases yt with
  |true =>
   refine rixA (i:=1) (by decide) ?_
   refine rld (B:=Du.mv (w:=w8)) rfl ?_
   refine rldG (B:=B8) rfl rfl ?_
   refine rcall Dt ?_
   rintro _ w9 h9
   exact rar (by omega) ⟨rfl,hk1,fin w9 h9⟩
  |false =>
   refine rixA (i:=0) (by decide) ?_
   refine rld (B:=Du.mv (w:=w8)) rfl ?_
   refine rldG (B:=B8) rfl rfl ?_
   refine rcall Dc ?_
   rintro _ w9 h9
   exact rar (by omega) ⟨rfl,hk1,fin w9 h9⟩
 ·have hkl:k=l.length:=by omega
  have hfin:(evD l).take k=evD l:=by rw [hkl,←zBE l,List.take_length]
  rw [hfin] at Q
  exact⟨.inr ⟨g,br,bs,_,_,by have:=Le.size (a:=w) (b:=w1);omega,hc,hi,he2,rfl,Q⟩,stp⟩
theorem zAS(x:RCfg)(im:List UInt8)(l:List REv):errA x im (evD l).length=errA x im l.length:=by rw [zBE]
theorem zCC{x:RCfg}{im:List UInt8}(him:im.length≤4611686018427387904){c:Nat}{l:List REv}(h:SlF w (.slice a n c) l)(hm:EvsM w l)(hf:∀y∈l,y.frame.length≤4611686018427387904):
  Sp PP F.yn #[agg x,txt im,.slice a n c] w fun v w'=>(∃vt vl,v=.tuple #[vt,vl,.int .i64 (errA x im l.length)]∧Own w.heap.size E.qd w' vt ((toldA x im (evD l)).map bsOf)∧Own w.heap.size E.qa w' vl (liveA x im (evD l)))∧Stp w w':=by
 refine en TBok rfl ?_
 refine rbx fun b w1 n1 B1=>?_
 have B1:Bk w1 b (enc x) E.qr:=B1
 refine rldG (B:=B1) rfl rfl ?_
 refine rcall (zEK him (h.up (w':=w1)) hm.up hf) ?_
 rintro _ w2 ⟨⟨he,rfl⟩|⟨g,br,bs,X,B,hB,hc,hi,he,rfl,Q⟩,e2⟩
 ·have ht:toldA x im (evD l)=[]:=by unfold toldA;rw [if_neg (by rw [zAS];exact he)]
  have hl:liveA x im (evD l)=[]:=by unfold liveA;rw [if_neg (by rw [zAS];exact he)]
  refine ite (fun _=>?_) (fun h=>absurd he h)
  refine⟨⟨_,_,rfl,?_,?_⟩,stp⟩
  ·rw [ht];exact Own.nil _ _ _
  ·rw [hl];exact Own.nil _ _ _
 ·have ht:toldA x im (evD l)=(audR g (cfOf x) (evD l)).told:=by unfold toldA;rw [if_pos (by rw [zAS];exact he),zAU hi]
  have hl:liveA x im (evD l)=(List.range (cfOf x).workers).map fun k=>(liveW g (cfOf x).workers (audR g (cfOf x) (evD l)).s.held k:Int):=by unfold liveA;rw [if_pos (by rw [zAS];exact he),zAU hi]
  have hz:=Le.size (a:=w) (b:=w1)
  obtain⟨R,⟨ta,tn,tc⟩,⟨ka,kn,kc⟩,S,K,O1,O2,_⟩:=Q
  dsimp only at K O1 O2
  refine ite (fun h=>absurd rfl h) (fun _=>?_)
  refine drawR TBok mixed (fun _=>False) [0,1,2,3,4,5,6,7,8,9,10,11] (by kernel_rfl) fun w3 e3 _=>?_
  refine tld (B:=K) rfl not_false (tld (B:=K) rfl not_false ?_)
  refine rcall (zHp (S.up (w':=w3))) ?_
  rintro vl w4 ⟨O4,e4⟩
  refine⟨e4.e,?_⟩
  have hv:Value.tuple #[.slice ta tn tc,vl,.int .i64 0]=.tuple #[.slice ta tn tc,vl,.int .i64 (errA x im l.length)]:=by rw [he]
  refine⟨⟨_,_,hv,?_,?_⟩,stp⟩
  ·rw [ht];exact(O1.up (w':=w4)).mono (by omega)
  ·rw [hl];exact O4.older
theorem zDk{x:RCfg}{im:List UInt8}(him:im.length≤4611686018427387904){c:Nat}{l:List REv}(h:SlF w (.slice a n c) l)(hm:EvsM w l)(hf:∀y∈l,y.frame.length≤4611686018427387904):
  Sp PP F.y3 #[agg x,txt im,.slice a n c] w fun v w'=>(∃vk,v=.tuple #[vk,.int .i64 (errA x im l.length)]∧Own w.heap.size E.qa w' vk (tookA x im (evD l)))∧Stp w w':=by
 refine en TBok rfl ?_
 refine rbx fun b w1 n1 B1=>?_
 have B1:Bk w1 b (enc x) E.qr:=B1
 refine rldG (B:=B1) rfl rfl ?_
 refine rcall (zEK him (h.up (w':=w1)) hm.up hf) ?_
 rintro _ w2 ⟨⟨he,rfl⟩|⟨g,br,bs,X,B,hB,hc,hi,he,rfl,Q⟩,e2⟩
 ·have ht:tookA x im (evD l)=[]:=by unfold tookA;rw [if_neg (by rw [zAS];exact he)]
  refine ite (fun _=>?_) (fun h=>absurd he h)
  refine⟨⟨_,rfl,?_⟩,stp⟩
  rw [ht];exact Own.nil _ _ _
 ·have ht:tookA x im (evD l)=(audR g (cfOf x) (evD l)).took:=by unfold tookA;rw [if_pos (by rw [zAS];exact he),zAU hi]
  have hz:=Le.size (a:=w) (b:=w1)
  obtain⟨R,⟨ta,tn,tc⟩,⟨ka,kn,kc⟩,S,K,O1,O2,_⟩:=Q
  dsimp only at K O1 O2
  refine ite (fun h=>absurd rfl h) (fun _=>?_)
  refine rld (B:=K) rfl ?_
  have hv:Value.tuple #[.slice ka kn kc,.int .i64 0]=.tuple #[.slice ka kn kc,.int .i64 (errA x im l.length)]:=by rw [he]
  refine⟨⟨_,hv,?_⟩,stp⟩
  rw [ht];exact O2.mono (by omega)
def calmL (l:List REv):List REv:=l.map fun y=>⟨y.tick,y.frame,none,0,0⟩
theorem zIQ(l:List REv):(calmL l).length=l.length:=by simp [calmL]
theorem zIn{c:Nat}{l:List REv}(h:SlF w (.slice a n c) l)(hl:l.length≤1000000):Sp PP F.ck #[.slice a n c] w fun v w'=>Own w.heap.size E.qn w' v (calmL l)∧Stp w w':=by
 have q_:=h.len
 obtain rfl:=q_
 refine en TBok rfl ?_
 refine cnt1 TBok 8 [4,5] 3 8 l.length (fun k v u=>Own w.heap.size E.qn u v (calmL (l.take k))∧Stp w u) rfl rfl ⟨Own.nil _ _ _,stp⟩ ?_
 rintro k v G u hk ⟨O,su⟩
 refine ite (fun hlt=>?_) (fun hge=>?_)
 ·have hk1:k<l.length:=by omega
  have hiy:l[k]? = some l[k]:=by simp
  refine rix (i:=k) (h.up (w':=u)) hiy fun b6 o6 A6=>?_
  refine rloadA A6 rfl ?_
  refine ral fun b7 w7 n7 X7=>?_
  refine rsto (B:=X7) (vs:=enc l[k]) rfl rfl rfl (Enc.one _) fun w8 B8 f8 _=>?_
  have B8:Bk w8 b7 (enc l[k]) E.qn:=B8
  have hb7:=n7.lo (u:=u)
  have t8:Stp u w8:=⟨Fr.st (Le.e (a:=u) (b:=w7)) f8 fun i hi=>by omega⟩
  refine rld (B:=B8) rfl ?_
  refine rld (B:=B8) rfl ?_
  refine rbuild (cs:=enc (⟨l[k].tick,l[k].frame,none,0,0⟩:REv)) rfl ?_
  refine rbs1 (⟨l[k].tick,l[k].frame,none,0,0⟩:REv) rfl rfl (by decide) fun b9 w9 e9 _ S9=>?_
  have hcl:(calmL (l.take k)).length≤1000000:=by rw [zIQ,List.length_take];omega
  refine rapp1 (u:=w) ⟨rfl,rfl⟩ (O.up (w':=w9)) S9 (by omega) fun v10 w10 O10 f10 s10=>?_
  refine rar (by omega) ⟨rfl,hk1,?_,stp⟩
  have hcc:calmL (l.take (k+1))=calmL (l.take k)++[⟨l[k].tick,l[k].frame,none,0,0⟩]:=by rw [zAa hk1];unfold calmL;rw [List.map_append];rfl
  rw [hcc];exact O10
 ·have hkl:k=l.length:=by omega
  rw [hkl,List.take_length] at O
  exact⟨O,su⟩
theorem zLx{x:RCfg}{im:List UInt8}{c:Nat}{l:List REv}(h:SlF w (.slice a n c) l):
  Sp PP F.qa4 #[agg x,txt im,.slice a n c] w fun v w'=>(v=.bool true∨(v=.bool false∧(l.length≤1000→EvsS l)∧l.length≤1100∧im.length≤400))∧Stp w w':=by
 have q_:=h.len
 obtain rfl:=q_
 refine en TBok rfl ?_
 refine rbx fun b w1 n1 B1=>?_
 have big:Sp PP F.y8 #[.slice a l.length c] w1 fun v w'=>(v=.bool true∨(v=.bool false∧EvsS l))∧Stp w1 w':=zLG h.up
 have tail:¬(400:Int)<(⟨im.toArray⟩:ByteArray).size→Sp PP F.y8 #[.slice a l.length c] w1 fun v w'=>(v=.bool true∨(v=.bool false∧EvsS l))∧Stp w1 w':=fun _=>big
 clear tail
 refine rld (B:=B1) rfl ?_
 refine ite (fun h1=>?_) (fun h1=>?_)
 ·exact⟨.inl rfl,stp⟩
 refine rld (B:=B1) rfl ?_
 refine ite (fun h2=>?_) (fun h2=>?_)
 ·refine rld (B:=B1) rfl ?_
  refine ite (fun h3=>?_) (fun h3=>?_)
  ·exact⟨.inl rfl,stp⟩
  refine ite (fun h4=>?_) (fun h4=>?_)
  ·exact⟨.inl rfl,stp⟩
  rw [zAR] at h4
  refine rcall big ?_
  rintro v w2 ⟨rfl|⟨rfl,hs⟩,e2⟩
  ·refine ite (fun h5=>?_) (fun h5=>?_)
   ·exact⟨.inl rfl,stp⟩
   refine ite (fun h6=>?_) (fun h6=>?_)
   ·exact⟨.inl rfl,stp⟩
   exact⟨.inr ⟨rfl,fun h=>absurd h (by omega),by omega,by omega⟩,stp⟩
  ·refine ite (fun h6=>?_) (fun h6=>?_)
   ·exact⟨.inl rfl,stp⟩
   exact⟨.inr ⟨rfl,fun _=>hs,by omega,by omega⟩,stp⟩
 ·refine ite (fun h4=>?_) (fun h4=>?_)
  ·exact⟨.inl rfl,stp⟩
  rw [zAR] at h4
  refine rcall big ?_
  rintro v w2 ⟨rfl|⟨rfl,hs⟩,e2⟩
  ·refine ite (fun h5=>?_) (fun h5=>?_)
   ·exact⟨.inl rfl,stp⟩
   refine ite (fun h6=>?_) (fun h6=>?_)
   ·exact⟨.inl rfl,stp⟩
   exact⟨.inr ⟨rfl,fun h=>absurd h (by omega),by omega,by omega⟩,stp⟩
  ·refine ite (fun h6=>?_) (fun h6=>?_)
   ·exact⟨.inl rfl,stp⟩
   exact⟨.inr ⟨rfl,fun _=>hs,by omega,by omega⟩,stp⟩
abbrev x1:RCfg:=⟨1,1,1,9,9⟩
def ev0:List REv:=[⟨false,[7,1,0,1],⟨none,0,0⟩⟩,⟨false,[8,1,0,1],⟨none,0,0⟩⟩,⟨true,[],⟨none,0,0⟩⟩,⟨true,[],⟨none,0,0⟩⟩,⟨true,[],⟨none,0,0⟩⟩]
theorem audR0:audR g0 c0 (evD ev0)=⟨⟨[],[none]⟩,[[8,252,1],[7,0,1,1,0]],[7]⟩:=by
 have a1:audS g0 c0 ⟨newS c0,[],[]⟩ (false,[7,1,0,1])=⟨⟨[x7],[none]⟩,[],[7]⟩:=by
  rw [zBA (by rw [come7])];rw [come7,req7];rfl
 have a2:audS g0 c0 ⟨⟨[x7],[none]⟩,[],[7]⟩ (false,[8,1,0,1])=⟨⟨[x7],[none]⟩,[[8,252,1]],[7]⟩:=by
  rw [zB4 (t:=[8,252,1]) (by rw [come8])];rw [come8];rfl
 have a3:audS g0 c0 ⟨⟨[x7],[none]⟩,[[8,252,1]],[7]⟩ (true,[])=⟨⟨[],h0 1⟩,[[8,252,1]],[7]⟩:=by
  rw [zBB,tick7a];rfl
 have a4:audS g0 c0 ⟨⟨[],h0 1⟩,[[8,252,1]],[7]⟩ (true,[])=⟨⟨[],[none]⟩,[[8,252,1],[7,0,1,1,0]],[7]⟩:=by
  rw [zBB,tick7b];rfl
 have a5:audS g0 c0 ⟨⟨[],[none]⟩,[[8,252,1],[7,0,1,1,0]],[7]⟩ (true,[])=⟨⟨[],[none]⟩,[[8,252,1],[7,0,1,1,0]],[7]⟩:=by
  rw [zBB,tick7c];rfl
 show audS g0 c0 (audS g0 c0 (audS g0 c0 (audS g0 c0 (audS g0 c0 ⟨newS c0,[],[]⟩ (false,[7,1,0,1])) (false,[8,1,0,1])) (true,[])) (true,[])) (true,[])=_
 rw [a1,a2,a3,a4,a5]
theorem cfg1:cfgOk x1:=by unfold cfgOk;decide
theorem err0:errA x1 im0 ev0.length=0:=zEO.2 ⟨by decide,zCW.2 ⟨cfg1,g0,im0_g⟩⟩
theorem err0':errA x1 im0 (evD ev0).length=0:=by rw [zAS];exact err0
theorem imgE:imgOf []=none:=by
 cases e:imgOf [] with
 |none=>rfl
 |some g=>unfold imgOf rdI at e;cases e
theorem errE:errA x1 [] ev0.length=30:=by
 unfold errA errN
 rw [if_neg (by decide),if_pos cfg1,if_pos imgE]
theorem told0:toldA x1 im0 (evD ev0)=[[8,252,1],[7,0,1,1,0]]:=by
 unfold toldA;rw [if_pos err0',zAU im0_g]
 show (audR g0 c0 (evD ev0)).told=_
 rw [audR0]
theorem took0:tookA x1 im0 (evD ev0)=[7]:=by
 unfold tookA;rw [if_pos err0',zAU im0_g]
 show (audR g0 c0 (evD ev0)).took=_
 rw [audR0]
theorem live0:liveA x1 im0 (evD ev0)=[0]:=by
 unfold liveA;rw [if_pos err0',zAU im0_g]
 show (List.range c0.workers).map (fun k=>(liveW g0 c0.workers (audR g0 c0 (evD ev0)).s.held k:Int))=_
 rw [audR0];exact live7
theorem ev0_m(w:World):EvsM w ev0:=fun y hy=>by
 simp only [ev0,List.mem_cons,List.not_mem_nil,or_false] at hy
 rcases hy with rfl|rfl|rfl|rfl|rfl <;> exact⟨[],SlF.nil w⟩
theorem ev0_f:∀y∈ev0,y.frame.length≤4611686018427387904:=fun y hy=>by
 simp only [ev0,List.mem_cons,List.not_mem_nil,or_false] at hy
 rcases hy with rfl|rfl|rfl|rfl|rfl <;> decide
set_option maxHeartbeats 2000000 in
theorem zBV:Sp PP F.d6 #[] w fun v w'=>v=.bool true∧Stp w w':=by
 refine en TBok rfl ?_
 refine rbuild (cs:=enc x1) rfl ?_
 refine ral fun b w1 n1 Z1=>?_
 refine rsto (B:=Z1) (vs:=enc x1) rfl rfl rfl (Enc.one _) fun w2 B2 f2 _=>?_
 have B2:Bk w2 b (enc x1) E.qr:=B2
 have s2:Stp w w2:=⟨Fr.st (Le.e (a:=w) (b:=w1)) f2 fun i hi=>by subst hi;exact n1.lo⟩
 refine rbuild (cs:=enc (⟨false,[7,1,0,1],⟨none,0,0⟩⟩:REv)) rfl ?_
 refine rbuild (cs:=enc (⟨false,[8,1,0,1],⟨none,0,0⟩⟩:REv)) rfl ?_
 refine rbuild (cs:=enc (⟨true,[],⟨none,0,0⟩⟩:REv)) rfl ?_
 refine rbuild (cs:=enc (⟨true,[],⟨none,0,0⟩⟩:REv)) rfl ?_
 refine rbuild (cs:=enc (⟨true,[],⟨none,0,0⟩⟩:REv)) rfl ?_
 refine rbs (vs:=[agg (⟨false,[7,1,0,1],⟨none,0,0⟩⟩:REv),agg (⟨false,[8,1,0,1],⟨none,0,0⟩⟩:REv),agg (⟨true,[],⟨none,0,0⟩⟩:REv),agg (⟨true,[],⟨none,0,0⟩⟩:REv),agg (⟨true,[],⟨none,0,0⟩⟩:REv)]) ev0 rfl rfl rfl (by decide) fun b3 w3 n3 S3=>?_
 have s3:Stp w2 w3:=⟨n3.ext⟩
 refine rldG (B:=B2) rfl rfl ?_
 have D4:Sp PP F.yn #[agg x1,txt im0,.slice (some ⟨b3,0,none⟩) 5 5] w3 fun v w'=>(∃vt vl,v=.tuple #[vt,vl,.int .i64 0]∧Own w3.heap.size E.qd w' vt (([[8,252,1],[7,0,1,1,0]]:List (List UInt8)).map bsOf)∧Own w3.heap.size E.qa w' vl ([0]:List Int))∧Stp w3 w':=by
  have:=zCC (x:=x1) (im:=im0) (l:=ev0) (w:=w3) (by decide) S3 (ev0_m _) ev0_f
  rw [err0,told0,live0] at this;exact this
 refine rcall D4 ?_
 rintro _ w4 ⟨⟨vt,vl,rfl,O4,P4⟩,e4⟩
 refine rldG (B:=B2) rfl rfl ?_
 have D5:Sp PP F.y3 #[agg x1,txt im0,.slice (some ⟨b3,0,none⟩) 5 5] w4 fun v w'=>(∃vk,v=.tuple #[vk,.int .i64 0]∧Own w4.heap.size E.qa w' vk ([7]:List Int))∧Stp w4 w':=by
  have:=zDk (x:=x1) (im:=im0) (l:=ev0) (w:=w4) (by decide) (S3.up (w':=w4)) (ev0_m _) ev0_f
  rw [err0,took0] at this;exact this
 refine rcall D5 ?_
 rintro _ w5 ⟨⟨vk,rfl,O5⟩,e5⟩
 refine rldG (B:=B2) rfl rfl ?_
 have D6:Sp PP F.yn #[agg x1,txt [],.slice (some ⟨b3,0,none⟩) 5 5] w5 fun v w'=>(∃vt vl,v=.tuple #[vt,vl,.int .i64 30])∧Stp w5 w':=by
  have:=zCC (x:=x1) (im:=[]) (l:=ev0) (w:=w5) (by decide) (S3.up (w':=w5)) (ev0_m _) ev0_f
  rw [errE] at this
  exact this.mono fun v w' ⟨⟨vt,vl,h,_⟩,e⟩=>⟨⟨vt,vl,h⟩,e⟩
 refine rcall D6 ?_
 rintro _ w6 ⟨⟨vt6,vl6,rfl⟩,e6⟩
 refine ite (fun _=>?_) (fun h=>absurd rfl h)
 refine rbs (vs:=[txt [8,252,1],txt [7,0,1,1,0]]) [bsOf [8,252,1],bsOf [7,0,1,1,0]] rfl rfl rfl (by decide) fun b7 w7 n7 S7=>?_
 have s7:Stp w6 w7:=⟨n7.ext⟩
 have O7:=O4.up (w':=w7)
 have q_:=O7.shape
 obtain⟨a7,c7,rfl⟩:=q_
 refine rcall ((zJw O7.sl S7 (by simp)).tt rfl) ?_
 rintro _ w8 ⟨rfl,e8⟩
 refine rbs1 (0:Int) rfl rfl (by decide) fun b9 w9 e9 _ S9=>?_
 have P9:=P4.up (w':=w9)
 have q_:=P9.shape
 obtain⟨a9,c9,rfl⟩:=q_
 refine rcall ((zFH P9.sl S9 (by simp)).tt rfl) ?_
 rintro _ w10 ⟨rfl,e10⟩
 refine ite (fun _=>?_) (fun h=>absurd rfl h)
 refine rbs1 (7:Int) rfl rfl (by decide) fun b11 w11 e11 _ S11=>?_
 have O11:=O5.up (w':=w11)
 have q_:=O11.shape
 obtain⟨a11,c11,rfl⟩:=q_
 refine rcall ((zFH O11.sl S11 (by simp)).tt rfl) ?_
 rintro _ w12 ⟨rfl,e12⟩
 refine ite (fun _=>?_) (fun h=>absurd rfl h)
 refine rcall (zIn (S3.up (w':=w12)) (by decide)) ?_
 rintro v13 w13 ⟨O13,e13⟩
 have q_:=O13.shape
 obtain⟨a13,c13,rfl⟩:=q_
 refine ite (fun _=>?_) (fun h=>absurd (by simp [zIQ,ev0]) h)
 exact⟨rfl,stp⟩
theorem zMx{x:RCfg}{im:List UInt8}(l:List EvD):(toldA x im l).length≤64000∧(tookA x im l).length≤1000∧(liveA x im l).length≤16:=by
 unfold toldA tookA liveA
 by_cases h:errA x im l.length=0
 ·rw [if_pos h,if_pos h,if_pos h]
  have q_:=zEO.1 h
  obtain⟨h1,h2⟩:=q_
  have q_:=zCW.1 h2
  obtain⟨hc,g,hi⟩:=q_
  have hcf:CfOk (cfOf x):=zG6 hc
  have:=zKv (g:=graA im) hcf l
  have hw:=hcf.workers
  refine⟨by omega,by omega,?_⟩
  rw [List.length_map,List.length_range];omega
 ·rw [if_neg h,if_neg h,if_neg h];simp

theorem zMQ{x:RepD}{l:List HitD}(h:RepOk x l):(encR x l).length≤1100:=by
 have h1:=h.2.2.2.1
 have h2:=zHS l
 have h3:=zAV [x.id,x.code]
 have h4:=zAV [if x.a.found then 1 else 0,x.a.num,(l.length:Int)]
 unfold encR
 simp only [List.length_cons,List.length_nil] at h3 h4
 rw [List.length_append]
 split
 ·simp only [List.length_nil];omega
 ·rw [List.length_append];omega
theorem zKx{p:Int×Int×AnP}(h:RepOk (repOf p.1 p.2.1 p.2.2) p.2.2.hits):bytR p=encR (repOf p.1 p.2.1 p.2.2) p.2.2.hits:=if_pos h
theorem zMI{p:Int×Int×AnP}(h:RepOk (repOf p.1 p.2.1 p.2.2) p.2.2.hits):(bytR p).length≤1100:=by
 rw [zKx h];exact zMQ h
end Go.W
namespace Go.W
open Go Go.Proofs
set_option maxRecDepth 10000
variable {B k n:Nat} {a:Option Addr} {g:GrD} {s:List UInt8} {u u' w w':World}
section
variable {g:GrD} {c:CfD}
end
end Go.W
namespace Go.W
open Go
set_option maxRecDepth 10000
variable {B k n:Nat} {a:Option Addr} {g:GrD} {s:List UInt8} {u u' w w':World}
structure RepL where
 id:Int
 code:Int
 found:Bool
 num:Int
 hits:List HitD
deriving DecidableEq,Inhabited
def RepL.d (r:RepL):RepD:=⟨r.id,r.code,r.found,r.num,none,0,0⟩
def OkL (r:RepL):Prop:=RepOk r.d r.hits
def encL (r:RepL):List UInt8:=encR r.d r.hits
theorem OkL.of{x:RepD}{l:List HitD}(h:RepOk x l):OkL ⟨x.id,x.code,x.a.found,x.a.num,l⟩:=h.congr rfl rfl rfl rfl
theorem zI4:∀{l m:List HitD} {s t:List UInt8},(∀h∈l,HitOk h)→(∀h∈m,HitOk h)→l.length=m.length→hitsB l++s=hitsB m++t→l=m
 |[],[],_,_,_,_,_,_=>rfl
 |[],_::_,_,_,_,_,h,_=>by simp at h
 |_::_,[],_,_,_,_,h,_=>by simp at h
 |a::r,b::q,s,t,h1,h2,h,e=>by
  have ha:=h1 a List.mem_cons_self
  have hb:=h2 b List.mem_cons_self
  rw [zBM ha,zBM hb] at e
  simp only [List.append_assoc] at e
  have q_:=zAc e
  obtain⟨e1,e⟩:=q_
  have q_:=zAc e
  obtain⟨e2,e⟩:=q_
  have ih:=zI4 (fun h hh=>h1 h (List.mem_cons_of_mem _ hh)) (fun h hh=>h2 h (List.mem_cons_of_mem _ hh)) (by simpa using h) e
  rw [ih]
  congr 1
  obtain⟨g1,_,g2,_⟩:=ha
  obtain⟨g3,_,g4,_⟩:=hb
  cases a;cases b
  congr 1 <;> simp only at g1 g2 g3 g4 e1 e2 ⊢ <;> omega
theorem zMP{r q:RepL}(hr:OkL r)(hq:OkL q)(e:encL r=encL q):r=q:=by
 unfold encL at e
 unfold OkL at hr hq
 rw [zBD hr,zBD hq] at e
 have q_:=zAc e
 obtain⟨e1,e⟩:=q_
 have q_:=zAc e
 obtain⟨e2,e⟩:=q_
 have a1:=hr.1;have a2:=hr.2.1;have a3:=hr.2.2.1
 have b1:=hq.1;have b2:=hq.2.1;have b3:=hq.2.2.1
 have c1:r.id=q.id:=by simp only [RepL.d] at a1 b1 e1;omega
 have c2:r.code=q.code:=by simp only [RepL.d] at a2 b2 e2;omega
 by_cases hc:r.code=0
 ·have hc':q.code=0:=by omega
  have hc1:r.d.code=0:=hc
  have hc2:q.d.code=0:=hc'
  unfold rest2 at e
  simp only [hc1,hc2,ne_eq,not_true_eq_false,if_false] at e
  have q_:=zAc e
  obtain⟨e3,e⟩:=q_
  have q_:=zAc e
  obtain⟨e4,e⟩:=q_
  have q_:=zAc e
  obtain⟨e5,e⟩:=q_
  have e6:=zI4 (s:=[]) (t:=[]) hr.2.2.2.2.2.2.2 hq.2.2.2.2.2.2.2 e5 (by simpa using e)
  have c3:r.found=q.found:=by
   have e3':(if r.found then 1 else 0)=(if q.found then 1 else 0):=e3
   generalize r.found=x at e3' ⊢
   generalize q.found=y at e3' ⊢
   cases x <;> cases y <;> simp at e3' ⊢
  have c4:r.num=q.num:=by simp only [RepL.d] at a3 b3 e4;omega
  cases r;cases q;simp only at c1 c2 c3 c4 e6;subst c1 c2 c3 c4 e6;rfl
 ·have z1:=hr.2.2.2.2.1 hc
  have z2:=hq.2.2.2.2.1 (by show q.code≠0;omega)
  obtain⟨x1,x2,x3⟩:=z1
  obtain⟨y1,y2,y3⟩:=z2
  have x1:r.found=false:=x1;have x2:r.num=0:=x2;have y1:q.found=false:=y1;have y2:q.num=0:=y2
  cases r;cases q;simp only at c1 c2 x1 x2 x3 y1 y2 y3;subst c1 c2 x1 x2 x3 y1 y2 y3;rfl
open Classical in
/-- the reply whose bytes these are -/
noncomputable def getR (s:List UInt8):Option RepL:=if h:∃r,OkL r∧encL r=s then some h.choose else none
theorem zB8{r:RepL}:getR s=some r↔OkL r∧encL r=s:=by
 unfold getR
 constructor
 ·intro h
  split at h
  ·rename_i hh;injection h with h;rw [←h];exact hh.choose_spec
  ·cases h
 ·intro h
  have hh:∃r,OkL r∧encL r=s:=⟨r,h⟩
  rw [dif_pos hh]
  congr 1
  exact zMP hh.choose_spec.1 h.1 (hh.choose_spec.2.trans h.2.symm)
theorem zLZ:getR s=none↔∀r,OkL r→encL r≠s:=by
 constructor
 ·intro h r hr he
  rw [zB8.2 ⟨hr,he⟩] at h;cases h
 ·intro h
  cases hg:getR s with
  |none=>rfl
  |some r=>exact(h r (zB8.1 hg).1 (zB8.1 hg).2).elim
noncomputable def reps (L:List ByteArray):List RepL:=L.filterMap fun s=>getR s.data.toList
theorem zGi(L:List ByteArray):(reps L).length≤L.length:=List.length_filterMap_le ..
theorem zH9{L:List ByteArray}(h:k<L.length):reps (L.take (k+1))=reps (L.take k)++(getR L[k].data.toList).toList:=by
 unfold reps
 rw [zAa h,List.filterMap_append]
 cases hg:getR L[k].data.toList <;> simp [List.filterMap,hg]
theorem zKf(L M:List ByteArray):reps (L++M)=reps L++reps M:=by unfold reps;rw [List.filterMap_append]
def cntI (rs:List RepL) (i:Int):Nat:=(rs.filter fun r=>decide (r.id=i)).length
theorem zLV(rs:List RepL)(r:RepL)(c:Int):cntI (rs++[r]) c=cntI rs c+if c=r.id then 1 else 0:=by
 unfold cntI;rw [List.filter_append,List.length_append]
 congr 1
 by_cases h:r.id=c
 ·subst h;simp
 ·rw [if_neg (fun e=>h e.symm)];simp [h]
theorem zNV(rs:List RepL)(c:Int):cntI rs c≤rs.length:=List.length_filter_le ..
theorem zJz{α:Type}(f:α→Int):∀{l m:List α},l.Pairwise (fun a b=>f a<f b)→m.Pairwise (fun a b=>f a<f b)→(∀x,x∈l↔x∈m)→l=m
 |[],[],_,_,_=>rfl
 |[],b::m,_,_,h=>by have:=(h b).2 List.mem_cons_self;cases this
 |a::l,[],_,_,h=>by have:=(h a).1 List.mem_cons_self;cases this
 |a::l,b::m,h1,h2,h=>by
  rw [List.pairwise_cons] at h1 h2
  have hab:a=b:=by
   have q_:=List.mem_cons.1 ((h a).1 List.mem_cons_self)
   rcases q_ with h3|h3
   ·exact h3
   ·have q_:=List.mem_cons.1 ((h b).2 List.mem_cons_self)
    rcases q_ with h4|h4
    ·exact h4.symm
    ·have:=h1.1 _ h4;have:=h2.1 _ h3;omega
  subst hab
  congr 1
  refine zJz f h1.2 h2.2 fun x=>?_
  constructor
  ·intro hx
   have q_:=List.mem_cons.1 ((h x).1 (List.mem_cons_of_mem _ hx))
   rcases q_ with h3|h3
   ·subst h3;have:=h1.1 _ hx;omega
   ·exact h3
  ·intro hx
   have q_:=List.mem_cons.1 ((h x).2 (List.mem_cons_of_mem _ hx))
   rcases q_ with h3|h3
   ·subst h3;have:=h2.1 _ hx;omega
   ·exact h3
def idsL (rs:List RepL):List Int:=risingL (rs.map (·.id))
theorem zKO(rs:List RepL)(i:Int):i∈idsL rs↔cntI rs i≠0:=by
 unfold idsL
 rw [(zDh _).2,List.mem_map]
 unfold cntI
 constructor
 ·rintro⟨r,hr,rfl⟩ h0
  have:=List.eq_nil_of_length_eq_zero h0
  have hm:r∈rs.filter fun q=>decide (q.id=r.id):=List.mem_filter.2 ⟨hr,by simp⟩
  rw [this] at hm;cases hm
 ·intro h0
  obtain⟨r,hr⟩:=List.exists_mem_of_ne_nil (rs.filter fun r=>decide (r.id=i)) fun e=>h0 (by rw [e];rfl)
  rw [List.mem_filter] at hr
  exact⟨r,hr.1,by simpa using hr.2⟩
end Go.W
namespace Go.W
open Go Go.Proofs
set_option maxRecDepth 10000
variable {B k n:Nat} {a:Option Addr} {g:GrD} {s:List UInt8} {u u' w w':World}
noncomputable def okId (e:EvD):Option Int:=if e.1 then none else match reqOf e.2 with
 |some x=>if x.kind=4 then none else some x.id
 |none=>none
noncomputable def okIds (l:List EvD):List Int:=l.filterMap okId
def LastC (c:Int):Prop:=c=0∨c=250∨c=251∨c=253
instance (c:Int):Decidable (LastC c):=by unfold LastC;infer_instance
def cntF (rs:List RepL) (id:Int):Nat:=(rs.filter fun r=>decide (r.id=id) && decide (LastC r.code)).length
theorem zCE(rs qs:List RepL)(id:Int):cntF (rs++qs) id=cntF rs id+cntF qs id:=by unfold cntF;rw [List.filter_append,List.length_append]
abbrev RpA:=Int×Int×AnP
def repL (p:RpA):RepL:=⟨p.1,p.2.1,p.2.2.found,p.2.2.num,p.2.2.hits⟩
def RpOk (p:RpA):Prop:=RepOk (repOf p.1 p.2.1 p.2.2) p.2.2.hits
theorem zMU{p:RpA}(h:RpOk p):getR (bytR p)=some (repL p):=zB8.2 ⟨RepOk.congr h rfl rfl rfl rfl,by
 rw [zKx h]
 exact encR.congr rfl rfl rfl rfl⟩
noncomputable def repsB (l:List (List UInt8)):List RepL:=reps (l.map bsOf)
theorem zC7(a b:List (List UInt8)):repsB (a++b)=repsB a++repsB b:=by unfold repsB;rw [List.map_append,zKf]
theorem zC8:∀{l:List RpA},(∀p∈l,RpOk p)→repsB (l.map bytR)=l.map repL
 |[],_=>rfl
 |p::r,h=>by
  have h1:=zC8 (l:=r) fun q hq=>h q (List.mem_cons_of_mem _ hq)
  have h2:=zMU (h p List.mem_cons_self)
  have h3:repsB [bytR p]=[repL p]:=by
   show ([bsOf (bytR p)].filterMap fun s=>getR s.data.toList)=_
   have:getR (bsOf (bytR p)).data.toList=some (repL p):=by
    show getR (bytR p).toArray.toList=_
    simpa using h2
   simp [this]
  rw [List.map_cons,show bytR p::r.map bytR=[bytR p]++r.map bytR from rfl,zC7,h1,h3];rfl
section
variable {g:GrD} {c:CfD} {l:List EvD} {r:AuD}
theorem zLk{s:SvD}(h:SvOk g c s)(f:List UInt8):
  (∃p,RpOk p∧¬LastC p.2.1∧(comeS g c s f).2=some (bytR p)∧(comeS g c s f).1=s) ∨
  (∃p,RpOk p∧LastC p.2.1∧(comeS g c s f).2=some (bytR p)∧(p.1::idsS (comeS g c s f).1).Perm (idsS s)) ∨
  ((comeS g c s f).2=none∧(comeS g c s f).1=s∧reqOf f=none) ∨
  (∃x,(comeS g c s f).2=none∧reqOf f=some x∧x.kind≠4∧(comeS g c s f).1=⟨s.wait++[x],s.held⟩∧x.id∉idsS s):=by
 unfold comeS
 cases e:reqOf f with
 |none =>
  dsimp only
  cases e2:idOf f with
  |none=>exact .inr (.inr (.inl ⟨rfl,rfl,rfl⟩))
  |some id =>
   have hid:id≤2147483647:=by
    unfold idOf at e2
    cases e3:rdN f with
    |none=>rw [e3] at e2;cases e2
    |some p =>
     rw [e3] at e2
     obtain⟨n,r⟩:=p
     have:=(zCx.1 e3).1
     cases e2;exact this
   exact .inl ⟨(id,220,zAn),zBw (show 0≤(id:Int)∧(id:Int)≤2147483647 by omega) ⟨(by decide:(0:Int)≤220),(by decide:(220:Int)≤1000)⟩,(by decide:¬LastC 220),rfl,rfl⟩
 |some y =>
  dsimp only
  have hy:=(zD6 e).2.1
  by_cases h4:y.kind=4
  ·rw [if_pos h4]
   have q_:=(zG5 h y.id).2
   rcases q_ with ⟨e1,hp⟩|⟨e1,he,_⟩
   ·have hc:0≤(backS s y.id).2∧(backS s y.id).2≤1000:=by omega
    exact .inr (.inl ⟨(y.id,(backS s y.id).2,zAn),zBw hy hc,.inr (.inr (.inr e1)),rfl,hp⟩)
   ·have hc:0≤(backS s y.id).2∧(backS s y.id).2≤1000:=by omega
    exact .inl ⟨(y.id,(backS s y.id).2,zAn),zBw hy hc,(by unfold LastC;dsimp only;omega),rfl,he⟩
  ·rw [if_neg h4]
   have q_:=ask_ok (x:=y) h hy
   rcases q_ with ⟨h1,h2,_,h5⟩|⟨h1,h2⟩
   ·rw [if_pos h1,h2]
    exact .inr (.inr (.inr ⟨y,rfl,rfl,h4,rfl,h5⟩))
   ·rw [if_neg (by omega)]
    refine .inl ⟨(y.id,(askS g c s y (QyIs y.q g.n)).2,zAn),zBw hy (show 0≤(askS g c s y (QyIs y.q g.n)).2∧(askS g c s y (QyIs y.q g.n)).2≤1000 by omega),?_,rfl,rfl⟩
    unfold LastC;dsimp only;omega
structure OncI (g:GrD) (c:CfD) (l:List EvD) (r:AuD):Prop where
 ok:SvOk g c r.s
 sub:∀id∈r.took,id∈okIds l
 nd:r.took.Nodup
 live:∀id∈idsS r.s,id∈r.took∧cntF (repsB r.told) id=0
 one:∀id,cntF (repsB r.told) id≤1∧(0<cntF (repsB r.told) id→id∈r.took)
 len:r.told.length+(idsS r.s).length≤l.length
 byt:∀t∈r.told,∃p,RpOk p∧t=bytR p
theorem zKN{s:SvD}(h:SvOk g c s):(idsS s).Nodup:=h.ids
theorem zFY{p:RpA}{id:Int}:cntF [repL p] id=if p.1=id∧LastC p.2.1 then 1 else 0:=by
 unfold cntF
 have e1:(repL p).id=p.1:=rfl
 have e2:(repL p).code=p.2.1:=rfl
 rw [List.filter_cons,e1,e2]
 by_cases h:p.1=id∧LastC p.2.1
 ·rw [if_pos h,if_pos (by simp [h.1,h.2])];rfl
 ·rw [if_neg h,if_neg (by simpa using h)];rfl
theorem zIS:∀{l:List RpA} {id:Int},(∀p∈l,LastC p.2.1)→cntF (l.map repL) id=(l.map (·.1)).count id
 |[],_,_=>rfl
 |p::r,id,h=>by
  have h1:=zIS (l:=r) (id:=id) fun q hq=>h q (List.mem_cons_of_mem _ hq)
  have h2:=h p List.mem_cons_self
  rw [List.map_cons,show repL p::r.map repL=[repL p]++r.map repL from rfl,zCE,h1,zFY,List.map_cons,List.count_cons]
  by_cases h3:p.1=id
  ·rw [if_pos ⟨h3,h2⟩,if_pos (by simpa using h3)];omega
  ·rw [if_neg (fun h=>h3 h.1),if_neg (by simpa using h3)];omega
theorem zM5(I:OncI g c l r)(f:List UInt8)(hn:(okIds (l++[(false,f)])).Nodup):OncI g c (l++[(false,f)]) (audS g c r (false,f)):=by
 have hok:=zKC I.ok f
 have hid:okIds (l++[(false,f)])=okIds l++(okId (false,f)).toList:=by
  unfold okIds;rw [List.filterMap_append];congr 1
 have hsub:∀id∈r.took,id∈okIds (l++[(false,f)]):=fun id h=>by rw [hid];exact List.mem_append_left _ (I.sub id h)
 have hl:(l++[(false,f)]).length=l.length+1:=by simp
 have hln:=I.len
 have q_:=zLk I.ok f
 rcases q_ with ⟨p,h1,h2,h3,h4⟩|⟨p,h1,h2,h3,h4⟩|⟨h3,h4,h5⟩|⟨x,h3,h5,h6,h4,h7⟩
 ·rw [zB4 h3]
  have hr:repsB (r.told++[bytR p])=repsB r.told++[repL p]:=by
   rw [zC7];congr 1;exact zC8 (l:=[p]) (by simpa using h1)
  have hc:∀id,cntF (repsB (r.told++[bytR p])) id=cntF (repsB r.told) id:=fun id=>by rw [hr,zCE,zFY,if_neg (fun h=>h2 h.2)];rfl
  rw [h4] at hok ⊢
  refine⟨hok,hsub,I.nd,fun id h=>?_,fun id=>?_,?_,fun t ht=>?_⟩
  ·dsimp only;rw [hc];exact I.live id h
  ·dsimp only;rw [hc];exact I.one id
  ·dsimp only;rw [List.length_append,hl];simp only [List.length_cons,List.length_nil];omega
  ·have q_:=List.mem_append.1 ht
   rcases q_ with h|h
   ·exact I.byt t h
   ·rw [List.mem_singleton.1 h];exact⟨p,h1,rfl⟩
 ·rw [zB4 h3]
  have hr:repsB (r.told++[bytR p])=repsB r.told++[repL p]:=by
   rw [zC7];congr 1;exact zC8 (l:=[p]) (by simpa using h1)
  have hc:∀id,cntF (repsB (r.told++[bytR p])) id=cntF (repsB r.told) id+if p.1=id then 1 else 0:=fun id=>by
   rw [hr,zCE,zFY]
   by_cases h:p.1=id
   ·rw [if_pos ⟨h,h2⟩,if_pos h]
   ·rw [if_neg (fun q=>h q.1),if_neg h]
  have hnd:=h4.nodup_iff.2 (zKN I.ok)
  have hin:p.1∈idsS r.s:=h4.subset List.mem_cons_self
  have hlv:=I.live p.1 hin
  have hpl:=h4.length_eq
  rw [List.length_cons] at hpl
  refine⟨hok,hsub,I.nd,fun id h=>?_,fun id=>?_,?_,fun t ht=>?_⟩
  ·have h8:=h4.subset (List.mem_cons_of_mem _ h)
   have h9:=I.live id h8
   refine⟨h9.1,?_⟩
   have hne:¬p.1=id:=fun e=>(List.nodup_cons.1 hnd).1 (by rw [e];exact h)
   dsimp only;rw [hc,h9.2,if_neg hne]
  ·dsimp only;rw [hc]
   by_cases e:p.1=id
   ·subst e
    rw [if_pos rfl,hlv.2];exact⟨by omega,fun _=>hlv.1⟩
   ·rw [if_neg e];exact I.one id
  ·dsimp only;rw [List.length_append,hl];simp only [List.length_cons,List.length_nil];omega
  ·have q_:=List.mem_append.1 ht
   rcases q_ with h|h
   ·exact I.byt t h
   ·rw [List.mem_singleton.1 h];exact⟨p,h1,rfl⟩
 ·rw [zBA h3,h4,h5]
  have ht:r.took++((none:Option RqD).map (·.id)).toList=r.took:=by simp
  rw [ht]
  exact⟨I.ok,hsub,I.nd,I.live,I.one,by dsimp only;omega,I.byt⟩
 ·have ho:okId (false,f)=some x.id:=by
   unfold okId
   rw [if_neg (by simp)];dsimp only
   rw [h5];dsimp only
   rw [if_neg h6]
  rw [ho] at hid
  have hid:okIds (l++[(false,f)])=okIds l++[x.id]:=hid
  rw [hid] at hn
  have hnx:x.id∉okIds l:=fun h=>by
   have:=(List.nodup_append.1 hn).2.2 x.id h x.id (by simp)
   exact this rfl
  have hnt:x.id∉r.took:=fun h=>hnx (I.sub _ h)
  have hz:cntF (repsB r.told) x.id=0:=by
   apply Classical.byContradiction
   intro h
   exact hnt ((I.one x.id).2 (by omega))
  rw [h4] at hok
  rw [zBA h3,h4,h5]
  have hst:idsS (⟨r.s.wait++[x],r.s.held⟩:SvD)=idsS r.s++[x.id]:=by
   show idsH r.s.held++(r.s.wait++[x]).map (·.id)=(idsH r.s.held++r.s.wait.map (·.id))++[x.id]
   rw [List.map_append,←List.append_assoc];rfl
  have htk:r.took++((some x).map (·.id)).toList=r.took++[x.id]:=rfl
  rw [htk]
  refine⟨hok,fun id h=>?_,?_,fun id h=>?_,fun id=>⟨(I.one id).1,fun h=>List.mem_append_left _ ((I.one id).2 h)⟩,?_,I.byt⟩
  ·have q_:=List.mem_append.1 h
   rcases q_ with h|h
   ·exact hsub id h
   ·rw [hid];exact List.mem_append_right _ h
  ·rw [List.nodup_append]
   refine⟨I.nd,by simp,fun a ha b hb e=>?_⟩
   rw [List.mem_singleton.1 hb] at e
   exact hnt (e ▸ ha)
  ·have h:id∈idsS (⟨r.s.wait++[x],r.s.held⟩:SvD):=h
   rw [hst] at h
   have q_:=List.mem_append.1 h
   rcases q_ with h|h
   ·exact⟨List.mem_append_left _ (I.live id h).1,(I.live id h).2⟩
   ·rw [List.mem_singleton.1 h]
    exact⟨List.mem_append_right _ (by simp),hz⟩
  ·show r.told.length+(idsS (⟨r.s.wait++[x],r.s.held⟩:SvD)).length≤_
   rw [hst,List.length_append,hl];simp only [List.length_cons,List.length_nil];omega
theorem zM6(hg:GrOk g)(hc:CfOk c)(I:OncI g c l r)(f:List UInt8):OncI g c (l++[(true,f)]) (audS g c r (true,f)):=by
 have hid:okIds (l++[(true,f)])=okIds l:=by
  unfold okIds;rw [List.filterMap_append]
  show _++[]=_
  rw [List.append_nil]
 have hp:((tickR g c r.s).map (·.1)++idsS (tickS g c r.s).1).Perm (idsS r.s):=zNy hc I.ok
 have hro:∀p∈tickR g c r.s,RpOk p:=fun p hp=>(zFR hg hc I.ok hp).1
 have hlc:∀p∈tickR g c r.s,LastC p.2.1:=fun p hp=>by
  have:=(zFR hg hc I.ok hp).2
  unfold LastC;omega
 have hnd:=hp.nodup_iff.2 (zKN I.ok)
 have hln:=I.len
 have hpl:=hp.length_eq
 rw [List.length_append,List.length_map] at hpl
 rw [zBB,zNz]
 have hr:repsB (r.told++(tickR g c r.s).map bytR)=repsB r.told++(tickR g c r.s).map repL:=by rw [zC7,zC8 hro]
 have hcn:∀id,cntF (repsB (r.told++(tickR g c r.s).map bytR)) id=cntF (repsB r.told) id+((tickR g c r.s).map (·.1)).count id:=fun id=>by rw [hr,zCE,zIS hlc]
 have hl:(l++[(true,f)]).length=l.length+1:=by simp
 refine⟨(zHz hc I.ok).1,fun id h=>by rw [hid];exact I.sub id h,I.nd,fun id h=>?_,fun id=>?_,?_,fun t ht=>?_⟩
 ·have h1:=I.live id (hp.subset (List.mem_append_right _ h))
  refine⟨h1.1,?_⟩
  dsimp only;rw [hcn,h1.2,List.count_eq_zero.2 fun h2=>(List.nodup_append.1 hnd).2.2 id h2 id h rfl]
 ·dsimp only;rw [hcn]
  by_cases h:id∈(tickR g c r.s).map (·.1)
  ·have h1:=I.live id (hp.subset (List.mem_append_left _ h))
   have h2:=List.nodup_iff_count.1 (List.nodup_append.1 hnd).1 id
   rw [h1.2];exact⟨by omega,fun _=>h1.1⟩
  ·rw [List.count_eq_zero.2 h];exact I.one id
 ·dsimp only;rw [List.length_append,List.length_map,hl];omega
 ·have q_:=List.mem_append.1 ht
  rcases q_ with h|h
  ·exact I.byt t h
  ·have q_:=List.mem_map.1 h
   obtain⟨p,hp,rfl⟩:=q_
   exact⟨p,hro p hp,rfl⟩
theorem zN4(hg:GrOk g)(hc:CfOk c)(l:List EvD):(okIds l).Nodup→OncI g c l (audR g c l):=by
 refine zJJ (P:=fun l=>(okIds l).Nodup→OncI g c l (audR g c l)) (fun _=>?_) (fun l e ih hn=>?_) l
 ·have h0:idsS (newS c)=[]:=by
   show idsH (List.replicate c.slots none)++[]=[]
   rw [zHV];rfl
  refine⟨new_ok g c,(fun id h=>nomatch h),List.nodup_nil,fun id h=>?_,fun id=>⟨Nat.zero_le _,fun h=>?_⟩,?_,(fun t h=>nomatch h)⟩
  ·have h:id∈idsS (newS c):=h
   rw [h0] at h;cases h
  ·have h:0<cntF [] id:=h
   exact absurd h (by simp [cntF])
  ·show 0+(idsS (newS c)).length≤0
   rw [h0];exact Nat.le_refl _
 ·rw [zEJ]
  have hn':(okIds l).Nodup:=by
   unfold okIds at hn ⊢
   rw [List.filterMap_append] at hn
   exact(List.nodup_append.1 hn).1
  obtain⟨b,f⟩:=e
  cases b with
  |true=>exact zM6 hg hc (ih hn') f
  |false=>exact zM5 (ih hn') f hn
end
end Go.W
namespace Go.W
open Go Go.Proofs
open Enc (enc)
set_option maxRecDepth 10000
variable {B k n:Nat} {a:Option Addr} {g:GrD} {s:List UInt8} {u u' w w':World}
abbrev RepM (w:World) (x:RepD) (r:RepL):Prop:=x.id=r.id∧x.code=r.code∧x.a.found=r.found∧x.a.num=r.num∧SlY E.qo w (.slice x.a.s.a x.a.s.n x.a.s.c) r.hits
theorem SlY.qt{α:Type}[Enc α]{e:TypeId}{v:Value}{l:List α}(h:SlY e u v l)(q:Qt B u u'):SlY e u' v l:=by
 refine⟨h.1.qt q,?_⟩
 have q_:=h.2
 rcases q_ with h2|⟨b,cs,z,h3,h4⟩
 ·exact .inl h2
 ·exact .inr ⟨b,cs,z,h3,q.block b _ h4 (.inr rfl)⟩
theorem RepM.up[L:Le w w']{x:RepD}{r:RepL}(h:RepM w x r):RepM w' x r:=⟨h.1,h.2.1,h.2.2.1,h.2.2.2.1,h.2.2.2.2.up⟩
theorem RepM.qt{x:RepD}{r:RepL}(h:RepM w x r)(q:Qt B w w'):RepM w' x r:=⟨h.1,h.2.1,h.2.2.1,h.2.2.2.1,h.2.2.2.2.qt q⟩
def RX (w:World) (s:ByteArray) (q:RepD) (odd:Bool):Prop:=(odd=false∧∃r,getR s.data.toList=some r∧RepM w q r)∨(odd=true∧getR s.data.toList=none)
theorem RX.up[L:Le w w']{s:ByteArray}{q:RepD}{odd:Bool}(h:RX w s q odd):RX w' s q odd:=by
 rcases h with ⟨h1,r,h2,h3⟩|h
 ·exact .inl ⟨h1,r,h2,h3.up⟩
 ·exact .inr h
theorem RX.qt{s:ByteArray}{q:RepD}{odd:Bool}(h:RX w s q odd)(k:Qt B w w'):RX w' s q odd:=by
 rcases h with ⟨h1,r,h2,h3⟩|h
 ·exact .inl ⟨h1,r,h2,h3.qt k⟩
 ·exact .inr h
theorem GetRep.rx{s:ByteArray}{v:Value}(h:GetRep s.data.toList B v w):∃q odd,v=.tuple #[agg q,.int .i64 (if odd then 220 else 0)]∧RX w s q odd:=by
 rcases h with ⟨x,l,hok,he,rfl,O⟩|⟨hno,rfl⟩
 ·exact⟨x,false,rfl,.inl ⟨rfl,⟨x.id,x.code,x.a.found,x.a.num,l⟩,zB8.2 ⟨OkL.of hok,he⟩,rfl,rfl,rfl,rfl,O.y⟩⟩
 ·exact⟨zRep,true,rfl,.inr ⟨rfl,zLZ.2 fun r hr he=>hno _ _ hr he⟩⟩
theorem zFZ{s:ByteArray}(hs:s.size≤1000000):Sp PP F.yk #[.string s] w fun v w'=>(∃q odd,v=.tuple #[agg q,.int .i64 (if odd then 220 else 0)]∧RX w' s q odd)∧Stp w w':=
 (zFp (s:=s.data.toList) hs).mono fun _ _ h=>⟨h.1.rx,h.2⟩
def Short (L:List ByteArray):Prop:=L.length≤1000∧∀s∈L,s.size≤100000
abbrev rpX (b1 B:Nat):Nat→Prop:=fun i=>i=b1∨i<B
structure RepDat (L:List ByteArray) (a:Option Addr) (c b1 B:Nat) (u:World):Prop where
 s:SlF u (.slice a L.length c) L
 b:Bk u b1 [.slice a L.length c] E.q5
 hs:L≠[]→∀g,Value.blk (.slice a L.length c)=some g→g<B
theorem RepDat.kp{L:List ByteArray}{c b1:Nat}(h:RepDat L a c b1 B u)(k:Kp (rpX b1 B) u u'):RepDat L a c b1 B u':=⟨h.s.kp k fun hl g hg=>.inr (h.hs hl g hg),h.b.kp k (.inl rfl),h.hs⟩
theorem zFJ{L:List ByteArray}{c b1:Nat}(hL:Short L):SeqG PP F.ql [] [.pointer (some ⟨b1,0,none⟩)] Ext (Kp (rpX b1 B)) (RepDat L a c b1 B)
  (fun ys x u=>∃h:ys.length<L.length,∃q odd,x=[agg q,.bool odd]∧RX u L[ys.length] q odd) (fun ys=>ys.length=L.length):=by
 obtain⟨hn,hsz⟩:=hL
 refine⟨fun y J Jx w hJ hJx hY h0 D0=>?_⟩
 refine en TBok rfl ?_
 refine rld (B:=D0.b) rfl ?_
 refine cnt TBok 10 [3,4,5,6] 9 L.length (fun k u=>∃ys,ys.length=k∧J ys u∧RepDat L a c b1 B u) rfl rfl ⟨[],rfl,h0,D0⟩ ?_
 rintro k g u hk ⟨ys,hys,hj,D⟩
 refine ite (fun hlt=>?_) (fun hge=>?_)
 ·have hka:k<L.length:=by omega
  refine rix D.s (x:=L[k]) (by simp) fun b4 o4 A4=>rload1 (A4.cell0 rfl) ?_
  refine rcall (zFZ (s:=L[k]) (by have:=hsz _ (List.getElem_mem hka);omega)) ?_
  rintro _ u1 ⟨⟨q,odd,rfl,hx⟩,e1⟩
  refine ral fun b5 u2 n2 z2=>?_
  refine rsto (B:=z2) (vs:=enc q) rfl rfl rfl (Enc.one _) fun u3 B3 f3 _=>?_
  have B3:Bk u3 b5 (enc q) E.qb:=B3
  have s3:Stp u1 u3:=⟨Fr.st Le.e f3 fun i hi=>by subst hi;exact n2.lo⟩
  refine rldG (ds:=enc q) (B:=B3) rfl (Enc.len q) ?_
  have hj3:=hJ _ _ _ hj (Le.e (a:=u) (b:=u3))
  have D3:=D.kp (.of_ext (Le.e (a:=u) (b:=u3)))
  have hyk:ys.length<L.length:=by omega
  have hx3:RX u3 L[ys.length] q odd:=by have:=hx.up (w':=u3);simpa only [hys] using this
  cases odd
  case' false=>refine ite (fun h=>absurd rfl h) (fun _=>?_)
  case' true=>refine ite (fun _=>?_) (fun h=>absurd (by decide) h)
  all_goals
   refine ryield (vs:=[agg q,.bool _]) rfl rfl rfl rfl (hY ys u3 _ ⟨hyk,q,_,rfl,hx3⟩ hj3) ?_
   rintro bb u4 ⟨⟨rfl,hj4⟩|⟨rfl,hx4⟩,hK⟩
   ·exact rar (by omega) ⟨rfl,hka,_,by simp [hys],hj4,D3.kp hK⟩
   ·exact .inr hx4
 ·exact .inl ⟨ys,by omega,hj⟩
theorem zCN{c:Nat}{L:List ByteArray}(h:SlF w (.slice a n c) L):Sp PP F.dl #[.slice a n c] w fun v w'=>(∃b1,v=.func (.func F.ql) #[] #[.pointer (some ⟨b1,0,none⟩)]∧w.heap.size≤b1∧RepDat L a c b1 w.heap.size w')∧Stp w w':=by
 have q_:=h.len
 obtain rfl:=q_
 refine en TBok rfl ?_
 refine rbx fun b1 w1 n1 B1=>?_
 refine⟨⟨b1,rfl,n1.lo,h.up,B1,fun hl g hg=>?_⟩,stp⟩
 have q_:=h.lt hl
 obtain⟨g',h1,h2⟩:=q_
 rw [hg] at h1;cases h1;exact h2
theorem rx_two{L:List ByteArray}:∀(ys:List (List Value)) (x:List Value) (u:World),(∃h:ys.length<L.length,∃q odd,x=[agg q,.bool odd]∧RX u L[ys.length] q odd)→x.length=2:=by
 rintro ys x u ⟨_,q,odd,rfl,_⟩;rfl
def RepsM (w:World) (xs:List RepD) (rs:List RepL):Prop:=xs.length=rs.length∧∀(i:Nat) (x:RepD) (r:RepL),xs[i]? = some x→rs[i]? = some r→RepM w x r
theorem RepsM.imp{xs:List RepD}{rs:List RepL}(h:RepsM w xs rs)(f:∀x r,RepM w x r→RepM w' x r):RepsM w' xs rs:=⟨h.1,fun i x r h1 h2=>f x r (h.2 i x r h1 h2)⟩
theorem RepsM.up[L:Le w w']{xs:List RepD}{rs:List RepL}(h:RepsM w xs rs):RepsM w' xs rs:=h.imp fun _ _ h=>h.up
theorem RepsM.qt{xs:List RepD}{rs:List RepL}(h:RepsM w xs rs)(q:Qt B w w'):RepsM w' xs rs:=h.imp fun _ _ h=>h.qt q
theorem RepsM.nil(w:World):RepsM w [] []:=⟨rfl,fun _ _ _ h=>by simp at h⟩
theorem RepsM.snoc{xs:List RepD}{rs:List RepL}{x:RepD}{r:RepL}(h:RepsM w xs rs)(hx:RepM w x r):RepsM w (xs++[x]) (rs++[r]):=by
 refine⟨by simp [h.1],fun i y q h1 h2=>?_⟩
 have q_:=Nat.lt_or_ge i xs.length
 rcases q_ with hi|hi
 ·rw [List.getElem?_append_left hi] at h1
  rw [List.getElem?_append_left (by rw [←h.1];exact hi)] at h2
  exact h.2 i y q h1 h2
 ·rw [List.getElem?_append_right hi] at h1
  rw [List.getElem?_append_right (by rw [←h.1];exact hi)] at h2
  have hl:=h.1
  have hz:i - xs.length=0:=by
   have:=(List.getElem?_eq_some_iff.1 h1).1
   simp at this;omega
  rw [hz] at h1
  rw [show i - rs.length=0 by omega] at h2
  simp at h1 h2;subst h1 h2;exact hx
theorem SlY.fro{α β:Type}[Enc α][Enc β]{e e':TypeId}{v v':Value}{l:List α}{l':List β}(h:SlY e w v l)(k:Own B e' w v' l')(f:Fr (ownD B v') w w')(hne:e≠e'):SlY e w' v l:=
 h.fr f (fun b cs z hb hc hD=>by
  obtain⟨h1,h2,h3⟩:=hD
  rcases k with ⟨_,a,rfl⟩|k
  ·exact h3 a rfl
  ·have q_:=k.2
   rcases q_ with ⟨rfl,_⟩|⟨g,cap,cur,rfl,_,hg,_⟩
   ·exact h3 none rfl
   ·have:g=b:=by simpa [Value.blk] using h2
    subst this
    rw [hg] at hc;cases hc;exact hne rfl)
theorem SlY.frc{α:Type}[Enc α]{e e':TypeId}{v:Value}{l:List α}{b:Nat}{cs:List Value}(h:SlY e w v l)(f:Fr (fun i=>i=b) w w')(k:Bk w b cs e')(hne:e≠e'):SlY e w' v l:=
 h.fr f (fun g cs' z _ hc hD=>by
  subst hD
  have:=k.h
  rw [this] at hc;cases hc;exact hne rfl)
theorem RepM.fro{β:Type}[Enc β]{e':TypeId}{x:RepD}{r:RepL}{v':Value}{l':List β}(h:RepM w x r)(k:Own B e' w v' l')(f:Fr (ownD B v') w w')(hne:E.qo≠e'):RepM w' x r:=⟨h.1,h.2.1,h.2.2.1,h.2.2.2.1,h.2.2.2.2.fro k f hne⟩
theorem RepM.frc{e':TypeId}{x:RepD}{r:RepL}{b:Nat}{cs:List Value}(h:RepM w x r)(f:Fr (fun i=>i=b) w w')(k:Bk w b cs e')(hne:E.qo≠e'):RepM w' x r:=⟨h.1,h.2.1,h.2.2.1,h.2.2.2.1,h.2.2.2.2.frc f k hne⟩
theorem SlF.blk_lt{α:Type}[Enc α]{v:Value}{l:List α}(h:SlF w v l)(hl:l≠[]){g:Nat}(hg:Value.blk v=some g):g<w.heap.size:=by
 have q_:=h.lt hl
 obtain⟨g',h1,h2⟩:=q_
 rw [hg] at h1;cases h1;exact h2
def ofI (id:Int) (rs:List RepL):List RepL:=rs.filter fun r=>decide (r.id=id)
theorem zKX(id:Int)(rs:List RepL):(ofI id rs).length≤rs.length:=List.length_filter_le ..
set_option maxHeartbeats 1000000 in
theorem zKl{c:Nat}{L:List ByteArray}{id:Int}(h:SlF w (.slice a n c) L)(hL:Short L):
  Sp PP F.qax #[.slice a n c,.int .i64 id] w fun v w'=>(∃v' xs,v=.tuple #[v',.bool (decide (0<(ofI id (reps L)).length))]∧Own w.heap.size E.qb w' v' xs∧RepsM w' xs (ofI id (reps L)))∧Stp w w':=by
 have hn:=hL.1
 have q_:=h.len
 obtain rfl:=q_
 refine en TBok rfl ?_
 refine rbx fun bi w1 n1 Bi=>?_
 refine ral fun bo w2 n2 Bo=>?_
 have hbi:=n1.b;have hsi:=n1.s;have hbo:=n2.b;have hso:=n2.s
 refine rcall (zCN (h.up (w':=w2))) ?_
 rintro v w3 ⟨⟨b1,rfl,hb1,D3⟩,e3⟩
 have z3:=Le.size (a:=w2) (b:=w3)
 have D0:RepDat L a c b1 w.heap.size w3:=⟨D3.s,D3.b,fun hl g hg=>(h.blk_lt hl hg)⟩
 clear D3
 have C2:Bk w3 bo [.slice none 0 0] E.yg:=Bo.mv
 have Ci:Bk w3 bi [.int .i64 id] E.qa:=Bi.mv
 refine rrangeG TBok rfl (gf:=F.ql) (first:=[]) (cap:=[.pointer (some ⟨b1,0,none⟩)]) (Rc:=fun c u=>(∃D,Fr D c u)∧Kp (rpX b1 w.heap.size) c u) rfl rfl (zFJ hL) rx_two (fun u u' h=>⟨_,h⟩)
  (fun ys u=>∃(oa:Option Addr) (oc:Nat) (xs:List RepD),ys.length≤L.length∧Bk u bo [.slice oa xs.length oc] E.yg∧Bk u bi [.int .i64 id] E.qa∧RepDat L a c b1 w.heap.size u∧Own w.heap.size E.qb u (.slice oa xs.length oc) xs∧RepsM u xs (ofI id (reps (L.take ys.length)))∧Stp w u) (fun _ _=>False)
  ?_ ?_ ?_ ?_ ?_ (fun c u h=>h.1) (fun w' e=>D0.kp (.of_ext e)) ⟨none,0,[],by simp,C2,Ci,D0,Own.nil _ _ _,RepsM.nil _,stp⟩ ?_ ?_ ?_
 ·rintro ys u u' ⟨oa,oc,xs,h1,h2,h3,h4,h5,h6,h7⟩ q
  exact⟨oa,oc,xs,h1,h2.qt q,h3.qt q,h4.kp (.of_qt q),h5.qt q,h6.qt q,h7.qt (q.mono (by omega))⟩
 ·rintro _ u u' h;exact h.elim
 ·rintro ys u u' _ ⟨oa,oc,xs,h1,h2,h3,h4,h5,h6,h7⟩ q
  exact⟨oa,oc,xs,h1,h2.fr q not_false,h3.fr q not_false,h4.kp (.of_ext q),h5.ext q,h6.imp fun x r hx=>⟨hx.1,hx.2.1,hx.2.2.1,hx.2.2.2.1,hx.2.2.2.2.fr q fun _ _ _ _ _ h=>h⟩,⟨h7.e.t q⟩⟩
 ·rintro _ u u' _ h;exact h.elim
 ·rintro u c u2 u3 q1 ⟨_,r⟩ q2;exact((Kp.of_qt q1).trans r).trans (.of_qt q2)
 ·rintro ys x u ⟨hlt,q,odd,rfl,hx⟩ _ ⟨oa,oc,xs,h1,h2,h3,h4,h5,h6,h7⟩
  refine ral fun bx v1 m1 z1=>?_
  refine rsto (B:=z1) (vs:=enc q) rfl rfl rfl (Enc.one _) fun v2 X2 f2 _=>?_
  have X2:Bk v2 bx (enc q) E.qb:=X2
  have s2:Stp u v2:=⟨Fr.st Le.e f2 fun i hi=>by subst hi;exact m1.lo⟩
  refine⟨s2.e,fun c1 qt=>?_⟩
  have X:=X2.qt qt
  have h2:=(h2.mv (w:=v2)).qt qt;have h3:=(h3.mv (w:=v2)).qt qt
  have h4:=(h4.kp (.of_ext s2.e)).kp (.of_qt qt);have h5:=(h5.up (w':=v2)).qt qt;have h6:=(h6.up (w':=v2)).qt qt
  have h7:Stp w c1:=⟨(h7.e.t s2.e).qt (qt.mono (by omega))⟩
  have hx:=(hx.up (w':=v2)).qt qt
  have htk:=zH9 hlt
  have keepC:Kp (rpX b1 w.heap.size) c1 c1:=.of_ext (Fr.refl _ _)
  rcases hx with ⟨rfl,r,hr,hM⟩|⟨rfl,hr⟩
  ·rw [hr] at htk
   have hlen:(ys++[[agg q,Value.bool false]]).length=ys.length+1:=by simp
   refine rld (B:=X) rfl ?_
   refine rld (B:=h3) rfl ?_
   refine ite (fun(he:q.id=id)=>?_) (fun(he:¬q.id=id)=>?_)
   ·have hri:r.id=id:=by rw [←hM.1];exact he
    have hof:ofI id (reps (L.take (ys.length+1)))=ofI id (reps (L.take ys.length))++[r]:=by rw [htk];unfold ofI;rw [List.filter_append];simp [hri]
    refine rld (B:=h2) rfl ?_
    refine rldG (ds:=enc q) (B:=X) rfl (Enc.len q) ?_
    refine rbs1 q rfl (by show (enc q).toArray.toList=enc q;simp) (by decide) fun b6 v6 e6 _ S6=>?_
    have hxl:xs.length≤L.length:=by have:=zKX id (reps (L.take ys.length));have:=zGi (L.take ys.length);rw [List.length_take] at this;rw [h6.1];omega
    refine rapp1 (u:=w) ⟨rfl,rfl⟩ (h5.up (w':=v6)) S6 (by omega) fun v7 w7 O7 f7 s7=>?_
    have k2:=(h2.mv (w:=v6)).fro (h5.up (w':=v6)) f7 (by decide)
    have k3:=(h3.mv (w:=v6)).fro (h5.up (w':=v6)) f7 (by decide)
    have kx:=(h4.b.mv (w:=v6)).notOwn (B':=w.heap.size) (h5.up (w':=v6)) (by decide)
    have q7:=O7.shape
    obtain⟨a7,c7,rfl⟩:=q7
    refine rsto (B:=k2) (vs:=[.slice a7 _ c7]) rfl rfl rfl (sl1 _ _ _) fun w8 B8 f8 _=>?_
    have s8:Stp w w8:=⟨Fr.st Le.e f8 fun i hi=>by omega⟩
    have kp:Kp (rpX b1 w.heap.size) c1 w8:=((Kp.of_ext e6.e).trans (.of_fr f7 fun i hi=>by
     rcases hi with rfl|hi
     ·exact kx
     ·exact fun hD=>by have:=hD.1;omega)).trans (.of_fr f8 fun i hi=>by
      rcases hi with rfl|hi
      ·intro hb;have:=k2.h;subst hb;omega
      ·omega)
    refine⟨⟨a7,c7,xs++[q],by rw [hlen];exact hlt,B8,k3.fr f8 (by omega),h4.kp kp,O7.frc f8 k2 (by decide),?_,s8⟩,⟨_,((Fr.fr e6.e).trans (f7.mono fun i _ hi=>(.inl hi:ownD w.heap.size (.slice oa xs.length oc) i∨i=bo))).trans (f8.mono fun i _ hi=>.inr hi)⟩,kp⟩
    rw [hlen,hof]
    refine RepsM.snoc (h6.imp fun x r hx=>((hx.up (w':=v6)).fro (h5.up (w':=v6)) f7 (by decide)).frc f8 k2 (by decide)) (((hM.up (w':=v6)).fro (h5.up (w':=v6)) f7 (by decide)).frc f8 k2 (by decide))
   ·have hri:¬r.id=id:=by rw [←hM.1];exact he
    have hof:ofI id (reps (L.take (ys.length+1)))=ofI id (reps (L.take ys.length)):=by rw [htk];unfold ofI;rw [List.filter_append];simp [hri]
    exact⟨⟨oa,oc,xs,by rw [hlen];exact hlt,h2,h3,h4,h5,by rw [hlen,hof];exact h6,h7⟩,⟨_,Fr.refl (fun _=>False) _⟩,keepC⟩
  ·rw [hr] at htk
   have hlen:(ys++[[agg q,Value.bool true]]).length=ys.length+1:=by simp
   have hof:reps (L.take (ys.length+1))=reps (L.take ys.length):=by rw [htk];simp
   exact⟨⟨oa,oc,xs,by rw [hlen];exact hlt,h2,h3,h4,h5,by rw [hlen,hof];exact h6,h7⟩,⟨_,Fr.refl (fun _=>False) _⟩,keepC⟩
 ·rintro ys D u hE ⟨oa,oc,xs,h1,h2,h3,h4,h5,h6,h7⟩ hD hd
  rw [hE,List.take_length] at h6
  refine drawR TBok mixed (fun _=>False) (upF 6 0) (by kernel_rfl) fun u1 e1 _=>?_
  refine tld (B:=h2) rfl not_false ?_
  refine tld (B:=h2) rfl not_false ?_
  have hl:=h6.1
  have hd':=e1.e.nc _ _ hd rfl
  have fin:∀(u':World) (b:Bool),b=decide (0<(ofI id (reps L)).length)→(∀B,B≤D→Qt B u1 u')→(∃v' xs',Value.tuple #[.slice oa xs.length oc,.bool b]=.tuple #[v',.bool (decide (0<(ofI id (reps L)).length))]∧Own w.heap.size E.qb u' v' xs'∧RepsM u' xs' (ofI id (reps L)))∧Stp w u':=fun u' b hb q =>
   ⟨⟨_,xs,by rw [hb],(h5.up (w':=u1)).qt (q 0 (by omega)),(h6.up (w':=u1)).qt (q 0 (by omega))⟩,⟨(Le.e (a:=w) (b:=u1)).qt (q _ (by omega))⟩⟩
  refine ite (fun hgt=>?_) (fun hgt=>?_)
  ·refine leave1 hd' fun u' q=>fin u' true (decide_eq_true (by omega)).symm q
  ·refine leave1 hd' fun u' q=>fin u' false (decide_eq_false (by omega)).symm q
 ·rintro c D u h;exact h.elim
noncomputable instance:MKey PP E.qa Int:=mkInt (kd:=.i64) (by kernel_rfl)
set_option maxHeartbeats 1000000 in
theorem zIA{c:Nat}{L:List ByteArray}(h:SlF w (.slice a n c) L)(hL:Short L):
  Sp PP F.co #[.slice a n c] w fun v w'=>(∃bm m,v=.map (some bm)∧w.heap.size≤bm∧MapB PP E.qa w' bm m∧CntM m (cntI (reps L))∧m.length≤L.length)∧Stp w w':=by
 have hn:=hL.1
 have q_:=h.len
 obtain rfl:=q_
 refine en TBok rfl ?_
 refine rmkNB (kt:=E.qa) (κ:=Int) rfl fun bm w1 n1 M1=>?_
 refine ral fun bn w2 n2 Bn=>?_
 have hbm:=n1.b;have hsm:=n1.s;have hbn:=n2.b;have hsn:=n2.s
 refine rsto (B:=Bn) (vs:=[.map (some bm)]) rfl rfl rfl (by simp;rfl) fun w4 Bn4 f4 _=>?_
 have Bn4:Bk w4 bn [.map (some bm)] E.qw:=Bn4
 have s4:Stp w w4:=⟨Fr.st Le.e f4 fun i hi=>by omega⟩
 have M4:MapB PP E.qa w4 bm ([]:List (Int×Value)):=(M1.up (w':=w2)).fr f4 (by omega)
 clear Bn M1
 refine rcall (zCN (h.up (w':=w4))) ?_
 rintro v w6 ⟨⟨b1,rfl,hb1,D3⟩,e6⟩
 have z6:=Le.size (a:=w4) (b:=w6)
 have D0:RepDat L a c b1 w.heap.size w6:=⟨D3.s,D3.b,fun hl g hg=>(h.blk_lt hl hg)⟩
 clear D3
 have zw:=s4.e.size
 have z2:=f4.size
 refine rrangeG TBok rfl (gf:=F.ql) (first:=[]) (cap:=[.pointer (some ⟨b1,0,none⟩)]) (Rc:=fun c u=>(∃D,Fr D c u)∧Kp (rpX b1 w.heap.size) c u) rfl rfl (zFJ hL) rx_two (fun u u' h=>⟨_,h⟩)
  (fun ys u=>∃(m:List (Int×Value)),ys.length≤L.length∧Bk u bn [.map (some bm)] E.qw∧RepDat L a c b1 w.heap.size u∧MapB PP E.qa u bm m∧CntM m (cntI (reps (L.take ys.length)))∧m.length≤ys.length∧Stp w u) (fun _ _=>False)
  ?_ ?_ ?_ ?_ ?_ (fun c u h=>h.1) (fun w' e=>D0.kp (.of_ext e)) ⟨[],by simp,Bn4.mv,D0,M4.up,.nil fun c=>by simp [reps,cntI],by simp,stp⟩ ?_ ?_ ?_
 ·rintro ys u u' ⟨m,h1,h2,h4,h5,h6,h7,h8⟩ q
  exact⟨m,h1,h2.qt q,h4.kp (.of_qt q),h5.qt q,h6,h7,h8.qt (q.mono (by omega))⟩
 ·rintro _ u u' h;exact h.elim
 ·rintro ys u u' _ ⟨m,h1,h2,h4,h5,h6,h7,h8⟩ q
  exact⟨m,h1,h2.fr q not_false,h4.kp (.of_ext q),h5.fr q not_false,h6,h7,⟨h8.e.t q⟩⟩
 ·rintro _ u u' _ h;exact h.elim
 ·rintro u c u2 u3 q1 ⟨_,r⟩ q2;exact((Kp.of_qt q1).trans r).trans (.of_qt q2)
 ·rintro ys x u ⟨hlt,q,odd,rfl,hx⟩ _ ⟨m,h1,h2,h4,h5,h6,h7,h8⟩
  refine ral fun bx v1 m1 z1=>?_
  refine rsto (B:=z1) (vs:=enc q) rfl rfl rfl (Enc.one _) fun v2 X2 f2 _=>?_
  have X2:Bk v2 bx (enc q) E.qb:=X2
  have s2:Stp u v2:=⟨Fr.st Le.e f2 fun i hi=>by subst hi;exact m1.lo⟩
  refine⟨s2.e,fun c1 qt=>?_⟩
  have X:=X2.qt qt
  have h2:=(h2.mv (w:=v2)).qt qt
  have h4:=(h4.kp (.of_ext s2.e)).kp (.of_qt qt);have h5:=(h5.up (w':=v2)).qt qt
  have h8:Stp w c1:=⟨(h8.e.t s2.e).qt (qt.mono (by omega))⟩
  have hx:=(hx.up (w':=v2)).qt qt
  have htk:=zH9 hlt
  have hrl:=zGi (L.take ys.length)
  rw [List.length_take] at hrl
  have nx2:∀i,rpX b1 w.heap.size i→¬i=bm:=fun i hi=>by
   rcases hi with rfl|hi
   ·intro e;subst e;omega
   ·omega
  rcases hx with ⟨rfl,r,hr,hM⟩|⟨rfl,hr⟩
  ·rw [hr] at htk
   have htk:reps (L.take (ys.length+1))=reps (L.take ys.length)++[r]:=htk
   have hlen:(ys++[[agg q,Value.bool false]]).length=ys.length+1:=by simp
   refine rld (B:=h2) rfl ?_
   refine rld (B:=X) rfl ?_
   refine rlook h5.l r.id (by show Value.int .i64 q.id=_;rw [hM.1];rfl) ?_
   have hlk:=h6.look r.id
   have hcl:=zNV (reps (L.take ys.length)) r.id
   have hcs:∀c,cntI (reps (L.take (ys.length+1))) c=cntI (reps (L.take ys.length)) c+if c=r.id then 1 else 0:=fun c=>by rw [htk,zLV]
   have hcr:=hcs r.id
   rw [if_pos rfl] at hcr
   have hadd:∀{v:Value} {k:Value→World→Prop} {alt:Prop} {pn:List PanicEntry→World→Prop} {u:World},v=.int .i64 ((cntI (reps (L.take ys.length)) r.id:Nat):Int)→k (.int .i64 ((cntI (reps (L.take (ys.length+1))) r.id:Nat):Int)) u→binS PP .add E.qa (.tmp 16) (.const (.int .i64 1)) v (.int .i64 1) k pn u:=by
    rintro _ k alt pn u rfl hk
    exact rarE (by omega) (by omega) hk
   refine hadd (alt:=True) hlk ?_
   refine rupdB h5 r.id (by show Value.int .i64 q.id=_;rw [hM.1];rfl) fun v3 M3 f3 _=>?_
   have s3:Stp w v3:=⟨Fr.st h8.e f3 fun i hi=>by omega⟩
   refine⟨⟨_,by rw [hlen];exact hlt,h2.fr f3 (by omega),h4.kp (.of_fr f3 nx2),M3,?_,?_,s3⟩,⟨_,f3⟩,.of_fr f3 nx2⟩
   ·rw [hlen];exact h6.set hcs
   ·have:=zBY r.id (.int .i64 ((cntI (reps (L.take (ys.length+1))) r.id:Nat):Int)) m
    rw [hlen];exact Nat.le_trans this (by omega)
  ·rw [hr] at htk
   have htk:reps (L.take (ys.length+1))=reps (L.take ys.length):=by rw [htk];simp
   have hlen:(ys++[[agg q,Value.bool true]]).length=ys.length+1:=by simp
   refine⟨⟨m,by rw [hlen];exact hlt,h2,h4,h5,?_,by rw [hlen];omega,h8⟩,⟨_,Fr.refl (fun _=>False) _⟩,.of_ext (Fr.refl _ _)⟩
   rw [hlen,htk];exact h6
 ·rintro ys D u hE ⟨m,h1,h2,h4,h5,h6,h7,h8⟩ hD hd
  rw [hE,List.take_length] at h6
  rw [hE] at h7
  refine rld (B:=h2) rfl ?_
  refine leave1 hd fun u' q=>?_
  exact⟨⟨bm,m,rfl,by omega,h5.qt (q 0 (by omega)),h6,h7⟩,h8.qt (q _ (by omega))⟩
 ·rintro c D u h;exact h.elim
abbrev kyV (k:Int):List Value:=[.int .i64 k]
theorem zHd:∀{a b:List Int},a.map kyV=b.map kyV→a=b
 |[],[],_=>rfl
 |[],_::_,h=>by simp at h
 |_::_,[],h=>by simp at h
 |x::a,y::b,h=>by
  simp only [List.map_cons,List.cons.injEq] at h
  obtain⟨h1,h2⟩:=h
  have e:x=y:=by simpa [kyV] using h1
  rw [e,zHd h2]
theorem zMZ{b1 bm:Nat}{m:List (Int×Value)}:SeqG PP F.qd [] [.pointer (some ⟨b1,0,none⟩)] (ItQ B) (ItR b1) (fun u=>B≤u.heap.size∧Bk u b1 [.map (some bm)] E.qw∧MapB PP E.qa u bm m)
  (fun ys x _=>∃(ks:List Int) (k:Int) (rest:List Int),ys=ks.map kyV∧x=kyV k∧(ks++k::rest).Perm (m.map (·.1))) (fun ys=>∃ks:List Int,ys=ks.map kyV∧ks.Perm (m.map (·.1))):=by
 refine⟨fun y J Jx w hJ hJx hY h0 ⟨hB,Bm,M⟩=>?_⟩
 refine en TBok rfl ?_
 refine rld (B:=Bm) rfl ?_
 refine rnx rfl (rrangeM M fun r v1 nr It0 _=>?_)
 have hr:=nr.b
 refine loop0G TBok 6 [2,3] (fun i u=>∃(ks:List Int) (rest:List (Int×Value)),rest.length=i∧J (ks.map kyV) u∧(ks++rest.map (·.1)).Perm (m.map (·.1))∧ItB PP E.qa u r bm rest) rfl ⟨_,[],m,rfl,hJ _ _ _ h0 (Fr.fr nr.e),.refl _,It0⟩ ?_
 rintro i g u ⟨ks,rest,hi,hj,hp,It⟩
 refine rnx rfl (rnextM It (fun hrest=>?_) fun x v rest' u2 hp2 hCx f2 _=>?_)
 ·subst hrest
  rw [List.map_nil,List.append_nil] at hp
  exact .inl ⟨_,⟨ks,rfl,hp⟩,hj⟩
 ·refine rnx rfl (rentryM hCx ?_)
  have hpp:(ks++x::rest'.map (·.1)).Perm (m.map (·.1)):=by
   refine List.Perm.trans (List.Perm.append_left _ ?_) hp
   exact hp2.map (·.1)
  have hj2:=hJ _ _ _ hj (It.itq f2 (B:=B) (by omega))
  refine ryield (vs:=kyV x) rfl rfl rfl rfl (hY _ u2 _ ⟨ks,x,_,rfl,rfl,hpp⟩ hj2) ?_
  rintro bb u4 ⟨⟨rfl,hj4⟩|⟨rfl,hx4⟩,hK⟩
  ·have hrs:rest'.length+1=rest.length:=by have:=hp2.length_eq;simpa using this
   exact⟨rest'.length,by omega,ks++[x],rest',rfl,by simpa using hj4,by simpa using hpp,hCx.b.itr hK⟩
  ·exact .inr hx4
theorem zJd{bm:Nat}:Sp PP F.dk #[.map (some bm)] w fun v w'=>(∃b1,v=.func (.func F.qd) #[] #[.pointer (some ⟨b1,0,none⟩)]∧w.heap.size≤b1∧Bk w' b1 [.map (some bm)] E.qw)∧Stp w w':=by
 refine en TBok rfl ?_
 refine rbx fun b1 w1 n1 B1=>?_
 exact⟨⟨b1,rfl,n1.lo,B1⟩,stp⟩
set_option maxHeartbeats 1000000 in
theorem zEC{b1 bm:Nat}{m:List (Int×Value)}(B1:Bk w b1 [.map (some bm)] E.qw)(M:MapB PP E.qa w bm m)(hm:m.length≤1000000):
  Sp PP F.qw #[.slice none 0 0,.func (.func F.qd) #[] #[.pointer (some ⟨b1,0,none⟩)]] w fun v w'=>(∃ks:List Int,ks.Perm (m.map (·.1))∧Own w.heap.size E.qa w' v ks)∧Stp w w':=by
 refine en TBok rfl ?_
 refine rbx fun bs w1 n1 Bs=>?_
 have hbs:=n1.b;have hss:=n1.s
 have hb1:=B1.lt
 refine rrangeG TBok rfl (gf:=F.qd) (first:=[]) (cap:=[.pointer (some ⟨b1,0,none⟩)]) (Rc:=fun c u=>(∃D,Fr D c u)∧ItR b1 c u) rfl rfl (zMZ (b1:=b1) (bm:=bm) (B:=w.heap.size) (m:=m)) (by rintro ys x u ⟨_,_,_,_,rfl,_⟩;rfl) (fun u u' h=>⟨_,h⟩)
  (fun ys u=>∃(ks:List Int) (oa:Option Addr) (oc:Nat),ys=ks.map kyV∧Bk u bs [.slice oa ks.length oc] E.qz∧Bk u b1 [.map (some bm)] E.qw∧Own w.heap.size E.qa u (.slice oa ks.length oc) ks∧ks.length≤m.length∧Stp w u) (fun _ _=>False)
  ?_ ?_ ?_ ?_ ?_ (fun c u h=>h.1) (fun w' e=>⟨by have:=e.size;omega,(B1.mv (w:=w1)).fr e id,(M.up (w':=w1)).fr e id⟩) ⟨[],none,0,rfl,Bs,B1.mv,Own.nil _ _ _,by simp,stp⟩ ?_ ?_ ?_
 ·rintro ys u u' ⟨ks,oa,oc,h1,h2,h3,h4,h5,h6⟩ q
  exact⟨ks,oa,oc,h1,h2.qt q,h3.qt q,h4.qt q,h5,h6.qt (q.mono (by omega))⟩
 ·rintro _ u u' h;exact h.elim
 ·rintro ys u u' _ ⟨ks,oa,oc,h1,h2,h3,h4,h5,h6⟩ q
  exact⟨ks,oa,oc,h1,h2.itq q,h3.itq q,h4.itq q,h5,⟨Fr.st h6.e q fun i hi=>hi.1⟩⟩
 ·rintro _ u u' _ h;exact h.elim
 ·rintro u c u2 u3 q1 ⟨_,r⟩ q2;exact((ItR.of_qt q1).trans r).trans (.of_qt q2)
 ·rintro ys x u ⟨ks',k,rest,hys,rfl,hp⟩ _ ⟨ks,oa,oc,h1,h2,h3,h4,h5,h6⟩
  have hkk:ks=ks':=by
   exact zHd (h1.symm.trans hys)
  subst hkk
  refine⟨Fr.refl _ _,fun c1 qt=>?_⟩
  have h2:=h2.qt qt;have h3:=h3.qt qt;have h4:=h4.qt qt;have h6:=h6.qt (qt.mono (by omega))
  have hlen:=hp.length_eq
  simp only [List.length_append,List.length_cons,List.length_map] at hlen
  refine rld (B:=h2) rfl ?_
  refine rbs1 k rfl rfl (by decide) fun b6 u3 e6 _ S6=>?_
  refine rapp1 (u:=w) ⟨rfl,rfl⟩ (h4.up (w':=u3)) S6 (by omega) fun v7 u4 O7 f7 s7=>?_
  have k2:=(h2.mv (w:=u3)).fro (h4.up (w':=u3)) f7 (by decide)
  have k3:=(h3.mv (w:=u3)).fro (h4.up (w':=u3)) f7 (by decide)
  have nb:=(h3.mv (w:=u3)).notOwn (B':=w.heap.size) (h4.up (w':=u3)) (by decide)
  have q7:=O7.shape
  obtain⟨a7,c7,rfl⟩:=q7
  refine rsto (B:=k2) (vs:=[.slice a7 _ c7]) rfl rfl rfl (sl1 _ _ _) fun u5 B5 f5 _=>?_
  have s5:Stp w u5:=⟨Fr.st Le.e f5 fun i hi=>by omega⟩
  refine⟨⟨ks++[k],a7,c7,by rw [h1];simp,B5,k3.fr f5 (by omega),O7.frc f5 k2 (by decide),by simp;omega,s5⟩,⟨_,((Fr.fr e6.e).trans (f7.mono fun i _ hi=>(.inl hi:ownD w.heap.size (.slice oa ks.length oc) i∨i=bs))).trans (f5.mono fun i _ hi=>.inr hi)⟩,((ItR.of_ext e6.e).trans (.of_own f7 (h4.up (w':=u3)) nb)).trans (.of_cell f5 k2 (by omega))⟩
 ·rintro ys D u ⟨ks',hys,hp⟩ ⟨ks,oa,oc,h1,h2,h3,h4,h5,h6⟩ hD hd
  have hkk:ks=ks':=by
   exact zHd (h1.symm.trans hys)
  subst hkk
  refine rld (B:=h2) rfl ?_
  refine leave1 hd fun u' q=>?_
  exact⟨⟨ks,hp,h4.qt (q 0 (by omega))⟩,h6.qt (q _ (by omega))⟩
 ·rintro c D u h;exact h.elim
theorem zJM{c:Nat}{L:List ByteArray}(h:SlF w (.slice a n c) L)(hL:Short L):
  Sp PP F.qaa #[.slice a n c] w fun v w'=>Own w.heap.size E.qa w' v (idsL (reps L))∧Stp w w':=by
 refine en TBok rfl ?_
 refine rcall (zIA h hL) ?_
 rintro _ w1 ⟨⟨bm,m,rfl,hbm,M,hC,hl⟩,e1⟩
 refine rcall zJd ?_
 rintro _ w2 ⟨⟨b1,rfl,hb1,B1⟩,e2⟩
 have hsort:Sp PP F.z7 #[.func (.func F.qd) #[] #[.pointer (some ⟨b1,0,none⟩)]] w2 fun v w'=>Own w.heap.size E.qa w' v (idsL (reps L))∧Stp w2 w':=by
  refine en TBok rfl ?_
  have hcol:Sp PP F.q3 #[.func (.func F.qd) #[] #[.pointer (some ⟨b1,0,none⟩)]] w2 fun v w'=>(∃ks:List Int,ks.Perm (m.map (·.1))∧Own w2.heap.size E.qa w' v ks)∧Stp w2 w':=by
   refine en TBok rfl ?_
   refine rcall (zEC B1 M.up (by have:=hL.1;omega)) ?_
   rintro v w3 ⟨⟨ks,hp,O⟩,e3⟩
   exact⟨⟨ks,hp,O⟩,e3⟩
  refine rcall hcol ?_
  rintro v w3 ⟨⟨ks,hp,O⟩,e3⟩
  have hkl:=hp.length_eq
  rw [List.length_map] at hkl
  have hL1:=hL.1
  refine rcall (zJK Tryz.sortI (f:=F.yd) rfl O (by omega)) ?_
  rintro _ w4 ⟨rfl,O4,f4⟩
  have s4:Stw w2 w3 w4:=zAu f4
  have hk:srtI ks=idsL (reps L):=by
   refine zJz (fun x=>x) ?_ (zDh _).1 fun x=>?_
   ·have hnd:(srtI ks).Nodup:=(zDc ks).nodup_iff.2 (hp.nodup_iff.2 M.2)
    exact((zId ks).and hnd).imp fun {a b} ⟨g1,g2⟩=>by have:a≠b:=g2;omega
   ·rw [(zDc ks).mem_iff,hp.mem_iff,zKO,List.mem_map]
    constructor
    ·rintro⟨⟨c,v⟩,hm,rfl⟩
     exact((hC.mem M.2 c v).1 hm).1
    ·intro h0
     exact⟨(x,_),(hC.mem M.2 x _).2 ⟨h0,rfl⟩,rfl⟩
  rw [hk] at O4
  exact⟨O4.older,stp⟩
 refine rcall hsort ?_
 rintro v w3 ⟨O,e3⟩
 exact⟨O,stp⟩
theorem zLC{l:List EvD}(h:k<l.length):okIds (l.take (k+1))=okIds (l.take k)++(okId l[k]).toList:=by
 rw [zAa h];unfold okIds;rw [List.filterMap_append];congr 1
theorem zMd(l:List EvD):(okIds l).length≤l.length:=List.length_filterMap_le ..
def cA (rs:List RepL):Nat:=(rs.filter fun r=>decide (r.code=0∨r.code=250∨r.code=251)).length
def cG (rs:List RepL):Nat:=(rs.filter fun r=>decide (r.code=253)).length
theorem cA_le(rs:List RepL):cA rs≤rs.length:=List.length_filter_le ..
theorem cG_le(rs:List RepL):cG rs≤rs.length:=List.length_filter_le ..
theorem zNP{rs:List RepL}(h:k<rs.length):cA (rs.take (k+1))=cA (rs.take k)+if rs[k].code=0∨rs[k].code=250∨rs[k].code=251 then 1 else 0:=by
 unfold cA;rw [zAa h,List.filter_append,List.length_append];congr 1
 by_cases h1:rs[k].code=0∨rs[k].code=250∨rs[k].code=251
 ·rw [if_pos h1,List.filter_cons,if_pos (by simpa using h1)];rfl
 ·rw [if_neg h1,List.filter_cons,if_neg (by simpa using h1)];rfl
theorem zNQ{rs:List RepL}(h:k<rs.length):cG (rs.take (k+1))=cG (rs.take k)+if rs[k].code=253 then 1 else 0:=by
 unfold cG;rw [zAa h,List.filter_append,List.length_append];congr 1
 by_cases h1:rs[k].code=253
 ·rw [if_pos h1,List.filter_cons,if_pos (by simpa using h1)];rfl
 ·rw [if_neg h1,List.filter_cons,if_neg (by simpa using h1)];rfl
theorem c_sum(id:Int):∀rs:List RepL,cA (ofI id rs)+cG (ofI id rs)=cntF rs id
 |[]=>rfl
 |r::q=>by
  have ih:=c_sum id q
  have e1:cntF (r::q) id=cntF [r] id+cntF q id:=zCE [r] q id
  by_cases h:r.id=id
  ·have e2:ofI id (r::q)=r::ofI id q:=by unfold ofI;rw [List.filter_cons,if_pos (by simpa using h)]
   have e3:cntF [r] id=if LastC r.code then 1 else 0:=by
    unfold cntF;rw [List.filter_cons]
    by_cases h2:LastC r.code
    ·rw [if_pos h2,if_pos (by simp [h,h2])];rfl
    ·rw [if_neg h2,if_neg (by simp [h,h2])];rfl
   have e4:cA (r::ofI id q)=(if r.code=0∨r.code=250∨r.code=251 then 1 else 0)+cA (ofI id q):=by
    unfold cA;rw [List.filter_cons]
    by_cases h2:r.code=0∨r.code=250∨r.code=251
    ·rw [if_pos (by simpa using h2),if_pos h2,List.length_cons];omega
    ·rw [if_neg (by simpa using h2),if_neg h2];omega
   have e5:cG (r::ofI id q)=(if r.code=253 then 1 else 0)+cG (ofI id q):=by
    unfold cG;rw [List.filter_cons]
    by_cases h2:r.code=253
    ·rw [if_pos (by simpa using h2),if_pos h2,List.length_cons];omega
    ·rw [if_neg (by simpa using h2),if_neg h2];omega
   have e6:(if LastC r.code then 1 else 0:Nat)=(if r.code=0∨r.code=250∨r.code=251 then 1 else 0)+(if r.code=253 then 1 else 0):=by
    by_cases h1:r.code=0∨r.code=250∨r.code=251
    ·rw [if_pos (by unfold LastC;omega),if_pos h1,if_neg (by omega)]
    ·by_cases h2:r.code=253
     ·rw [if_pos (by unfold LastC;omega),if_neg h1,if_pos h2]
     ·rw [if_neg (by unfold LastC;omega),if_neg h1,if_neg h2]
   rw [e1,e2,e3,e4,e5,←ih,e6];omega
  ·have e2:ofI id (r::q)=ofI id q:=by unfold ofI;rw [List.filter_cons,if_neg (by simpa using h)]
   have e3:cntF [r] id=0:=by unfold cntF;rw [List.filter_cons,if_neg (by simp [h])];rfl
   rw [e1,e2,e3,ih];omega
theorem zKg{l:List Int}(h:l.Nodup):(risingL l).length=l.length:=by
 have h1:=zDh l
 have h2:(risingL l).Nodup:=by
  rw [List.nodup_iff_pairwise_ne]
  exact h1.1.imp fun hab=>by omega
 exact((List.perm_ext_iff_of_nodup h2 h).2 fun x=>h1.2 x).length_eq
set_option maxHeartbeats 8000000 in
theorem zF7{x:RCfg}{im:List UInt8}(him:im.length≤4611686018427387904){c:Nat}{l:List REv}(h:SlF w (.slice a n c) l)(hm:EvsM w l)(hf:∀y∈l,y.frame.length≤4611686018427387904):
  Sp PP F.di #[agg x,txt im,.slice a n c] w fun v w'=>v=.bool true∧Stp w w':=by
 have q_:=h.len
 obtain rfl:=q_
 refine en TBok rfl ?_
 refine rbx fun b w1 n1 B1=>?_
 have B1:Bk w1 b (enc x) E.qr:=B1
 refine rldG (B:=B1) rfl rfl ?_
 refine rcall (zLx h.up) ?_
 rintro _ w2 ⟨rfl|⟨rfl,hs,hl,hi⟩,e2⟩
 ·exact⟨rfl,stp⟩
 refine ite (fun h1=>?_) (fun h1=>?_)
 ·exact⟨rfl,stp⟩
 have hl100:l.length≤100:=by omega
 have hle:=zBE l
 refine cnt1 TBok 9 [6] 7 8 l.length (fun k v u=>Own w2.heap.size E.qa u v (okIds ((evD l).take k))∧(okIds ((evD l).take k)).Nodup∧Stp w2 u) rfl rfl ⟨Own.nil _ _ _,List.nodup_nil,stp⟩ ?_
 rintro k v G u hk ⟨O,hnd,su⟩
 have hlk:=zMd ((evD l).take k)
 rw [List.length_take] at hlk
 refine ite (fun hlt=>?_) (fun hge=>?_)
 ·have hk1:k<l.length:=by omega
  have hiy:l[k]? = some l[k]:=by simp
  have q_:∃y,y=l[k]:=⟨_,rfl⟩
  obtain⟨y,hy⟩:=q_
  rw [←hy] at hiy
  have hym:y∈l:=by rw [hy];exact List.getElem_mem hk1
  have hyf:=hf y hym
  have hnx:okIds ((evD l).take (k+1))=okIds ((evD l).take k)++(okId (y.tick,y.frame)).toList:=by
   rw [zLC (by rw [zBE];exact hk1),zKG hk1,←hy]
  obtain⟨yt,yf,pa,pn,pc⟩:=y
  have hyf:yf.length≤4611686018427387904:=hyf
  have hnx:okIds ((evD l).take (k+1))=okIds ((evD l).take k)++(okId (yt,yf)).toList:=hnx
  have skip:∀u',Stp u u'→okId (yt,yf)=none→Own w2.heap.size E.qa u' v (okIds ((evD l).take (k+1)))∧(okIds ((evD l).take (k+1))).Nodup∧Stp w2 u':=fun u' e h0=>by
   rw [hnx,h0]
   simp only [Option.toList_none,List.append_nil]
   exact⟨O.up (w':=u'),hnd,stp⟩
  refine rix (i:=k) (h.up (w':=u)) hiy fun b6 o6 A6=>?_
  refine rload1 (A6.cell 1 rfl) ?_
  refine rcall (zA4 (s:=yf) hyf) ?_
  rintro _ w4 ⟨⟨d,q,hrq,rfl,hO⟩|⟨hrq,rfl⟩,e4⟩
  ·refine ral fun bq w5 n5 X5=>?_
   have hbq:=n5.lo (u:=u)
   refine rsto (B:=X5) (vs:=enc q) rfl rfl rfl (Enc.one _) fun w6 X6 f6 _=>?_
   have X6:Bk w6 bq (enc q) E.qe:=X6
   have t6:Stp u w6:=⟨Fr.st (Le.e (a:=u) (b:=w5)) f6 fun i hi=>by omega⟩
   refine rix (i:=k) (h.up (w':=w6)) hiy fun b7 o7 A7=>?_
   refine rload1 (A7.cell 0 rfl) ?_
   cases yt with
   |true=>exact rar (by omega) ⟨rfl,hk1,skip w6 t6 rfl⟩
   |false =>
    refine ite (fun h=>absurd rfl h) (fun _=>?_)
    refine rld (B:=X6) rfl ?_
    refine ite (fun h4=>?_) (fun h4=>?_)
    ·have h0:okId (false,yf)=none:=by
      unfold okId;rw [if_neg (by simp)];dsimp only;rw [hrq];dsimp only
      rw [if_pos (by rw [←hO.2.1];exact h4)]
     exact rar (by omega) ⟨rfl,hk1,skip w6 t6 h0⟩
    ·have h0:okId (false,yf)=some d.id:=by
      unfold okId;rw [if_neg (by simp)];dsimp only;rw [hrq];dsimp only
      rw [if_neg (by rw [←hO.2.1];exact h4)]
     have hid:=hO.1
     have O6:=O.up (w':=w6)
     have q_:=O6.shape
     obtain⟨a6,c6,rfl⟩:=q_
     refine rld (B:=X6) rfl ?_
     refine rcall (zH7 O6.sl (by omega)) ?_
     rintro _ w7 ⟨⟨rfl,h5⟩|⟨rfl,h5⟩,e7⟩
     ·refine rcall zBV ?_
      rintro _ w8 ⟨rfl,e8⟩
      exact⟨rfl,stp⟩
     ·refine rld (B:=X6) rfl ?_
      refine rbs1 (q.id:Int) rfl rfl (by decide) fun b8 w8 e8 _ S8=>?_
      refine rapp1 (u:=w2) ⟨rfl,rfl⟩ (O6.up (w':=w8)) S8 (by omega) fun v9 w9 O9 f9 s9=>?_
      have O10:Own w2.heap.size E.qa w9 v9 (okIds ((evD l).take (k+1))):=by rw [hnx,h0,←hid];exact O9
      have N10:(okIds ((evD l).take (k+1))).Nodup:=by
       rw [hnx,h0,←hid,List.nodup_append]
       refine⟨hnd,by simp,fun y hy z hz e=>?_⟩
       have hz:z∈[q.id]:=hz
       rw [List.mem_singleton.1 hz] at e
       exact h5 (e ▸ hy)
      exact rar (by omega) ⟨rfl,hk1,O10,N10,stp⟩
  ·have h0:okId (yt,yf)=none:=by
    unfold okId;dsimp only;rw [hrq];split <;> rfl
   refine ral fun bq w5 n5 X5=>?_
   have hbq:=n5.lo (u:=u)
   refine rsto (B:=X5) (vs:=enc zRq) rfl rfl rfl (Enc.one _) fun w6 X6 f6 _=>?_
   have t6:Stp u w6:=⟨Fr.st (Le.e (a:=u) (b:=w5)) f6 fun i hi=>by omega⟩
   refine rix (i:=k) (h.up (w':=w6)) hiy fun b7 o7 A7=>?_
   refine rload1 (A7.cell 0 rfl) ?_
   cases yt with
   |true=>exact rar (by omega) ⟨rfl,hk1,skip w6 t6 h0⟩
   |false =>
    refine ite (fun _=>?_) (fun h=>absurd (by decide) h)
    exact rar (by omega) ⟨rfl,hk1,skip w6 t6 h0⟩
 have hkl:k=l.length:=by omega
 have hfin:(evD l).take k=evD l:=by rw [hkl,←zBE l,List.take_length]
 rw [hfin] at hnd
 clear O
 have hA:errA x im l.length=errN x im:=if_neg (by omega)
 refine rldG (B:=B1) rfl rfl ?_
 refine rcall (zCC him (h.up (w':=u)) hm.up hf) ?_
 rintro _ w3 ⟨⟨vt,vl,rfl,O3,P3⟩,e3⟩
 refine rldG (B:=B1) rfl rfl ?_
 refine rcall (zDk him (h.up (w':=w3)) hm.up hf) ?_
 rintro _ w4 ⟨⟨vk,rfl,O4⟩,e4⟩
 refine ite (fun hne=>?_) (fun heq=>?_)
 ·have ht:toldA x im (evD l)=[]:=by unfold toldA;rw [if_neg (by rw [zAS];exact hne)]
  have hv:tookA x im (evD l)=[]:=by unfold tookA;rw [if_neg (by rw [zAS];exact hne)]
  refine rcall zBV ?_
  rintro _ w5 ⟨rfl,e5⟩
  refine ite (fun _=>?_) (fun h=>absurd rfl h)
  have O3:=O3.up (w':=w5)
  have O4:=O4.up (w':=w5)
  rw [ht] at O3
  rw [hv] at O4
  have q_:=O3.shape
  obtain⟨a6,c6,rfl⟩:=q_
  have q_:=O4.shape
  obtain⟨a7,c7,rfl⟩:=q_
  refine ite (fun _=>?_) (fun h=>absurd (by simp) h)
  refine ite (fun _=>?_) (fun h=>absurd (by simp) h)
  exact⟨rfl,stp⟩
 have he:errA x im l.length=0:=by
  apply Classical.byContradiction;exact fun h=>heq h
 have he2:errN x im=0:=by rw [←hA];exact he
 have q_:=zCW.1 he2
 obtain⟨hc,g,hg⟩:=q_
 have hT:toldA x im (evD l)=(audR g (cfOf x) (evD l)).told:=by unfold toldA;rw [if_pos (by rw [zAS];exact he),zAU hg]
 have hK:tookA x im (evD l)=(audR g (cfOf x) (evD l)).took:=by unfold tookA;rw [if_pos (by rw [zAS];exact he),zAU hg]
 have I:=zN4 (zI8 hg).ok (zG6 hc) (evD l) hnd
 have q_:∃r,r=audR g (cfOf x) (evD l):=⟨_,rfl⟩
 obtain⟨r,hr⟩:=q_
 rw [←hr] at hT hK I
 rw [hT] at O3
 rw [hK] at O4
 have hln:=I.len
 have hlm:(r.told.map bsOf).length=r.told.length:=List.length_map ..
 have hkk:r.took.length≤1000:=by have:=(zMx (x:=x) (im:=im) (evD l)).2.1;rw [hK] at this;exact this
 have hsh:Short (r.told.map bsOf):=⟨by omega,fun s hs=>by
  have q_:=List.mem_map.1 hs
  obtain⟨t,ht,rfl⟩:=q_
  have q_:=I.byt t ht
  obtain⟨p,hp,rfl⟩:=q_
  have:=zMI hp
  show (bytR p).toArray.size≤_
  rw [List.size_toArray];omega⟩
 have q_:∃rs,rs=repsB r.told:=⟨_,rfl⟩
 obtain⟨rs,hrs⟩:=q_
 have hrs2:reps (r.told.map bsOf)=rs:=hrs.symm
 have hone:=I.one
 rw [←hrs] at hone
 have q_:=O3.shape
 obtain⟨a3,c3,rfl⟩:=q_
 have q_:=O4.shape
 obtain⟨a4,c4,rfl⟩:=q_
 have D5:=zJM (O3.sl.up (w':=w4)) hsh
 rw [hrs2] at D5
 refine rcall D5 ?_
 rintro v5 w5 ⟨O5,e5⟩
 have q_:=O5.shape
 obtain⟨a5,c5,rfl⟩:=q_
 have hrl:rs.length≤100:=by rw [hrs];have:=zGi (r.told.map bsOf);unfold repsB;omega
 have hil:(idsL rs).length≤100:=by have:=zGT (rs.map (·.id));rw [List.length_map] at this;unfold idsL;omega
 refine cnt TBok 18 [6] 17 (idsL rs).length (fun k u=>Stp w5 u) rfl rfl stp ?_
 rintro j G7 u7 hj su7
 refine ite (fun hlt=>?_) (fun hge=>?_)
 ·have hj1:j<(idsL rs).length:=by omega
  have hid0:cntI rs (idsL rs)[j]≠0:=(zKO rs _).1 (List.getElem_mem hj1)
  have q_:∃id,id=(idsL rs)[j]:=⟨_,rfl⟩
  obtain⟨id,hid⟩:=q_
  have hij:(idsL rs)[j]? = some id:=by rw [hid];simp
  rw [←hid] at hid0
  have hof:0<(ofI id rs).length:=by
   have:cntI rs id=(ofI id rs).length:=rfl
   omega
  have hofl:=zKX id rs
  have hsum:=c_sum id rs
  have h1:=hone id
  have h1a:=h1.1
  refine rix (O5.sl.up (w':=u7)) hij fun b8 o8 A8=>rload1 (A8.cell0 rfl) ?_
  have D9:=zKl (id:=id) (O3.sl.up (w':=u7)) hsh
  rw [hrs2,decide_eq_true hof] at D9
  refine rcall D9 ?_
  rintro _ w9 ⟨⟨v9,xs,rfl,O9,M9⟩,e9⟩
  have hxl:=M9.1
  have q_:=O9.shape
  obtain⟨a9,c9,rfl⟩:=q_
  refine cnt2 TBok 23 [] 20 21 22 (ofI id rs).length (fun m v1 v2 u=>v1=.int .i64 ((cA ((ofI id rs).take m):Nat):Int)∧v2=.int .i64 ((cG ((ofI id rs).take m):Nat):Int)∧Stp w9 u) rfl rfl ⟨rfl,rfl,stp⟩ ?_
  rintro m _ _ G10 u10 hm10 ⟨rfl,rfl,su10⟩
  refine ite (fun hlt2=>?_) (fun hge2=>?_)
  ·have hm1:m<(ofI id rs).length:=by omega
   have hm2:m<xs.length:=by omega
   have hxm:xs[m]? = some xs[m]:=by simp
   have hM:=M9.2 m xs[m] (ofI id rs)[m] hxm (by simp)
   have hcode:xs[m].code=(ofI id rs)[m].code:=hM.2.1
   have ha:=zNP hm1
   have hgg:=zNQ hm1
   have hb1:=cA_le ((ofI id rs).take m)
   have hb2:=cG_le ((ofI id rs).take m)
   rw [List.length_take] at hb1 hb2
   refine rix (O9.sl.up (w':=u10)) hxm fun b11 o11 A11=>rload1 (A11.cell 1 rfl) ?_
   rw [←hcode] at ha hgg
   have yes:(xs[m].code=0∨xs[m].code=250∨xs[m].code=251)→Value.int .i64 (((cA ((ofI id rs).take m):Nat):Int)+1)=.int .i64 ((cA ((ofI id rs).take (m+1)):Nat):Int)∧Value.int .i64 ((cG ((ofI id rs).take m):Nat):Int)=.int .i64 ((cG ((ofI id rs).take (m+1)):Nat):Int):=fun h=>by
    rw [if_pos h] at ha;rw [if_neg (by omega)] at hgg;rw [ha,hgg];exact⟨rfl,rfl⟩
   refine ite (fun h0=>?_) (fun h0=>?_)
   ·exact rar (by omega) (rar (by omega) ⟨rfl,hm1,(yes (.inl h0)).1,(yes (.inl h0)).2,stp⟩)
   refine ite (fun h2=>?_) (fun h2=>?_)
   ·exact rar (by omega) (rar (by omega) ⟨rfl,hm1,(yes (.inr (.inl h2))).1,(yes (.inr (.inl h2))).2,stp⟩)
   refine ite (fun h3=>?_) (fun h3=>?_)
   ·exact rar (by omega) (rar (by omega) ⟨rfl,hm1,(yes (.inr (.inr h3))).1,(yes (.inr (.inr h3))).2,stp⟩)
   have no1:Value.int .i64 ((cA ((ofI id rs).take m):Nat):Int)=.int .i64 ((cA ((ofI id rs).take (m+1)):Nat):Int):=by
    rw [if_neg (fun h=>h.elim h0 fun h=>h.elim h2 h3)] at ha;rw [ha];rfl
   refine ite (fun h4=>?_) (fun h4=>?_)
   ·have y2:Value.int .i64 (((cG ((ofI id rs).take m):Nat):Int)+1)=.int .i64 ((cG ((ofI id rs).take (m+1)):Nat):Int):=by
     rw [if_pos h4] at hgg;rw [hgg];rfl
    exact rar (by omega) (rar (by omega) ⟨rfl,hm1,no1,y2,stp⟩)
   ·have y2:Value.int .i64 ((cG ((ofI id rs).take m):Nat):Int)=.int .i64 ((cG ((ofI id rs).take (m+1)):Nat):Int):=by
     rw [if_neg h4] at hgg;rw [hgg];rfl
    exact rar (by omega) ⟨rfl,hm1,no1,y2,stp⟩
  ·have hml:(ofI id rs).take m=ofI id rs:=by rw [show m=(ofI id rs).length by omega,List.take_length]
   have hs2:((cA ((ofI id rs).take m):Nat):Int)+((cG ((ofI id rs).take m):Nat):Int)=((cntF rs id:Nat):Int):=by rw [hml,←hsum,Int.natCast_add]
   refine rarE hs2 (by omega) ?_
   refine ite (fun h=>absurd h (by omega)) (fun _=>?_)
   refine rarE hs2 (by omega) ?_
   refine ite (fun h5=>?_) (fun h5=>?_)
   ·refine rix (O5.sl.up (w':=u10)) hij fun b12 o12 A12=>rload1 (A12.cell0 rfl) ?_
    refine rcall ((zH7 (O4.sl.up (w':=u10)) (by omega)).tt (h1.2 (by omega))) ?_
    rintro _ w13 ⟨rfl,e13⟩
    exact rar (by omega) ⟨rfl,hj1,stp⟩
   ·exact rar (by omega) ⟨rfl,hj1,stp⟩
 ·refine rcall zBV ?_
  rintro _ w8 ⟨rfl,e8⟩
  refine ite (fun _=>?_) (fun h=>absurd he h)
  refine rcall (zIv (O4.sl.up (w':=w8)) (by omega)) ?_
  rintro v9 w9 ⟨O9,e9⟩
  have q_:=O9.shape
  obtain⟨a9,c9,rfl⟩:=q_
  refine ite (fun _=>?_) (fun h=>absurd (by have:=zKg I.nd;omega) h)
  exact⟨rfl,stp⟩
end Go.W
