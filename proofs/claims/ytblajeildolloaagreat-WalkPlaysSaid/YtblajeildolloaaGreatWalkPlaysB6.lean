/- Part 6 of what the statement of WalkPlays needs. No condition. -/
import Derived.Test.YtblajeildolloaaGreatWalkPlaysB5
namespace Go.Proofs.YtblajeildolloaaGreat
set_option linter.unusedVariables false
set_option linter.unusedSimpArgs false
open Go.RowKit
set_option maxRecDepth 100000
set_option maxHeartbeats 8000000
def WS.q (s:WS):WQ:=⟨s.lo,s.hi,s.back,s.most,s.values⟩
def WS.st (s:WS):WAcc:=⟨s.pairs,s.spots⟩
def Qe8 (x:WQ) (e:(Int×Int×Int)×(Nat×Nat)) (r:WAcc×Bool):Prog (WAcc×Bool):=
 if r.2=true then .ret (r.1,true) else
 if x.back=true then (if e.1.2.2=0 then .ret (r.1,false) else (Q0e (Q0j e.1.1 e.1.2.2)).bind fun q=>if q<=x.lo then .ret (r.1,false) else Q1f x (Q0q x e.2.1) e.2.2 e.1.1 e.1.2.1 (wrap64 (e.1.2.2-1)) r.1)
 else if wrap64 (e.1.2.2+1)=e.1.2.1 then .ret (r.1,false) else (Q0e (Q0j e.1.1 (wrap64 (e.1.2.2+1)))).bind fun q=>if x.hi<q then .ret (r.1,false) else Q1f x (Q0q x e.2.1) e.2.2 e.1.1 e.1.2.1 (wrap64 (e.1.2.2+1)) r.1
def Q1o (x:WQ):List ((Int×Int×Int)×(Nat×Nat))->WAcc×Bool->Prog (WAcc×Bool)
 |[],r=>.ret r
 |e::L,r=>(Qe8 x e r).bind (Q1o x L)
def Qbs (x:WQ) (f:Nat) (st:WAcc) (w:Int):Prog (WAcc×Bool):=
 if Q05 w=2 then Q43 x (wAt w) st
 else if Q05 w=3 then Q0q x f (wAt w) st
 else if Q05 w=4 then (Q0e (wAt w)).bind fun t=>Q0q x f (wAt t) st
 else .ret (st,false)
def Q6t (x:WQ) (e:(Int×Int×Int)×(Nat×Nat)) (st:WAcc) (w:Int):Prog (WAcc×Bool):=
 .chk fun off2=>if off2=true then .ret (st,true) else (Qbs x e.2.1 ⟨st.pairs,st.spots++[(Q06 e.1.1 e.1.2.1 e.1.2.2,w)]⟩ w).bind (Qe8 x e)
theorem Q47 (x:WQ) (f g:Nat) (n d i:Int) (st:WAcc) (K:WAcc×Bool->Prog (WAcc×Bool)):
  ((Q1f x (Q0q x f) (g+1) n d i st).bind K).rest []=((Q2V (Q06 n d i)).bind fun w=>(Q6t x ((n,d,i),(f,g)) st w).bind K).rest []:=by
 rw[<-Q02];rfl
theorem Q9Y (x:WQ) (e:(Int×Int×Int)×(Nat×Nat)) (st:WAcc) (w:Int) (L:List ((Int×Int×Int)×(Nat×Nat))):
  ((Q6t x e st w).bind (Q1o x L)).rest []=((Qbs x e.2.1 ⟨st.pairs,st.spots++[(Q06 e.1.1 e.1.2.1 e.1.2.2,w)]⟩ w).bind (Q1o x (e::L))).rest []:=by
 show (((Qbs x e.2.1 ⟨st.pairs,st.spots++[(Q06 e.1.1 e.1.2.1 e.1.2.2,w)]⟩ w).bind (Qe8 x e)).bind (Q1o x L)).rest []=_
 rw[Q02]
 rfl
def WS.tree (L:List ((Int×Int×Int)×(Nat×Nat))) (F0:Nat) (b:Bool) (s:WS):Prog (WAcc×Bool):=
 if s.next=0 then s.route.tree.bind fun r=>(Q1f s.q (Q0q s.q F0) (F0+1) s.n r.1 r.2 s.st).bind (Q1o s.q L)
 else if s.next=1 then (match s.peek,L with
  |some p,e::L'=>p.tree.bind fun w=>(Q6t s.q e s.st w).bind (Q1o s.q L')
  |_,_=>.ret (s.st,b))
 else if s.next=2 then (Q43 s.q s.at_ s.st).bind (Q1o s.q L)
 else if s.next=3 then (Q0e (s.at_+1)).bind fun v=>Q1o s.q L (⟨s.pairs++[(s.key,v)],s.spots⟩,decide (0<s.most/\s.most<=((s.pairs++[(s.key,v)]).length:Int)))
 else if s.next=4 then (match L with
  |e::_=>(Q0e s.at_).bind fun t=>(Q0q s.q e.2.1 (wAt t) s.st).bind (Q1o s.q L)
  |[]=>.ret (s.st,b))
 else if s.next=5 then Q1o s.q L (s.st,false)
 else .ret (s.st,b)
section
variable {s:WS} {L:List ((Int×Int×Int)×(Nat×Nat))} {F0:Nat} {b:Bool}
theorem WS.tree0 (h:s.next=0):s.tree L F0 b=s.route.tree.bind fun r=>(Q1f s.q (Q0q s.q F0) (F0+1) s.n r.1 r.2 s.st).bind (Q1o s.q L):=if_pos h
theorem WS.tree1 (h:s.next=1) {p:PS} (hp:s.peek=some p) (e:(Int×Int×Int)×(Nat×Nat)):s.tree (e::L) F0 b=p.tree.bind fun w=>(Q6t s.q e s.st w).bind (Q1o s.q L):=by
 unfold WS.tree;rw[if_neg (by omega),if_pos h,hp]
theorem WS.tree2 (h:s.next=2):s.tree L F0 b=(Q43 s.q s.at_ s.st).bind (Q1o s.q L):=by unfold WS.tree;rw[if_neg (by omega),if_neg (by omega),if_pos h]
theorem WS.tree3 (h:s.next=3):s.tree L F0 b=(Q0e (s.at_+1)).bind fun v=>Q1o s.q L (⟨s.pairs++[(s.key,v)],s.spots⟩,decide (0<s.most/\s.most<=((s.pairs++[(s.key,v)]).length:Int))):=by unfold WS.tree;rw[if_neg (by omega),if_neg (by omega),if_neg (by omega),if_pos h]
theorem WS.tree4 (h:s.next=4) (e:(Int×Int×Int)×(Nat×Nat)):s.tree (e::L) F0 b=(Q0e s.at_).bind fun t=>(Q0q s.q e.2.1 (wAt t) s.st).bind (Q1o s.q (e::L)):=by unfold WS.tree;rw[if_neg (by omega),if_neg (by omega),if_neg (by omega),if_neg (by omega),if_pos h]
theorem WS.tree5 (h:s.next=5):s.tree L F0 b=Q1o s.q L (s.st,false):=by unfold WS.tree;rw[if_neg (by omega),if_neg (by omega),if_neg (by omega),if_neg (by omega),if_neg (by omega),if_pos h]
theorem WS.tree6 (h:s.next=6):s.tree L F0 b=.ret (s.st,b):=by unfold WS.tree;rw[if_neg (by omega),if_neg (by omega),if_neg (by omega),if_neg (by omega),if_neg (by omega),if_neg (by omega)]
end
theorem Q6X (x:WQ) (a:WAcc):∀L,Q1o x L (a,true)=.ret (a,true)
 |[]=>rfl
 |e::L=>Q6X x a L
def lvOk (l:Int×Int×Int):Prop:=0<=l.2.2/\l.2.2<l.2.1/\l.2.1<=65537
theorem Q4H {d:Int} (h0:-1<=d) (h1:d<=65538):wrap64 d=d:=by unfold wrap64;omega
theorem Qd2 (x:WQ) (e:(Int×Int×Int)×(Nat×Nat)) (a:WAcc) (h:lvOk e.1) (hm:more x.back e.1=false):Qe8 x e (a,false)=.ret (a,false):=by
 obtain ⟨h0,h1,h2⟩:=h;unfold more at hm;unfold Qe8
 rw[if_neg Bool.false_ne_true]
 by_cases hb:x.back=true
 ·rw[if_pos hb] at hm|-
  have:=of_decide_eq_false hm;exact if_pos (by omega)
 ·rw[if_neg hb] at hm|-
  have:=of_decide_eq_false hm
  rw[Q4H (by omega) (by omega)]
  exact if_pos (by omega)
theorem QcJ (x:WQ) (a:WAcc):∀L:List ((Int×Int×Int)×(Nat×Nat)),(∀e∈L,lvOk e.1)->∃L',L'.map (·.1)=Q1F x.back (L.map (·.1))/\(∀e∈L',e∈L)/\Q1o x L (a,false)=Q1o x L' (a,false)
 |[],_=>⟨[],rfl,fun _ h=>h,rfl⟩
 |e::L,h=>by
  cases hm:more x.back e.1 with
  |true=>
   refine ⟨e::L, ?_,fun _ h=>h,rfl⟩;show e.1::L.map (·.1)=if more x.back e.1=true then e.1::L.map (·.1) else _
   rw[if_pos hm]
  |false=>
   obtain ⟨L',h1,h2,h3⟩:=QcJ x a L (fun e he=>h e (List.mem_cons_of_mem _ he));refine ⟨L', ?_,fun e he=>List.mem_cons_of_mem _ (h2 e he), ?_⟩
   ·show _=if more x.back e.1=true then e.1::L.map (·.1) else Q1F x.back (L.map (·.1))
    rw[if_neg (by rw[hm];decide)];exact h1
   ·show (Qe8 x e (a,false)).bind (Q1o x L)=_
    rw[Qd2 x e a (h e (by simp)) hm];exact h3
theorem Q2W (s:WS) (L:List ((Int×Int×Int)×(Nat×Nat))) (F0:Nat) (hm:L.map (·.1)=s.levels) (hl:∀l∈s.levels,lvOk l):
  ∃L',L'.map (·.1)=s.onward.levels/\(∀e∈L',e∈L)/\(Q1o s.q L (s.st,false)).rest []=(s.onward.tree L' F0 false).rest []:=by
 obtain ⟨L',h1,h2,h3⟩:=QcJ s.q s.st L (fun e he=>hl _ (by rw[<-hm];exact List.mem_map_of_mem he))
 rw[hm] at h1
 have h1:L'.map (·.1)=Q1F s.back s.levels:=h1;refine ⟨L',h1,h2, ?_⟩
 rw[h3]
 by_cases e:Q1F s.back s.levels=[]
 ·have h6:s.onward.next=6:=if_pos e
  rw[WS.tree6 h6]
  rw[e] at h1
  have:L'=[]:=by simpa using h1
  rw[this];rfl
 ·have h5:s.onward.next=5:=if_neg e
  rw[WS.tree5 h5];rfl
theorem Q90 (s:WS) (v:Int) (L:List ((Int×Int×Int)×(Nat×Nat))) (F0:Nat) (hm:L.map (·.1)=s.levels) (hl:∀l∈s.levels,lvOk l):
  ∃L' b',L'.map (·.1)=(s.found v).levels/\(∀e∈L',e∈L)/\(Q1o s.q L (⟨s.pairs++[(s.key,v)],s.spots⟩,decide (0<s.most/\s.most<=((s.pairs++[(s.key,v)]).length:Int)))).rest []=((s.found v).tree L' F0 b').rest []:=by
 have hfl:WS.full {s with pairs:=s.pairs++[(s.key,v)]}=decide (0<s.most/\s.most<=((s.pairs++[(s.key,v)]).length:Int)):=(Bool.decide_and _ _).symm;unfold WS.found
 cases hf:WS.full {s with pairs:=s.pairs++[(s.key,v)]} with
 |true=>
  rw[if_pos rfl,<-hfl,hf,Q6X]
  exact ⟨L,true,hm,fun _ h=>h,by rw[WS.tree6 rfl];rfl⟩
 |false=>
  rw[if_neg (by decide),<-hfl,hf]
  obtain ⟨L',h1,h2,h3⟩:=Q2W {s with pairs:=s.pairs++[(s.key,v)]} L F0 hm hl;exact ⟨L',false,h1,h2,h3⟩
theorem Q49 (s:WS) (a:Int) (f:Nat) (L:List ((Int×Int×Int)×(Nat×Nat))) (b:Bool):((Q0q s.q (f+1) a s.st).bind (Q1o s.q L)).rest []=((s.enter a).tree L f b).rest []:=by
 rw[WS.tree0 (show (s.enter a).next=0 from rfl)]
 show Prog.rest (((Q1B a (if s.back=true then s.hi else s.lo)).bind fun r=>Q1f s.q (Q0q s.q f) (f+1) a r.1 r.2 s.st).bind (Q1o s.q L)) []=_
 rw[Q02]
 rfl
theorem Qa7 {R:Int->Int} (s:WS) (L:List ((Int×Int×Int)×(Nat×Nat))) (F0:Nat) (b:Bool) (f:Nat) (hI:s.Inv) (hd:s.next=0->s.route.Doc) (h6:s.next≠6) (hm:L.map (·.1)=s.levels) (hf:∀e∈L,f<=e.2.1/\f<=e.2.2) (hf0:s.next=0->f<=F0) (f2:2<=f)
  (hl:∀l∈s.levels,lvOk l) (h4:s.next=4->L≠[]) (hR:s.next=0->s.route.next=0->1<=R s.route.n/\R s.route.n<=65537):
  ∃L' F0' b' addr,s.acc=some addr/\((s.tree L F0 b).rest []).next=some ⟨1,addr,0,0,[],0⟩/\(s.tree L F0 b).rest [R addr]=((s.step R).tree L' F0' b').rest []/\L'.map (·.1)=(s.step R).levels/\(∀e∈L',f-1<=e.2.1/\f-1<=e.2.2)/\((s.step R).next=0->f-1<=F0'/\(s.step R).route.Doc):=by
 have hfw:∀e∈L,f-1<=e.2.1/\f-1<=e.2.2:=fun e he=>by have:=hf e he;omega
 rcases hI.st with ⟨e,e6⟩|⟨e,hlv,p,ep,hp,p3⟩|e|e|e|⟨e,l,ls,hll,hmo⟩|e
 ·obtain ⟨d1,d2,d3⟩:=Qeo s.route hI.rt (hd e) e6 (hR e);have ha:s.acc=some s.route.addr:=(WS.acc0 e).trans (if_neg e6);obtain ⟨b1,b2⟩:=Q6r (fun r=>(Q1f s.q (Q0q s.q F0) (F0+1) s.n r.1 r.2 s.st).bind (Q1o s.q L)) d2 d3;have hF:=hf0 e;by_cases c:(s.route.step R).next=6
  ·refine ⟨((s.n,(s.route.step R).degree,(s.route.step R).child),(F0,F0))::L,F0,b,s.route.addr,ha,by rw[WS.tree0 e];exact b1, ?_, ?_,fun e' he=> ?_, ?_⟩
   ·rw[WS.tree0 e,b2,(QgA _ c).2,WS.step0e e c]
    rw[WS.tree1 (s:=WS.look _) rfl rfl]
    exact Q47 s.q F0 F0 s.n (s.route.step R).degree (s.route.step R).child s.st (Q1o s.q L)
   ·rw[WS.step0e e c]
    show _::L.map (·.1)=_::s.levels
    rw[hm]
   ·rcases List.mem_cons.1 he with h|h
    ·rw[h];exact ⟨by show f-1<=F0;omega,by show f-1<=F0;omega⟩
    ·exact hfw e' h
   ·rw[WS.step0e e c]
    intro h;exact absurd (show (1:Int)=0 from h) (by decide)
  ·refine ⟨L,F0,b,s.route.addr,ha,by rw[WS.tree0 e];exact b1, ?_, ?_,hfw, ?_⟩
   ·rw[WS.tree0 e,b2,WS.step0 e c]
    rw[WS.tree0 (s:={s with route:=s.route.step R}) e];rfl
   ·rw[WS.step0 e c];exact hm
   ·rw[WS.step0 e c];exact fun _=>⟨by omega,d1⟩
 ·obtain ⟨d2,d3⟩:=Qgu (R:=R) p hp p3;have ha:s.acc=some p.cell:=(WS.acc1 e ep).trans (if_neg p3)
  obtain ⟨t,L1,rfl⟩:∃t L1,L=t::L1:=by
   cases L with
   |nil=>exact absurd hm.symm hlv
   |cons t L1=>exact ⟨t,L1,rfl⟩
  obtain ⟨b1,b2⟩:=Q6r (fun w=>(Q6t s.q t s.st w).bind (Q1o s.q L1)) d2 d3;have ht:=hf t (by simp);have htop:s.top=t.1:=by unfold WS.top;rw[<-hm];rfl
  have hslot:s.slot=Q06 t.1.1 t.1.2.1 t.1.2.2:=by unfold WS.slot;rw[htop]
  by_cases c:(p.step R).next=3
  ·have htr:(s.tree (t::L1) F0 b).rest [R p.cell]=((Qbs s.q t.2.1 ⟨s.pairs,s.spots++[(s.slot,(p.step R).word)]⟩ (p.step R).word).bind (Q1o s.q (t::L1))).rest []:=by
    rw[WS.tree1 e ep,b2]
    have:(p.step R).tree=.ret (p.step R).word:=by unfold PS.tree;rw[if_neg (by omega),if_neg (by omega),if_neg (by omega)]
    rw[this,hslot]
    exact Q9Y s.q t s.st (p.step R).word L1
   have hs:=WS.step1e e ep c;generalize (p.step R).word=u at htr hs;generalize hS:({s with peek:=some (p.step R),spots:=s.spots++[(s.slot,u)]}:WS)=S at hs;have hSq:S.q=s.q:=by rw[<-hS];rfl
   have hSs:S.st=⟨s.pairs,s.spots++[(s.slot,u)]⟩:=by rw[<-hS];rfl
   have hSl:S.levels=s.levels:=by rw[<-hS]
   rw[hs]
   rw[<-hSq,<-hSs] at htr
   suffices H:∃L' F0' b',((Qbs S.q t.2.1 S.st u).bind (Q1o S.q (t::L1))).rest []=((S.meet u).tree L' F0' b').rest []/\L'.map (·.1)=(S.meet u).levels/\(∀e∈L',f-1<=e.2.1/\f-1<=e.2.2)/\((S.meet u).next=0->f-1<=F0'/\(S.meet u).route.Doc) by
    obtain ⟨L',F0',b',q1,q2,q3,q4⟩:=H;exact ⟨L',F0',b',p.cell,ha,by rw[WS.tree1 e ep];exact b1,htr.trans q1,q2,q3,q4⟩
   clear htr hs b1 b2;rw[<-hSl] at hm hl;unfold Qbs WS.meet;by_cases h2:Q05 u=2
   ·rw[if_pos h2,if_pos h2]
    exact ⟨t::L1,F0,b,by rw[WS.tree2 rfl];rfl,hm,hfw,fun h=>absurd (show (2:Int)=0 from h) (by decide)⟩
   ·rw[if_neg h2,if_neg h2]
    by_cases h3:Q05 u=3
    ·rw[if_pos h3,if_pos h3]
     obtain ⟨g,hg⟩:∃g,t.2.1=g+1:=⟨t.2.1-1,by omega⟩
     rw[hg]
     exact ⟨t::L1,g,b,Q49 {S with at_:=wAt u} (wAt u) g (t::L1) b,hm,hfw,fun _=>⟨by omega,Q7J _ _⟩⟩
    ·rw[if_neg h3,if_neg h3]
     by_cases h4:Q05 u=4
     ·rw[if_pos h4,if_pos h4]
      exact ⟨t::L1,F0,b,by rw[WS.tree4 rfl];rfl,hm,hfw,fun h=>absurd (show (4:Int)=0 from h) (by decide)⟩
     ·rw[if_neg h4,if_neg h4]
      obtain ⟨L',q1,q2,q3⟩:=Q2W {S with at_:=wAt u} (t::L1) F0 hm hl;refine ⟨L',F0,false,q3,q1,fun e he=>hfw e (q2 e he),fun h=> ?_⟩
      exfalso
      have h:(if Q1F S.back S.levels=[] then (6:Int) else 5)=0:=h
      split at h<;>cases h
  ·have hs:=WS.step1 (R:=R) e ep c;refine ⟨t::L1,F0,b,p.cell,ha,by rw[WS.tree1 e ep];exact b1, ?_,by rw[hs];exact hm,hfw, ?_⟩
   ·rw[WS.tree1 e ep,b2,hs,WS.tree1 (s:={s with peek:=some (p.step R)}) e rfl];rfl
   ·rw[hs];exact fun h=>absurd (show s.next=0 from h) (by omega)
 ·have ha:s.acc=some s.at_:=WS.acc2 e;have hs:=WS.step2 (R:=R) e;have htr:(s.tree L F0 b).rest [R s.at_]=((if R s.at_<s.lo\/s.hi<R s.at_ then .ret (s.st,false) else (if s.values=true then Q0e (s.at_+1) else .ret 0).bind fun v=>.ret (⟨s.pairs++[(R s.at_,v)],s.spots⟩,decide (0<s.most/\s.most<=((s.pairs++[(R s.at_,v)]).length:Int))):Prog (WAcc×Bool)).bind (Q1o s.q L)).rest []:=by rw[WS.tree2 e];rfl
  have hnx:((s.tree L F0 b).rest []).next=some ⟨1,s.at_,0,0,[],0⟩:=by rw[WS.tree2 e];rfl
  rw[hs]
  by_cases c:R s.at_<s.lo\/s.hi<R s.at_
  ·rw[if_pos c] at htr|-
   obtain ⟨L',q1,q2,q3⟩:=Q2W {s with key:=R s.at_} L F0 hm hl;refine ⟨L',F0,false,s.at_,ha,hnx,htr.trans q3,q1,fun e he=>hfw e (q2 e he),fun h=> ?_⟩
   exfalso
   have h:(if Q1F s.back s.levels=[] then (6:Int) else 5)=0:=h
   split at h<;>cases h
  ·rw[if_neg c] at htr|-
   by_cases v:s.values=true
   ·rw[if_pos v] at htr|-
    refine ⟨L,F0,b,s.at_,ha,hnx,htr.trans ?_,hm,hfw,fun h=>absurd (show (3:Int)=0 from h) (by decide)⟩
    rw[WS.tree3 rfl,Q02];rfl
   ·rw[if_neg v] at htr|-
    obtain ⟨L',b',q1,q2,q3⟩:=Q90 {s with key:=R s.at_} 0 L F0 hm hl;refine ⟨L',F0,b',s.at_,ha,hnx,htr.trans q3,q1,fun e he=>hfw e (q2 e he),fun h=> ?_⟩
    exfalso
    unfold WS.found at h
    split at h
    ·exact absurd (show (6:Int)=0 from h) (by decide)
    ·have h:(if Q1F s.back s.levels=[] then (6:Int) else 5)=0:=h
     split at h<;>cases h
 ·have ha:s.acc=some (s.at_+1):=WS.acc3 e;have hs:=WS.step3 (R:=R) e;obtain ⟨L',b',q1,q2,q3⟩:=Q90 s (R (s.at_+1)) L F0 hm hl
  rw[hs]
  refine ⟨L',F0,b',s.at_+1,ha,by rw[WS.tree3 e];rfl,Eq.trans (by rw[WS.tree3 e];rfl) q3,q1,fun e he=>hfw e (q2 e he),fun h=> ?_⟩
  exfalso
  unfold WS.found at h
  split at h
  ·exact absurd (show (6:Int)=0 from h) (by decide)
  ·have h:(if Q1F s.back s.levels=[] then (6:Int) else 5)=0:=h
   split at h<;>cases h
 ·have ha:s.acc=some s.at_:=WS.acc4 e;have hs:=WS.step4 (R:=R) e
  obtain ⟨t,L1,rfl⟩:∃t L1,L=t::L1:=by
   cases L with
   |nil=>exact absurd rfl (h4 e)
   |cons t L1=>exact ⟨t,L1,rfl⟩
  have ht:=hf t (by simp);obtain ⟨g,hg⟩:∃g,t.2.1=g+1:=⟨t.2.1-1,by omega⟩
  rw[hs]
  refine ⟨t::L1,g,b,s.at_,ha,by rw[WS.tree4 e];rfl,Eq.trans ?_ (Q49 s (wAt (R s.at_)) g (t::L1) b),hm,hfw,fun _=>⟨by omega,Q7J _ _⟩⟩
  rw[WS.tree4 e,hg];rfl
 ·have ha:s.acc=some s.ahead:=WS.acc5 e;have hs:=WS.step5 (R:=R) e
  obtain ⟨t,L1,rfl⟩:∃t L1,L=t::L1:=by
   cases L with
   |nil=>rw[hll] at hm;cases hm
   |cons t L1=>exact ⟨t,L1,rfl⟩
  have ht:=hf t (by simp);have htl:t.1=l/\L1.map (·.1)=ls:=by rw[hll] at hm;exact List.cons.inj hm
  have hlo:lvOk t.1:=hl t.1 (by rw[<-hm];simp);have htop:s.top=t.1:=by unfold WS.top;rw[<-hm];rfl
  have htail:s.levels.tail=L1.map (·.1):=by rw[<-hm];rfl
  obtain ⟨g,hg⟩:∃g,t.2.2=g+1:=⟨t.2.2-1,by omega⟩;obtain ⟨l0,l1,l2⟩:=hlo;have hmo:more s.back t.1=true:=by rw[htl.1];exact hmo
  have hl1:∀l∈L1.map (·.1),lvOk l:=fun l h=>hl l (by rw[<-hm];exact List.mem_cons_of_mem _ h);have hf1:∀e∈L1,f-1<=e.2.1/\f-1<=e.2.2:=fun e he=>hfw e (List.mem_cons_of_mem _ he)
  rw[hs]
  unfold more at hmo;unfold WS.bound
  rw[htop,htail]
  have hah:s.ahead=if s.back=true then Q0j t.1.1 t.1.2.2 else Q0j t.1.1 (t.1.2.2+1):=by unfold WS.ahead;rw[htop]
  by_cases hb:s.back=true
  ·rw[if_pos hb] at hmo hah|-
   have hmo:=of_decide_eq_true hmo
   have hlk:Qe8 s.q t (s.st,false)=(Q0e (Q0j t.1.1 t.1.2.2)).bind fun q=>if q<=s.lo then .ret (s.st,false) else Q1f s.q (Q0q s.q t.2.1) (g+1) t.1.1 t.1.2.1 (wrap64 (t.1.2.2-1)) s.st:=by
    unfold Qe8
    rw[if_neg Bool.false_ne_true,if_pos (show s.q.back=true from hb),if_neg (by omega),hg];rfl
   have htr:s.tree (t::L1) F0 b=((Q0e (Q0j t.1.1 t.1.2.2)).bind fun q=>if q<=s.lo then .ret (s.st,false) else Q1f s.q (Q0q s.q t.2.1) (g+1) t.1.1 t.1.2.1 (wrap64 (t.1.2.2-1)) s.st).bind (Q1o s.q L1):=by
    rw[WS.tree5 e,<-hlk];rfl
   have hw:wrap64 (t.1.2.2-1)=t.1.2.2-1:=Q4H (by omega) (by omega)
   rw[hw] at htr
   rw[hah] at ha|-
   have hnx:((s.tree (t::L1) F0 b).rest []).next=some ⟨1,Q0j t.1.1 t.1.2.2,0,0,[],0⟩:=by rw[htr];rfl
   by_cases c:s.lo<R (Q0j t.1.1 t.1.2.2)
   ·rw[if_pos c]
    refine ⟨((t.1.1,t.1.2.1,t.1.2.2-1),(t.2.1,g))::L1,F0,b,_,ha,hnx, ?_,rfl,fun e' he=> ?_,fun h=>absurd (show (1:Int)=0 from h) (by decide)⟩
    ·rw[htr,WS.tree1 (s:=WS.look _) rfl rfl]
     show ((if R (Q0j t.1.1 t.1.2.2)<=s.lo then .ret (s.st,false) else Q1f s.q (Q0q s.q t.2.1) (g+1) t.1.1 t.1.2.1 (t.1.2.2-1) s.st:Prog (WAcc×Bool)).bind (Q1o s.q L1)).rest []=_
     rw[if_neg (by omega)]
     exact Q47 s.q t.2.1 g t.1.1 t.1.2.1 (t.1.2.2-1) s.st (Q1o s.q L1)
    ·rcases List.mem_cons.1 he with h|h
     ·rw[h];exact ⟨by show f-1<=t.2.1;omega,by show f-1<=g;omega⟩
     ·exact hf1 e' h
   ·rw[if_neg c]
    obtain ⟨L',q1,q2,q3⟩:=Q2W {s with levels:=L1.map (·.1)} L1 F0 rfl hl1;refine ⟨L',F0,false,_,ha,hnx,Eq.trans ?_ q3,q1,fun e he=>hf1 e (q2 e he),fun h=> ?_⟩
    ·rw[htr]
     show ((if R (Q0j t.1.1 t.1.2.2)<=s.lo then .ret (s.st,false) else Q1f s.q (Q0q s.q t.2.1) (g+1) t.1.1 t.1.2.1 (t.1.2.2-1) s.st:Prog (WAcc×Bool)).bind (Q1o s.q L1)).rest []=_
     rw[if_pos (by omega)];rfl
    ·exfalso
     have h:(if Q1F s.back (L1.map (·.1))=[] then (6:Int) else 5)=0:=h
     split at h<;>cases h
  ·rw[if_neg hb] at hmo hah|-
   have hmo:=of_decide_eq_true hmo;have hw:wrap64 (t.1.2.2+1)=t.1.2.2+1:=Q4H (by omega) (by omega)
   have hlk:Qe8 s.q t (s.st,false)=(Q0e (Q0j t.1.1 (t.1.2.2+1))).bind fun q=>if s.hi<q then .ret (s.st,false) else Q1f s.q (Q0q s.q t.2.1) (g+1) t.1.1 t.1.2.1 (t.1.2.2+1) s.st:=by
    unfold Qe8
    rw[if_neg Bool.false_ne_true,if_neg (show ¬s.q.back=true from hb),hw,if_neg (by omega),hg];rfl
   have htr:s.tree (t::L1) F0 b=((Q0e (Q0j t.1.1 (t.1.2.2+1))).bind fun q=>if s.hi<q then .ret (s.st,false) else Q1f s.q (Q0q s.q t.2.1) (g+1) t.1.1 t.1.2.1 (t.1.2.2+1) s.st).bind (Q1o s.q L1):=by
    rw[WS.tree5 e,<-hlk];rfl
   rw[hah] at ha|-
   have hnx:((s.tree (t::L1) F0 b).rest []).next=some ⟨1,Q0j t.1.1 (t.1.2.2+1),0,0,[],0⟩:=by rw[htr];rfl
   by_cases c:R (Q0j t.1.1 (t.1.2.2+1))<=s.hi
   ·rw[if_pos c]
    refine ⟨((t.1.1,t.1.2.1,t.1.2.2+1),(t.2.1,g))::L1,F0,b,_,ha,hnx, ?_,rfl,fun e' he=> ?_,fun h=>absurd (show (1:Int)=0 from h) (by decide)⟩
    ·rw[htr,WS.tree1 (s:=WS.look _) rfl rfl]
     show ((if s.hi<R (Q0j t.1.1 (t.1.2.2+1)) then .ret (s.st,false) else Q1f s.q (Q0q s.q t.2.1) (g+1) t.1.1 t.1.2.1 (t.1.2.2+1) s.st:Prog (WAcc×Bool)).bind (Q1o s.q L1)).rest []=_
     rw[if_neg (by omega)]
     exact Q47 s.q t.2.1 g t.1.1 t.1.2.1 (t.1.2.2+1) s.st (Q1o s.q L1)
    ·rcases List.mem_cons.1 he with h|h
     ·rw[h];exact ⟨by show f-1<=t.2.1;omega,by show f-1<=g;omega⟩
     ·exact hf1 e' h
   ·rw[if_neg c]
    obtain ⟨L',q1,q2,q3⟩:=Q2W {s with levels:=L1.map (·.1)} L1 F0 rfl hl1;refine ⟨L',F0,false,_,ha,hnx,Eq.trans ?_ q3,q1,fun e he=>hf1 e (q2 e he),fun h=> ?_⟩
    ·rw[htr]
     show ((if s.hi<R (Q0j t.1.1 (t.1.2.2+1)) then .ret (s.st,false) else Q1f s.q (Q0q s.q t.2.1) (g+1) t.1.1 t.1.2.1 (t.1.2.2+1) s.st:Prog (WAcc×Bool)).bind (Q1o s.q L1)).rest []=_
     rw[if_pos (by omega)];rfl
    ·exfalso
     have h:(if Q1F s.back (L1.map (·.1))=[] then (6:Int) else 5)=0:=h
     split at h<;>cases h
 ·exact absurd e h6
theorem QeI (s:RS) (q:Int):(s.key q).n=s.n/\(s.key q).k=s.k/\(s.key q).degree=s.degree:=by
 unfold RS.key RS.guess RS.up RS.down RS.ende
 repeat' split
 all_goals exact ⟨rfl,rfl,rfl⟩
theorem Qdc (s:RS) (q:Int) (n0:1<=s.next) (n1:s.next<=5) (d0:2<=s.degree) (i0:1<=s.i) (i1:s.i<=s.degree-1):(s.key q).next=6->0<=(s.key q).child/\(s.key q).child<s.degree:=by
 unfold RS.key RS.guess RS.up RS.down RS.ende
 repeat' split
 all_goals
  intro h
  first
   |(exact absurd h (by decide))
   |(dsimp only;omega)
   |(exfalso;dsimp only at h;omega)
   |omega
theorem Qba {R:Int->Int} (s:RS) (hI:s.Inv) (h6:s.next≠6) (d:Int) (h0:R s.n=d) (d0:1<=d) (hd:s.next≠0->s.degree=d):
  (s.step R).n=s.n/\(s.step R).k=s.k/\(s.step R).degree=d/\(s.step R).next≠0/\((s.step R).next=6->0<=(s.step R).child/\(s.step R).child<d):=by
 rcases hI.st with e|e|⟨a,b,c,_,i0,i1⟩
 ·rw[RS.step0 e]
  by_cases c:R s.n<2
  ·rw[if_pos c]
   exact ⟨rfl,rfl,h0,by show (6:Int)≠0;decide,fun _=>⟨Int.le_refl 0,by show (0:Int)<d;omega⟩⟩
  ·rw[if_neg c]
   exact ⟨rfl,rfl,h0,by show (1:Int)≠0;decide,fun h=>absurd (show (1:Int)=6 from h) (by decide)⟩
 ·exact absurd e h6
 ·rw[RS.stepK (by omega) h6]
  obtain ⟨k1,k2,k3⟩:=QeI s (R (Q0j s.n s.i));have hdd:=hd (by omega);refine ⟨k1,k2,k3.trans hdd, ?_,fun h=> ?_⟩
  ·unfold RS.key RS.guess RS.up RS.down RS.ende
   repeat' split
   all_goals first
    |(show (6:Int)≠0;decide)
    |(dsimp only;omega)
    |omega
  ·rw[<-hdd];exact Qdc s _ a b c i0 i1 h
section
variable {C:List Int} {G:GS}
theorem Q7D {x:Int} (h0:0<=x) (h1:x<=1099511627776):Q18 x=true:=by unfold Q18;rw[decide_eq_true h0,decide_eq_true h1];rfl
theorem Qf1 (r:Rep C G) {n i:Int} (h:G.At n i):Q06 n (G.deg n) i=G.sa n i:=by
 have t0:G.ty n≠0:=by rw[h.ty];decide
 have l:=r.low n t0;have u:=r.top n t0;have b:=r.big;have hl:=Q3Z h.ty;have i0:=h.i0;have i1:=h.i1;unfold Q06
 rw[if_pos ⟨Q7D (by omega) (by omega),Q7D (by omega) (by omega),Q7D (by omega) (by omega)⟩]
 rfl
end
structure PSOk (G:GS) (n i:Int) (p:PS):Prop where
 hat:G.At n i
 c0:p.next=0->p.cell=G.sa n i
 c12:p.next=1\/p.next=2->G.ty p.at_=5/\G.nd p.at_=n/\G.ix p.at_=i
 c1:p.next=1->p.cell=p.at_+4
 c2:p.next=2->p.cell=p.at_+2\/p.cell=p.at_+3
section
variable {C:List Int} {G G':GS} {n i:Int} {p:PS}
theorem PSOk.init (r:Rep C G) (h:G.At n i) {d:Int} (hd:d=G.deg n):PSOk G n i (PS.init (Q06 n d i)):=
 ⟨h,fun _=>by rw[hd];exact Qf1 r h,fun e=>by rcases e with e|e<;>exact absurd (show (0:Int)=_ from e) (by decide),fun e=>absurd (show (0:Int)=1 from e) (by decide),fun e=>absurd (show (0:Int)=2 from e) (by decide)⟩
theorem PSOk.ext (h:PSOk G n i p) (x:Ext G G'):PSOk G' n i p:=by
 refine ⟨x.at_ h.hat,fun e=>(h.c0 e).trans (x.sa h.hat.ty i).symm,fun e=> ?_,h.c1,h.c2⟩;obtain ⟨g1,g2,g3⟩:=h.c12 e;exact ⟨x.t5 g1,(x.nd _ (by omega)).trans g2,(x.ix _ (by omega)).trans g3⟩
theorem PSOk.step (h:PSOk G n i p) (hG:Inv G) (r:Rep C G) (hp:p.Inv) (p3:p.next≠3):
  ((p.step (rdC C)).next=3->(p.step (rdC C)).word=0\/VW G n i (p.step (rdC C)).word)/\((p.step (rdC C)).next≠3->PSOk G n i (p.step (rdC C))):=by
 obtain ⟨hat,h1,h2,h3,h4⟩:=h;have hsw:=(hG.inn n hat.ty).slot i hat.i0 hat.i1;have hsl:=r.slot n i hat;obtain ⟨nx,c,a,w⟩:=p;have hst:nx=0\/nx=1\/nx=2\/nx=3:=hp.st
 rcases hst with e0|e0|e0|e0<;>subst e0
 ·have hc:c=G.sa n i:=h1 rfl;subst hc;by_cases k:Q05 (rdC C (G.sa n i))=5
  ·have hps:PS.step (rdC C) ⟨0,G.sa n i,a,w⟩=⟨1,wAt (rdC C (G.sa n i))+4,wAt (rdC C (G.sa n i)),w⟩:=if_pos k
   rw[hps]
   refine ⟨fun e=>absurd (show (1:Int)=3 from e) (by decide),fun _=>⟨hat,fun e=>(by cases e),fun _=> ?_,fun _=>rfl,fun e=>(by cases e)⟩⟩
   rw[hsl] at k|-
   rcases hsw with q|q|q
   ·rw[q,Q1d] at k;cases k
   ·rcases q with q|q
    ·have:=q.k3;omega
    ·have:=q.1;omega
   ·exact ⟨q.2.1,q.2.2.1,q.2.2.2.1⟩
  ·have hps:PS.step (rdC C) ⟨0,G.sa n i,a,w⟩=⟨3,G.sa n i,a,rdC C (G.sa n i)⟩:=if_neg k
   rw[hps]
   refine ⟨fun _=> ?_,fun e=>absurd rfl e⟩;show rdC C (G.sa n i)=0\/VW G n i (rdC C (G.sa n i))
   rw[hsl] at k|-
   rcases hsw with q|q|q
   ·exact .inl q
   ·exact .inr q
   ·exact absurd q.1 k
 ·have ha:=h2 (.inl rfl);have hps:PS.step (rdC C) ⟨1,c,a,w⟩=if rdC C c=1 then ⟨2,a+3,a,w⟩ else ⟨2,a+2,a,w⟩:=rfl
  rw[hps]
  by_cases k:rdC C c=1
  ·rw[if_pos k]
   exact ⟨fun e=>absurd (show (2:Int)=3 from e) (by decide),fun _=>⟨hat,fun e=>(by cases e),fun _=>ha,fun e=>(by cases e),fun _=>.inr rfl⟩⟩
  ·rw[if_neg k]
   exact ⟨fun e=>absurd (show (2:Int)=3 from e) (by decide),fun _=>⟨hat,fun e=>(by cases e),fun _=>ha,fun e=>(by cases e),fun _=>.inl rfl⟩⟩
 ·obtain ⟨t5,nd,ix⟩:=h2 (.inr rfl);have t5:G.ty a=5:=t5;have nd:G.nd a=n:=nd;have ix:G.ix a=i:=ix;have hps:PS.step (rdC C) ⟨2,c,a,w⟩=⟨3,c,a,rdC C c⟩:=rfl
  rw[hps]
  have dk:=hG.dcs a t5;have dr:=r.dcs a t5;have od:=dk.old;have nw:=dk.new
  rw[nd,ix] at od nw
  refine ⟨fun _=>.inr ?_,fun e=>absurd rfl e⟩;show VW G n i (rdC C c)
  rcases h4 rfl with hc|hc
  ·have hc:c=a+2:=hc
   rw[hc,dr.2.2.1];exact od
  ·have hc:c=a+3:=hc
   rw[hc,dr.2.2.2.1];exact nw
 ·exact absurd rfl p3
theorem Qeg {w:Int} (h:w=0\/VW G n i w):(Q05 w=3->G.ty (wAt w)=3)/\(Q05 w=4->G.ty (wAt w)=4):=by
 refine ⟨fun k=> ?_,fun k=> ?_⟩
 ·rcases h with h|h|h
  ·rw[h,Q1d] at k;cases k
  ·rw[h.ty];exact k
  ·rw[h.1] at k;cases k
 ·rcases h with h|h|h
  ·rw[h,Q1d] at k;cases k
  ·have:=h.k3;omega
  ·exact h.2.1
structure WSOk (G:GS) (s:WS):Prop where
 at0:s.next=0->G.ty s.n=3/\s.route.n=s.n/\(s.route.next≠0->s.route.degree=G.deg s.n)
 lv:∀l∈s.levels,G.At l.1 l.2.2/\l.2.1=G.deg l.1
 at1:s.next=1->s.levels≠[]/\∃p,s.peek=some p/\PSOk G s.top.1 s.top.2.2 p
 at4:s.next=4->s.levels≠[]/\G.ty s.at_=4
variable {s:WS}
theorem WSOk.ext (h:WSOk G s) (x:Ext G G'):WSOk G' s:=by
 refine ⟨fun e=> ?_,fun l hl=> ?_,fun e=> ?_,fun e=>⟨(h.at4 e).1,x.t4 (h.at4 e).2⟩⟩
 ·obtain ⟨h1,h2,h3⟩:=h.at0 e;exact ⟨x.t3 h1,h2,fun e2=>(h3 e2).trans (x.deg s.n (by omega)).symm⟩
 ·obtain ⟨h1,h2⟩:=h.lv l hl;exact ⟨x.at_ h1,h2.trans (x.deg l.1 (by rw[h1.ty];decide)).symm⟩
 ·obtain ⟨h0,p,hp,hk⟩:=h.at1 e;exact ⟨h0,p,hp,hk.ext x⟩
theorem WSOk.onward (hl:∀l∈s.levels,G.At l.1 l.2.2/\l.2.1=G.deg l.1):WSOk G s.onward:=by
 have hn:s.onward.next=5\/s.onward.next=6:=by
  by_cases e:Q1F s.back s.levels=[]
  ·exact .inr (if_pos e)
  ·exact .inl (if_neg e)
 exact ⟨fun e=>by omega,fun l h=>hl l (Q5X h),fun e=>by omega,fun e=>by omega⟩
theorem WSOk.look (r:Rep C G) (l:Int×Int×Int) (ls:List (Int×Int×Int)) (e:s.levels=l::ls) (hl:∀l∈s.levels,G.At l.1 l.2.2/\l.2.1=G.deg l.1):WSOk G s.look:=by
 have ht:s.top=l:=by unfold WS.top;rw[e];rfl
 obtain ⟨h1,h2⟩:=hl l (by rw[e];simp);refine ⟨fun e=>absurd (show (1:Int)=0 from e) (by decide),hl,fun _=>⟨by show s.levels≠[];rw[e];simp,_,rfl, ?_⟩,fun e=>absurd (show (1:Int)=4 from e) (by decide)⟩;show PSOk G s.top.1 s.top.2.2 (PS.init (Q06 s.top.1 s.top.2.1 s.top.2.2))
 rw[ht]
 exact PSOk.init r h1 h2
theorem WSOk.enter (hl:∀l∈s.levels,G.At l.1 l.2.2/\l.2.1=G.deg l.1) {n:Int} (h:G.ty n=3):WSOk G (s.enter n):=
 ⟨fun _=>⟨h,rfl,fun e=>absurd rfl e⟩,hl,fun e=>absurd (show (0:Int)=1 from e) (by decide),fun e=>absurd (show (0:Int)=4 from e) (by decide)⟩
theorem WSOk.found (hl:∀l∈s.levels,G.At l.1 l.2.2/\l.2.1=G.deg l.1) (v:Int):WSOk G (s.found v):=by
 unfold WS.found
 split
 ·exact ⟨fun e=>absurd (show (6:Int)=0 from e) (by decide),hl,fun e=>absurd (show (6:Int)=1 from e) (by decide),fun e=>absurd (show (6:Int)=4 from e) (by decide)⟩
 ·exact WSOk.onward (s:={s with pairs:=s.pairs++[(s.key,v)]}) hl
theorem WSOk.meet (hl:∀l∈s.levels,G.At l.1 l.2.2/\l.2.1=G.deg l.1) (h0:s.levels≠[]) {w n i:Int} (h:w=0\/VW G n i w):WSOk G (s.meet w):=by
 obtain ⟨k3,k4⟩:=Qeg h;unfold WS.meet;by_cases h2:Q05 w=2
 ·rw[if_pos h2]
  exact ⟨fun e=>absurd (show (2:Int)=0 from e) (by decide),hl,fun e=>absurd (show (2:Int)=1 from e) (by decide),fun e=>absurd (show (2:Int)=4 from e) (by decide)⟩
 ·rw[if_neg h2]
  by_cases h3:Q05 w=3
  ·rw[if_pos h3];exact WSOk.enter (s:={s with at_:=wAt w}) hl (k3 h3)
  ·rw[if_neg h3]
   by_cases h4:Q05 w=4
   ·rw[if_pos h4]
    exact ⟨fun e=>absurd (show (4:Int)=0 from e) (by decide),hl,fun e=>absurd (show (4:Int)=1 from e) (by decide),fun _=>⟨h0,k4 h4⟩⟩
   ·rw[if_neg h4];exact WSOk.onward (s:={s with at_:=wAt w}) hl
theorem WSOk.init (hG:Inv G) (lo hi:Int) (back:Bool) (most:Int) (values:Bool):WSOk G (WS.init lo hi back most values):=
 ⟨fun _=>⟨hG.r1.1,rfl,fun e=>absurd rfl e⟩,fun l hl=>absurd hl (by simp[WS.init]),fun e=>absurd (show (0:Int)=1 from e) (by decide),fun e=>absurd (show (0:Int)=4 from e) (by decide)⟩
theorem Qdx (r:Rep C G) {n:Int} (h:G.ty n=3):1<=G.deg n/\G.deg n<=65537/\rdC C n=G.deg n:=by
 have hd:=r.deg n h;have t0:G.ty n≠0:=by rw[h];decide
 have l:=r.low n t0;have u:=r.top n t0;have b:=r.big;have hl:=Q3Z h;exact ⟨hd.1,by omega,hd.2⟩
theorem WSOk.lvOk (h:WSOk G s) (r:Rep C G):∀l∈s.levels,lvOk l:=fun l hl=>by
 obtain ⟨h1,h2⟩:=h.lv l hl;have:=Qdx r h1.ty;exact ⟨h1.i0,by rw[h2];exact h1.i1,by rw[h2];exact this.2.1⟩
theorem WSOk.deg (h:WSOk G s) (r:Rep C G) (e:s.next=0):1<=rdC C s.route.n/\rdC C s.route.n<=65537:=by
 obtain ⟨h1,h2,_⟩:=h.at0 e;have:=Qdx r h1
 rw[h2,this.2.2];exact ⟨this.1,this.2.1⟩
theorem WSOk.step (h:WSOk G s) (hG:Inv G) (r:Rep C G) (hI:s.Inv) (h6:s.next≠6):WSOk G (s.step (rdC C)):=by
 rcases hI.st with ⟨e,e6⟩|⟨e,hlv,p,ep,hp,p3⟩|e|e|e|⟨e,l,ls,hll,hmo⟩|e
 ·obtain ⟨h1,h2,h3⟩:=h.at0 e;have hd:=r.deg s.n h1;obtain ⟨k1,k2,k3,k4,k5⟩:=Qba (R:=rdC C) s.route hI.rt e6 (G.deg s.n) (by rw[h2];exact hd.2) hd.1 h3;by_cases c:(s.route.step (rdC C)).next=6
  ·rw[WS.step0e e c]
   refine WSOk.look r _ _ rfl (fun l hl=> ?_)
   rcases List.mem_cons.1 hl with hl|hl
   ·rw[hl];exact ⟨⟨h1,(k5 c).1,(k5 c).2⟩,k3⟩
   ·exact h.lv l hl
  ·rw[WS.step0 e c]
   exact ⟨fun _=>⟨h1,k1.trans h2,fun _=>k3⟩,h.lv,fun e2=>absurd (show s.next=1 from e2) (by omega),fun e2=>absurd (show s.next=4 from e2) (by omega)⟩
 ·obtain ⟨_,p',ep',hk⟩:=h.at1 e
  rw[ep] at ep'
  injection ep' with ep';subst ep';obtain ⟨g1,g2⟩:=hk.step hG r hp p3;by_cases c:(p.step (rdC C)).next=3
  ·rw[WS.step1e e ep c]
   exact WSOk.meet (s:={s with peek:=some (p.step (rdC C)),spots:=s.spots++[(s.slot,(p.step (rdC C)).word)]}) h.lv hlv (g1 c)
  ·rw[WS.step1 e ep c]
   exact ⟨fun e2=>absurd (show s.next=0 from e2) (by omega),h.lv,fun _=>⟨hlv,_,rfl,g2 c⟩,fun e2=>absurd (show s.next=4 from e2) (by omega)⟩
 ·rw[WS.step2 e]
  split
  ·exact WSOk.onward (s:={s with key:=_}) h.lv
  ·split
   ·exact ⟨fun e=>absurd (show (3:Int)=0 from e) (by decide),h.lv,fun e=>absurd (show (3:Int)=1 from e) (by decide),fun e=>absurd (show (3:Int)=4 from e) (by decide)⟩
   ·exact WSOk.found (s:={s with key:=rdC C s.at_}) h.lv 0
 ·rw[WS.step3 e];exact WSOk.found h.lv _
 ·obtain ⟨_,t4⟩:=h.at4 e;have rk:=hG.reb s.at_ t4
  rw[WS.step4 e,(r.reb s.at_ t4).1,rk.k.2]
  have ht:G.ty (G.tgt s.at_)=3:=by have:=rk.v.ty;rw[rk.k.1,rk.k.2] at this;exact this
  exact WSOk.enter h.lv ht
 ·rw[WS.step5 e]
  have htop:s.top=l:=by unfold WS.top;rw[hll];rfl
  have htl:s.levels.tail=ls:=by rw[hll];rfl
  obtain ⟨⟨a0,a1,a2⟩,hd⟩:=h.lv l (by rw[hll];simp);have hls:∀l∈ls,G.At l.1 l.2.2/\l.2.1=G.deg l.1:=fun l hl=>h.lv l (by rw[hll];exact List.mem_cons_of_mem _ hl);unfold WS.bound
  rw[htop,htl]
  unfold more at hmo
  split
  ·rename_i hbk
   rw[if_pos hbk] at hmo
   have hmo:=of_decide_eq_true hmo
   split
   ·refine WSOk.look r _ _ rfl (fun x hx=> ?_)
    rcases List.mem_cons.1 hx with hx|hx
    ·rw[hx];exact ⟨⟨a0,by show 0<=l.2.2-1;omega,by show l.2.2-1<G.deg l.1;omega⟩,hd⟩
    ·exact hls x hx
   ·exact WSOk.onward (s:={s with levels:=ls}) hls
  ·rename_i hbk
   rw[if_neg hbk] at hmo
   have hmo:=of_decide_eq_true hmo
   split
   ·refine WSOk.look r _ _ rfl (fun x hx=> ?_)
    rcases List.mem_cons.1 hx with hx|hx
    ·rw[hx];exact ⟨⟨a0,by show 0<=l.2.2+1;omega,by show l.2.2+1<G.deg l.1;omega⟩,hd⟩
    ·exact hls x hx
   ·exact WSOk.onward (s:={s with levels:=ls}) hls
 ·exact absurd e h6
end
theorem Qgt (s:WS) (w:Int):(s.meet w).q=s.q:=by
 unfold WS.meet
 split
 ·rfl
 ·split
  ·rfl
  ·split<;>rfl
theorem QcH (s:WS) (v:Int):(s.found v).q=s.q:=by
 unfold WS.found;split<;>rfl
theorem QfP (s:WS) (v:Int):(s.bound v).q=s.q:=by
 unfold WS.bound
 split
 ·split<;>rfl
 ·split<;>rfl
theorem QfH {R:Int->Int} (s:WS):(s.step R).q=s.q:=by
 unfold WS.step
 split
 ·split<;>rfl
 ·split
  ·split
   ·split
    ·exact Qgt _ _
    ·rfl
   ·rfl
  ·split
   ·split
    ·rfl
    ·split
     ·rfl
     ·exact QcH _ _
   ·split
    ·exact QcH _ _
    ·split
     ·rfl
     ·split
      ·exact QfP _ _
      ·rfl
structure LenW (s s':WS):Prop where
 l:s'.levels.length<=s.levels.length+1
 p:s'.pairs.length<=s.pairs.length+1
 s:s'.spots.length<=s.spots.length+1
theorem Q3Q (s:WS):s.onward.levels.length<=s.levels.length:=Q8F s.back s.levels
theorem QeF (s:WS) (w:Int):(s.meet w).levels.length<=s.levels.length/\(s.meet w).pairs=s.pairs/\(s.meet w).spots=s.spots:=by
 have h:=Q3Q {s with at_:=wAt w};unfold WS.meet
 split
 ·exact ⟨Nat.le_refl _,rfl,rfl⟩
 ·split
  ·exact ⟨Nat.le_refl _,rfl,rfl⟩
  ·split
   ·exact ⟨Nat.le_refl _,rfl,rfl⟩
   ·exact ⟨h,rfl,rfl⟩
theorem Q8P (s:WS) (v:Int):LenW s (s.found v):=by
 have h:=Q3Q {s with pairs:=s.pairs++[(s.key,v)]};have h:(WS.onward {s with pairs:=s.pairs++[(s.key,v)]}).levels.length<=s.levels.length:=h;have e:(s.pairs++[(s.key,v)]).length<=s.pairs.length+1:=by simp
 unfold WS.found
 split
 ·exact ⟨Nat.le_succ _,e,Nat.le_succ _⟩
 ·exact ⟨Nat.le_trans h (Nat.le_succ _),e,Nat.le_succ _⟩
theorem Qd5 (s:WS) (v:Int):LenW s (s.bound v):=by
 have h:=Q3Q {s with levels:=s.levels.tail};have h:(WS.onward {s with levels:=s.levels.tail}).levels.length<=s.levels.tail.length:=h;have ht:s.levels.tail.length<=s.levels.length:=by rw[List.length_tail];omega
 have hc:∀x:Int×Int×Int,(x::s.levels.tail).length<=s.levels.length+1:=fun x=>by simp
 unfold WS.bound
 split
 ·split
  ·exact ⟨hc _,Nat.le_succ _,Nat.le_succ _⟩
  ·exact ⟨by omega,Nat.le_succ _,Nat.le_succ _⟩
 ·split
  ·exact ⟨hc _,Nat.le_succ _,Nat.le_succ _⟩
  ·exact ⟨by omega,Nat.le_succ _,Nat.le_succ _⟩
theorem Q4J {R:Int->Int} (s:WS):LenW s (s.step R):=by
 have e0:∀x:Int×Int×Int,(x::s.levels).length<=s.levels.length+1:=fun x=>by simp
 have e1:∀x:Int×Int,(s.spots++[x]).length<=s.spots.length+1:=fun x=>by simp
 unfold WS.step
 split
 ·split
  ·exact ⟨e0 _,Nat.le_succ _,Nat.le_succ _⟩
  ·exact ⟨Nat.le_succ _,Nat.le_succ _,Nat.le_succ _⟩
 ·split
  ·split
   ·rename_i p _
    split
    ·obtain ⟨a,b,c⟩:=QeF {s with peek:=some (p.step R),spots:=s.spots++[(s.slot,(p.step R).word)]} (p.step R).word;exact ⟨Nat.le_trans a (Nat.le_succ _),by rw[b];exact Nat.le_succ _,by rw[c];exact e1 _⟩
    ·exact ⟨Nat.le_succ _,Nat.le_succ _,Nat.le_succ _⟩
   ·exact ⟨Nat.le_succ _,Nat.le_succ _,Nat.le_succ _⟩
  ·split
   ·split
    ·exact ⟨Nat.le_trans (Q3Q {s with key:=R s.at_}) (Nat.le_succ _),Nat.le_succ _,Nat.le_succ _⟩
    ·split
     ·exact ⟨Nat.le_succ _,Nat.le_succ _,Nat.le_succ _⟩
     ·obtain ⟨a,b,c⟩:=Q8P {s with key:=R s.at_} 0;exact ⟨a,b,c⟩
   ·split
    ·exact Q8P s _
    ·split
     ·exact ⟨Nat.le_succ _,Nat.le_succ _,Nat.le_succ _⟩
     ·split
      ·exact Qd5 s _
      ·exact ⟨Nat.le_succ _,Nat.le_succ _,Nat.le_succ _⟩
theorem Qcb {R:Int->Int} (s:WS):(s.step R).levels.length<=s.levels.length+1/\(s.step R).pairs.length<=s.pairs.length+1/\(s.step R).spots.length<=s.spots.length+1:=
 ⟨(Q4J s).l,(Q4J s).p,(Q4J s).s⟩
def pxw (x:WQ):FX:=⟨17,0,0,0,x,[],⟨0,0,0⟩⟩
def Qft (r:WAcc×Bool):Prog FOut:=.ret {FOut.zero with pairs:=r.1.pairs,spots:=r.1.spots}
theorem Qev (x:WQ) (N:Nat):(pxw x).tree N=(Q0q x N 1 ⟨[],[]⟩).bind Qft:=by
 unfold FX.tree
 rw[if_neg (show ¬(pxw x).proc=15 by show ¬(17:Int)=15;decide),if_neg (show ¬(pxw x).proc=16 by show ¬(17:Int)=16;decide),if_pos (show (pxw x).proc=17 from rfl)]
 rfl
theorem Q5z {α:Type}:∀p:Prog α,p.bind .ret=p
 |.ret a=>rfl
 |.ask q k=>by show Prog.ask q (fun v=>(k v).bind .ret)=_;congr 1;funext v;exact Q5z (k v)
 |.chk k=>by show Prog.chk (fun v=>(k v).bind .ret)=_;congr 1;funext v;exact Q5z (k v)
 |.stuck p=>by show Prog.stuck (p.bind .ret)=_;rw[Q5z p]
def Q2J (s:WS):FOut:={FOut.zero with pairs:=s.pairs,spots:=s.spots}
structure WalkJ (x:WQ) (G:GS) (i f:Nat) (s:WS) (q:Prog (WAcc×Bool)):Prop where
 ok:WSOk G s
 inv:s.Inv
 doc:s.next=0->s.route.Doc
 lv:∀l∈s.levels,lvOk l
 ll:s.levels.length<=i
 lp:s.pairs.length<=i
 ls:s.spots.length<=i
 x:s.q=x
 q:∃L F0 b,L.map (·.1)=s.levels/\(∀e∈L,f<=e.2.1/\f<=e.2.2)/\(s.next=0->f<=F0)/\q=s.tree L F0 b
theorem WS.acc_bd {s:WS} (h:s.Inv) {a:Int} (ha:s.acc=some a):i64B a:=by
 rcases h.st with ⟨e,e6⟩|⟨e,hlv,p,ep,hp,p3⟩|e|e|e|⟨e,l,ls,hll,hmo⟩|e
 ·rw[WS.acc0 e] at ha
  unfold RS.acc at ha
  rw[if_neg e6] at ha
  injection ha with ha;subst ha;unfold RS.addr
  split
  ·exact ⟨h.rt.n0,h.rt.n1⟩
  ·have:=Q6a (n:=s.route.n) (i:=s.route.i);exact i64B.of (by omega) (by omega)
 ·rw[WS.acc1 e ep] at ha
  unfold PS.acc at ha
  rw[if_neg p3] at ha
  injection ha with ha;subst ha;exact ⟨hp.c0,hp.c1⟩
 ·rw[WS.acc2 e] at ha;injection ha with ha;subst ha;have:=h.a0;have:=h.a1;exact i64B.of (by omega) (by omega)
 ·rw[WS.acc3 e] at ha;injection ha with ha;subst ha;have:=h.a0;have:=h.a1;exact i64B.of (by omega) (by omega)
 ·rw[WS.acc4 e] at ha;injection ha with ha;subst ha;have:=h.a0;have:=h.a1;exact i64B.of (by omega) (by omega)
 ·rw[WS.acc5 e] at ha;injection ha with ha;subst ha;exact s.ahead_bd
 ·rw[WS.acc6 e] at ha;cases ha
section
variable {x:WQ} {G G':GS} {i f:Nat} {s:WS} {q:Prog (WAcc×Bool)} {C:List Int}
theorem WalkJ.ext (h:WalkJ x G i f s q) (e:Ext G G'):WalkJ x G' i f s q:=⟨h.ok.ext e,h.inv,h.doc,h.lv,h.ll,h.lp,h.ls,h.x,h.q⟩
theorem WalkJ.step (h:WalkJ x G i f s q) (hG:Inv G) (r:Rep C G) (hcb:∀x∈C,i64B x) (h6:s.next≠6) (hf:2<=f):∃f' a q',f<=f'+1/\i64B a/\(q.rest []).next=some ⟨1,a,0,0,[],0⟩/\q.rest [rdC C a]=q'.rest []/\WalkJ x G (i+1) f' (s.step (rdC C)) q':=by
 obtain ⟨L,F0,b,g1,g2,g3,rfl⟩:=h.q;obtain ⟨L',F0',b',a,k1,k2,k3,k4,k5,k6⟩:=Qa7 (R:=rdC C) s L F0 b f h.inv h.doc h6 g1 g2 g3 hf h.lv (fun e hL=>by have:=(h.ok.at4 e).1;rw[hL] at g1;exact this g1.symm) (fun e _=>h.ok.deg r e);have hok:=h.ok.step hG r h.inv h6;obtain ⟨l1,l2,l3⟩:=Qcb (R:=rdC C) s;have:=h.ll;have:=h.lp;have:=h.ls;exact ⟨f-1,a,_,by omega,WS.acc_bd h.inv k1,k2,k3,hok,h.inv.step (Q4t (QbV hcb)),fun e=>(k6 e).2,hok.lvOk r,by omega,by omega,by omega,(QfH s).trans h.x,L',F0',b',k4,k5,fun e=>(k6 e).1,rfl⟩
theorem WalkJ.nx (h:WalkJ x G i f s q) (hf:2<=f):q.next.isNone=(s.next==6):=by
 obtain ⟨L,F0,b,g1,g2,g3,rfl⟩:=h.q;by_cases h6:s.next=6
 ·rw[WS.tree6 h6,h6];rfl
 ·obtain ⟨L',F0',b',a,k1,k2,k3,k4,k5,k6⟩:=Qa7 (R:=fun _=>1) s L F0 b f h.inv h.doc h6 g1 g2 g3 hf h.lv (fun e hL=>by have:=(h.ok.at4 e).1;rw[hL] at g1;exact this g1.symm) (fun e _=>⟨by decide,by decide⟩);rw[<-Q38,k2];exact (beq_eq_false_iff_ne.2 h6).symm
theorem WalkJ.last (h:WalkJ x G i f s q) (h6:s.next=6):∃b,q=.ret (s.st,b):=by
 obtain ⟨L,F0,b,g1,g2,g3,rfl⟩:=h.q;exact ⟨b,WS.tree6 h6⟩
end
theorem Qfj (fb:Nat) (s:WS):FL (fun G w=>WalkP G fb s w):=⟨fun h hs=>h.mono hs,fun h c hd=>h.chg c hd,fun h=>h.within⟩
def Q83 (x:WQ) (G:GS) (i f:Nat) (s:WS) (q:Prog FOut):Prop:=∃q0,WalkJ x G i f s q0/\q=q0.bind Qft
theorem Qca (N:Nat) (x:WQ) (hx:x.B) (fb:Nat):Mach N (pxw x) WS (fun s G w=>WalkP G fb s w) (fun s=>s.next==6) Q2J (Q83 x) WS.step 61 62 fb where
 pl:=QfT rfl hx
 fl:=Qfj fb
 ext:=fun h e=>by obtain ⟨q0,h,rfl⟩:=h;exact ⟨q0,h.ext e,rfl⟩
 go1:=fun {G i f st q C} h hG r hcb hd hf hi=>by
  obtain ⟨q0,h,rfl⟩:=h;have h6:st.next≠6:=by simpa using hd
  obtain ⟨f',a,q',g1,g2,g3,g4,g5⟩:=h.step hG r hcb h6 hf;obtain ⟨b1,b2⟩:=Q6r Qft g3 g4;exact ⟨f',a,q'.bind Qft,g1,g2,b1,b2,q',g5,rfl⟩
 nx:=fun {G i f st q} h hf=>by
  obtain ⟨q0,h,rfl⟩:=h
  rw[Q9X Qft (fun _=>rfl)]
  exact h.nx hf
 val:=fun {G i f st q} h hd=>by
  obtain ⟨q0,h,rfl⟩:=h;have h6:st.next=6:=by simpa using hd
  obtain ⟨b,rfl⟩:=h.last h6;rfl
 call:=fun {G i f st q B b v C size cn od rf F w} h hG r hd hi hp hm hF hC hcb=>by
  obtain ⟨q0,h,rfl⟩:=h;have:=h.ll;have:=h.lp;have:=h.ls;exact (Q8g F fb b st B v C size cn od rf w hp hm ⟨fun e=>(hF _ e).1 rfl,fun g hg e=>(hF _ e).2 hg⟩ h.inv hC (QbV hcb) (by omega) (by omega) (by omega)).mono fun e w' hp=>⟨hp.1,hp.2.1,⟨_,_,_,hp.2.2.1⟩,hp.2.2.2⟩
 done:=fun {G i f st q F w} h hp=>Q0V F fb st w hp
theorem Q7o (x:WQ) (N:Nat) (hN:1<N) (b:Bool) (s:WS) (e:s.enter 1=s) (ex:s.q=x) (es:s.st=⟨[],[]⟩):(Q0q x N 1 ⟨[],[]⟩).rest []=(s.tree [] (N-1) b).rest []:=by
 obtain ⟨n,rfl⟩:∃n,N=n+1:=⟨N-1,by omega⟩;subst ex;have h:=Q49 s 1 n [] b
 rw[es,e] at h
 show _=(s.tree [] n b).rest [];rw[<-h,show Q1o s.q []=Prog.ret from rfl,Q5z]
theorem WalkJ.start {G:GS} (hG:Inv G) (lo hi:Int) (back:Bool) (most:Int) (values:Bool) (N:Nat) (hI:(WS.init lo hi back most values).Inv) (x:WQ) (hx:x=⟨lo,hi,back,most,values⟩) (i:Nat):WalkJ x G i (N-1) (WS.init lo hi back most values) ((WS.init lo hi back most values).tree [] (N-1) false):=
 ⟨WSOk.init hG lo hi back most values,hI,fun _=>Q7J _ _,fun l hl=>absurd hl (by simp[WS.init]),Nat.zero_le _,Nat.zero_le _,Nat.zero_le _,hx.symm,[],N-1,false,rfl,fun e he=>absurd he (by simp),fun _=>Nat.le_refl _,rfl⟩
theorem QaK (lo hi:Int) (back:Bool) (most:Int) (values:Bool) (N:Nat) (hN:1<N):(((pxw ⟨lo,hi,back,most,values⟩).tree N).rest []).rest []=(((WS.init lo hi back most values).tree [] (N-1) false).bind Qft).rest []:=by
 rw[Q1C,Qev,Q2n,Q2n Qft ((WS.init lo hi back most values).tree [] (N-1) false),Q7o ⟨lo,hi,back,most,values⟩ N hN false (WS.init lo hi back most values) rfl rfl rfl]
theorem Q7q (A A2:Option Addr) (c c2 N N2 B:Nat) (q:List (Int×Int)) (w:World) (hN:N=q.length) (hN2:N2=q.length) (h1:PairsAt w B A q) (h2:PairsAt w B A2 q) (hl:q.length<=1000000):
  Calls Tryz.prog 65 #[.slice A N c,.slice A2 N2 c2] w fun e w'=>e=.returned (.bool true)/\Drawn w w':=by
 subst hN;subst hN2;have H1:=LH h1;have H2:=LH h2;clear h1 h2;go_enter Tryz.func65,Tryz.ntmps65;go_wp2_with (fail)
 go_loopw [5] (fun v wr=>∃(i m:Nat),i<=q.length/\v=.int .i64 i/\wr=w.drewN m) (fun v _=>q.length-(intOf v).toNat)
 case atStart=>exact ⟨0,0,by omega,rfl,rfl⟩
 case round=>
  obtain ⟨i,m,i1,rfl,rfl⟩:=hrel;by_cases hlt:i<q.length
  ·obtain ⟨ad,rfl,_,hc⟩:=H1.out.both (by omega);obtain ⟨k1,v1⟩:=hc i hlt;clear hc;obtain ⟨ad2,rfl,_,hc⟩:=H2.out.both (by omega);obtain ⟨k2,v2⟩:=hc i hlt;clear hc;generalize Q17 q i=x at k1 k2;generalize Q4b q i=y at v1 v2;have u1:w.cell? {block:=(ad.add (i*2)).block,off:=(ad.add (i*2)).off+1}=some (.int .i64 y):=by rw[<-Addr.add_add] at v1;exact v1
   have u2:w.cell? {block:=(ad2.add (i*2)).block,off:=(ad2.add (i*2)).off+1}=some (.int .i64 y):=by rw[<-Addr.add_add] at v2;exact v2
   go_wp2_with (fail)
   go_quiet (fail)
   go_wp2_with (fail)
   go_roundw
   case rel=>exact ⟨i+1,_,by omega,by go_num,rfl⟩
   case measure=>simp[intOf];omega
  ·go_wp2_with (fail);go_ret;exact ⟨rfl,Drawn.of _ _⟩
section
variable (F:Nat->Prop) (b:Nat) (s:WS) (w:World)
theorem QcN (h:WalkP F b s w) (hn:s.next≠6):Calls Tryz.prog 64 #[.pointer (some ⟨b,0,none⟩)] w fun e w'=>e=.returned (.slice none 0 0)/\w=w':=by
 have HH:=LH h;have e1:(s.next==6)=false:=by simpa using hn
 clear h hn;go_enter Tryz.func64,Tryz.ntmps64;go_wp2_with (fail);with_reducible refine (Q0V F b s _ HH.out).mono ?_
 rintro e w1 ⟨rfl,rfl⟩;go_wp2_with (fail);go_ret;exact ⟨rfl,rfl⟩
theorem Qcs (h:WalkP F b s w) (hn:s.next≠6):Calls Tryz.prog 66 #[.pointer (some ⟨b,0,none⟩)] w fun e w'=>e=.returned (.slice none 0 0)/\w=w':=by
 have HH:=LH h;have e1:(s.next==6)=false:=by simpa using hn
 clear h hn;go_enter Tryz.func66,Tryz.ntmps66;go_wp2_with (fail);with_reducible refine (Q0V F b s _ HH.out).mono ?_
 rintro e w1 ⟨rfl,rfl⟩;go_wp2_with (fail);go_ret;exact ⟨rfl,rfl⟩
end
def Q87 (L:List (Int×Int)) (w:World) (e:Ending) (w':World):Prop:=∃A c,e=.returned (.slice A L.length c)/\PairsAt w' w'.heap.size A L/\Below w.heap.size w w'
theorem SomeOwnP.list {T:TypeId} {L:List (Int×Int)} {w w':World} {e:Ending} (h:SomeOwnP T L w e w'):Q87 L w e w':=by
 obtain ⟨v,he,hO,hb⟩:=h;obtain ⟨A,c,rfl⟩:=Q03 hO;exact ⟨A,c,he,Reads.of_own hO,hb⟩
structure WalkE (B y b ff fb:Nat) (W:World) (d:Bool) (L S:List (Int×Int)) (A1 A2:Option Addr) (c1 c2:Nat) (w:World):Prop where
 cells:w.cell? ⟨ff,23,none⟩=some (.bool d)/\w.cell? ⟨ff,29,none⟩=some (.slice A1 L.length c1)/\w.cell? ⟨ff,30,none⟩=some (.slice A2 S.length c2)
 prs:PairsAt w w.heap.size A1 L
 sps:PairsAt w w.heap.size A2 S
 fprs:Calls Tryz.prog 64 #[.pointer (some ⟨fb,0,none⟩)] w (Q87 L w)
 fsps:Calls Tryz.prog 66 #[.pointer (some ⟨fb,0,none⟩)] w (Q87 S w)
 done:Calls Tryz.prog 62 #[.pointer (some ⟨fb,0,none⟩)] w fun e w'=>e=.returned (.bool d)/\w=w'
 same:Calls Tryz.prog 51 #[.pointer (some ⟨y,0,none⟩)] w fun e w'=>e=.returned (.bool true)/\Below w.heap.size w w'
 bl:Below B W w
theorem Qee {x:WQ} {B y b ff fb xb bm:Nat} {tbs:List Nat} {W w:World} {d:Bool} {c i:Nat} (h:RelD 100000 B y b ff (pxw x) (fun s G w=>WalkP G fb s w) (fun s=>s.next==6) Q2J (Q83 x) xb bm tbs W d c i w) (hi:i<=1000):
  ∃L S A1 A2 c1 c2,L.length<=1000/\S.length<=1000/\B<=w.heap.size/\∀w',Below w.heap.size w w'->WalkE B y b ff fb W d L S A1 A2 c1 c2 w':=by
 obtain ⟨s,G0,st,f,T,⟨G,F,v,own,hB⟩,hM,hd⟩:=h;obtain ⟨q,⟨q0,hj,_⟩,_⟩:=hM.lft;have hlp:=hj.lp;have hls:=hj.ls;obtain ⟨xv,tv,pv,sv,lv,rec,laid,hq⟩:=hB.rf;obtain ⟨A1,c1,rfl⟩:=Q03 hq.rows.prs.1;obtain ⟨A2,c2,rfl⟩:=Q03 hq.rows.sps.1;refine ⟨(if d=true then Q2J st else FOut.zero).pairs,(if d=true then Q2J st else FOut.zero).spots,A1,A2,c1,c2, ?_, ?_,hB.bw,fun w' hb=> ?_⟩
 ·cases d with
  |true=>exact Nat.le_trans hlp hi
  |false=>exact Nat.zero_le _
 ·cases d with
  |true=>exact Nat.le_trans hls hi
  |false=>exact Nat.zero_le _
 have hB':=hB.below (Qfj fb st) hb;have hq':=hq.below hb;have hdn:=Q0V G fb st w' hB'.pf;have hd:(st.next==6)=d:=hd
 rw[hd] at hdn
 refine ⟨⟨hq'.blk.cell 23,hq'.blk.cell 29,hq'.blk.cell 30⟩,Reads.of_own hq'.rows.prs.1,Reads.of_own hq'.rows.sps.1, ?_, ?_,hdn,Q8q hB'.yd,hB'.bl⟩
 ·cases d with
  |true=>exact (Q6T G fb st w' hB'.pf (by simpa using hd) (by omega)).mono fun e w2 h=>h.list
  |false=>exact (QcN G fb st w' hB'.pf (by simpa using hd)).mono fun e w2 h=>⟨none,0,h.1,Reads.none_,h.2▸Below.refl _ _⟩
 ·cases d with
  |true=>exact (Q6K G fb st w' hB'.pf (by simpa using hd) (by omega)).mono fun e w2 h=>h.list
  |false=>exact (Qcs G fb st w' hB'.pf (by simpa using hd)).mono fun e w2 h=>⟨none,0,h.1,Reads.none_,h.2▸Below.refl _ _⟩
theorem Qhm:((WS.init 0 9 false 0 true).step (rdC beginL)).next=1/\(((WS.init 0 9 false 0 true).step (rdC beginL)).step (rdC beginL)).next=6/\(((WS.init 0 9 false 0 true).step (rdC beginL)).step (rdC beginL)).pairs=[]/\(((WS.init 0 9 false 0 true).step (rdC beginL)).step (rdC beginL)).spots=[(6,57)]/\((WS.init 0 9 false 0 true).step (rdC beginL)).levels.length<1000/\((WS.init 0 9 false 0 true).step (rdC beginL)).pairs.length<1000/\((WS.init 0 9 false 0 true).step (rdC beginL)).spots.length<1000:=by decide+kernel
theorem Q9J (w:World):Calls Tryz.prog 60 #[] w fun e w'=>e=.returned (.bool true)/\Below w.heap.size w w':=by
 go_enter Tryz.func60,Tryz.ntmps60;go_wp2_with (fail);with_reducible refine (Q6U 9 _ (by decide) (by decide)).mono ?_
 rintro e w1 ⟨rfl,hm,hb⟩;have hB1:=hb;have HM:=LH hm;clear hm hb;obtain ⟨b,hbe⟩:∃b,w.heap.size=b:=⟨_,rfl⟩
 rw[hbe] at HM hB1|-
 go_wp2_with (fail);with_reducible refine (QdT b b 9 0 0 0 _ HM.out (by decide) (by decide)).mono ?_
 rintro e w2 ⟨rfl,v,hm,ho,_⟩;have hz2:b<w2.heap.size:=by have:=hB1.size;have:=ho.size;have:=HM.out.blk.lt;omega
 have hB2:=hB1.trans (ho.below (B:=b) (by simp) (by have:=HM.out.blk.lt;omega))
 have HM2:Hid (MemP b b v beginL 9 2 0 0 w2):=LH (by rw[show Q2m (Q2m 0)=2 from by kernel_rfl] at hm;exact hm)
 clear hm ho HM hB1;have HC2:Hid (MemC b beginL 9 w2):=LH ⟨v,_,_,HM2.out⟩;clear HM2;obtain ⟨q1,q2,q3,q4,q5,q6,q7⟩:=Qhm;have hbd:∀x∈beginL,-9223372036854775808<=x/\x<=9223372036854775807:=by decide
 have HI0:=LH (WS.Inv.init (lo:=0) (hi:=9) (most:=0) (back:=false) (values:=true) (by decide) (by decide) (by decide) (by decide) (by decide) (by decide));have HI1:=LH (WS.Inv.step HI0.out (Q4t (QbV hbd)));have l0:(WS.init 0 9 false 0 true).levels.length<1000/\(WS.init 0 9 false 0 true).pairs.length<1000/\(WS.init 0 9 false 0 true).spots.length<1000:=by decide
 have HBD:=LH hbd;have Q1:=LH q1;have Q2:=LH q2;have Q3:=LH q3;have Q4:=LH q4;have Q5:=LH q5;have Q6:=LH q6;have Q7:=LH q7;have L0:=LH l0;clear hbd q1 q2 q3 q4 q5 q6 q7 l0;go_wp2_with (fail);with_reducible refine (Qag 0 9 false 0 true _).mono ?_
 rintro e w3 ⟨rfl,hs,hb⟩;have HC3:=LH (HC2.out.l.below hb);have HS3:=LH hs;have hB3:=hB2.trans (hb.mono (by omega));have hz3:=hb.size;clear hs hb HC2 hB2;generalize w2.heap.size=lo at HS3 HC3 hz2 hz3|-;generalize WS.init 0 9 false 0 true=s0 at HS3 HI0 HI1 Q1 Q2 Q3 Q4 Q5 Q6 Q7 L0;go_wp2_with (fail);with_reducible refine (Q8h b lo lo beginL 9 _ _ HS3.out HC3.out HI0.out hz3 (by decide) HBD.out L0.out.1 L0.out.2.1 L0.out.2.2).mono ?_
 rintro e w4 ⟨rfl,hs,hc,hb⟩;generalize s0.step (rdC beginL)=s1 at hs HI1 Q1 Q2 Q3 Q4 Q5 Q6 Q7|-
 rw[Q1.out]
 have HS4:=LH hs;have HC4:=LH hc;have hB4:=hB3.trans (hb.below (B:=b) (fun x hx=>by omega) (by omega));have hz4:=hb.size;clear hs hc hb HS3 HC3 hB3;go_wp2_with (fail);with_reducible refine (Q8h b lo lo beginL 9 _ _ HS4.out HC4.out HI1.out (by omega) (by decide) HBD.out Q5.out Q6.out Q7.out).mono ?_
 rintro e w5 ⟨rfl,hs,hc,hb⟩;generalize s1.step (rdC beginL)=s2 at hs Q2 Q3 Q4|-
 rw[Q2.out]
 have HS5:=LH hs;have hB5:=hB4.trans (hb.below (B:=b) (fun x hx=>by omega) (by omega));have hz5:=hb.size;clear hs hc hb HS4 HC4 hB4;go_wp2_with (fail);with_reducible refine (Q6K _ _ _ _ HS5.out Q2.out (by rw[Q4.out];decide)).mono ?_
 rintro e w6 ⟨v6,rfl,hO,hb⟩
 rw[Q4.out] at hO
 obtain ⟨g,c,rfl,_,hlt⟩:=hO.form (by decide);have HO:=LH hO;have HS6:=LH (HS5.out.below hb);have hB6:=hB5.trans (hb.mono (by omega));have hz6:=hb.size;clear hO hb HS5 hB5 hlt;go_wp2_with (fail);with_reducible refine (Q0V _ _ _ _ HS6.out).mono ?_
 rintro e w7 ⟨rfl,rfl⟩
 rw[Q2.out]
 go_wp2_with (fail);with_reducible refine (Q6T _ _ _ _ HS6.out Q2.out (by rw[Q3.out];decide)).mono ?_
 rintro e w7 ⟨v7,rfl,hO7,hb⟩
 rw[Q3.out] at hO7
 obtain ⟨A7,c7,rfl⟩:=Q03 hO7;have hO:=Q0n HO.out hb;have c0:w7.cell? ⟨g,0,none⟩=some (.int .i64 6):=hO.cellAt 0 (by decide);have c1:w7.cell? ⟨g,1,none⟩=some (.int .i64 57):=hO.cellAt 1 (by decide);have hB7:=hB6.trans (hb.mono (by omega));have HB7:=LH (hbe▸hB7);clear hO hO7 hb HS6 hB6 hB7;go_wp2_with (fail);go_ret;exact ⟨rfl,HB7.out⟩
theorem walkPlays_walk (cells:Int) (A1:Option Addr) (c1:Nat) (keys:List Int) (A2:Option Addr) (c2:Nat) (l:List Int) (lo:Int) (hi:Int) (how:Int) (A4:Option Addr) (c4:Nat) (sched:List Int) {w:World} (wcells:(Lit.int .i64 cells).wf=true) (hq1:IntsAt w w.heap.size A1 keys) (hl1:keys.length*8<=140737488351232) (hc1:keys.length<=c1) (hw1:∀i,i<keys.length->-9223372036854775808<=keyAt keys i/\keyAt keys i<=9223372036854775807) (hq2:IntsAt w w.heap.size A2 l) (hl2:l.length*8<=140737488351232) (hc2:l.length<=c2) (hw2:∀i,i<l.length->-9223372036854775808<=keyAt l i/\keyAt l i<=9223372036854775807) (wlo:(Lit.int .i64 lo).wf=true) (whi:(Lit.int .i64 hi).wf=true) (whow:(Lit.int .i64 how).wf=true) (hq4:IntsAt w w.heap.size A4 sched) (hl4:sched.length*8<=140737488351232) (hc4:sched.length<=c4) (hw4:∀i,i<sched.length->-9223372036854775808<=keyAt sched i/\keyAt sched i<=9223372036854775807):
  Calls Tryz.prog 8 #[.int .i64 cells,.slice A1 keys.length c1,.slice A2 l.length c2,.int .i64 lo,.int .i64 hi,.int .i64 how,.slice A4 sched.length c4] w fun e w'=>e=.returned (.bool true)/\Below w.heap.size w w':=by
 obtain ⟨ca0,ca1⟩:=Go.bounds_i64 wcells;obtain ⟨lo0,lo1⟩:=Go.bounds_i64 wlo;obtain ⟨hi0,hi1⟩:=Go.bounds_i64 whi;obtain ⟨ho0,ho1⟩:=Go.bounds_i64 whow;have HQ1:=LH hq1;have HW1:=LH hw1;have HQ2:=LH hq2;have HW2:=LH hw2;have HQ4:=LH hq4;have HW4:=LH hw4;clear hq1 hw1 hq2 hw2 hq4 hw4;clear wcells wlo whi whow;obtain ⟨z0,z1⟩:=Q3B lo 80 (by decide);obtain ⟨z2,z3⟩:=Q3B hi 80 (by decide);obtain ⟨z4,z5⟩:=Q3B (how.tdiv 30) 5 (by decide);obtain ⟨t0,t1⟩:=Q48 how 30 (by decide)
 have hdv:-9223372036854775808<=how.tdiv 30/\how.tdiv 30<=9223372036854775807:=by
  have e:how=30*(how.tdiv 30)+how.tmod 30:=(Int.mul_tdiv_add_tmod _ 30).symm;omega
 have HDV:=LH hdv;clear hdv t0 t1;obtain ⟨a,ha⟩:∃a:Int,a=if how.tmod 5=0 then (-9223372036854775808:Int) else lo%80-30:=⟨_,rfl⟩;obtain ⟨a2,hb2⟩:∃a:Int,a=if how.tmod 5=0 then (9223372036854775807:Int) else hi%80-30:=⟨_,rfl⟩
 have hab:i64B a/\i64B a2:=by
  rw[ha,hb2]
  split
  ·exact ⟨i64B.of (by decide) (by decide),i64B.of (by decide) (by decide)⟩
  ·exact ⟨i64B.of (by omega) (by omega),i64B.of (by omega) (by omega)⟩
 have HAB:=LH hab;clear hab;by_cases h5:how.tmod 5=0
 all_goals
  first
   |(rw[if_pos h5] at ha hb2;have h5b:(how.tmod 5==0)=true:=by simpa using h5)
   |(rw[if_neg h5] at ha hb2;have h5b:(how.tmod 5==0)=false:=by simpa using h5)
  go_enter Tryz.func8,Tryz.ntmps8;go_wp2_with (fail);with_reducible refine (Qc7 cells A1 c1 keys A2 c2 l _ hc1 hc2 ca0 ca1 HQ1.out hl1 HW1.out HQ2.out hl2 HW2.out).mono ?_
  rintro e w1 hp;obtain ⟨y,b,xb,bm,tbs,s,G0,v,own,rfl,hy,hsys,hown,hb1⟩:=hp;have HY:=LH hy;have HS:=LH hsys;have HO:=LH hown;have HB1:=LH hb1;clear hy hsys hown hb1 HQ1 HQ2 HW1 HW2;go_wp2_with (fail);with_reducible refine (Q1u lo 80 _ lo0 lo1 (by decide) (by decide)).mono ?_
  rintro e w2 ⟨rfl,rfl⟩;go_wp2_with (fail);with_reducible refine (Q1u hi 80 _ hi0 hi1 (by decide) (by decide)).mono ?_
  rintro e w2 ⟨rfl,rfl⟩;go_wp2_with (fail);with_reducible refine (Q1u (how.tdiv 30) 5 _ HDV.out.1 HDV.out.2 (by decide) (by decide)).mono ?_
  rintro e w2 ⟨rfl,rfl⟩;go_wp2_with (fail);rw[<-ha,<-hb2];generalize (how.tmod 2==0)=back;generalize hmv:(how.tdiv 30%5-1)=most;have hmost:i64B most:=i64B.of (by omega) (by omega);clear hmv;generalize (how.tmod 3 !=0)=values;have HMO:=LH hmost;clear hmost ha hb2 h5 h5b;with_reducible refine (Qag a a2 back most values _).mono ?_
  rintro e w3 ⟨rfl,hs,hb⟩;have HSK:=LH hs;have HB3:=LH hb;clear hs hb;have M:Mach 100000 (pxw ⟨a,a2,back,most,values⟩) WS (fun s G w=>WalkP G w1.heap.size s w) (fun s=>s.next==6) Q2J (Q83 ⟨a,a2,back,most,values⟩) WS.step 61 62 w1.heap.size:=Qca 100000 ⟨a,a2,back,most,values⟩ ⟨HAB.out.1,HAB.out.2,HMO.out⟩ w1.heap.size;have hj0:Q83 ⟨a,a2,back,most,values⟩ G0 0 (100000-1) (WS.init a a2 back most values) (((WS.init a a2 back most values).tree [] (100000-1) false).bind Qft):=⟨_,WalkJ.start HS.out.inv a a2 back most values 100000 (WS.Inv.init HAB.out.1.1 HAB.out.1.2 HAB.out.2.1 HAB.out.2.2 HMO.out.1 HMO.out.2) _ rfl 0,rfl⟩;have hst0:=QaK a a2 back most values 100000 (by decide);have NEW:Hid (∀w,Calls Tryz.prog 29 #[.int .i64 17,.agg #[.int .i64 0,.int .i64 0,.int .i64 0,.int .i64 0,.int .i64 0,.int .i64 a,.int .i64 a2,.bool back,.int .i64 most,.bool values,.slice none 0 0,.slice none 0 0,.slice none 0 0,.slice none 0 0,.slice none 0 0,.int .i64 0,.int .i64 0,.int .i64 0,.int .i64 0,.int .i64 0,.int .i64 0]] w fun e w'=>∃ff,e=.returned (.pointer (some ⟨ff,0,none⟩))/\FrP (fun z=>False\/w.heap.size<=z) ff (pxw ⟨a,a2,back,most,values⟩) [] false FOut.zero w'/\w.heap.size<=ff/\Below w.heap.size w w'):=LH (fun w=>M.new (w:=w) (xv:=.slice none 0 0) (Gs:=fun _=>False) PrP.nil' (by decide) hj0 hst0 (by decide));have HJ:=LH hj0;have HM:=LH M;have HST:=LH hst0;clear hj0 hst0 M;go_wp2_with (fail);with_reducible refine (NEW.out _).mono ?_
  rintro e w4 ⟨ff,rfl,hf,hff,hb⟩;have hz3:=HB3.out.size;have hz4:=hb.size;have HR0:=LH (RelD.start HM.out HY.out HO.out HB1.out.size HB1.out HS.out (HB3.out.trans (hb.mono hz3)) ((WalkP.within HSK.out).below hb) hf (fun z hz=>by rcases hz with (hz|hz)|hz;exact hz.elim;omega;exact hz.1) (fun z h1 h2=>by rcases h1 with h1|h1;exact h1.elim;omega) HJ.out HST.out (by decide));clear hf hb NEW HJ HST HSK HY HO HS HB3 hff hz3 hz4;generalize w1.heap.size=fb at HR0 HM|-;generalize (⟨a,a2,back,most,values⟩:WQ)=x at HR0 HM;go_wp2_with (fail);with_reducible refine (Q9J _).mono ?_
  rintro e w5 ⟨rfl,hb⟩;have HR5:=LH (HR0.out.below HM.out hb);clear hb HR0;obtain ⟨s5,GS5,st5,f5,T5,hB5,hMS5,hd5⟩:=HR5.out;go_wp2_with (fail);with_reducible refine (QdP (HM.out.fl st5) hB5).mono ?_
  rintro e w6 ⟨rfl,hB6⟩;have HR6:Hid (QgK 100000 w.heap.size y b ff (pxw x) (fun s G w=>WalkP G fb s w) (fun s=>s.next==6) Q2J (Q83 x) xb bm tbs w 500 (.int .i64 0) w6):=LH ⟨false,0,0,rfl,Nat.le_refl _,by decide,s5,GS5,st5,f5,T5,hB6,hMS5,hd5⟩;clear hB5 hMS5 hd5 hB6 HR5 HB1
  have HSC:Hid (∀w',Below w.heap.size w w'->∀i,i<sched.length->∃ad,A4=some ad/\w'.cell? (ad.add i)=some (.int .i64 (keyAt sched i))):=LH (fun w' hb i hi=>by
   obtain ⟨ad,h1,_,h2⟩:=(HQ4.out.below hb).cells (by omega);exact ⟨ad,h1,h2 i hi⟩)
  clear HQ4;go_wp2_with (fail)
  go_loopw [23] (fun iv wr=>QgK 100000 w.heap.size y b ff (pxw x) (fun s G w=>WalkP G fb s w) (fun s=>s.next==6) Q2J (Q83 x) xb bm tbs w 500 iv wr) (fun iv _=>501-(intOf iv).toNat)
  case atStart=>exact HR6.out
  case round=>
   clear HR6;obtain ⟨d,c,i,rfl,hci,hi,hr⟩:=hrel;by_cases hgo:i<500/\d=false
   ·obtain ⟨hlt,rfl⟩:=hgo;have hil:(i:Int)<500:=by omega
    obtain ⟨y0,y1,x3,f23⟩:=hr.cells;have hbl:Below w.heap.size w wr:=by obtain ⟨s,G,st,f,T,h1,_⟩:=hr;exact h1.lt
    have HRR:=LH hr;have HBL:=LH hbl;clear hr hbl
    rcases Decidable.em (i<sched.length) with hs|hs
    all_goals first
     |(have hs:i<sched.length:=hs
       obtain ⟨ad,hA,hcell⟩:=HSC.out wr HBL.out i hs;subst hA;have hsl:(i:Int)<sched.length:=by omega
       obtain ⟨s0,s1⟩:=HW4.out i hs;obtain ⟨t0,t1⟩:=Q48 (keyAt sched i) 2 (by decide)
       have hdv:-9223372036854775808<=(keyAt sched i).tdiv 2/\(keyAt sched i).tdiv 2<=9223372036854775807:=by
        have e:keyAt sched i=2*((keyAt sched i).tdiv 2)+(keyAt sched i).tmod 2:=(Int.mul_tdiv_add_tmod _ 2).symm;omega
       have HDV:=LH hdv;clear hdv
       rcases Decidable.em ((keyAt sched i).tmod 2=0) with h2|h2
       all_goals first
        |(have h2b:((keyAt sched i).tmod 2==0)=true:=by simpa using h2
          go_wp2_with (fail);with_reducible refine (RelD.pick HM.out ((keyAt sched i).tdiv 2) HRR.out HDV.out.1 HDV.out.2 (by decide) (by omega)).mono ?_
          rintro e w8 ⟨rfl,hr8⟩;obtain ⟨cc,hcc,H8⟩:∃cc,cc<=i+1/\Hid (RelD 100000 w.heap.size y b ff (pxw x) (fun s G w=>WalkP G fb s w) (fun s=>s.next==6) Q2J (Q83 x) xb bm tbs w false cc i w8):=⟨c+1,by omega,LH hr8⟩;obtain ⟨z0,z1,z3,z23⟩:=hr8.cells;clear hr8 HRR y0 y1 x3 f23 hcell HBL HDV h2 h2b s0 s1 t0 t1)
        |(have h2b:((keyAt sched i).tmod 2==0)=false:=by simpa using h2
          obtain ⟨cc,hcc,H8⟩:∃cc,cc<=i+1/\Hid (RelD 100000 w.heap.size y b ff (pxw x) (fun s G w=>WalkP G fb s w) (fun s=>s.next==6) Q2J (Q83 x) xb bm tbs w false cc i wr):=⟨c,by omega,HRR⟩;clear HRR HBL HDV h2 s0 s1 t0 t1))
     |(have hsl:¬(i:Int)<sched.length:=by omega
       have hsd:decide ((i:Int)<sched.length)=false:=decide_eq_false hsl;obtain ⟨cc,hcc,H8⟩:∃cc,cc<=i+1/\Hid (RelD 100000 w.heap.size y b ff (pxw x) (fun s G w=>WalkP G fb s w) (fun s=>s.next==6) Q2J (Q83 x) xb bm tbs w false cc i wr):=⟨c,by omega,HRR⟩;clear HRR HBL)
    all_goals
     go_wp2_with (fail);with_reducible refine (RelD.prog HM.out H8.out (by omega)).mono ?_
     rintro e w9 ⟨d',rfl,hm⟩;have HMD:=LH hm;obtain ⟨m0,m1,m3⟩:=hm.cells;clear hm H8;go_wp2_with (fail);with_reducible refine (MidD.doc HM.out HMD.out (by omega) (by decide)).mono ?_
     rintro e w10 ⟨rfl,hr10⟩;have HR10:=LH hr10;obtain ⟨_,_,_,g23⟩:=hr10.cells;have HDN:Hid (∀n,Calls Tryz.prog 62 #[.pointer (some ⟨fb,0,none⟩)] (w10.drewN n) fun e w'=>e=.returned (.bool d')/\w10.drewN n=w'):=LH (fun n=>(hr10.below HM.out (Q08 (Drawn.of w10 n) _)).done HM.out);clear hr10 HMD m0 m1 m3
     cases d'
     all_goals
      go_wp2_with (fail)
      go_quiet ((go_at_call 62;exact Q1D (HDN.out _)))
      go_wp2_with (fail)
      go_roundw
      case rel=>exact ⟨_,cc,i+1,by go_num,by omega,by omega,HR10.out.below HM.out (Q08 (Drawn.of w10 nq) _)⟩
      case measure=>simp[intOf];omega
   ·have hend:i=500\/d=true:=by
     cases d with
     |true=>exact .inr rfl
     |false=>exact .inl (by have:¬i<500:=fun h=>hgo ⟨h,rfl⟩;omega)
    clear hgo;obtain ⟨L,S,B1,B2,d1,d2,hL,hS,hbw,hE⟩:=Qee hr (by omega);have HE:=LH hE;have HBW:Hid (∀w',Below wr.heap.size wr w'->Below w.heap.size w w'):=LH (fun w' hb=>(hE w' hb).bl);obtain ⟨f23,f29,f30⟩:=(hE wr (Below.refl _ _)).cells
    have hno:¬(decide ((i:Int)<500)=true/\d=false):=fun h=>by
     have h1:=of_decide_eq_true h.1
     rcases hend with e|e
     ·omega
     ·rw[e] at h;exact absurd h.2 (by decide)
    clear hr HSC HW4 hend hE hbw;have HD0:Hid (Below wr.heap.size wr wr.drew):=LH (Q08 (Drawn.of wr 1) _);have hzr:wr.heap.size<=wr.drew.heap.size:=HD0.out.size;have hde:(d==d)=true:=by cases d<;>rfl
    cases hd3:decide ((i:Int)<500)
    all_goals first
     |(have hd3:decide ((i:Int)<500)=false:=hd3
       clear hno)
     |(have hnd:(!d)=false:=by
        cases d with
        |true=>rfl
        |false=>exact (hno ⟨hd3,rfl⟩).elim
       clear hno)
    all_goals
     go_wp2_with (fail)
     go_region_held3 (fun w'=>w'.cell? ⟨ff,23,none⟩=some (.bool d)/\w'.cell? ⟨ff,29,none⟩=some (.slice B1 L.length d1)/\w'.cell? ⟨ff,30,none⟩=some (.slice B2 S.length d2)) (first|go_keep|exact K1.out|exact K2.out|exact K3.out|exact K4.out|exact K5.out) (first
      |(go_at_call 62;(with_reducible refine (HE.out _ HD0.out).done.mono ?_);rintro e w8 ⟨rfl,rfl⟩)
      |(go_at_call 64;(with_reducible refine (HE.out _ HD0.out).fprs.mono ?_);rintro e w8 ⟨A7,c7,rfl,hp8,hb8⟩;have HP8:=LH hp8;have HB8:=LH (HD0.out.trans (hb8.mono hzr));have K1:=LH (HE.out _ HB8.out).cells;clear hp8 hb8)
      |(go_at_call 63;(with_reducible refine (Q7C _ _ _ _ _ _ _ L _ rfl rfl HP8.out (HE.out _ HB8.out).prs (by omega)).mono ?_);rintro e w9 ⟨rfl,hd9⟩;have HB9:=LH (HB8.out.trans (Q08 hd9 _));have K2:=LH (HE.out _ HB9.out).cells;clear hd9)
      |(go_at_call 66;(with_reducible refine (HE.out _ HB9.out).fsps.mono ?_);rintro e w10 ⟨A8,c8,rfl,hp10,hb10⟩;have HP10:=LH hp10;have HB10:=LH (HB9.out.trans (hb10.mono HB9.out.size));have K3:=LH (HE.out _ HB10.out).cells;clear hp10 hb10)
      |(go_at_call 65;(with_reducible refine (Q7q _ _ _ _ _ _ _ S _ rfl rfl HP10.out (HE.out _ HB10.out).sps (by omega)).mono ?_);rintro e w11 ⟨rfl,hd11⟩;have HB11:=LH (HB10.out.trans (Q08 hd11 _));have K4:=LH (HE.out _ HB11.out).cells;clear hd11)
      |(go_at_call 51;(with_reducible refine (HE.out _ HB11.out).same.mono ?_);rintro e w12 ⟨rfl,hb12⟩;have HB12:=LH (HB11.out.trans (hb12.mono HB11.out.size));have K5:=LH (HE.out _ HB12.out).cells;clear hb12))
     all_goals
      have HFIN:=LH (HBW.out _ HB12.out);go_wp2_with (fail);go_ret;exact ⟨rfl,HFIN.out⟩
end Go.Proofs.YtblajeildolloaaGreat
