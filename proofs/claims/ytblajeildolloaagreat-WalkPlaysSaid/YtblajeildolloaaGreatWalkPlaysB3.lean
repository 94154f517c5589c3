/- Part 3 of what the statement of WalkPlays needs. No condition. -/
import Derived.Test.YtblajeildolloaaGreatWalkPlaysB2
import Derived.Deep.RegionLaw
import Derived.Laws.OwnMore
namespace Go.Proofs.YtblajeildolloaaGreat
set_option linter.unusedVariables false
set_option linter.unusedSimpArgs false
open Go.RowKit
set_option maxRecDepth 100000
set_option maxHeartbeats 8000000
theorem QeZ {Ls:Int->List (Int×Int)} {L:List (Int×Int)} {i:Int} (i0:0<=i):Q3l (upd Ls i L) i.toNat=Q3l Ls i.toNat:=Q3V _ fun j j0 j1=>Q0z _ _ (by omega)
theorem Q91 {Ls:Int->List (Int×Int)} {i:Int} (i0:0<=i):Q3l Ls (i+1).toNat=Q3l Ls i.toNat++Ls i:=by
 rw[show (i+1).toNat=i.toNat+1 by omega]
 show Q3l Ls i.toNat++Ls (i.toNat:Int)=_
 rw[show (i.toNat:Int)=i by omega]
section
variable {β:Type} {M:Int} {t:Nat} {C:List Int} {G G':GS} {R:β->GS->Prop}
def FzTo (G:GS) (n i:Int) (Ls:Int->List (Int×Int)):Prop:=∀j,0<=j->j<i->Settled G n j/\FW G (G.lg n j) (Ls j)
theorem FzTo.ext {n i:Int} {Ls:Int->List (Int×Int)} (f:FzTo G n i Ls) (h:Inv G) (x:Ext G G') (t3:G.ty n=3) (hi:i<=G.deg n):FzTo G' n i Ls:=fun j j0 j1=>by
 obtain ⟨s,w⟩:=f j j0 j1;have a:G.At n j:=⟨t3,j0,by omega⟩;obtain ⟨s',e⟩:=x.set n j a s
 rw[e]
 exact ⟨s',w.ext h x (fun k=>by have:=h.lgty a k;omega)⟩
theorem FzTo.asc {n i:Int} {Ls:Int->List (Int×Int)} (f:FzTo G n i Ls) (h:Inv G) (t3:G.ty n=3) (i0:0<=i) (hi:i<=G.deg n):Asc G (G.ks n 0) (G.ks n i-1) (Q3l Ls i.toNat):=by
 have k:=h.inn n t3
 have:=Q7T (G:=G) (K:=G.ks n) (Ls:=Ls) i.toNat (fun a b a0 ab bi=>k.kk a b a0 ab (by omega)) (fun j j0 j1=>by
  obtain ⟨s,w⟩:=f j j0 (by omega);exact h.fwasc (h.lgv ⟨t3,j0,by omega⟩ s.ne) w)
 rw[show ((i.toNat:Nat):Int)=i by omega] at this
 exact this
theorem Inv.frlen (h:Inv G) {n:Int} {L:List (Int×Int)} (f:FrzN G n L):(L.length:Int)<=16384:=(h.asc f).len h
structure Nod (G:GS) (n:Int):Prop where
 ty:G.ty n=3
 ne:n≠1
 cmp:G.cmp n
theorem Nod.ext {n:Int} (d:Nod G n) (x:Ext G G'):Nod G' n:=⟨x.t3 d.ty,d.ne,x.cmp d.ty d.cmp⟩
theorem VW.nod {n i w:Int} (v:VW G n i w) (k:Q05 w=3):Nod G (wAt w):=by
 rcases v with v|v
 ·exact ⟨by rw[v.ty];exact k,(v.e3 k).2.2.2,(v.e3 k).2.2.1⟩
 ·omega
theorem RebOk.nod {r:Int} (k:RebOk G r):Nod G (G.tgt r):=by
 obtain ⟨-,-,c,d⟩:=k.v.e3 k.k.1;have:=k.v.ty
 rw[k.k.1] at this
 rw[k.k.2] at c d this
 exact ⟨this,d,c⟩
def Qhc (G:GS) (n:Int) (f:Int->Prog β) (M:Int) (t:Nat) (R:β->GS->Prop):Prop:=∀(v:Int) (G':GS) (L:List (Int×Int)),Inv G'->Ext G G'->FrzN G' n L->v=L.length->Safe M t (f v) R G'
theorem Q5L:∀(fu:Nat) {β:Type} {R:β->GS->Prop} {f:Int->Prog β} {n:Int} {G:GS},Inv G->Nod G n->Qhc G n f M t R->Safe M t ((Q2v fu n).bind f) R G
 |0,_,_,_,_,_,_,_,_=>trivial
 |fu+1,β,R,f,n,G,hi,hn,k=>by
  have go:∀(gu:Nat) (i all:Int) (G1:GS) (Ls:Int->List (Int×Int)) (f:Int->Prog β),Inv G1->Nod G1 n->G1.gate n=true->0<=i->i<=G1.deg n->FzTo G1 n i Ls->all=((Q3l Ls i.toNat).length:Int)->
    (∀(v:Int) (G':GS) (Ls:Int->List (Int×Int)),Inv G'->Ext G1 G'->FzTo G' n (G'.deg n) Ls->v=((Q3l Ls (G'.deg n).toNat).length:Int)->Safe M t (f v) R G')->
    Safe M t ((Q23 (fu+1) (Q2v fu) gu n (G1.deg n) i all).bind f) R G1:=by
   intro gu
   induction gu with
   |zero=>intros;exact trivial
   |succ gu ih=>
    intro i all G1 Ls f i1 n1 g1 h0 hd fz ha kk;show Safe M t ((if i<G1.deg n/\false=false then _ else _:Prog Int).bind f) R G1;by_cases c:i<G1.deg n
    ·rw[if_pos ⟨c,rfl⟩]
     have a1:G1.At n i:=⟨n1.ty,h0,c⟩
     rw[Q02]
     have hca:Q06 n (G1.deg n) i=G1.sa n i:=by
      have:=i1.cap n (by rw[n1.ty];decide)
      rw[Q3Z n1.ty] at this
      exact Q31 (by omega) (by omega) (by omega) (by omega) h0 (by omega)
     rw[hca]
     refine Q8r _ a1 (n1.cmp i h0 c) i1 fun w G2 i2 x2 vw st=> ?_;obtain ⟨st,lg⟩:=st g1;have n2:=n1.ext x2;have g2:=x2.gate n n1.ty g1;have ed:=x2.deg n (by rw[n1.ty];decide);have fz2:=fz.ext i1 x2 n1.ty hd;have vk:=vw.ne
     have next:∀(L:List (Int×Int)) (G3:GS),Inv G3->Ext G2 G3->FW G3 w L->∀all',all'=wrap64 (all+L.length)->Safe M t ((Q23 (fu+1) (Q2v fu) gu n (G1.deg n) (i+1) all').bind f) R G3:=by
      intro L G3 i3 x3 fw all' ea;have x13:=x2.trans x3;have n3:=n1.ext x13;have e3:=x13.deg n (by rw[n1.ty];decide);obtain ⟨st3,lg3⟩:=x3.set n i (x2.at_ a1) st;have fz3:=fz.ext i1 x13 n1.ty hd
      have fzn:FzTo G3 n (i+1) (upd Ls i L):=fun j j0 j1=>by
       by_cases e:j=i
       ·subst e
        rw[Q0g,lg3,lg];exact ⟨st3,fw⟩
       ·rw[Q0z _ _ e];exact fz3 j j0 (by omega)
      have hlen:=(fzn.asc i3 n3.ty (by omega) (by rw[e3];omega)).len i3;have efl:Q3l (upd Ls i L) (i+1).toNat=Q3l Ls i.toNat++L:=by rw[Q91 h0,QeZ h0,Q0g]
      rw[efl,List.length_append] at hlen
      rw[<-e3];refine ih (i+1) all' G3 (upd Ls i L) f i3 n3 (x13.gate n n1.ty g1) (by omega) (by rw[e3];omega) fzn ?_ (fun v G' Ls' i' x'=>kk v G' Ls' i' (x13.trans x'))
      rw[efl,List.length_append,ea,ha,Q2q (by omega) (by omega)]
      omega
     rw[Q02]
     by_cases k2:Q05 w=2
     ·rw[if_pos k2]
      exact next [(G2.k1 (wAt w),G2.v1 (wAt w))] G2 i2 (Ext.refl _) ⟨fun h=>by omega,fun _=>rfl,fun h=>by omega,fun h=>by omega⟩ _ rfl
     ·rw[if_neg k2]
      by_cases k3:Q05 w=3
      ·rw[if_pos k3,Q02]
       refine Q5L fu i2 (vw.nod k3) fun v G3 L i3 x3 fr ev=> ?_;exact next L G3 i3 x3 ⟨fun h=>by omega,fun h=>by omega,fun _=>fr,fun h=>by omega⟩ _ (by rw[ev])
      ·rw[if_neg k3]
       by_cases k4:Q05 w=4
       ·rw[if_pos k4,Q02]
        have t4:G2.ty (wAt w)=4:=by rw[vw.ty];exact k4
        refine Safe.read fun C3 G3 r3 p3=> ?_;have t43:=r3.ext.t4 t4;have rk:=r3.inv.reb _ t43;rw[(p3.reb _ t43).1,rk.k.2,Q02];refine Q5L fu r3.inv rk.nod fun v G4 L i4 x4 fr ev=> ?_;refine next L G4 i4 (r3.ext.trans x4) ⟨fun h=>by omega,fun h=>by omega,fun h=>by omega,fun _=> ?_⟩ _ (by rw[ev])
        rw[x4.tgt _ (by omega)];exact fr
       ·rw[if_neg k4]
        exact next [] G2 i2 (Ext.refl _) ⟨fun _=>rfl,fun h=>by omega,fun h=>by omega,fun h=>by omega⟩ _ (by have h1:=(fz2.asc i2 n2.ty h0 (by omega)).len i2;simp;rw[Q2q (by omega) (by omega)])
    ·rw[if_neg (fun h=>c h.1)]
     have e:i=G1.deg n:=by omega
     subst e;exact kk all G1 Ls i1 (Ext.refl _) fz ha
  show Safe M t (((Q0e (n+4)).bind fun s=>_).bind f) R G
  rw[Q02]
  refine Safe.read fun C1 G1 r1 p1=> ?_;have n1:=hn.ext r1.ext
  rw[p1.sum n n1.ty]
  by_cases c:G1.sum n=0
  ·rw[if_pos c,Q02]
   refine Safe.write fun C2 G2 r2 p2=> ?_;have n2:=n1.ext r2.ext;obtain ⟨s1,s2,s3⟩:=Qcl r2.inv p2 n2.ty n2.ne;refine ⟨_,s1,Guar.of ⟨s2,s3⟩ rfl, ?_⟩;have g3:(G2.shut n).gate n=true:=Q0g _ _ _;have n3:=n2.ext s3;generalize G2.shut n=G3 at s1 s2 s3 g3 n3
   rw[Q02]
   refine Safe.read fun C4 G4 r4 p4=> ?_;have n4:=n3.ext r4.ext;have x4:=((r1.ext.trans r2.ext).trans s3).trans r4.ext;rw[(p4.deg n n4.ty).2,Q02];refine go (fu+1) 0 0 G4 (fun _=>[]) _ r4.inv n4 (r4.ext.gate n n3.ty g3) (by omega) (by have:=(p4.deg n n4.ty).1;omega) (fun j j0 j1=>by omega) rfl ?_;intro v G5 Ls i5 x5 fz ev;have n5:=n4.ext x5
   rw[Q02]
   have hlen:=(fz.asc i5 n5.ty (by have:=i5.cap n (by rw[n5.ty];decide);rw[Q3Z n5.ty] at this;have:=p4.degB n4.ty;have:=x5.deg n (by rw[n4.ty];decide);omega) (Int.le_refl _)).len i5;refine Safe.write fun C6 G6 r6 p6=> ?_;have n6:=n5.ext r6.ext;have fz6:=fz.ext i5 r6.ext n5.ty (Int.le_refl _);have e6:=r6.ext.deg n (by rw[n5.ty];decide);rw[<-e6] at fz6 ev hlen;obtain ⟨z1,z2,z3,z4⟩:=Qel (v:=wrap64 (v+1)) r6.inv p6 n6.ty fz6 (by rw[Q2q (by omega) (by omega),ev]);exact ⟨_,z1,Guar.of ⟨z2,z3⟩ rfl,k v _ _ z2 (((x4.trans x5).trans r6.ext).trans z3) z4 ev⟩
  ·rw[if_neg c]
   obtain ⟨L,fr⟩:=(r1.inv.inn n n1.ty).sum c;have hl:=r1.inv.frlen fr;exact k _ G1 L r1.inv r1.ext fr (by rw[fr.sm,show (L.length:Int)+1-1=L.length by omega,Q2q (by omega) (by omega)])
end
def sel (L:List (Int×Int)) (a b:Int):List (Int×Int):=(L.take b.toNat).drop a.toNat
theorem Q7u {L:List (Int×Int)} {a b:Int} (h:b<=a\/b<=0\/(L.length:Int)<=a):sel L a b=[]:=by
 unfold sel
 rw[List.drop_eq_nil_iff,List.length_take]
 omega
theorem Qcv (a b:Int):sel [] a b=[]:=by simp[sel]
theorem Qcw (A B:List (Int×Int)) (a b:Int):sel (A++B) a b=sel A a b++sel B (a-A.length) (b-A.length):=by
 unfold sel
 rw[List.take_append,List.drop_append,List.length_take]
 rw[show (b-(A.length:Int)).toNat=b.toNat-A.length by omega]
 by_cases h:A.length<=b.toNat
 ·rw[show min b.toNat A.length=A.length by omega,show (a-(A.length:Int)).toNat=a.toNat-A.length by omega]
 ·rw[show b.toNat-A.length=0 by omega];simp
theorem Qer {A B:List (Int×Int)} {a b:Int} (h:b<=A.length):sel (A++B) a b=sel A a b:=by
 rw[Qcw,Q7u (L:=B) (by omega),List.append_nil]
theorem QfN {x:Int×Int} {a b:Int} (h:0<b):sel [x] a b=if a<=0 then [x] else []:=by
 unfold sel
 rw[List.take_of_length_le (by simp;omega)]
 split
 ·rw[show a.toNat=0 by omega];rfl
 ·rw[List.drop_eq_nil_iff];simp;omega
section
variable {β:Type} {M:Int} {t:Nat} {C:List Int} {G G':GS} {R:β->GS->Prop}
theorem Qcz {n i:Int} {f:Int->Prog β} (a:G.At n i) (s:Settled G n i) (k:∀G',Inv G'->Ext G G'->Safe M t (f (G.lg n i)) R G'):Safe M t ((Q2V (G.sa n i)).bind f) R G:=by
 unfold Q2V
 rw[Q02]
 refine Safe.read fun C1 G1 r1 p1=> ?_;have a1:=r1.ext.at_ a;obtain ⟨s1,e1⟩:=r1.ext.set n i a s;rw[<-r1.ext.sa a.ty,p1.slot n i a1];by_cases c:Q05 (G1.slot n i)=5
 ·rw[if_pos c,Q02]
  obtain ⟨t5,hp⟩:G1.ty (wAt (G1.slot n i))=5/\G1.placed (wAt (G1.slot n i))=true:=by
   rcases r1.inv.sw a1 with e|v|v
   ·exact absurd e s1.ne
   ·have:=v.ne;omega
   ·exact ⟨v.2.1,v.2.2.2.2⟩
  have dec:=s1.dec c;have hlg:G1.lg n i=if G1.out (wAt (G1.slot n i))=1 then G1.nw (wAt (G1.slot n i)) else G1.od (wAt (G1.slot n i)):=if_pos c;generalize wAt (G1.slot n i)=b at t5 hp dec hlg;have d1:=r1.inv.dcs b t5;refine Safe.read fun C2 G2 r2 p2=> ?_;have t2:=r2.ext.t5 t5;have d2:=r2.inv.dcs b t2;rw[(p2.dcs b t2).2.2.2.2]
  have ho:G2.out b=1↔G1.out b=1:=by
   rcases dec with l|o
   ·have l2:G2.late b=true:=by rw[r2.ext.late b t5 hp];exact l
    exact ⟨fun h=>absurd h (d2.late l2).2.2,fun h=>absurd h (d1.late l).2.2⟩
   ·rw[r2.ext.out b t5 o]
  by_cases o1:G2.out b=1
  ·rw[if_pos o1]
   refine Safe.read fun C3 G3 r3 p3=> ?_;have t3:=r3.ext.t5 t2;rw[(p3.dcs b t3).2.2.2.1,r3.ext.nw b (by omega),r2.ext.nw b (by omega),<-(hlg.trans (if_pos (ho.1 o1))),e1];exact k G3 r3.inv ((r1.ext.trans r2.ext).trans r3.ext)
  ·rw[if_neg o1]
   refine Safe.read fun C3 G3 r3 p3=> ?_;have t3:=r3.ext.t5 t2;rw[(p3.dcs b t3).2.2.1,r3.ext.od b (by omega),r2.ext.od b (by omega),<-(hlg.trans (if_neg (fun h=>o1 (ho.2 h)))),e1];exact k G3 r3.inv ((r1.ext.trans r2.ext).trans r3.ext)
 ·rw[if_neg c]
  have:G1.lg n i=G1.slot n i:=GS.lw_of _ c;rw[<-this,e1];exact k G1 r1.inv r1.ext
theorem Q4I {x:Int} (h0:-9223372036854775808<=x) (h1:x<=9223372036854775807):wrap64 x=x:=by unfold wrap64;omega
theorem Q37:∀(fu:Nat) {β:Type} {R:β->GS->Prop} {f:List (Int×Int)->Prog β} {n a b:Int} {out L:List (Int×Int)} {G:GS},Inv G->FrzN G n L->(L.length:Int)-16384<=a->a<=1000000->(L.length:Int)-16384<=b->b<=1000000->
  (∀G',Inv G'->Ext G G'->Safe M t (f (out++sel L a b)) R G')->Safe M t ((Q0Q fu n a b out).bind f) R G
 |0,_,_,_,_,_,_,_,_,_,_,_,_,_,_,_,_=>trivial
 |fu+1,β,R,f,n,a,b,out,L,G,hi,fr,a0,a1,b0,b1,k=>by
  obtain ⟨Ls,eL,fz⟩:=fr.parts;have t3:=fr.ty3
  have go:∀(gu:Nat) (i rank:Int) (out':List (Int×Int)) (G1:GS),Inv G1->G1.ty n=3->FzTo G1 n (G1.deg n) Ls->0<=i->i<=G1.deg n->rank=((Q3l Ls i.toNat).length:Int)->out'=out++sel (Q3l Ls i.toNat) a b->Q3l Ls (G1.deg n).toNat=L->
    (∀G',Inv G'->Ext G1 G'->Safe M t (f (out++sel (Q3l Ls (G1.deg n).toNat) a b)) R G')->Safe M t ((Q0Y (Q0Q fu) gu n (G1.deg n) a b i rank out').bind f) R G1:=by
   intro gu
   induction gu with
   |zero=>intros;exact trivial
   |succ gu ih=>
    intro i rank out' G1 i1 t1 fz h0 hd er eo eL1 kk;have eL2:(Q3l Ls (G1.deg n).toNat).length=L.length:=by rw[eL1]
    show Safe M t ((if (i<G1.deg n/\rank<b)/\false=false then _ else _:Prog (List (Int×Int))).bind f) R G1
    have hlen:(Q3l Ls (G1.deg n).toNat).length<=16384:=by
     have hc:=i1.cap n (by omega)
     rw[Q3Z t1] at hc
     have:=(fz.asc i1 t1 (by omega) (Int.le_refl _)).len i1;omega
    have pre:∀j:Int,0<=j->j<=G1.deg n->∃Z,Q3l Ls (G1.deg n).toNat=Q3l Ls j.toNat++Z:=by
     intro j j0 j1
     have:∀d:Nat,∃Z,Q3l Ls (j.toNat+d)=Q3l Ls j.toNat++Z:=by
      intro d
      induction d with
      |zero=>exact ⟨[],(List.append_nil _).symm⟩
      |succ d ihd=>
       obtain ⟨Z,e⟩:=ihd;refine ⟨Z++Ls ((j.toNat+d:Nat):Int), ?_⟩;rw[<-List.append_assoc,<-e];rfl
     obtain ⟨Z,e⟩:=this ((G1.deg n).toNat-j.toNat);exact ⟨Z,by rw[<-e];congr 1;omega⟩
    obtain ⟨Z,eZ⟩:=pre i h0 hd;by_cases c:i<G1.deg n/\rank<b
    ·rw[if_pos ⟨c,rfl⟩,Q02]
     have at1:G1.At n i:=⟨t1,h0,c.1⟩
     have hca:Q06 n (G1.deg n) i=G1.sa n i:=by
      have:=i1.cap n (by omega)
      rw[Q3Z t1] at this
      exact Q31 (by omega) (by omega) (by omega) (by omega) h0 (by omega)
     obtain ⟨st,fw⟩:=fz i h0 c.1
     rw[hca]
     refine Qcz at1 st fun G2 i2 x2=> ?_;obtain ⟨st2,lg2⟩:=x2.set n i at1 st;have vw:=i1.lgv at1 st.ne;have vk:=vw.ne;have ed2:=x2.deg n (by omega);have fz2:=fz.ext i1 x2 t1 (Int.le_refl _);rw[<-ed2] at fz2;have nl:Q3l Ls (i+1).toNat=Q3l Ls i.toNat++Ls i:=Q91 h0;obtain ⟨Z1,eZ1⟩:=pre (i+1) (by omega) (by omega)
     have hl1:(Q3l Ls i.toNat).length+(Ls i).length<=16384:=by
      rw[eZ1,nl] at hlen;simp at hlen;omega
     have hl2:(Q3l Ls i.toNat).length+(Ls i).length<=(Q3l Ls (G1.deg n).toNat).length:=by
      rw[eZ1,nl,List.length_append,List.length_append];omega
     have next:∀(G3:GS) (rank':Int) (o3:List (Int×Int)),Inv G3->Ext G2 G3->rank'=rank+(Ls i).length->o3=out'++sel (Ls i) (a-rank) (b-rank)->Safe M t ((Q0Y (Q0Q fu) gu n (G1.deg n) a b (i+1) rank' o3).bind f) R G3:=by
      intro G3 rank' o3 i3 x3 e1 e2;have ed3:=x3.deg n (by rw[x2.t3 t1];decide);rw[<-ed2,<-ed3];have fz3:=fz2.ext i2 x3 (x2.t3 t1) (Int.le_refl _);rw[<-ed3] at fz3;refine ih (i+1) rank' o3 G3 i3 (x3.t3 (x2.t3 t1)) fz3 (by omega) (by omega) (by rw[nl,List.length_append];omega) (by rw[e2,eo,nl,Qcw,er,List.append_assoc]) (by rw[ed3,ed2];exact eL1) (fun G' i' x'=> ?_)
      rw[ed3,ed2]
      exact kk G' i' ((x2.trans x3).trans x')
     by_cases k2:Q05 (G1.lg n i)=2
     ·rw[if_pos k2,Q02]
      have eLi:=fw.e2 k2;have tl:G1.ty (wAt (G1.lg n i))=2:=by rw[vw.ty];exact k2
      have hs1:sel (Ls i) (a-rank) (b-rank)=if a<=rank then [(G1.k1 (wAt (G1.lg n i)),G1.v1 (wAt (G1.lg n i)))] else []:=by
       rw[eLi,QfN (by omega)]
       by_cases h:a<=rank
       ·rw[if_pos h,if_pos (by omega)]
       ·rw[if_neg h,if_neg (by omega)]
      have el:(Ls i).length=1:=by rw[eLi];rfl
      rw[Q4I (by omega) (by omega)]
      by_cases h:a<=rank
      ·rw[if_pos h] at hs1|-
       rw[Q02]
       refine Safe.read fun C3 G3 r3 p3=> ?_;have x3:=x2.trans r3.ext;have tl3:G3.ty (wAt (G1.lg n i))=2:=by rw[x3.ty _ (by omega)];exact tl
       rw[(p3.leaf _ tl3).1,x3.k1 _ (by omega),Q02];refine Safe.read fun C4 G4 r4 p4=> ?_;have x4:=x3.trans r4.ext;have tl4:G4.ty (wAt (G1.lg n i))=2:=by rw[x4.ty _ (by omega)];exact tl
       rw[(p4.leaf _ tl4).2,x4.v1 _ (by omega)];exact next G4 _ _ r4.inv (r3.ext.trans r4.ext) (by omega) (by rw[hs1])
      ·rw[if_neg h] at hs1|-
       exact next G2 _ _ i2 (Ext.refl _) (by omega) (by rw[hs1,List.append_nil])
     ·rw[if_neg k2]
      by_cases k34:Q05 (G1.lg n i)=3\/Q05 (G1.lg n i)=4
      ·rw[if_pos k34,Q02]
       have inner:∀(m:Int) (G3:GS),Inv G3->Ext G2 G3->FrzN G3 m (Ls i)->Safe M t (((Q0e (m+4)).bind fun s=>(if a<wrap64 (rank+wrap64 (s-1)) then Q0Q fu m (wrap64 (a-rank)) (wrap64 (b-rank)) out' else .ret out').bind fun out''=>Q0Y (Q0Q fu) gu n (G1.deg n) a b (i+1) (wrap64 (rank+wrap64 (s-1))) out'').bind f) R G3:=by
        intro m G3 i3 x3 fm
        rw[Q02]
        refine Safe.read fun C4 G4 r4 p4=> ?_;have fm4:=i3.frx r4.ext fm
        rw[p4.sum m fm4.ty3,fm4.sm,show ((Ls i).length:Int)+1-1=(Ls i).length by omega,Q4I (x:=((Ls i).length:Int)) (by omega) (by omega),Q4I (x:=rank+((Ls i).length:Int)) (by omega) (by omega),Q02]
        by_cases h:a<rank+(Ls i).length
        ·rw[if_pos h,Q4I (by omega) (by omega),Q4I (by omega) (by omega)]
         exact Q37 fu r4.inv fm4 (by omega) (by omega) (by omega) (by omega) (fun G5 i5 x5=>next G5 _ _ i5 ((x3.trans r4.ext).trans x5) rfl rfl)
        ·rw[if_neg h]
         exact next G4 _ _ r4.inv (x3.trans r4.ext) rfl (by rw[Q7u (by omega),List.append_nil])
       by_cases k4:Q05 (G1.lg n i)=4
       ·rw[if_pos k4,Q02]
        have t4:G1.ty (wAt (G1.lg n i))=4:=by rw[vw.ty];exact k4
        refine Safe.read fun C3 G3 r3 p3=> ?_;have x3:=x2.trans r3.ext;have t43:=x3.t4 t4;rw[(p3.reb _ t43).1];rw[(r3.inv.reb _ t43).k.2,x3.tgt _ (by omega)];exact inner _ G3 r3.inv r3.ext (i1.frx x3 (fw.e4 k4))
       ·rw[if_neg k4]
        exact inner _ G2 i2 (Ext.refl _) (i1.frx x2 (fw.e3 (by omega)))
      ·rw[if_neg k34]
       have e1:Ls i=[]:=fw.e1 (by omega);exact next G2 _ _ i2 (Ext.refl _) (by rw[e1];simp) (by rw[e1,Qcv,List.append_nil])
    ·rw[if_neg (fun h=>c h.1)]
     show Safe M t (f out') R G1;have:=kk G1 i1 (Ext.refl _)
     rw[eo]
     by_cases e:i=G1.deg n
     ·rw[e];exact this
     ·rw[eZ,Qer (by omega)] at this;exact this
  show Safe M t (((Q0e n).bind fun d=>_).bind f) R G
  rw[Q02]
  refine Safe.read fun C1 G1 r1 p1=> ?_;have t1:=r1.ext.t3 t3;have ed:=r1.ext.deg n (by omega);rw[(p1.deg n t1).2]
  have fz1:FzTo G1 n (G1.deg n) Ls:=by
   have:FzTo G n (G.deg n) Ls:=fz
   rw[ed];exact this.ext hi r1.ext t3 (Int.le_refl _)
  refine go (fu+1) 0 0 out G1 r1.inv t1 fz1 (by omega) (by have:=(p1.deg n t1).1;omega) rfl (by show out=out++sel [] a b;rw[Qcv,List.append_nil]) (by rw[ed];exact eL.symm) (fun G' i' x'=> ?_)
  rw[ed,<-eL]
  exact k G' i' (r1.ext.trans x')
end
theorem QcE {n:Int} (h0:2<=n) (h1:n<=16384) {i:Int} (i0:0<=i):∀k:Nat,i+k<=Q00 n->Q6Q n i+k<=Q6Q n (i+k)
 |0,_=>by simp
 |k+1,h=>by
  have e:=Q3t h0 h1 (i:=i+k) (by omega) (by omega);have s:=(Q26 h0 h1 (i:=i+k) (by omega) (by omega)).2.1;have:=QcE h0 h1 i0 k (by omega)
  rw[show i+((k+1:Nat):Int)=i+k+1 by omega,e]
  omega
theorem QcF {n:Int} (h0:2<=n) (h1:n<=16384) {i j:Int} (i0:0<=i) (ij:i<j) (jd:j<=Q00 n):Q6Q n i<Q6Q n j:=by
 have:=QcE h0 h1 i0 (j-i).toNat (by omega)
 rw[show i+((j-i).toNat:Int)=j by omega] at this
 omega
def bnd (l:List (Int×Int)) (a b i:Int):Int:=if i<=0 then a else if Q00 l.length<=i then b+1 else Q17 l (Q0R l.length i).toNat
section
variable {l:List (Int×Int)} {a b:Int}
theorem Qgo:bnd l a b 0=a:=if_pos (by decide)
theorem Qge (h:0<Q00 l.length):bnd l a b (Q00 l.length)=b+1:=by unfold bnd;rw[if_neg (by omega),if_pos (Int.le_refl _)]
theorem Qec {i:Int} (h0:0<i) (h1:i<Q00 l.length):bnd l a b i=Q17 l (Q0R l.length i).toNat:=by unfold bnd;rw[if_neg (by omega),if_neg (by omega)]
theorem Q3z (h2:2<=l.length) (h3:l.length<=16384) {i:Int} (i0:0<=i) (i1:i<Q00 l.length):0<=Q0R l.length i/\1<=Q14 l.length i/\Q0R l.length i+Q14 l.length i<=l.length/\Q14 l.length i<l.length/\Q0R l.length i+Q14 l.length i=Q6Q l.length (i+1):=by
 have h2':(2:Int)<=l.length:=by omega
 have h3':(l.length:Int)<=16384:=by omega
 have e:=Q3t h2' h3' i0 i1;have b1:=Q4U h2' h3' (i:=i+1) (by omega) (by omega);have b0:=Q4U h2' h3' (i:=i) (by omega) (by omega);have s:=Q26 h2' h3' i0 i1
 rw[Q2c i0 i1]
 omega
theorem QdR (h:AscB a b l) (h2:2<=l.length) (h3:l.length<=16384) {i j:Int} (i0:0<=i) (ij:i<j) (jd:j<=Q00 l.length):bnd l a b i<bnd l a b j:=by
 have h2':(2:Int)<=l.length:=by omega
 have h3':(l.length:Int)<=16384:=by omega
 have lo0:=h.lo 0 (by omega);have hi0:=h.hi 0 (by omega);by_cases ez:i=0
 ·subst ez
  rw[Qgo]
  by_cases e:j=Q00 l.length
  ·subst e;rw[Qge (by omega)];omega
  ·rw[Qec (by omega) (by omega)]
   have f:=Q3z h2 h3 (i:=j) (by omega) (by omega);have r:=QcF h2' h3' (i:=0) (j:=j) (by decide) ij jd;have z:=Q5V h2' h3'
   rw[Q2c (by omega) (by omega)] at f|-
   have:=h.lt 0 (Q6Q l.length j).toNat (by omega) (by omega);omega
 ·rw[Qec (i:=i) (by omega) (by omega)]
  have fi:=Q3z h2 h3 (i:=i) i0 (by omega);by_cases e:j=Q00 l.length
  ·subst e
   rw[Qge (by omega)]
   have:=h.hi (Q0R l.length i).toNat (by omega);omega
  ·rw[Qec (i:=j) (by omega) (by omega)]
   have fj:=Q3z h2 h3 (i:=j) (by omega) (by omega);have r:=QcF h2' h3' i0 ij jd
   rw[Q2c (i:=i) i0 (by omega),Q2c (i:=j) (by omega) (by omega)] at*
   exact h.lt _ _ (by omega) (by omega)
theorem Q8I (l:List (Int×Int)) {x n:Int} {k:Nat} (h:k<n.toNat):Q17 (Q6I l x n) k=Q17 l (x.toNat+k)/\Q4b (Q6I l x n) k=Q4b l (x.toNat+k):=by
 unfold Q17 Q4b Q6I
 rw[List.getD_eq_getElem?_getD,List.getD_eq_getElem?_getD,List.getElem?_take,if_pos h,List.getElem?_drop]
 exact ⟨rfl,rfl⟩
theorem QfI (l:List (Int×Int)) {x n:Int} (x0:0<=x) (n0:0<=n) (h:x+n<=l.length):((Q6I l x n).length:Int)=n:=by
 unfold Q6I
 rw[List.length_take,List.length_drop]
 omega
theorem Q9r (h:AscB a b l) (h2:2<=l.length) (h3:l.length<=16384) {i:Int} (i0:0<=i) (i1:i<Q00 l.length):AscB (bnd l a b i) (bnd l a b (i+1)-1) (Q6I l (Q0R l.length i) (Q14 l.length i))/\((Q6I l (Q0R l.length i) (Q14 l.length i)).length:Int)=Q14 l.length i:=by
 have f:=Q3z h2 h3 i0 i1;have sl:=QfI l f.1 (by omega) f.2.2.1;refine ⟨⟨fun j k jk hk=> ?_,fun j hj=> ?_,fun j hj=> ?_⟩,sl⟩
 ·rw[(Q8I l (by omega)).1,(Q8I l (by omega)).1];exact h.lt _ _ (by omega) (by omega)
 ·rw[(Q8I l (by omega)).1];by_cases e:i=0
  ·subst e;rw[Qgo];exact h.lo _ (by omega)
  ·rw[Qec (by omega) i1]
   by_cases ej:j=0
   ·subst ej;exact Int.le_refl _
   ·have:=h.lt (Q0R l.length i).toNat ((Q0R l.length i).toNat+j) (by omega) (by omega);omega
 ·rw[(Q8I l (by omega)).1];by_cases e:i+1=Q00 l.length
  ·rw[e,Qge (by omega)]
   have:=h.hi ((Q0R l.length i).toNat+j) (by omega);omega
  ·rw[Qec (i:=i+1) (by omega) (by omega)]
   have f1:=Q3z h2 h3 (i:=i+1) (by omega) (by omega);have e1:Q0R l.length (i+1)=Q0R l.length i+Q14 l.length i:=by rw[f.2.2.2.2,Q2c (by omega) (by omega)]
   have:=h.lt ((Q0R l.length i).toNat+j) (Q0R l.length (i+1)).toNat (by omega) (by omega);omega
theorem QfM {L:List (Int×Int)} {x n:Int} (x0:0<=x) (n0:0<=n):sel L x (x+n)=Q6I L x n:=by
 unfold sel Q6I
 rw[List.drop_take]
 congr 1
 omega
end
theorem Q3S {q:List Int} {v:Int} {j:Nat}:keyAt (q++[v]) j=if j<q.length then keyAt q j else if j=q.length then v else 0:=by
 unfold keyAt
 rw[List.getD_eq_getElem?_getD,List.getD_eq_getElem?_getD]
 by_cases h:j<q.length
 ·rw[if_pos h,List.getElem?_append_left h]
 ·rw[if_neg h,List.getElem?_append_right (by omega)]
  by_cases e:j=q.length
  ·rw[if_pos e,e];simp
  ·rw[if_neg e,List.getElem?_eq_none (by simp;omega)];rfl
theorem Qdd (n j:Nat):keyAt (List.replicate n 0) j=0:=by
 unfold keyAt
 rw[List.getD_eq_getElem?_getD,List.getElem?_replicate]
 split<;>rfl
section
variable {β:Type} {M:Int} {t:Nat} {C:List Int} {G G':GS} {R:β->GS->Prop}
def Qhd (G:GS) (l:List (Int×Int)) (a b r0:Int) (f:Int×Bool->Prog β) (M:Int) (t:Nat) (R:β->GS->Prop):Prop:=
 (∀w G',Inv G'->Ext G G'->Safe M t (f (w,false)) R G')/\(∀w G',Inv G'->Ext G G'->VR G' a b w->r0<wAt w->(l.length=0->Q05 w=1)->(l.length=1->Q05 w=2/\G'.k1 (wAt w)=Q17 l 0/\G'.v1 (wAt w)=Q4b l 0)->Safe M t (f (w,true)) R G')
theorem Q2K (p:Rep C G) {m k:Int} (hm:m=C.length+1) (k0:1<=k) (k1:k<=5) (hb:(C.length:Int)+1<=16384):Q05 (wOf k m)=k/\wAt (wOf k m)=m/\0<m:=by
 have:=Qa6 (k:=k) (a:=m) k0 k1 (by omega) (by omega);exact ⟨this.1,this.2,by omega⟩
theorem Q4n (hM:M<=16384):∀(fu:Nat) {β:Type} {R:β->GS->Prop} {f:Int×Bool->Prog β} {l:List (Int×Int)} {a b r0:Int} {G:GS},Inv G->AscB a b l->l.length<=16384->G.ty r0≠0->Qhd G l a b r0 f M t R->Safe M t ((Q2b fu l).bind f) R G
 |0,_,_,_,_,_,_,_,_,_,_,_,_,_=>trivial
 |fu+1,β,R,f,l,a,b,r0,G,hi,ha,hl,hr,⟨kn,ky⟩=>by
  show Safe M t ((if l.length=0 then _ else if l.length=1 then _ else _:Prog (Int×Bool)).bind f) R G;by_cases c0:l.length=0
  ·rw[if_pos c0,Q02]
   refine Safe.make hM (fun C1 G1 r1 p1=>kn _ G1 r1.inv r1.ext) (fun C1 G1 r1 p1 _ hb=> ?_);obtain ⟨s1,s2,s3⟩:=Q5I (a:=a) (b:=b) r1.inv p1 rfl (by simpa using hb);have cp:=Q2K (k:=1) p1 rfl (by decide) (by decide) (by simpa using hb);have lt:=p1.used (a:=r0) (by rw[r1.ext.ty _ hr];exact hr);refine ⟨_,s1,Guar.of ⟨s2,s3⟩ rfl, ?_⟩;show Safe M t (f (_,decide (0<(C1.length:Int)+1))) R _
   rw[decide_eq_true cp.2.2]
   refine ky _ _ s2 (r1.ext.trans s3) ⟨by omega,by omega, ?_,fun _=> ?_,fun k=>by omega,fun k=>by omega⟩ (by omega) (fun _=>cp.1) (fun h=>by omega)
   ·rw[cp.2.1,cp.1];exact Q0g _ _ _
   ·rw[cp.2.1];exact ⟨Q0g _ _ _,Q0g _ _ _⟩
  ·rw[if_neg c0]
   by_cases c1:l.length=1
   ·rw[if_pos c1,Q02]
    refine Safe.make hM (fun C1 G1 r1 p1=>kn _ G1 r1.inv r1.ext) (fun C1 G1 r1 p1 _ hb=> ?_);simp only[List.length_cons,List.length_nil] at hb;obtain ⟨s1,s2,s3⟩:=Q5H (k:=Q17 l 0) (v:=Q4b l 0) r1.inv p1 rfl (by omega);have cp:=Q2K (k:=2) p1 rfl (by decide) (by decide) (by omega);have lt:=p1.used (a:=r0) (by rw[r1.ext.ty _ hr];exact hr);refine ⟨_,s1,Guar.of ⟨s2,s3⟩ rfl, ?_⟩;show Safe M t (f (_,decide (0<(C1.length:Int)+1))) R _
    rw[decide_eq_true cp.2.2]
    have e1:(G1.newL ((C1.length:Int)+1) (Q17 l 0) (Q4b l 0)).k1 ((C1.length:Int)+1)=Q17 l 0:=Q0g _ _ _;have e2:(G1.newL ((C1.length:Int)+1) (Q17 l 0) (Q4b l 0)).v1 ((C1.length:Int)+1)=Q4b l 0:=Q0g _ _ _;refine ky _ _ s2 (r1.ext.trans s3) ⟨by omega,by omega, ?_,fun k=>by omega,fun _=> ?_,fun k=>by omega⟩ (by omega) (fun h=>by omega) (fun _=>⟨cp.1, ?_⟩)
    ·rw[cp.2.1,cp.1];exact Q0g _ _ _
    ·rw[cp.2.1,e1];exact ⟨ha.lo 0 (by omega),ha.hi 0 (by omega)⟩
    ·rw[cp.2.1];exact ⟨e1,e2⟩
   ·rw[if_neg c1]
    have h2:2<=l.length:=by omega
    have hd:=Q0L (n:=(l.length:Int)) (by omega) (by omega)
    have go:∀(m:Nat) (i:Int) (q c:List Int) (G1:GS),Inv G1->Ext G G1->0<=i->i+m=Q00 l.length->(c.length:Int)=i->(q.length:Int)=(if i=0 then 0 else i-1)->
      (∀j:Int,0<=j->j<i->VR G1 (bnd l a b j) (bnd l a b (j+1)-1) (keyAt c j.toNat))->(∀j:Int,1<=j->j<i->keyAt q (j-1).toNat=bnd l a b j)->
      Safe M t ((Q2F (Q2b fu) l m i q c).bind f) R G1:=by
     intro m
     induction m with
     |zero=>
      intro i q c G1 i1 x1 i0 im hc hq hv hk;have id:i=Q00 l.length:=by omega
      rw[if_neg (by omega)] at hq
      have hcq:c.length=q.length+1:=by omega
      show Safe M t (((Q1G (Q12 l.length q c) 0).bind fun a=>.ret (wOf 3 a,decide (0<a))).bind f) R G1
      rw[Q02,show Q12 l.length q c=Q0U l.length q c from if_pos hcq]
      refine Safe.make hM (fun C2 G2 r2 p2=>kn _ G2 r2.inv (x1.trans r2.ext)) (fun C2 G2 r2 p2 _ hb=> ?_);have hwl:((Q0U (l.length:Int) q c).length:Int)=4+2*c.length:=by simp[Q0U];omega
      obtain ⟨s1,s2,s3⟩:=Q4i (a:=a) (b:=b) (K:=bnd l a b) r2.inv p2 rfl hcq hb (by omega) Qgo (by rw[hc,id];exact Qge (by omega)) (fun x y x0 xy yd=>QdR ha h2 hl x0 xy (by omega))
       (fun j j0 j1=>.inl (hk j j0 (by omega))) (fun j j0 j1=>.inr ((hv j j0 (by omega)).ext r2.ext))
      have cp:=Q2K (k:=3) p2 rfl (by decide) (by decide) (by omega);have lt:=p2.used (a:=r0) (by rw[(x1.trans r2.ext).ty _ hr];exact hr);refine ⟨_,s1,Guar.of ⟨s2,s3⟩ rfl, ?_⟩;show Safe M t (f (_,decide (0<(C2.length:Int)+1))) R _
      rw[decide_eq_true cp.2.2]
      refine ky _ _ s2 ((x1.trans r2.ext).trans s3) ⟨by omega,by omega, ?_,fun k=>by omega,fun k=>by omega,fun _=> ?_⟩ (by omega) (fun h=>by omega) (fun h=>by omega)
      ·rw[cp.2.1,cp.1];exact Q0g _ _ _
      ·rw[cp.2.1]
       refine ⟨Q0g _ _ _,Q0g _ _ _,fun j j0 j1=> ?_,by have:=(r2.inv.cap 1 (by rw[r2.inv.r1.1];decide));have:=p2.used (a:=1) (by rw[r2.inv.r1.1];decide);omega⟩
       rw[show (GS.newI G2 ((C2.length:Int)+1) c.length a b (bnd l a b) (fun i=>keyAt q (i-1).toNat) (fun i=>keyAt c i.toNat)).deg ((C2.length:Int)+1)=c.length from Q0g _ _ _] at j1
       rw[show (GS.newI G2 ((C2.length:Int)+1) c.length a b (bnd l a b) (fun i=>keyAt q (i-1).toNat) (fun i=>keyAt c i.toNat)).slot ((C2.length:Int)+1)=(fun i=>keyAt c i.toNat) from Q0g _ _ _]
       intro e;have:=(hv j j0 (by omega)).k0;have e:keyAt c j.toNat=0:=e
       rw[e,Q1d] at this
       omega
     |succ m ih=>
      intro i q c G1 i1 x1 i0 im hc hq hv hk;show Safe M t (((Q2b fu (Q6I l (Q0R l.length i) (Q14 l.length i))).bind fun r=>if r.2=false then .ret (0,false) else Q2F (Q2b fu) l m (i+1) (if 0<i then q++[Q17 l (Q0R l.length i).toNat] else q) (c++[r.1])).bind f) R G1
      rw[Q02]
      obtain ⟨sa,sl⟩:=Q9r ha h2 hl i0 (show i<Q00 l.length by omega);have fb:=Q3z h2 hl i0 (show i<Q00 l.length by omega);refine Q4n hM fu (a:=bnd l a b i) (b:=bnd l a b (i+1)-1) (r0:=r0) i1 sa (by omega) (x1.at0 hr) ⟨fun w G2 i2 x2=> ?_,fun w G2 i2 x2 vr up _ _=> ?_⟩
      ·show Safe M t (f (0,false)) R G2;exact kn _ G2 i2 (x1.trans x2)
      ·show Safe M t ((Q2F (Q2b fu) l m (i+1) (if 0<i then q++[Q17 l (Q0R l.length i).toNat] else q) (c++[w])).bind f) R G2;refine ih (i+1) _ _ G2 i2 (x1.trans x2) (by omega) (by omega) (by simp;omega) ?_ (fun j j0 j1=> ?_) (fun j j0 j1=> ?_)
       ·by_cases z:i=0
        ·rw[if_neg (by omega),if_neg (by omega)];rw[if_pos z] at hq;omega
        ·rw[if_pos (by omega),if_neg (by omega),List.length_append]
         rw[if_neg z] at hq
         simp;omega
       ·rw[Q3S]
        by_cases e:j=i
        ·subst e
         rw[if_neg (by omega),if_pos (by omega)];exact vr
        ·rw[if_pos (by omega)];exact (hv j j0 (by omega)).ext x2
       ·by_cases z:i=0
        ·omega
        ·rw[if_neg z] at hq
         rw[if_pos (by omega),Q3S]
         by_cases e:j=i
         ·subst e
          rw[if_neg (by omega),if_pos (by omega),Qec (by omega) (by omega)]
         ·rw[if_pos (by omega)];exact hk j j0 (by omega)
    exact go (Q00 l.length).toNat 0 [] [] G hi (Ext.refl _) (by decide) (by omega) rfl rfl (fun j j0 j1=>by omega) (fun j j0 j1=>by omega)
end
section
variable {β:Type} {M:Int} {t:Nat} {C:List Int} {G G':GS} {R:β->GS->Prop}
theorem Inv.frB (h:Inv G) {n:Int} {L:List (Int×Int)} (f:FrzN G n L):AscB (G.lo n) (G.hi n) L:=(h.asc f).keys
structure RF (G:GS) (r:Int) (L:List (Int×Int)):Prop where
 ty:G.ty r=4
 fr:FrzN G (G.tgt r) L
theorem RF.ext {r:Int} {L:List (Int×Int)} (f:RF G r L) (h:Inv G) (x:Ext G G'):RF G' r L:=⟨x.t4 f.ty,by rw[x.tgt r (by have:=f.ty;omega)];exact h.frx x f.fr⟩
theorem RF.rng {r:Int} {L:List (Int×Int)} (f:RF G r L) (h:Inv G):G.lo (G.tgt r)=G.ks (G.nd r) (G.ix r)/\G.hi (G.tgt r)=G.ks (G.nd r) (G.ix r+1)-1:=by
 have k:=h.reb r f.ty;obtain ⟨a,b,-⟩:=k.v.e3 k.k.1
 rw[k.k.2] at a b
 exact ⟨a,b⟩
theorem Qes (hM:M<=16384) {fu:Nat} {r:Int} {L:List (Int×Int)} {f:Int×Bool->Prog β} (hi:Inv G) (rf:RF G r L) (kn:∀w G',Inv G'->Ext G G'->Safe M t (f (w,false)) R G') (ky:∀w G',Inv G'->Ext G G'->ResOk G' r w L->Safe M t (f (w,true)) R G'):
  Safe M t ((Qe6 fu (G.tgt r) L.length).bind f) R G:=by
 have hl:=hi.frlen rf.fr;have hb:=hi.frB rf.fr;have hrn:=rf.rng hi;have tr:=rf.ty;unfold Qe6;by_cases c2:2<=(L.length:Int)
 ·rw[if_pos c2,Q02]
  have hd:=Q0L c2 hl;have hmx:Q9E (Q00 L.length) 1=Q00 L.length:=by unfold Q9E;rw[if_neg (by omega)]
  rw[hmx]
  have hcq:(List.replicate (Q00 L.length).toNat (0:Int)).length=(List.replicate (Q00 (L.length:Int)-1).toNat (0:Int)).length+1:=by rw[List.length_replicate,List.length_replicate];omega
  have hcl:((List.replicate (Q00 L.length).toNat (0:Int)).length:Int)=Q00 L.length:=by rw[List.length_replicate];omega
  rw[show Q12 L.length (List.replicate (Q00 (L.length:Int)-1).toNat 0) (List.replicate (Q00 L.length).toNat 0)=Q0U L.length (List.replicate (Q00 (L.length:Int)-1).toNat 0) (List.replicate (Q00 L.length).toNat 0) from if_pos hcq]
  generalize hc:List.replicate (Q00 L.length).toNat (0:Int)=c at hcq hcl|-;generalize hq:List.replicate (Q00 (L.length:Int)-1).toNat (0:Int)=q at hcq|-;refine Safe.make hM (fun C1 G1 r1 p1=>kn _ G1 r1.inv r1.ext) (fun C1 G1 r1 p1 _ hb1=> ?_);have hwl:((Q0U (L.length:Int) q c).length:Int)=4+2*c.length:=by simp[Q0U];omega
  have cz:∀j,keyAt c j=0:=fun j=>by rw[<-hc];exact Qdd _ _
  obtain ⟨s1,s2,s3⟩:=Q4i (a:=G.lo (G.tgt r)) (b:=G.hi (G.tgt r)) (K:=bnd L (G.lo (G.tgt r)) (G.hi (G.tgt r))) r1.inv p1 rfl hcq hb1 (by omega) Qgo (by rw[hcl];exact Qge (by omega)) (fun x y x0 xy yd=>QdR hb (by omega) (by omega) x0 xy (by omega))
   (fun j _ _=>.inr (cz _)) (fun j _ _=>.inl (cz _))
  have cp:=Q2K (k:=3) p1 rfl (by decide) (by decide) (by omega);have lt:=p1.used (a:=r) (by rw[r1.ext.ty r (by omega)];omega);have l1:=p1.used (a:=1) (by rw[r1.inv.r1.1];decide);refine ⟨_,s1,Guar.of ⟨s2,s3⟩ rfl, ?_⟩;show Safe M t (f (_,decide (0<(C1.length:Int)+1))) R _
  rw[decide_eq_true cp.2.2]
  have x3:=r1.ext.trans s3;refine ky _ _ s2 x3 ⟨by omega,fun h=>by omega,fun h=>by omega,fun _=> ?_⟩;have hnt:G.ty (G.nd r)≠0:=by rw[(hi.reb r tr).hat.ty];decide
  rw[cp.2.1,x3.nd r (by omega),x3.ix r (by omega),x3.ks _ hnt]
  refine ⟨cp.1,Q0g _ _ _,(Q0g _ _ _).trans hcl,(Q0g _ _ _).trans hrn.1,(Q0g _ _ _).trans hrn.2,by omega,fun j j0 j1=> ?_⟩
  rw[show (GS.newI G1 ((C1.length:Int)+1) c.length (G.lo (G.tgt r)) (G.hi (G.tgt r)) (bnd L (G.lo (G.tgt r)) (G.hi (G.tgt r))) (fun i=>keyAt q (i-1).toNat) (fun i=>keyAt c i.toNat)).ks ((C1.length:Int)+1)=bnd L (G.lo (G.tgt r)) (G.hi (G.tgt r)) from Q0g _ _ _]
  exact Qec (by omega) j1
 ·rw[if_neg c2,Q02]
  have grow:∀(p:List (Int×Int)) (G1:GS),Inv G1->Ext G G1->p=L->Safe M t ((Prog.chk fun off=>if off=true then .ret (0,false) else Q8W p).bind f) R G1:=by
   intro p G1 i1 x1 ep;subst ep;refine Safe.chkOff ?_;have hnt:G.ty (G.nd r)≠0:=by rw[(hi.reb r tr).hat.ty];decide
   refine Q4n hM _ (a:=G.lo (G.tgt r)) (b:=G.hi (G.tgt r)) (r0:=r) i1 hb (by omega) (by rw[x1.ty r (by omega)];omega) ⟨fun w G2 i2 x2=>kn w G2 i2 (x1.trans x2),fun w G2 i2 x2 vr up k0 k1=>ky w G2 i2 (x1.trans x2) ?_⟩;have x12:=x1.trans x2
   rw[hrn.1,hrn.2] at vr
   refine ⟨up,fun h=> ?_,fun h=> ?_,fun h=>by omega⟩
   ·rw[x12.nd r (by omega),x12.ix r (by omega),x12.ks _ hnt];exact ⟨k0 h,vr⟩
   ·rw[x12.nd r (by omega),x12.ix r (by omega),x12.ks _ hnt];exact ⟨(k1 h).1,vr,(k1 h).2⟩
  by_cases c1:(L.length:Int)=1
  ·rw[if_pos c1]
   refine Q37 fu hi rf.fr (by omega) (by omega) (by omega) (by omega) fun G1 i1 x1=>grow _ G1 i1 x1 ?_;have:∃x,L=[x]:=List.length_eq_one_iff.1 (by omega);obtain ⟨x,rfl⟩:=this;rfl
  ·rw[if_neg c1]
   exact grow [] G hi (Ext.refl _) (List.eq_nil_of_length_eq_zero (by omega)).symm
structure XF (G:GS) (r x:Int) (L:List (Int×Int)):Prop where
 rf:RF G r L
 two:2<=L.length
 ty:G.ty x=3
 ne:x≠1
 deg:G.deg x=Q00 L.length
 lo:G.lo x=G.lo (G.tgt r)
 hi:G.hi x=G.hi (G.tgt r)
 ks:∀j,0<=j->j<=Q00 L.length->G.ks x j=bnd L (G.lo (G.tgt r)) (G.hi (G.tgt r)) j
theorem ResOk.xf {r w:Int} {L:List (Int×Int)} (k:ResOk G r w L) (rf:RF G r L) (hi:Inv G) (h2:2<=L.length):XF G r (wAt w) L:=by
 obtain ⟨a,b,c,d,e,g,h⟩:=k.r2 h2;obtain ⟨r1,r2⟩:=rf.rng hi;have io:=hi.inn _ b;have hl:=hi.frlen rf.fr;have hd:=Q0L (n:=(L.length:Int)) (by omega) hl;refine ⟨rf,h2,b,g,c,d.trans r1.symm,e.trans r2.symm,fun j j0 j1=> ?_⟩;by_cases z:j=0
 ·subst z;rw[io.k0,d,Qgo,r1]
 ·by_cases z2:j=Q00 L.length
  ·subst z2;have:=io.kd
   rw[c,e] at this
   rw[this,Qge (by omega),r2]
  ·rw[h j (by omega) (by omega),Qec (by omega) (by omega)]
theorem XF.ext {r x:Int} {L:List (Int×Int)} (f:XF G r x L) (h:Inv G) (e:Ext G G'):XF G' r x L:=by
 have tt:=f.rf.fr.ty3;have tr:=f.rf.ty;have et:G'.tgt r=G.tgt r:=e.tgt r (by omega);have tx:=f.ty;refine ⟨f.rf.ext h e,f.two,e.t3 f.ty,f.ne,by rw[e.deg x (by omega)];exact f.deg, ?_, ?_, ?_⟩
 ·rw[e.lo x (by omega),et,e.lo _ (by omega)];exact f.lo
 ·rw[e.hi x (by omega),et,e.hi _ (by omega)];exact f.hi
 ·rw[e.ks x (by omega),et,e.lo _ (by omega),e.hi _ (by omega)];exact f.ks
theorem Q8t (hM:M<=16384) {fu:Nat} {r x i:Int} {L:List (Int×Int)} {f:Bool->Prog β} (hi:Inv G) (xf:XF G r x L) (hid:i<Q00 L.length) (k:∀b G',Inv G'->Ext G G'->(0<=i->b=true->G'.slot x i≠0)->Safe M t (f b) R G'):
  Safe M t ((Q5r fu (G.tgt r) L.length x (Q00 L.length) i).bind f) R G:=by
 have hl:=hi.frlen xf.rf.fr;have hb:=hi.frB xf.rf.fr;have h2:=xf.two;have hd:=Q0L (n:=(L.length:Int)) (by omega) hl;unfold Q5r
 rw[Q02]
 by_cases i0:0<=i
 ·have fb:=Q3z h2 (by omega) i0 hid;refine Q37 fu hi xf.rf.fr (by omega) (by omega) (by omega) (by omega) fun G1 i1 x1=> ?_
  rw[List.nil_append,QfM fb.1 (by omega)]
  refine Safe.chkOff ?_
  rw[Q02]
  obtain ⟨sa,sl⟩:=Q9r hb h2 (by omega) i0 hid;have xf1:=xf.ext hi x1;have tx1:=xf1.ty;have hpk:Q17 (Q6I L (Q0R L.length i) (Q14 L.length i)) 0=Q17 L (Q0R L.length i).toNat:=by rw[(Q8I L (by omega)).1];rfl
  generalize Q6I L (Q0R L.length i) (Q14 L.length i)=p at sa sl hpk|-;refine Q4n hM _ (r0:=x) i1 sa (by omega) (by omega) ⟨fun w G2 i2 x2=> ?_,fun w G2 i2 x2 vr _ _ _=> ?_⟩
  ·show Safe M t (f false) R G2;exact k false G2 i2 (x1.trans x2) (fun _ h=>by cases h)
  ·show Safe M t (((if 0<i/\p≠[] then Q2p (Q0j x i) (Q17 p 0) else .ret ()).bind fun _=>(Q33 (Q06 x (Q00 L.length) i) 0 w).bind fun _=>.ret true).bind f) R G2;have pne:p≠[]:=fun e=>by rw[e] at sl;simp at sl;omega
   have xf2:=xf1.ext i1 x2
   have fill:∀G3,Inv G3->Ext G2 G3->(1<=i->G3.key x i=G3.ks x i)->Safe M t (((Q33 (Q06 x (Q00 L.length) i) 0 w).bind fun _=>.ret true).bind f) R G3:=by
    intro G3 i3 x3 hk;have xf3:=xf2.ext i2 x3;have vr3:=vr.ext x3;have a3:G3.At x i:=⟨xf3.ty,i0,by rw[xf3.deg];exact hid⟩
    have hca:Q06 x (Q00 L.length) i=G3.sa x i:=by
     have cc:=i3.cap x (by rw[xf3.ty];decide)
     rw[Q3Z xf3.ty,xf3.deg] at cc
     rw[Q31 (by omega) (by omega) (by omega) (by omega) i0 (by omega)]
     unfold GS.sa;rw[xf3.deg]
    have x03:=(x1.trans x2).trans x3
    rw[Q02,hca]
    refine Safe.cas (fun C4 G4 r4 p4 hn=> ?_) (fun C4 G4 r4 p4 _ _ he=> ?_)
    ·have a4:=r4.ext.at_ a3;refine k true G4 r4.inv (x03.trans r4.ext) (fun _ _ hz=>hn ?_);rw[<-r4.ext.sa a3.ty];exact ⟨p4.saB a4,by rw[p4.slot x i a4];exact hz⟩
    ·have a4:=r4.ext.at_ a3;rw[<-r4.ext.sa a3.ty] at he|-
     rw[p4.slot x i a4] at he
     have xf4:=xf3.ext i3 r4.ext;have ek:=r4.ext.ks x (by rw[xf3.ty];decide)
     have hv4:VW G4 x i w:=by
      left
      have tt:=xf.rf.fr.ty3;have trr:=xf.rf.ty;have x04:=x03.trans r4.ext
      rw[xf4.ks i i0 (by omega),xf4.ks (i+1) (by omega) (by omega),x04.tgt r (by omega),x04.lo _ (by omega),x04.hi _ (by omega)]
      exact vr3.ext r4.ext
     obtain ⟨s1,s2,s3⟩:=Q8f r4.inv p4 a4 hv4 (.inl he) (fun h1=>by rw[ek];exact r4.ext.key x i xf3.ty h1 a3.i1 (hk h1)) (fun b tb eb=>by
      have wb:=p4.wd (a:=b) (k:=5) (by omega) (by decide) (by decide)
      rw[he] at eb;rw[<-eb,Q1d] at wb;omega)
     exact ⟨_,s1,Guar.of ⟨s2,s3⟩ rfl,k true _ s2 ((x03.trans r4.ext).trans s3) (fun _ _=>by rw[show (G4.setS x i w).slot x i=w from Q1H _ _ _ _];exact hv4.nz)⟩
   by_cases ip:0<i
   ·rw[if_pos ⟨ip,pne⟩,Q02]
    have hka:Q0j x i=x+4+i:=by
     have cc:=i2.cap x (by rw[xf2.ty];decide)
     rw[Q3Z xf2.ty,xf2.deg] at cc
     exact Qam (by omega) (by omega) i0 (by omega)
    rw[hka]
    refine Safe.write fun C3 G3 r3 p3=> ?_;have xf3:=xf2.ext i2 r3.ext;have ekk:Q17 p 0=G3.ks x i:=by rw[xf3.ks i i0 (by omega),Qec ip hid,hpk]
    obtain ⟨s1,s2,s3,s4⟩:=Qen r3.inv p3 xf3.ty (show 1<=i by omega) (by rw[xf3.deg];exact hid) ekk;exact ⟨_,s1,Guar.of ⟨s2,s3⟩ rfl,fill _ s2 (r3.ext.trans s3) (fun _=>s4)⟩
   ·rw[if_neg (fun h=>ip h.1)]
    exact fill G2 i2 (Ext.refl _) (fun h=>by omega)
 ·have ef:Q0R L.length i=0:=if_pos (.inl (by omega));have es:Q14 L.length i=0:=if_pos (.inl (by omega))
  rw[ef,es]
  refine Q37 fu hi xf.rf.fr (by omega) (by omega) (by omega) (by omega) fun G1 i1 x1=> ?_
  rw[List.nil_append,Q7u (by omega)]
  refine Safe.chkOff ?_
  rw[Q02]
  have xf1:=xf.ext hi x1;refine Q4n hM _ (a:=0) (b:=0) (r0:=x) i1 ⟨fun _ _ _ h=>by simp at h,fun _ h=>by simp at h,fun _ h=>by simp at h⟩ (by simp) (by rw[xf1.ty];decide) ⟨fun w G2 i2 x2=> ?_,fun w G2 i2 x2 vr _ _ _=> ?_⟩
  ·show Safe M t (f false) R G2;exact k false G2 i2 (x1.trans x2) (fun h=>by omega)
  ·show Safe M t (((if 0<i/\([]:List (Int×Int))≠[] then Q2p (Q0j x i) (Q17 [] 0) else .ret ()).bind fun _=>(Q33 (Q06 x (Q00 L.length) i) 0 w).bind fun _=>.ret true).bind f) R G2
   rw[if_neg (fun h=>by omega)]
   show Safe M t (((Q33 (Q06 x (Q00 L.length) i) 0 w).bind fun _=>.ret true).bind f) R G2
   have hz:Q06 x (Q00 L.length) i=0:=by
    unfold Q06 Q18
    rw[if_neg]
    intro h;have:=h.2.2
    rw[decide_eq_false i0] at this
    cases this
   rw[hz,Q02]
   exact Safe.cas (fun C3 G3 r3 p3 _=>k true G3 r3.inv ((x1.trans x2).trans r3.ext) (fun h=>by omega)) (fun C3 G3 r3 p3 h _ _=>by omega)
theorem Qb7 (hM:M<=16384) {fu:Nat} {r x:Int} {L:List (Int×Int)} {f:Bool->Prog β} (hi:Inv G) (xf:XF G r x L) (k:∀b G',Inv G'->Ext G G'->(b=true->G'.cmp x)->Safe M t (f b) R G'):
  Safe M t ((Q2u fu r (G.tgt r) L.length x).bind f) R G:=by
 have hl:=hi.frlen xf.rf.fr;have h2:=xf.two;have hd:=Q0L (n:=(L.length:Int)) (by omega) hl
 have claim:∀(gu:Nat) (G1:GS) (f:Bool->Prog β),Inv G1->Ext G G1->(∀b G',Inv G'->Ext G1 G'->Safe M t (f b) R G')->Safe M t ((Q2N r (G.tgt r) L.length x (Q00 L.length) gu).bind f) R G1:=by
  intro gu
  induction gu with
  |zero=>intros;exact trivial
  |succ gu ih=>
   intro G1 f i1 x1 k;refine Safe.chkOff ?_
   rw[Q02]
   have tr1:=(xf.ext hi x1).rf.ty;refine Safe.add fun C2 G2 r2 p2=> ?_;have tr2:=r2.ext.t4 tr1;have lr:=p2.lt (a:=r) (by omega)
   rw[Q2q (x:=r+4) (by omega) (by omega)]
   refine ⟨G2,p2.free (b:=r) (j:=4) (by omega) (by decide) (by rw[Qd8 tr2];decide) (fun h=>by omega) (fun h=>by omega) (fun _=>rfl) (fun h=>by omega),Guar.refl r2.inv, ?_⟩;by_cases c:Q00 L.length<=rdC C2 (r+4)
   ·rw[if_pos c];exact k true G2 r2.inv r2.ext
   ·rw[if_neg c]
    refine Safe.chkOff ?_
    rw[Q02]
    have x2:=x1.trans r2.ext;rw[<-x2.tgt r (by have:=xf.rf.ty;omega)];refine Q8t hM r2.inv (xf.ext hi x2) (by omega) fun b G3 i3 x3 _=> ?_
    rw[x2.tgt r (by have:=xf.rf.ty;omega)]
    cases b with
    |false=>exact k false G3 i3 (r2.ext.trans x3)
    |true=>exact ih G3 f i3 (x2.trans x3) (fun b G' i' x'=>k b G' i' ((r2.ext.trans x3).trans x'))
 have rest:∀(m:Nat) (j:Int) (G1:GS),Inv G1->Ext G G1->0<=j->j+m=Q00 L.length->(∀i,0<=i->i<j->G1.slot x i≠0)->Safe M t ((Q3k fu (G.tgt r) L.length x (Q00 L.length) m j).bind f) R G1:=by
  intro m
  induction m with
  |zero=>
   intro j G1 i1 x1 j0 jm hs;refine k true G1 i1 x1 (fun _ i i0 id=>hs i i0 ?_);rw[(xf.ext hi x1).deg] at id;omega
  |succ m ih=>
   intro j G1 i1 x1 j0 jm hs;refine Safe.chkOff ?_
   rw[Q02]
   have xf1:=xf.ext hi x1;have a1:G1.At x j:=⟨xf1.ty,j0,by rw[xf1.deg];omega⟩
   have hca:Q06 x (Q00 L.length) j=G1.sa x j:=by
    have cc:=i1.cap x (by rw[xf1.ty];decide)
    rw[Q3Z xf1.ty,xf1.deg] at cc
    rw[Q31 (by omega) (by omega) (by omega) (by omega) j0 (by omega)]
    unfold GS.sa;rw[xf1.deg]
   rw[hca]
   refine Safe.read fun C2 G2 r2 p2=> ?_;have a2:=r2.ext.at_ a1;have x2:=x1.trans r2.ext;have hs2:∀i,0<=i->i<j->G2.slot x i≠0:=fun i i0 ij=>r2.ext.slot x i ⟨xf1.ty,i0,by rw[xf1.deg];omega⟩ (hs i i0 ij);rw[<-r2.ext.sa a1.ty,p2.slot x j a2];show Safe M t ((if G2.slot x j≠0\/false=true then _ else _:Prog Bool).bind f) R G2;by_cases c:G2.slot x j≠0
   ·rw[if_pos (.inl c)]
    refine ih (j+1) G2 r2.inv x2 (by omega) (by omega) (fun i i0 ij=> ?_);by_cases e:i=j
    ·rw[e];exact c
    ·exact hs2 i i0 (by omega)
   ·rw[if_neg (by simpa using c),Q02]
    rw[<-x2.tgt r (by have:=xf.rf.ty;omega)];refine Q8t hM r2.inv (xf.ext hi x2) (by omega) fun b G3 i3 x3 hb=> ?_
    rw[x2.tgt r (by have:=xf.rf.ty;omega)]
    cases b with
    |false=>exact k false G3 i3 (x2.trans x3) (fun h=>by cases h)
    |true=>
     refine ih (j+1) G3 i3 (x2.trans x3) (by omega) (by omega) (fun i i0 ij=> ?_);by_cases e:i=j
     ·rw[e];exact hb j0 rfl
     ·exact x3.slot x i ⟨(xf.ext hi x2).ty,i0,by rw[(xf.ext hi x2).deg];omega⟩ (hs2 i i0 (by omega))
 unfold Q2u
 rw[Q02]
 refine claim fu G _ hi (Ext.refl _) fun b G1 i1 x1=> ?_
 cases b with
 |false=>exact k false G1 i1 x1 (fun h=>by cases h)
 |true=>exact rest (Q00 L.length).toNat 0 G1 i1 x1 (by decide) (by omega) (fun i i0 ij=>by omega)
theorem Q6N (hM:M<=16384) {fu:Nat} {r:Int} {f:Bool->Prog β} (hi:Inv G) (tr:G.ty r=4) (k:∀b G',Inv G'->Ext G G'->Safe M t (f b) R G'):Safe M t ((Q2A fu r).bind f) R G:=by
 unfold Q2A
 rw[Q02]
 refine Safe.read fun C1 G1 r1 p1=> ?_;have tr1:=r1.ext.t4 tr;have rk1:=r1.inv.reb r tr1;rw[(p1.reb r tr1).1,rk1.k.2,Q02];refine Q5L fu r1.inv rk1.nod fun v G2 L i2 x2 fr ev=> ?_;have x02:=r1.ext.trans x2;have tr2:=x02.t4 tr;have et2:G2.tgt r=G1.tgt r:=x2.tgt r (by omega);have rf2:RF G2 r L:=⟨tr2,by rw[et2];exact fr⟩;subst ev
 rw[Q02]
 have lr:=i2.cap r (by omega);have eta:∀G3,Ext G2 G3->G3.tgt r=G1.tgt r:=fun G3 x3=>(x3.tgt r (by omega)).trans et2
 rw[Q2q (x:=r+3) (by omega) (by omega)]
 have last:∀(w:Int) (G3:GS),Inv G3->Ext G2 G3->w=G3.res r->w≠0->Safe M t ((if 2<=(L.length:Int) then Q2u fu r (G1.tgt r) L.length (wAt w) else .ret true).bind fun ok=>(if ok=false then .ret false else
   (Q0e (wrap64 (r+1))).bind fun g=>(Q0e (wrap64 (r+2))).bind fun s=>(Q1m 0 g s (wOf 4 r) w).bind fun o=>.ret (o !=3)).bind f) R G3:=by
  intro w G3 i3 x3 ew wz;have tr3:=x3.t4 tr2;have rf3:=rf2.ext i2 x3
  have ro3:ResOk G3 r w L:=by
   obtain ⟨L',f',g'⟩:=(i3.reb r tr3).res (by rw[<-ew];exact wz)
   rw[ew,i3.fri rf3.fr f'];exact g'
  have fin:∀G4,Inv G4->Ext G3 G4->(2<=L.length->G4.cmp (wAt w))->Safe M t (((Q0e (wrap64 (r+1))).bind fun g=>(Q0e (wrap64 (r+2))).bind fun s=>(Q1m 0 g s (wOf 4 r) w).bind fun o=>.ret (o !=3)).bind f) R G4:=by
   intro G4 i4 x4 hc;have tr4:=x4.t4 tr3
   rw[Q2q (x:=r+1) (by omega) (by omega),Q2q (x:=r+2) (by omega) (by omega),Q02]
   refine Safe.read fun C5 G5 r5 p5=> ?_;have tr5:=r5.ext.t4 tr4;rw[(p5.reb r tr5).2.1,Q02];refine Safe.read fun C6 G6 r6 p6=> ?_;have tr6:=r6.ext.t4 tr5;have a6:=(r6.inv.reb r tr6).hat;have en:G6.nd r=G5.nd r:=r6.ext.nd r (by omega);rw[(p6.reb r tr6).2.2.1,<-en,Q02];have x36:=(x4.trans r5.ext).trans r6.ext;have ro6:ResOk G6 r w L:=ro3.ext x36 tr3 (i3.reb r tr3).hat.ty;have rf6:=rf3.ext i3 x36;have e6:G6.res r=w:=by rw[x36.res r tr3 (by rw[<-ew];exact wz),ew]
   have wd6:=p6.wd (a:=r) (k:=4) (by omega) (by decide) (by decide)
   have hv:VW G6 (G6.nd r) (G6.ix r) w:=by
    left
    have hn:L.length=0\/L.length=1\/2<=L.length:=by omega
    rcases hn with h|h|h
    ·exact (ro6.r0 h).2
    ·exact (ro6.r1 h).2.1
    ·obtain ⟨q1,q2,q3,q4,q5,q6,q7⟩:=ro6.r2 h;have tw3:=(ro3.r2 h).2.1;have tw4:=x4.t3 tw3;exact ⟨by omega,by omega,by omega,fun h=>by omega,fun h=>by omega,fun _=>⟨q4,q5,(r5.ext.trans r6.ext).cmp tw4 (hc h),q6⟩⟩
   refine Q5N hM a6 (.inr ⟨wd6.1,by rw[wd6.2];exact tr6,by rw[wd6.2],by rw[wd6.2]⟩) hv (by rw[wd6.2];exact ro6.up) (fun h=>by omega) (fun _=>by rw[wd6.2,e6]) r6.inv fun d G7 i7 x7=> ?_;exact k _ G7 i7 (((x02.trans x3).trans x36).trans x7)
  by_cases c2:2<=(L.length:Int)
  ·rw[if_pos c2,<-eta G3 x3]
   refine Qb7 hM i3 (ro3.xf rf3 i3 (by omega)) fun b G4 i4 x4 hc=> ?_
   cases b with
   |false=>exact k false G4 i4 ((x02.trans x3).trans x4)
   |true=>exact fin G4 i4 x4 (fun _=>hc rfl)
  ·rw[if_neg c2]
   exact fin G3 i3 (Ext.refl _) (fun h=>by omega)
 refine Safe.read fun C3 G3 r3 p3=> ?_;have tr3:=r3.ext.t4 tr2;rw[(p3.reb r tr3).2.2.2];refine Safe.chkOff ?_
 rw[Q02]
 have rf3:=rf2.ext i2 r3.ext;by_cases cz:G3.res r=0
 ·rw[if_pos cz,Q02,<-eta G3 r3.ext]
  refine Qes hM r3.inv rf3 (fun w G4 i4 x4=> ?_) (fun w G4 i4 x4 ro=> ?_)
  ·exact k false G4 i4 ((x02.trans r3.ext).trans x4)
  ·rw[eta G3 r3.ext]
   show Safe M t (((Q33 (r+3) 0 w).bind fun _=>(Q0e (r+3)).bind fun w'=>.ret (w',true)).bind _) R G4
   rw[Q02]
   have tr4:=x4.t4 tr3;have rf4:=rf3.ext r3.inv x4
   have again:∀G5,Inv G5->Ext G4 G5->G5.res r≠0->Safe M t (((Q0e (r+3)).bind fun w'=>Prog.ret (w',true)).bind fun r_1=>(if r_1.2=false then Prog.ret false else
     (if 2<=(L.length:Int) then Q2u fu r (G1.tgt r) L.length (wAt r_1.1) else .ret true).bind fun ok=>if ok=false then .ret false else
     (Q0e (wrap64 (r+1))).bind fun g=>(Q0e (wrap64 (r+2))).bind fun s=>(Q1m 0 g s (wOf 4 r) r_1.1).bind fun o=>.ret (o !=3)).bind f) R G5:=by
    intro G5 i5 x5 hz
    rw[Q02]
    have tr5:=x5.t4 tr4;refine Safe.read fun C6 G6 r6 p6=> ?_;have tr6:=r6.ext.t4 tr5;rw[(p6.reb r tr6).2.2.2];show Safe M t (((if 2<=(L.length:Int) then Q2u fu r (G1.tgt r) L.length (wAt (G6.res r)) else .ret true).bind _).bind f) R G6
    rw[Q02]
    exact last _ G6 r6.inv (((r3.ext.trans x4).trans x5).trans r6.ext) rfl (by rw[r6.ext.res r tr5 hz];exact hz)
   refine Safe.cas (fun C5 G5 r5 p5 hn=> ?_) (fun C5 G5 r5 p5 _ _ he=> ?_)
   ·have tr5:=r5.ext.t4 tr4;refine again G5 r5.inv r5.ext (fun hz=>hn ⟨p5.recB (.inl tr5) (by decide) (by decide), ?_⟩);rw[(p5.reb r tr5).2.2.2];exact hz
   ·have tr5:=r5.ext.t4 tr4;rw[(p5.reb r tr5).2.2.2] at he;have rf5:=rf4.ext i4 r5.ext;have ro5:=ro.ext r5.ext tr4 (i4.reb r tr4).hat.ty;obtain ⟨s1,s2,s3⟩:=Qem r5.inv p5 tr5 he rf5.fr ro5;refine ⟨_,s1,Guar.of ⟨s2,s3⟩ rfl,again _ s2 (r5.ext.trans s3) ?_⟩
    rw[show (G5.setR r w).res r=w from Q0g _ _ _]
    intro e;have:=ro5.up
    rw[e,QdV] at this
    have:=(r5.inv.cap r (by omega)).1;omega
 ·rw[if_neg cz]
  show Safe M t (((if 2<=(L.length:Int) then Q2u fu r (G1.tgt r) L.length (wAt (G3.res r)) else .ret true).bind _).bind f) R G3
  rw[Q02]
  exact last _ G3 r3.inv r3.ext rfl cz
end
section
variable {β:Type} {M:Int} {t:Nat} {C:List Int} {G G':GS} {R:β->GS->Prop}
structure NF (G:GS) (n d:Int) (K:Int->Int):Prop where
 ty:G.ty n=3
 cmp:G.cmp n
 deg:G.deg n=d
 ks:G.ks n=K
theorem NF.ext {n d:Int} {K:Int->Int} (h:NF G n d K) (x:Ext G G'):NF G' n d K:=by
 have:=h.ty;exact ⟨x.t3 h.ty,x.cmp h.ty h.cmp,by rw[x.deg n (by omega)];exact h.deg,by rw[x.ks n (by omega)];exact h.ks⟩
theorem NF.bd {n d:Int} {K:Int->Int} (h:NF G n d K) (i:Inv G):1<=n/\n<=16384/\d<=16384:=by
 have c:=i.cap n (by rw[h.ty];decide)
 rw[Q3Z h.ty,h.deg] at c
 omega
theorem NF.key {n d i:Int} {K:Int->Int} (h:NF G n d K) (hi:Inv G) (r:Rep C G) (i0:1<=i) (i1:i<d):rdC C (Q0j n i)=K i:=by
 have b:=h.bd hi
 rw[Qam (by omega) (by omega) (by omega) (by omega),r.key n i h.ty i0 (by rw[h.deg];exact i1)]
 rcases (hi.inn n h.ty).key i i0 (by rw[h.deg];exact i1) with e|e
 ·rw[e,h.ks]
 ·exact absurd e (h.cmp i (by omega) (by rw[h.deg];exact i1))
def RtK (G:GS) (k d:Int) (K:Int->Int) (f:Int×Int->Prog β) (M:Int) (t:Nat) (R:β->GS->Prop):Prop:=∀i G',Inv G'->Ext G G'->0<=i->i<d->K i<=k->k<K (i+1)->Safe M t (f (d,i)) R G'
theorem RtK.ext {k d:Int} {K:Int->Int} {f:Int×Int->Prog β} (h:RtK G k d K f M t R) (x:Ext G G'):RtK G' k d K f M t R:=fun i G2 i2 x2 h0 h1 h2 h3=>h i G2 i2 (x.trans x2) h0 h1 h2 h3
theorem Q8v {n k d:Int} {K:Int->Int} {f:Int×Int->Prog β} (h1k:K 1<=k) (hd:1<d):∀(fu:Nat) (i:Int) (G:GS),Inv G->NF G n d K->1<=i->i<=fu->i<d->k<K (i+1)->RtK G k d K f M t R->Safe M t ((Q1J n k d fu i).bind f) R G
 |0,i,G,hi,h,i1,i2,_,_,_=>by omega
 |fu+1,i,G,hi,h,i1,i2,i3,hk,kk=>by
  show Safe M t ((if 1<i/\false=false then (Q0e (Q0j n i)).bind fun q=>if q<=k then .ret (d,i) else Q1J n k d fu (i-1) else .ret (d,1)).bind f) R G;by_cases c:1<i
  ·rw[if_pos ⟨c,rfl⟩,Q02]
   refine Safe.read fun C1 G1 r1 p1=> ?_;have h1:=h.ext r1.ext
   rw[h1.key r1.inv p1 (by omega) i3]
   by_cases q:K i<=k
   ·rw[if_pos q]
    exact kk i G1 r1.inv r1.ext (by omega) i3 q hk
   ·rw[if_neg q]
    exact Q8v h1k hd fu (i-1) G1 r1.inv h1 (by omega) (by omega) (by omega) (by rw[show i-1+1=i by omega];omega) (kk.ext r1.ext)
  ·rw[if_neg (fun h=>c h.1)]
   have e:i=1:=by omega
   subst e;exact kk 1 G hi (Ext.refl _) (by decide) hd h1k hk
theorem Q9v {n k d:Int} {K:Int->Int} {f:Int×Int->Prog β} (hm:k<K (d-1)) (hd:1<d):∀(fu:Nat) (i:Int) (G:GS),Inv G->NF G n d K->1<=i->i<=d-1->d-1-i<=fu->K (i-1)<=k->RtK G k d K f M t R->Safe M t ((Q4G n k d (d-1) fu i).bind f) R G
 |0,i,G,hi,h,i1,i2,i3,hk,kk=>by
  have e:i=d-1:=by omega
  subst e;exact kk (d-1-1) G hi (Ext.refl _) (by omega) (by omega) hk (by rw[show d-1-1+1=d-1 by omega];exact hm)
 |fu+1,i,G,hi,h,i1,i2,i3,hk,kk=>by
  show Safe M t ((if i<d-1/\false=false then (Q0e (Q0j n i)).bind fun q=>if k<q then .ret (d,i-1) else Q4G n k d (d-1) fu (i+1) else .ret (d,d-1-1)).bind f) R G;by_cases c:i<d-1
  ·rw[if_pos ⟨c,rfl⟩,Q02]
   refine Safe.read fun C1 G1 r1 p1=> ?_;have h1:=h.ext r1.ext
   rw[h1.key r1.inv p1 i1 (by omega)]
   by_cases q:k<K i
   ·rw[if_pos q]
    exact kk (i-1) G1 r1.inv r1.ext (by omega) (by omega) hk (by rw[show i-1+1=i by omega];exact q)
   ·rw[if_neg q]
    exact Q9v hm hd fu (i+1) G1 r1.inv h1 (by omega) (by omega) (by omega) (by rw[show i+1-1=i by omega];omega) (kk.ext r1.ext)
  ·rw[if_neg (fun h=>c h.1)]
   have e:i=d-1:=by omega
   subst e;exact kk (d-1-1) G hi (Ext.refl _) (by omega) (by omega) hk (by rw[show d-1-1+1=d-1 by omega];exact hm)
theorem Qb6 {n k d:Int} {K:Int->Int} {f:Int×Int->Prog β} (hi:Inv G) (h:NF G n d K) (hlo:K 0<=k) (hhi:k<K d) (kk:RtK G k d K f M t R):Safe M t ((Q1B n k).bind f) R G:=by
 unfold Q1B
 rw[Q02]
 refine Safe.read fun C1 G1 r1 p1=> ?_;have h1:=h.ext r1.ext;have d1:=p1.deg n h1.ty;have b1:=h1.bd r1.inv;have d0:=d1.1
 rw[h1.deg] at d0
 rw[d1.2,h1.deg,Q4I (x:=d-1) (by omega) (by omega)]
 rw[h1.deg] at d1
 have k1:=kk.ext r1.ext;by_cases c:d-1<1
 ·rw[if_pos c]
  exact k1 0 G1 r1.inv (Ext.refl _) (by decide) (by omega) hlo (by rw[show (0:Int)+1=d by omega];exact hhi)
 ·rw[if_neg c,Q02]
  refine Safe.read fun C2 G2 r2 p2=> ?_;have h2:=h1.ext r2.ext;have k2:=k1.ext r2.ext
  rw[h2.key r2.inv p2 (by decide) (by omega)]
  by_cases c2:k<K 1
  ·rw[if_pos c2]
   exact k2 0 G2 r2.inv (Ext.refl _) (by decide) (by omega) hlo c2
  ·rw[if_neg c2]
   by_cases c3:d-1=1
   ·rw[if_pos c3]
    exact k2 1 G2 r2.inv (Ext.refl _) (by decide) (by omega) (by omega) (by rw[show (1:Int)+1=d by omega];exact hhi)
   ·rw[if_neg c3,Q02]
    refine Safe.read fun C3 G3 r3 p3=> ?_;have h3:=h2.ext r3.ext;have k3:=k2.ext r3.ext
    rw[h3.key r3.inv p3 (by omega) (by omega)]
    by_cases c4:K (d-1)<=k
    ·rw[if_pos c4]
     exact k3 (d-1) G3 r3.inv (Ext.refl _) (by omega) (by omega) c4 (by rw[show d-1+1=d by omega];exact hhi)
    ·rw[if_neg c4]
     have g:=Q4A (f:=K 1) (l:=K (d-1)) (k:=k) (n:=d-1) (by omega) (by omega) (by omega) (by omega)
     show Safe M t ((if false=true\/Q0G (K 1) (K (d-1)) k (d-1)<1 then .ret (d,0) else
      if 1<Q0G (K 1) (K (d-1)) k (d-1) then (Q0e (Q0j n (Q0G (K 1) (K (d-1)) k (d-1)))).bind fun q=>if k<q then Q1J n k d (Q0G (K 1) (K (d-1)) k (d-1)).toNat (Q0G (K 1) (K (d-1)) k (d-1)-1) else Q4G n k d (d-1) (d-1-Q0G (K 1) (K (d-1)) k (d-1)).toNat (Q0G (K 1) (K (d-1)) k (d-1)+1)
      else Q4G n k d (d-1) (d-1-Q0G (K 1) (K (d-1)) k (d-1)).toNat (Q0G (K 1) (K (d-1)) k (d-1)+1):Prog (Int×Int)).bind f) R G3
     generalize Q0G (K 1) (K (d-1)) k (d-1)=j at g|-
     rw[if_neg (by simp;omega)]
     by_cases c5:1<j
     ·rw[if_pos c5,Q02]
      refine Safe.read fun C4 G4 r4 p4=> ?_;have h4:=h3.ext r4.ext;have k4:=k3.ext r4.ext
      rw[h4.key r4.inv p4 (by omega) (by omega)]
      by_cases c6:k<K j
      ·rw[if_pos c6]
       exact Q8v (by omega) (by omega) _ _ G4 r4.inv h4 (by omega) (by omega) (by omega) (by rw[show j-1+1=j by omega];exact c6) k4
      ·rw[if_neg c6]
       exact Q9v (by omega) (by omega) _ _ G4 r4.inv h4 (by omega) (by omega) (by omega) (by rw[show j+1-1=j by omega];omega) k4
     ·rw[if_neg c5]
      have e:j=1:=by omega
      subst e;exact Q9v (by omega) (by omega) _ _ G3 r3.inv h3 (by omega) (by omega) (by omega) (by show K 1<=k;omega) k3
theorem Inv.nf (h:Inv G) {n:Int} (t3:G.ty n=3) (c:G.cmp n):NF G n (G.deg n) (G.ks n):=⟨t3,c,rfl,rfl⟩
theorem Qb9 {n k:Int} {f:Int->Prog β} (hi:Inv G) (t3:G.ty n=3) (c:G.cmp n) (hlo:G.lo n<=k) (hhi:k<=G.hi n)
  (kk:∀i G',Inv G'->Ext G G'->G'.At n i->G'.ks n i<=k->k<G'.ks n (i+1)->Safe M t (f (G'.sa n i)) R G'):Safe M t ((Q24 n k).bind f) R G:=by
 have io:=hi.inn n t3;unfold Q24
 rw[Q02]
 refine Qb6 hi (hi.nf t3 c) (by rw[io.k0];exact hlo) (by rw[io.kd];omega) fun i G1 i1 x1 h0 h1 h2 h3=> ?_;have a1:G1.At n i:=x1.at_ ⟨t3,h0,h1⟩;have ek:=x1.ks n (by omega);have ed:=x1.deg n (by omega);have cc:=i1.cap n (by rw[a1.ty];decide)
 rw[Q3Z a1.ty] at cc
 have ai:=a1.i1
 have e:Q06 n (G.deg n) i=G1.sa n i:=by
  rw[<-ed,Q31 (by omega) (by omega) (by omega) (by omega) h0 (by omega)];rfl
 show Safe M t (f (Q06 n (G.deg n) i)) R G1
 rw[e]
 exact kk i G1 i1 x1 a1 (by rw[ek];exact h2) (by rw[ek];exact h3)
def PE (G:GS) (e:Entry):Prop:=∃i,G.At e.node i/\e.slot=G.sa e.node i/\VW G e.node i e.word/\Q05 e.word=3
theorem PE.ext {e:Entry} (h:PE G e) (x:Ext G G'):PE G' e:=by
 obtain ⟨i,a,b,c,d⟩:=h;exact ⟨i,x.at_ a,by rw[x.sa a.ty];exact b,c.ext x a.ty,d⟩
theorem Qb5 (hM:M<=16384) {fu:Nat} {e:Entry} {f:Bool->Prog β} (hi:Inv G) (pe:PE G e) (k:∀b G',Inv G'->Ext G G'->Safe M t (f b) R G'):Safe M t ((Q4j fu e).bind f) R G:=by
 obtain ⟨i,a,es,vw,k3⟩:=pe;unfold Q4j;have cn:=hi.cap e.node (by rw[a.ty];decide)
 rw[Q3Z a.ty] at cn
 have ai0:=a.i0;have ai1:=a.i1
 rw[Q2q (x:=e.node+2) (by omega) (by omega),Q02,es,<-Q7l (w:=e.word) (by omega),k3]
 have wk:Q05 (wOf 3 (wAt e.word))=3/\wAt (wOf 3 (wAt e.word))=wAt e.word:=by
  have:wOf 3 (wAt e.word)=e.word:=by rw[<-k3];exact Q7l (by omega)
  rw[this];exact ⟨k3,rfl⟩
 have vw':VW G e.node i (wOf 3 (wAt e.word)):=by
  have:wOf 3 (wAt e.word)=e.word:=by rw[<-k3];exact Q7l (by omega)
  rw[this];exact vw
 refine Safe.make hM (fun C1 G1 r1 p1=> ?_) (fun C1 G1 r1 p1 _ hb=> ?_)
 ·show Safe M t ((if (0:Int)<=0 then _ else _:Prog Bool).bind f) R G1
  rw[if_pos (by decide)]
  exact k false G1 r1.inv r1.ext
 ·have hb5:(C1.length:Int)+5<=16384:=by have:(Q16 (wOf 3 (wAt e.word)) (e.node+2) (G.sa e.node i)).length=5:=rfl;omega
  have a1:=r1.ext.at_ a;have nd1:=(vw'.nod wk.1).ext r1.ext
  rw[wk.2] at nd1
  have vr1:VR G1 (G1.ks e.node i) (G1.ks e.node (i+1)-1) (wOf 3 (wAt e.word)):=by
   rcases vw'.ext r1.ext a.ty with v|v
   ·exact v
   ·omega
  obtain ⟨s1,s2,s3⟩:=Qcm (t:=wAt e.word) r1.inv p1 rfl hb5 a1 nd1.ty vr1;rw[<-r1.ext.sa a.ty];generalize hm:(C1.length:Int)+1=m at s1 s2 s3|-;generalize hG2:GS.newR G1 m (wAt e.word) e.node i=G2 at s1 s2 s3;have f0:G2.ty m=4:=by rw[<-hG2];exact Q0g _ _ _
  have f1:G2.nd m=e.node:=by rw[<-hG2];exact Q0g _ _ _
  have f2:G2.ix m=i:=by rw[<-hG2];exact Q0g _ _ _
  have f3:G2.tgt m=wAt e.word:=by rw[<-hG2];exact Q0g _ _ _
  refine ⟨G2,s1,⟨s2,s3,fun b _ _=>by rw[<-hG2];rfl⟩, ?_⟩;have m1:1<=m:=by omega
  have x2:=r1.ext.trans s3
  rw[if_neg (by omega),Q02,<-s3.sa a1.ty]
  have wd:=s1.wd (a:=m) (k:=4) (by omega) (by decide) (by decide);have lt:wAt e.word<m:=by have:=p1.used (a:=wAt e.word) (by rw[nd1.ty];decide);omega
  refine Q5N hM (x2.at_ a) (vw'.ext x2 a.ty) (.inr ⟨wd.1,by rw[wd.2];exact f0,by rw[wd.2];exact f1,by rw[wd.2];exact f2⟩) (by rw[wd.2,wk.2];exact lt) (fun _=>⟨wd.1,by rw[wd.2,wk.2];exact f3⟩) (fun h=>by omega) s2 fun d G3 i3 x3=> ?_
  rw[show (if d=1 then Q2A fu m else if d=3 then .ret false else .ret true)=(if d=1 then Q2A fu m else if d=3 then Prog.ret false else Prog.ret true) from rfl]
  by_cases c1:d=1
  ·rw[if_pos c1]
   exact Q6N hM i3 (x3.t4 f0) fun b G4 i4 x4=>k b G4 i4 ((x2.trans x3).trans x4)
  ·rw[if_neg c1]
   by_cases c3:d=3
   ·rw[if_pos c3];exact k false G3 i3 (x2.trans x3)
   ·rw[if_neg c3];exact k true G3 i3 (x2.trans x3)
theorem Q6M (hM:M<=16384) {fu:Nat} {f:Unit->Prog β}:∀(l:List Entry) (first:Option Entry) (G:GS),Inv G->(∀e∈l,PE G e)->(∀e,first=some e->PE G e)->(∀G',Inv G'->Ext G G'->Safe M t (f ()) R G')->Safe M t ((Q0J fu l first).bind f) R G
 |[],first,G,hi,_,hf,k=>by
  rcases first with _|e
  ·exact k G hi (Ext.refl _)
  ·show Safe M t (((Q4j fu e).bind fun _=>.ret ()).bind f) R G
   rw[Q02]
   exact Qb5 hM hi (hf e rfl) fun b G1 i1 x1=>k G1 i1 x1
 |e::l,first,G,hi,hl,hf,k=>by
  show Safe M t (((Qed (wAt e.word+3) 1).bind fun c=>(Q0e (wAt e.word+1)).bind fun s=>Q0J fu l (if first.isNone=true/\Q5m s<=wrap64 (c+1) then some e else first)).bind f) R G
  rw[Q02]
  refine Safe.add fun C1 G1 r1 p1=> ?_;obtain ⟨i,a,es,vw,k3⟩:=(hl e (List.mem_cons_self ..)).ext r1.ext;have nd:=vw.nod k3;have d1:=(p1.deg _ nd.ty).1;refine ⟨G1,p1.free (b:=wAt e.word) (j:=3) (by rw[nd.ty];decide) (by decide) (by rw[Q3Z nd.ty];omega) (fun h=>by rw[nd.ty] at h;omega) (fun _=>.inl rfl) (fun h=>by rw[nd.ty] at h;omega) (fun h=>by rw[nd.ty] at h;omega),Guar.refl r1.inv, ?_⟩
  rw[Q02]
  refine Safe.read fun C2 G2 r2 p2=> ?_;have x2:=r1.ext.trans r2.ext;refine Q6M hM l _ G2 r2.inv (fun e' he=>(hl e' (List.mem_cons_of_mem _ he)).ext x2) (fun e' he=> ?_) (fun G' i' x'=>k G' i' (x2.trans x'))
  split at he
  ·injection he with he;subst he;exact (hl e (List.mem_cons_self ..)).ext x2
  ·exact (hf e' he).ext x2
structure LayW (G:GS) (n i key w:Int):Prop where
 at_:G.At n i
 vw:VW G n i w
 k2:Q05 w<=2
 k0:G.ks n i<=key
 k1:key<G.ks n (i+1)
theorem LayW.ext {n i key w:Int} (h:LayW G n i key w) (x:Ext G G'):LayW G' n i key w:=by
 have:=h.at_.ty;exact ⟨x.at_ h.at_,h.vw.ext x h.at_.ty,h.k2,by rw[x.ks n (by omega)];exact h.k0,by rw[x.ks n (by omega)];exact h.k1⟩
theorem Qb8 (hM:M<=16384) {o:Op} {n i w q:Int} {there:Bool} {f:Int×Bool->Prog β} (hi:Inv G) (lw:LayW G n i o.key w) (hq:Q05 w=2->q=G.k1 (wAt w)) (hne:Q05 w=2->there=false->q≠o.key)
  (kn:∀x G',Inv G'->Ext G G'->Safe M t (f (x,false)) R G') (ky:∀x G',Inv G'->Ext G G'->VR G' (G'.ks n i) (G'.ks n (i+1)-1) x->wAt w<wAt x->Safe M t (f (x,true)) R G'):
  Safe M t ((Q1w o w q (decide (Q05 w=2)) there).bind f) R G:=by
 have vne:=lw.vw.ne;have tw0:=lw.vw.ty;have t3:=lw.at_.ty;unfold Q1w;by_cases c3:o.kind=3
 ·rw[if_pos c3,Q02]
  refine Safe.make hM (fun C1 G1 r1 p1=>kn _ G1 r1.inv r1.ext) (fun C1 G1 r1 p1 _ hb=> ?_);obtain ⟨s1,s2,s3⟩:=Q5I (a:=G.ks n i) (b:=G.ks n (i+1)-1) r1.inv p1 rfl (by simpa using hb);have cp:=Q2K (k:=1) p1 rfl (by decide) (by decide) (by simpa using hb);have lt:=p1.used (a:=wAt w) (by rw[r1.ext.ty _ (by omega)];omega);refine ⟨_,s1,Guar.of ⟨s2,s3⟩ rfl, ?_⟩;show Safe M t (f (_,decide (0<(C1.length:Int)+1))) R _
  rw[decide_eq_true cp.2.2]
  have x2:=r1.ext.trans s3;refine ky _ _ s2 x2 ?_ (by omega)
  rw[x2.ks n (by omega)]
  refine ⟨by omega,by omega, ?_,fun _=> ?_,fun k=>by omega,fun k=>by omega⟩
  ·rw[cp.2.1,cp.1];exact Q0g _ _ _
  ·rw[cp.2.1];exact ⟨Q0g _ _ _,Q0g _ _ _⟩
 ·rw[if_neg c3,Q02]
  refine Safe.make hM (fun C1 G1 r1 p1=> ?_) (fun C1 G1 r1 p1 _ hb=> ?_)
  ·rw[if_pos (.inl (by decide))]
   exact kn _ G1 r1.inv r1.ext
  ·simp only[List.length_cons,List.length_nil] at hb;obtain ⟨s1,s2,s3⟩:=Q5H (k:=o.key) (v:=o.val) r1.inv p1 rfl (by omega);have cp:=Q2K (k:=2) p1 rfl (by decide) (by decide) (by omega);have lt:=p1.used (a:=wAt w) (by rw[r1.ext.ty _ (by omega)];omega);refine ⟨_,s1,Guar.of ⟨s2,s3⟩ rfl, ?_⟩;have x2:=r1.ext.trans s3;have e1:(G1.newL ((C1.length:Int)+1) o.key o.val).k1 ((C1.length:Int)+1)=o.key:=Q0g _ _ _;have e0:(G1.newL ((C1.length:Int)+1) o.key o.val).ty ((C1.length:Int)+1)=2:=Q0g _ _ _;generalize hG2:G1.newL ((C1.length:Int)+1) o.key o.val=G2 at s1 s2 s3 x2 e1 e0;generalize hm:(C1.length:Int)+1=m at*;have lf:∀a b,a<=o.key->o.key<=b->VR G2 a b (wOf 2 m):=fun a b h0 h1=>⟨by omega,by omega,by rw[cp.2.1,cp.1];exact e0,fun k=>by omega,fun _=>by rw[cp.2.1,e1];exact ⟨h0,h1⟩,fun k=>by omega⟩;have ek2:=x2.ks n (by omega);by_cases c:¬0<m\/decide (Q05 w=2)=false\/there=true
   ·rw[if_pos c]
    show Safe M t (f (_,decide (0<m))) R _
    rw[decide_eq_true cp.2.2]
    refine ky _ G2 s2 x2 ?_ (by omega)
    rw[ek2]
    exact lf _ _ lw.k0 (by have:=lw.k1;omega)
   ·rw[if_neg c]
    have k2:Q05 w=2:=by
     apply Classical.byContradiction;intro h;exact c (.inr (.inl (decide_eq_false h)))
    have nt:there=false:=by cases there with
     |false=>rfl
     |true=>exact absurd (.inr (.inr rfl)) c
    have hne:=hne k2 nt;have hq:=hq k2
    have vr:VR G (G.ks n i) (G.ks n (i+1)-1) w:=by
     rcases lw.vw with v|v
     ·exact v
     ·omega
    obtain ⟨q0,q1⟩:=vr.e2 k2;rw[<-hq] at q0 q1;have key0:=lw.k0;have key1:=lw.k1;have tw2:G.ty (wAt w)=2:=by omega
    have kw2:∀G3,Ext G G3->G3.ty (wAt w)=2/\G3.k1 (wAt w)=q:=fun G3 x3=>⟨by rw[x3.ty _ (by omega)];exact tw2,by rw[x3.k1 _ (by omega)];exact hq.symm⟩;have lfw:∀G3,Ext G G3->∀a b,a<=q->q<=b->VR G3 a b w:=fun G3 x3 a b h0 h1=>⟨by omega,by omega,by rw[(kw2 G3 x3).1,k2],fun k=>by omega,fun _=>by rw[(kw2 G3 x3).2];exact ⟨h0,h1⟩,fun k=>by omega⟩
    rw[Q02]
    generalize hmx:(if q<o.key then o.key else q)=mx;generalize hcc:(if o.key<q then [wOf 2 m,w] else [w,wOf 2 m])=cc;have hcl:cc.length=2:=by rw[<-hcc];split<;>rfl
    rw[show Q12 2 [mx] cc=Q0U 2 [mx] cc from if_pos (by rw[hcl];rfl)]
    refine Safe.make hM (fun C3 G3 r3 p3=>kn _ G3 r3.inv (x2.trans r3.ext)) (fun C3 G3 r3 p3 _ hb3=> ?_);have x3:=x2.trans r3.ext;have hwl:((Q0U 2 [mx] cc).length:Int)=4+2*cc.length:=by simp[Q0U];omega
    have mxb:G.ks n i<mx/\mx<=G.ks n (i+1)-1:=by rw[<-hmx];split<;>omega
    obtain ⟨z1,z2,z3⟩:=Q4i (a:=G.ks n i) (b:=G.ks n (i+1)-1) (K:=fun j=>if j<=0 then G.ks n i else if j<=1 then mx else G.ks n (i+1)) r3.inv p3 rfl (by rw[hcl];rfl) hb3 (by omega) rfl
     (by rw[hcl];show (if (2:Int)<=0 then _ else if (2:Int)<=1 then _ else _)=_;rw[if_neg (by decide),if_neg (by decide)];omega)
     (fun x y x0 xy y2=>by
      have hx:x=0\/x=1:=by omega
      have hy:y=1\/y=2:=by omega
      rcases hx with rfl|rfl<;>rcases hy with rfl|rfl<;>simp<;>omega)
     (fun j j0 j1=>.inl (by
      have e:j=1:=by omega
      subst e;rfl))
     (fun j j0 j1=>.inr (by
      have hj:j=0\/j=1:=by omega
      rw[<-hcc]
      rcases hj with rfl|rfl
      ·by_cases cq:o.key<q
       ·rw[if_pos cq]
        show VR G3 (G.ks n i) (mx-1) (wOf 2 m);exact (lf _ _ key0 (by rw[<-hmx,if_neg (by omega)];omega)).ext r3.ext
       ·rw[if_neg cq]
        show VR G3 (G.ks n i) (mx-1) w;exact lfw G3 x3 _ _ q0 (by rw[<-hmx,if_pos (by omega)];omega)
      ·by_cases cq:o.key<q
       ·rw[if_pos cq]
        show VR G3 mx (G.ks n (i+1)-1) w;exact lfw G3 x3 _ _ (by rw[<-hmx,if_neg (by omega)];omega) (by omega)
       ·rw[if_neg cq]
        show VR G3 mx (G.ks n (i+1)-1) (wOf 2 m);exact (lf _ _ (by rw[<-hmx,if_pos (by omega)];omega) (by omega)).ext r3.ext))
    have cp3:=Q2K (k:=3) p3 rfl (by decide) (by decide) (by omega);have lt3:=p3.used (a:=wAt w) (by rw[(kw2 G3 x3).1];decide);refine ⟨_,z1,Guar.of ⟨z2,z3⟩ rfl, ?_⟩;show Safe M t (f (_,decide (0<(C3.length:Int)+1))) R _
    rw[decide_eq_true cp3.2.2]
    have x4:=x3.trans z3;refine ky _ _ z2 x4 ?_ (by omega)
    rw[x4.ks n (by omega)]
    refine ⟨by omega,by omega, ?_,fun k=>by omega,fun k=>by omega,fun _=> ?_⟩
    ·rw[cp3.2.1,cp3.1];exact Q0g _ _ _
    ·rw[cp3.2.1]
     refine ⟨Q0g _ _ _,Q0g _ _ _,fun j j0 j1=> ?_,by have:=p3.used (a:=1) (by rw[r3.inv.r1.1];decide);omega⟩
     rw[show (GS.newI G3 ((C3.length:Int)+1) cc.length (G.ks n i) (G.ks n (i+1)-1) (fun j=>if j<=0 then G.ks n i else if j<=1 then mx else G.ks n (i+1)) (fun i=>keyAt [mx] (i-1).toNat) (fun i=>keyAt cc i.toNat)).deg ((C3.length:Int)+1)=cc.length from Q0g _ _ _] at j1
     rw[show (GS.newI G3 ((C3.length:Int)+1) cc.length (G.ks n i) (G.ks n (i+1)-1) (fun j=>if j<=0 then G.ks n i else if j<=1 then mx else G.ks n (i+1)) (fun i=>keyAt [mx] (i-1).toNat) (fun i=>keyAt cc i.toNat)).slot ((C3.length:Int)+1)=(fun i=>keyAt cc i.toNat) from Q0g _ _ _]
     have wz:w≠0:=lw.vw.nz;have mz:wOf 2 m≠0:=fun e=>by have:=cp.1;rw[e,Q1d] at this;omega
     have hj:j=0\/j=1:=by omega
     rw[<-hcc]
     rcases hj with rfl|rfl
     ·split
      ·exact mz
      ·exact wz
     ·split
      ·exact wz
      ·exact mz
theorem Qet (hM:M<=16384) {fu:Nat} {o:Op} {n i w:Int} {path:List Entry} {f:Res×Bool->Prog β} (hi:Inv G) (lw:LayW G n i o.key w) (hp:∀e∈path,PE G e) (k:∀r G',Inv G'->Ext G G'->Safe M t (f r) R G'):
  Safe M t ((Qe9 fu o n (G.sa n i) w path).bind f) R G:=by
 have vne:=lw.vw.ne;unfold Qe9
 rw[Q02]
 have body:∀(q:Int) (res:Res) (G1:GS),Inv G1->Ext G G1->(Q05 w=2->q=G1.k1 (wAt w))->(Q05 w=2->res.found=false->q≠o.key)->Safe M t ((Prog.chk fun off=>if off=true\/(o.kind=1/\res.found=true)\/(o.kind=3/\res.found=false) then .ret (res,true) else
   (Q1w o w q (decide (Q05 w=2)) res.found).bind fun x=>if x.2=false then .ret (Res.err 8,true) else
   (Q1m 1 (wrap64 (n+2)) (G.sa n i) w x.1).bind fun d=>if d=3 then .ret (Res.err 8,true) else
   (if d=1/\(o.kind≠2\/res.found=false) then Q0J fu path none else .ret ()).bind fun _=>.ret (res,decide (d=1))).bind f) R G1:=by
  intro q res G1 i1 x1 hq hne
  show Safe M t ((if false=true\/(o.kind=1/\res.found=true)\/(o.kind=3/\res.found=false) then .ret (res,true) else
   (Q1w o w q (decide (Q05 w=2)) res.found).bind fun x=>if x.2=false then .ret (Res.err 8,true) else
   (Q1m 1 (wrap64 (n+2)) (G.sa n i) w x.1).bind fun d=>if d=3 then .ret (Res.err 8,true) else
   (if d=1/\(o.kind≠2\/res.found=false) then Q0J fu path none else .ret ()).bind fun _=>.ret (res,decide (d=1)):Prog (Res×Bool)).bind f) R G1
  by_cases c:false=true\/(o.kind=1/\res.found=true)\/(o.kind=3/\res.found=false)
  ·rw[if_pos c];exact k _ G1 i1 x1
  ·rw[if_neg c,Q02]
   have lw1:=lw.ext x1;refine Qb8 hM i1 lw1 hq hne (fun x G2 i2 x2=>k _ G2 i2 (x1.trans x2)) (fun x G2 i2 x2 vr up=> ?_);show Safe M t (((Q1m 1 (wrap64 (n+2)) (G.sa n i) w x).bind _).bind f) R G2
   rw[Q02]
   have lw2:=lw1.ext x2;have cn:=i2.cap n (by rw[lw2.at_.ty];decide)
   rw[Q3Z lw2.at_.ty] at cn
   have a0:=lw2.at_.i0;have a1:=lw2.at_.i1;have lk:=lw.k2
   rw[Q2q (x:=n+2) (by omega) (by omega),<-(x1.trans x2).sa lw.at_.ty]
   refine Q5N hM lw2.at_ lw2.vw (.inl vr) up (fun h=>by omega) (fun h=>by omega) i2 fun d G3 i3 x3=> ?_;have x03:=(x1.trans x2).trans x3;by_cases c3:d=3
   ·rw[if_pos c3];exact k _ G3 i3 x03
   ·rw[if_neg c3,Q02]
    by_cases c1:d=1/\(o.kind≠2\/res.found=false)
    ·rw[if_pos c1]
     exact Q6M hM path none G3 i3 (fun e he=>(hp e he).ext x03) (fun e he=>by cases he) fun G4 i4 x4=>k _ G4 i4 (x03.trans x4)
    ·rw[if_neg c1];exact k _ G3 i3 x03
 by_cases c2:Q05 w=2
 ·rw[if_pos c2,Q02]
  have tw:G.ty (wAt w)=2:=by rw[lw.vw.ty];exact c2
  refine Safe.read fun C1 G1 r1 p1=> ?_;have tw1:G1.ty (wAt w)=2:=by rw[r1.ext.ty _ (by omega)];exact tw
  rw[(p1.leaf _ tw1).1];by_cases cq:G1.k1 (wAt w)=o.key
  ·rw[if_pos cq,Q02]
   refine Safe.read fun C2 G2 r2 p2=> ?_;exact body _ _ G2 r2.inv (r1.ext.trans r2.ext) (fun _=>(r2.ext.k1 _ (by omega)).symm) (fun _ h=>by simp at h)
  ·rw[if_neg cq]
   exact body _ _ G1 r1.inv r1.ext (fun _=>rfl) (fun _ _=>cq)
 ·rw[if_neg c2]
  exact body 0 Res.none G hi (Ext.refl _) (fun h=>absurd h c2) (fun h=>absurd h c2)
theorem Q5g (hM:M<=16384) {fu:Nat} {o:Op} {f:Res×Bool->Prog β}:∀(m:Nat) (n:Int) (path:List Entry) (G:GS),Inv G->G.ty n=3->G.cmp n->G.lo n<=o.key->o.key<=G.hi n->(∀e∈path,PE G e)->(∀r G',Inv G'->Ext G G'->Safe M t (f r) R G')->Safe M t ((Q13 fu o m n path).bind f) R G
 |0,_,_,_,_,_,_,_,_,_,_=>trivial
 |m+1,n,path,G,hi,t3,hc,hlo,hhi,hp,k=>by
  show Safe M t ((Prog.chk fun off=>if off=true then .ret (Res.none,true) else
   (Q24 n o.key).bind fun s=>(Q4M m s).bind fun w=>
   if Q05 w=4 then (Q2A fu (wAt w)).bind fun ok=>if ok=false then .ret (Res.err 8,true) else .ret (Res.none,false)
   else if Q05 w=3 then Q13 fu o m (wAt w) (path++[⟨n,s,w⟩])
   else Qe9 fu o n s w path).bind f) R G
  refine Safe.chkOff ?_
  rw[Q02]
  refine Qb9 hi t3 hc hlo hhi fun i G1 i1 x1 a1 k0 k1=> ?_
  rw[Q02]
  refine Q8r m a1 (x1.cmp t3 hc i a1.i0 a1.i1) i1 fun w G2 i2 x2 vw _=> ?_;have x02:=x1.trans x2;have vne:=vw.ne;have t31:=a1.ty;by_cases c4:Q05 w=4
  ·rw[if_pos c4,Q02]
   refine Q6N hM i2 (by rw[vw.ty];exact c4) fun b G3 i3 x3=> ?_
   split
   ·exact k _ G3 i3 (x02.trans x3)
   ·exact k _ G3 i3 (x02.trans x3)
  ·rw[if_neg c4]
   by_cases c3:Q05 w=3
   ·rw[if_pos c3]
    have nd:=vw.nod c3
    have vr:VR G2 (G2.ks n i) (G2.ks n (i+1)-1) w:=by
     rcases vw with v|v
     ·exact v
     ·omega
    obtain ⟨e1,e2,-⟩:=vr.e3 c3;have ek:=x2.ks n (by omega);refine Q5g hM m (wAt w) _ G2 i2 nd.ty nd.cmp (by rw[e1,ek];exact k0) (by rw[e2,ek];omega) (fun e he=> ?_) (fun r G' i' x'=>k r G' i' (x02.trans x'))
    rcases List.mem_append.1 he with he|he
    ·exact (hp e he).ext x02
    ·rw[List.mem_singleton.1 he]
     exact ⟨i,x2.at_ a1,(x2.sa a1.ty i).symm,vw,c3⟩
   ·rw[if_neg c3]
    have ek:=x2.ks n (by omega);rw[<-x2.sa a1.ty];exact Qet hM i2 ⟨x2.at_ a1,vw,by omega,by rw[ek];exact k0,by rw[ek];exact k1⟩ (fun e he=>(hp e he).ext x02) fun r G' i' x'=>k r G' i' (x02.trans x')
theorem Q5O (hM:M<=16384) {o:Op} (ho:Q1y<=o.key/\o.key<=Q2M):∀(fu:Nat) (G:GS),Inv G->Safe M t (Q1K o fu) (fun _ _=>True) G
 |0,_,_=>trivial
 |fu+1,G,hi=>by
  show Safe M t ((Q13 fu o fu 1 []).bind fun r=>if r.2=true then .ret r.1 else Q1K o fu) (fun _ _=>True) G;obtain ⟨a1,a2,a3,a4,a5,a6⟩:=hi.r1;refine Q5g hM fu 1 [] G hi a1 a6 (by rw[a3];exact ho.1) (by rw[a4];exact ho.2) (fun e he=>by cases he) fun r G1 i1 x1=> ?_
  split
  ·exact fun _ _=>trivial
  ·exact Q5O hM ho fu G1 i1
end
def ReadsP {α:Type}:Prog α->Prop
 |.ret _=>True
 |.ask q k=>q.kind=1/\∀v,ReadsP (k v)
 |.chk k=>∀b,ReadsP (k b)
 |.stuck p=>ReadsP p
theorem ReadsP.safe {α:Type} {M:Int} {t:Nat}:∀{p:Prog α} {G:GS},ReadsP p->Safe M t p (fun _ _=>True) G
 |.ret a,G,h=>fun _ _=>trivial
 |.ask q k,G,h=>fun C G1 hr hp hl=>by
  have e:exQ M q C=(rdC C q.a,C):=if_pos h.1;refine ⟨G1, ?_,Guar.refl hr.inv, ?_⟩
  ·rw[e];exact hp
  ·rw[e];exact ReadsP.safe (h.2 _)
 |.chk k,G,h=>ReadsP.safe (p:=k false) (h false)
 |.stuck p,G,h=>trivial
theorem ReadsP.bind {α β:Type}:∀{p:Prog α} {f:α->Prog β},ReadsP p->(∀a,ReadsP (f a))->ReadsP (p.bind f)
 |.ret a,f,h,hf=>hf a
 |.ask q k,f,h,hf=>⟨h.1,fun v=>ReadsP.bind (h.2 v) hf⟩
 |.chk k,f,h,hf=>fun b=>ReadsP.bind (h b) hf
 |.stuck p,f,h,hf=>ReadsP.bind (p:=p) h hf
theorem ReadsP.ite {α:Type} {c:Prop} [Decidable c] {p q:Prog α} (h1:ReadsP p) (h2:ReadsP q):ReadsP (if c then p else q):=by split<;>assumption
theorem Q8A {α:Type} (a:α):ReadsP (.ret a):=trivial
theorem Q0K (a:Int):ReadsP (Q0e a):=⟨rfl,fun _=>trivial⟩
theorem Q4T (s:Int):ReadsP (Q2V s):=(Q0K s).bind fun w=>ReadsP.ite ((Q0K _).bind fun o=>ReadsP.ite (Q0K _) (Q0K _)) trivial
theorem Q6P (n k d:Int):∀(f:Nat) (i:Int),ReadsP (Q1J n k d f i)
 |0,_=>trivial
 |f+1,i=>fun b=>ReadsP.ite ((Q0K _).bind fun q=>ReadsP.ite trivial (Q6P n k d f (i-1))) trivial
theorem Q7x (n k d m:Int):∀(f:Nat) (i:Int),ReadsP (Q4G n k d m f i)
 |0,_=>trivial
 |f+1,i=>fun b=>ReadsP.ite ((Q0K _).bind fun q=>ReadsP.ite trivial (Q7x n k d m f (i+1))) trivial
theorem Q5S (n k:Int):ReadsP (Q1B n k):=
 (Q0K n).bind fun d=>ReadsP.ite trivial ((Q0K _).bind fun first=>ReadsP.ite trivial (ReadsP.ite trivial ((Q0K _).bind fun last=>ReadsP.ite trivial (fun b=>ReadsP.ite trivial (ReadsP.ite ((Q0K _).bind fun q=>ReadsP.ite (Q6P ..) (Q7x ..)) (Q7x ..))))))
theorem Q9A (n k:Int):ReadsP (Q24 n k):=(Q5S n k).bind fun _=>trivial
theorem Q4S (k:Int):∀(f:Nat) (n:Int),ReadsP (Q4m k f n)
 |0,_=>trivial
 |f+1,n=>fun b=>ReadsP.ite trivial ((Q9A n k).bind fun s=>(Q4T s).bind fun w=>ReadsP.ite ((Q0K _).bind fun q=>ReadsP.ite ((Q0K _).bind fun _=>trivial) trivial) (ReadsP.ite (Q4S k f _) (ReadsP.ite ((Q0K _).bind fun t=>Q4S k f _) trivial)))
theorem Q9z (x:WQ) (a:Int) (st:WAcc):ReadsP (Q43 x a st):=(Q0K a).bind fun q=>ReadsP.ite trivial ((ReadsP.ite (Q0K _) (Q8A _)).bind fun _=>trivial)
theorem Q4R (x:WQ) (thr:Int->WAcc->Prog (WAcc×Bool)) (ht:∀a st,ReadsP (thr a st)):∀(f:Nat) (n d i:Int) (st:WAcc),ReadsP (Q1f x thr f n d i st)
 |0,_,_,_,_=>trivial
 |f+1,n,d,i,st=>fun b=>ReadsP.ite trivial ((Q4T _).bind fun w b2=>ReadsP.ite trivial
   ((ReadsP.ite (Q9z ..) (ReadsP.ite (ht _ _) (ReadsP.ite ((Q0K _).bind fun t=>ht _ _) (Q8A _)))).bind fun r=>ReadsP.ite trivial
    (ReadsP.ite (ReadsP.ite trivial ((Q0K _).bind fun q=>ReadsP.ite trivial (Q4R x thr ht f _ _ _ _))) (ReadsP.ite trivial ((Q0K _).bind fun q=>ReadsP.ite trivial (Q4R x thr ht f _ _ _ _))))))
theorem Q4s (x:WQ):∀(f:Nat) (n:Int) (st:WAcc),ReadsP (Q0q x f n st)
 |0,_,_=>trivial
 |f+1,n,st=>(Q5S ..).bind fun r=>Q4R x _ (fun a st=>Q4s x f a st) _ _ _ _ _
theorem Q5T:∀l:List (Int×Int),ReadsP (Q46 l)
 |[]=>trivial
 |p::l=>fun b=>ReadsP.ite trivial ((Q4T _).bind fun w=>ReadsP.ite (Q5T l) trivial)
theorem Q5j (f:Nat) (o:Op):∀b,ReadsP (Q27 f o b)
 |0=>trivial
 |b+1=>fun _=>ReadsP.ite trivial ((Q4s ..).bind fun r _=>ReadsP.ite trivial ((Q5T _).bind fun same=>ReadsP.ite trivial (Q5j f o b)))
theorem Q9y (f:Nat) (o:Op) (budget:Int):ReadsP (Q5k f o budget):=ReadsP.ite ((Q4S ..).bind fun r=>ReadsP.ite trivial trivial) (Q5j ..)
section
variable {α:Type} {M:Int} {t:Nat} {Q:α->GS->Prop} {R:α->Nat->Prop}
theorem Q2T:∀(p:Prog α) (T:List Int) (v:Int),p.rest (T++[v])=(p.rest T).rest [v]
 |.ret a,_,_=>rfl
 |.ask q k,[],v=>rfl
 |.ask q k,x::T,v=>Q2T (k x) T v
 |.chk k,T,v=>Q2T (k false) T v
 |.stuck p,T,v=>by
  show Prog.stuck (p.rest (T++[v]))=Prog.stuck ((p.rest T).rest [v])
  rw[Q2T p T v]
theorem Q4N:∀{p:Prog α} {G:GS},Safe M t p Q G->Safe M t (p.rest []) Q G
 |.ret a,_,h=>h
 |.ask q k,_,h=>h
 |.chk k,_,h=>Q4N (p:=k false) h
 |.stuck p,_,_=>trivial
theorem Q9P:∀{p:Prog α} {n:Nat} (T:List Int),p.Dp n (fun _ _=>True)->T.length<n->(p.rest T).Dp (n-T.length) (fun _ _=>True)
 |_,0,_,_,h=>absurd h (by omega)
 |.ret a,n+1,T,h,_=>Q6j fun _=>trivial
 |.ask q k,n+1,[],h,_=>h
 |.ask q k,n+1,x::T,h,hl=>by
  have hl:T.length<n:=by simpa using hl
  have:=Q9P (p:=k x) (n:=n) T (h x) hl
  rw[show n+1-(x::T).length=n-T.length by simp]
  exact this
 |.chk k,n+1,T,h,hl=>Q9P (p:=k false) (n:=n+1) T h hl
 |.stuck p,n+1,_,h,_=>h.elim
theorem Q8u:∀{p:Prog α} {G:GS} {n:Nat} {q:Ask},Safe M t p Q G->p.Dp n R->0<n->p.next=some q->∀{C:List Int} {G1:GS},Rely t G G1->Rep C G1->(C.length:Int)<=M->
  ∃G2,Rep (exQ M q C).2 G2/\Guar t G1 G2/\Safe M t (p.rest [(exQ M q C).1]) Q G2
 |.ret a,_,_,_,_,_,_,e,_,_,_,_,_=>by cases e
 |.ask q k,G,n,q',h,hd,hn,e,C,G1,hr,hp,hl=>by
  have e:q=q':=by injection e
  subst e;obtain ⟨G2,h1,h2,h3⟩:=h C G1 hr hp hl;exact ⟨G2,h1,h2,Q4N h3⟩
 |.chk k,G,n+1,q',h,hd,hn,e,C,G1,hr,hp,hl=>Q8u (p:=k false) (n:=n+1) h hd hn e hr hp hl
 |.stuck p,G,n+1,q',h,hd,hn,e,C,G1,hr,hp,hl=>hd.elim
theorem Q8s:∀{p:Prog α} {G G1:GS},Safe M t p Q G->Rely t G G1->Safe M t p Q G1
 |.ret a,_,_,h,hr=>fun G' hr'=>h G' (hr.trans hr')
 |.ask q k,_,_,h,hr=>fun C G2 hr'=>h C G2 (hr.trans hr')
 |.chk k,_,_,h,hr=>Q8s (p:=k false) h hr
 |.stuck p,_,_,_,_=>trivial
end
section
variable {F G:Nat->Prop} {rb:Nat} {w0 w w':World} {s s':RunS}
theorem RAt.here (h:RAt F rb w0 s w):RAt (fun x=>F x\/w0.heap.size<=x) rb w s w:=RAt.refl h.1
theorem RAt.step (h:RAt F rb w0 s w) (h':RAt (fun x=>F x\/w0.heap.size<=x) rb w s' w'):RAt F rb w0 s' w':=
 ⟨h'.1.mono (fun x hx=>hx.elim id (fun e=>.inr (Nat.le_trans h.2.size e))),h.2.trans h'.2⟩
theorem RAt.keepT (h:RAt F rb w0 s w) (c:Chg G w w') (hG:∀x,G x->w0.heap.size<=x/\∃t cs,Blk w x t cs/\t≠145/\t≠2):RAt F rb w0 s w':=by
 obtain ⟨⟨tv,wv,rec,laid,hq⟩,hc⟩:=h;refine ⟨⟨tv,wv,rec,laid,hq.fb,c.blk hq.blk (fun g=> ?_),c.own hq.tape (fun g hg k=> ?_),c.own hq.ws (fun g hg k=> ?_),hq.ft,hq.fw⟩,hc.grow c (fun x hx=>.inr (hG x hx).1)⟩
 ·obtain ⟨_,t,cs,hb,h1,_⟩:=hG _ g;exact hb.ne_ hq.blk h1 rfl
 ·obtain ⟨_,t,cs,hb,_,h2⟩:=hG _ k;obtain ⟨cs',hb'⟩:=Q1r hq.tape hg;exact hb.ne_ hb' h2 rfl
 ·obtain ⟨_,t,cs,hb,_,h2⟩:=hG _ k;obtain ⟨cs',hb'⟩:=Q1r hq.ws hg;exact hb.ne_ hb' h2 rfl
theorem RAt.keepB (h:RAt F rb w0 s w) (c:Chg (fun x=>x=rb) w w') {g:Nat} {t:TypeId} {cs:Array Value} (hb:Blk w g t cs) (ht:t≠145):Blk w' g t cs:=by
 obtain ⟨⟨tv,wv,rec,laid,hq⟩,hc⟩:=h;exact c.blk hb (fun e=>hb.ne_ hq.blk ht e)
theorem RAt.keepO (h:RAt F rb w0 s w) (c:Chg (fun x=>x=rb) w w') {base n:Nat} {e:TypeId} {size:Nat} {v:Value} {xs:List Value} (hO:w.ownsRow base e size v n xs) (he:e≠145):w'.ownsRow base e size v n xs:=by
 obtain ⟨⟨tv,wv,rec,laid,hq⟩,hc⟩:=h;exact c.own hO (fun g hg e'=>Q0o hO hq.blk he (e'▸hg))
end
theorem Q2C {w:World} {B:Nat} {ad:Addr} {L:List (Int×Int)} (h:PairsAt w B (some ad) L) {i:Nat} (hi:i<L.length):w.cell? (ad.add (i*2))=some (.int .i64 (Q17 L i))/\w.cell? {block:=(ad.add (i*2)).block,off:=(ad.add (i*2)).off+1}=some (.int .i64 (Q4b L i)):=by
 obtain ⟨ad',e,_,hc⟩:=PairsAt.both h (by omega);injection e with e;subst e;obtain ⟨k1,v1⟩:=hc _ hi;rw[<-Addr.add_add] at v1;exact ⟨k1,v1⟩
section
variable (F:Nat->Prop) (rb:Nat) (w0:World)
def Qe3 (l:List (Int×Int)) (A:Option Addr) (v:Bool) (s':RunS) (iv:Value) (wr:World):Prop:=∃(j:Nat) (s:RunS),iv=.int .i64 j/\j<=l.length/\RAt F rb w0 s wr/\s.Bd/\PairsAt wr wr.heap.size A l/\(Q46 (l.drop j)).go s=(v,s')
theorem Qc0 (s0 s':RunS) (v:Bool) (l:List (Int×Int)) (A:Option Addr) (c:Nat) (w:World) (h:RAt F rb w0 s0 w) (d0:s0.Bd) (hg:(Q46 l).go s0=(v,s')) (hb:LB l) (hq:PairsAt w w.heap.size A l) (hA:∀ad,A=some ad->ad.block≠rb) (hl:l.length<=2000000000):
  Calls Tryz.prog 201 #[.pointer (some ⟨rb,0,none⟩),.slice A l.length c] w fun e w'=>e=.returned (.bool v)/\RAt F rb w0 s' w':=by
 have HG:=LH hg;have H0:=LH h;have HLB:=LH hb;have HQ:=LH hq;have HA:=LH hA;clear hg h hb hq hA;go_enter Tryz.func201,Tryz.ntmps201;go_wp2_with (fail)
 go_loopw [5] (fun iv wr=>Qe3 F rb w0 l A v s' iv wr) (fun iv _=>l.length-(intOf iv).toNat)
 case atStart=>unfold Qe3;exact ⟨0,s0,rfl,by omega,H0.out,d0,HQ.out,HG.out⟩
 case round=>
  obtain ⟨j,s1,rfl,j1,h1,d1,hq1,hg1⟩:=hrel;clear H0 HG d0 HQ;have H1:=LH h1;by_cases hlt:j<l.length
  ·have hlt':(j:Int)<(l.length:Int):=by omega
   rw[List.drop_eq_getElem_cons hlt] at hg1
   have hp1:l[j].1=Q17 l j:=by unfold Q17;rw[List.getD_eq_getElem?_getD,List.getElem?_eq_getElem hlt];rfl
   have hp2:l[j].2=Q4b l j:=by unfold Q4b;rw[List.getD_eq_getElem?_getD,List.getElem?_eq_getElem hlt];rfl
   unfold Q46 at hg1
   rw[hp1,hp2] at hg1
   clear hp1 hp2;have HG:=LH hg1;clear hg1;have hg:=HG.out;clear HG
   rw[Q0B] at hg
   have HG:=LH hg;clear hg
   cases ho:s1.off with
   |true=>
    have c2:=Q0c H1.out ho;have hg:=HG.out;clear HG
    rw[ho] at hg
    have HG:=LH hg;clear hg;have hg:=HG.out;clear HG
    rw[if_pos rfl] at hg
    have HG:=LH hg;clear hg;clear ho;obtain ⟨rfl,rfl⟩:=Prod.mk.inj HG.out;go_wp2_with (fail);go_ret;exact ⟨rfl,H1.out⟩
   |false=>
    have c2:=Q0c H1.out ho;have hg:=HG.out;clear HG
    rw[ho] at hg
    have HG:=LH hg;clear hg;have hg:=HG.out;clear HG
    rw[if_neg Bool.false_ne_true] at hg
    have HG:=LH hg;clear hg;clear ho;obtain ⟨ad,rfl,hab,_⟩:=PairsAt.both hq1 (by omega);obtain ⟨k1,k2⟩:=Q2C hq1 hlt;have b1:=(HLB.out.at_ j).1;have HK:=LH (fun (w2:World) (h:PairsAt w2 w2.heap.size (some ad) l)=>Q2C h hlt);generalize Q17 l j=sl at HG k1 b1 HK|-;generalize Q4b l j=wd at HG k2 HK|-;have HQ1:=LH hq1;clear hq1;obtain ⟨v2,s2,g2⟩:=Q0k (Q2V sl) s1;have hg:=HG.out;clear HG
    rw[Q01,g2] at hg
    have HG:=LH hg;clear hg;obtain ⟨b2,d2⟩:=Q0b g2 (Q29 b1) d1;have G2:=LH g2;have HD:=LH H1.out.drew;have HQD:Hid (PairsAt wr.drew wr.drew.heap.size (some ad) l):=LH (HQ1.out.below (Q08 (Drawn.of wr 1) _));have K0:=LH (HK.out _ HQD.out);clear g2;have tst:wr.drew.cell? (ad.add (j*2))=some (.int .i64 sl):=K0.out.1;go_wp2_with (fail)
    go_region_held3 (fun w'=>w'.cell? (ad.add (j*2))=some (.int .i64 sl)/\w'.cell? {block:=(ad.add (j*2)).block,off:=(ad.add (j*2)).off+1}=some (.int .i64 wd)) (first|go_keep|exact K0.out|exact K1.out|exact K0.out.1|exact K0.out.2|exact K1.out.1|exact K1.out.2) (first|(go_at_call 194;(with_reducible refine (Q3u _ rb _ s1 s2 v2 sl _ HD.out.here d1 G2.out b1).mono ?_);rintro e w2 ⟨rfl,h2⟩;have HQ2:=LH ((PairsAt.chg HQD.out h2.2 (Nat.le_refl _) HA.out).more h2.2.size);have H2:=LH (HD.out.step h2);have K1:=LH (HK.out w2 HQ2.out);clear h2))
    all_goals
     by_cases kw:v2=wd
     ·have e2:(v2 !=wd)=false:=by simpa using kw
      have hg:=HG.out;clear HG
      rw[if_pos kw] at hg
      have HG:=LH hg;clear hg;clear kw;go_wp2_with (fail)
      go_roundw
      case rel=>unfold Qe3;exact ⟨j+1,s2,by go_num,by omega,H2.out,d2,HQ2.out,HG.out⟩
      case measure=>simp[intOf];omega
     ·have e2:(v2 !=wd)=true:=by simpa using kw
      have hg:=HG.out;clear HG
      rw[if_neg kw] at hg
      have HG:=LH hg;clear hg;clear kw;obtain ⟨rfl,rfl⟩:=Prod.mk.inj HG.out;go_wp2_with (fail);go_ret;exact ⟨rfl,H2.out⟩
  ·have e:j=l.length:=by omega
   subst e
   rw[List.drop_length] at hg1
   have HG:=LH hg1;clear hg1;obtain ⟨rfl,rfl⟩:=Prod.mk.inj HG.out;go_wp2_with (fail);go_ret;exact ⟨rfl,H1.out⟩
end
structure RWQ (F:Nat->Prop) (rb:Nat) (w0:World) (s:RunS) (wb:Nat) (x:WQ) (st:WAcc) (pv sv:Value) (w:World):Prop where
 run:RAt F rb w0 s w
 nb:w0.heap.size<=wb
 blk:Blk w wb 43 #[.int .i64 x.lo,.int .i64 x.hi,.bool x.back,.int .i64 x.most,.bool x.values,pv,sv]
 prs:w.ownsRow w0.heap.size 52 2 pv st.pairs.length (Q0p st.pairs)
 sps:w.ownsRow w0.heap.size 114 2 sv st.spots.length (Q0p st.spots)
 lp:st.pairs.length+s.left<=2000000000
 ls:st.spots.length+s.left<=2000000000
def RW (F:Nat->Prop) (rb:Nat) (w0:World) (s:RunS) (wb:Nat) (x:WQ) (st:WAcc) (w:World):Prop:=∃pv sv,RWQ F rb w0 s wb x st pv sv w
section
variable {F:Nat->Prop} {rb wb gg cap:Nat} {w0 w w' wd w5:World} {s s':RunS} {x:WQ} {st:WAcc} {pv sv:Value} {k v:Int}
theorem RW.here (h:RW F rb w0 s wb x st w):RAt (fun y=>F y\/w0.heap.size<=y) rb w s w:=by obtain ⟨pv,sv,h⟩:=h;exact h.run.here
theorem RW.run (h:RW F rb w0 s wb x st w):RAt F rb w0 s w:=by obtain ⟨pv,sv,h⟩:=h;exact h.run
theorem RW.run_ (h:RW F rb w0 s wb x st w) (h':RAt (fun y=>F y\/w0.heap.size<=y) rb w s' w') (hl:s'.left<=s.left):RW F rb w0 s' wb x st w':=by
 obtain ⟨pv,sv,h⟩:=h;exact ⟨pv,sv,h.run.step h',h.nb,h.run.keepB h'.2 h.blk (by decide),h.run.keepO h'.2 h.prs (by decide),h.run.keepO h'.2 h.sps (by decide),by have:=h.lp;omega,by have:=h.ls;omega⟩
theorem RWQ.below (h:RWQ F rb w0 s wb x st pv sv w) (hb:Below w.heap.size w w'):RWQ F rb w0 s wb x st pv sv w':=
 ⟨h.run.below hb,h.nb,h.blk.below hb h.blk.lt,Q0n h.prs hb,Q0n h.sps hb,h.lp,h.ls⟩
theorem RW.below (h:RW F rb w0 s wb x st w) (hb:Below w.heap.size w w'):RW F rb w0 s wb x st w':=by
 obtain ⟨pv,sv,h⟩:=h;exact ⟨pv,sv,h.below hb⟩
theorem Q8K {base base' n n':Nat} {e e':TypeId} {size size':Nat} {v v':Value} {xs xs':List Value} (h:w.ownsRow base e size v n xs) (h':w.ownsRow base' e' size' v' n' xs') (hne:e≠e'):∀g,v.ownBlock=some g->¬v'.ownBlock=some g:=fun g hg hg'=>by
 obtain ⟨cs,hb⟩:=Q1r h hg;obtain ⟨cs',hb'⟩:=Q1r h' hg';exact hb.ne_ hb' hne rfl
theorem RWQ.appp {v':Value} (h:RWQ F rb w0 s wb x st pv sv w) (hb:Below w.heap.size w wd) (hO:w5.ownsRow w0.heap.size 52 2 v' (st.pairs.length+1) (Q0p st.pairs++[.int .i64 k,.int .i64 v])) (hg:wd.grownBy w5 pv.ownBlock) (hl:st.pairs.length+1+s.left<=2000000000):
  Hid (w5.cell? ⟨wb,5,none⟩=some pv/\w5.frozen? ⟨wb,5,none⟩=false/\RWQ F rb w0 s wb x ⟨st.pairs++[(k,v)],st.spots⟩ v' sv (w5.setCell ⟨wb,5,none⟩ v')):=by
 have hc:Chg (fun y=>pv.ownBlock=some y) w w5:=(Chg.of_below hb).trans (Chg.of_grown hg);have hbl:=hc.blk h.blk (fun e=>Q0o h.prs h.blk (by decide) e)
 have r5:=h.run.keepT hc (fun y hy=>by
  obtain ⟨cs,hb⟩:=Q1r h.prs hy;exact ⟨(h.prs.lt y hy).1,_,cs,hb,by decide,by decide⟩)
 have c6:=Chg.of_mv (F:=fun y=>y=wb) (Mv.set1 w5 wb 5 v') rfl;have hs5:=hc.own h.sps (Q8K h.sps h.prs (by decide));refine LH ⟨hbl.cell 5,hbl.frozen 5,r5.keepT c6 (fun y hy=>hy▸⟨h.nb,_,_,hbl,by decide,by decide⟩),h.nb,hbl.set_ 5 _, ?_,c6.own hs5 (Q0t hs5 hbl (by decide)),by simpa using hl,h.ls⟩
 rw[Q1L,List.length_append]
 exact c6.own hO (Q0t hO hbl (by decide))
theorem RWQ.apps {v':Value} (h:RWQ F rb w0 s wb x st pv sv w) (hb:Below w.heap.size w wd) (hO:w5.ownsRow w0.heap.size 114 2 v' (st.spots.length+1) (Q0p st.spots++[.int .i64 k,.int .i64 v])) (hg:wd.grownBy w5 sv.ownBlock) (hl:st.spots.length+1+s.left<=2000000000):
  Hid (w5.cell? ⟨wb,6,none⟩=some sv/\w5.frozen? ⟨wb,6,none⟩=false/\RWQ F rb w0 s wb x ⟨st.pairs,st.spots++[(k,v)]⟩ pv v' (w5.setCell ⟨wb,6,none⟩ v')):=by
 have hc:Chg (fun y=>sv.ownBlock=some y) w w5:=(Chg.of_below hb).trans (Chg.of_grown hg);have hbl:=hc.blk h.blk (fun e=>Q0o h.sps h.blk (by decide) e)
 have r5:=h.run.keepT hc (fun y hy=>by
  obtain ⟨cs,hb⟩:=Q1r h.sps hy;exact ⟨(h.sps.lt y hy).1,_,cs,hb,by decide,by decide⟩)
 have c6:=Chg.of_mv (F:=fun y=>y=wb) (Mv.set1 w5 wb 6 v') rfl;have hs5:=hc.own h.prs (Q8K h.prs h.sps (by decide));refine LH ⟨hbl.cell 6,hbl.frozen 6,r5.keepT c6 (fun y hy=>hy▸⟨h.nb,_,_,hbl,by decide,by decide⟩),h.nb,hbl.set_ 6 _,c6.own hs5 (Q0t hs5 hbl (by decide)), ?_,h.lp,by simpa using hl⟩
 rw[Q1L,List.length_append]
 exact c6.own hO (Q0t hO hbl (by decide))
end
theorem QfO {a v:Int} {s s':RunS} (hg:(Q0e a).go s=(v,s')) (h:s.off=false) (d:s.Bd):s'.left<s.left:=by
 have:=QeV ⟨1,a,0,0,[],0⟩ Prog.ret h d
 rw[show (Prog.ask ⟨1,a,0,0,[],0⟩ Prog.ret).go s=(v,s') from hg] at this
 exact this
theorem Q9C {a v:Int} {s s':RunS} (hg:(Q2V a).go s=(v,s')) (h:s.off=false) (d:s.Bd):s'.left<s.left:=by
 have:=Q5v a (fun w=>if Q05 w=5 then (Q0e (wAt w+4)).bind fun o=>if o=1 then Q0e (wAt w+3) else Q0e (wAt w+2) else .ret w) h d
 rw[show ((Q0e a).bind (fun w=>if Q05 w=5 then (Q0e (wAt w+4)).bind fun o=>if o=1 then Q0e (wAt w+3) else Q0e (wAt w+2) else .ret w)).go s=(v,s') from hg] at this
 exact this
structure WQ.B (x:WQ):Prop where
 lo:i64B x.lo
 hi:i64B x.hi
 most:i64B x.most
theorem Q2y (w:World) (t:TypeId) (a b:Value):∀j u,[a,b][j]? =some u->(w.alloc (.cells #[a,b] t)).cell? ((⟨w.heap.size,0,none⟩:Addr).add j)=some u:=fun j u hu=>by
 have e:(⟨w.heap.size,0,none⟩:Addr).add j=⟨w.heap.size,j,none⟩:=by unfold Addr.add;split<;>simp_all
 rw[e,(Blk.new w t #[a,b]).cell j]
 simpa using hu
section
variable (F:Nat->Prop) (rb wb:Nat) (w0:World)
def Q3H (x:WQ) (st':WAcc) (bb:Bool) (s':RunS) (e:Ending) (w':World):Prop:=e=.returned (.bool bb)/\RW F rb w0 s' wb x st' w'
theorem Q8M (x:WQ) (st:WAcc) (k v:Int) (s:RunS) (w:World) (h:RW F rb w0 s wb x st w) (hl:st.pairs.length+1+s.left<=2000000000):∃A c sv,w.cell? ⟨wb,5,none⟩=some (.slice A st.pairs.length c)/\
  (w.alloc (.cells #[.int .i64 k,.int .i64 v] 52)).ownsRow w0.heap.size 52 2 (.slice A st.pairs.length c) st.pairs.length (Q0p st.pairs)/\
  ∀v' w5,w5.ownsRow w0.heap.size 52 2 v' (st.pairs.length+1) (Q0p st.pairs++[.int .i64 k,.int .i64 v])->(w.alloc (.cells #[.int .i64 k,.int .i64 v] 52)).grownBy w5 (Value.slice A st.pairs.length c).ownBlock->
   Hid (w5.cell? ⟨wb,5,none⟩=some (.slice A st.pairs.length c)/\w5.frozen? ⟨wb,5,none⟩=false/\RWQ F rb w0 s wb x ⟨st.pairs++[(k,v)],st.spots⟩ v' sv (w5.setCell ⟨wb,5,none⟩ v')):=by
 obtain ⟨pv,sv,hq⟩:=h;obtain ⟨A,c,rfl⟩:=Q03 hq.prs;have hb:=(Below.refl w.heap.size w).alloc (Nat.le_refl _) (.cells #[.int .i64 k,.int .i64 v] 52);exact ⟨A,c,sv,hq.blk.cell 5,Q0n hq.prs hb,fun v' w5 hO hg=>hq.appp hb hO hg hl⟩
theorem Qbl (x:WQ) (st st':WAcc) (bb:Bool) (s0 s':RunS) (a:Int) (w:World) (h:RW F rb w0 s0 wb x st w) (d0:s0.Bd) (ho:s0.off=false) (hx:x.B) (a0:0<=a) (a1:a<=65536) (hg:(Q43 x a st).go s0=((st',bb),s')):
  Calls Tryz.prog 262 #[.pointer (some ⟨wb,0,none⟩),.pointer (some ⟨rb,0,none⟩),.int .i64 a] w (Q3H F rb wb w0 x st' bb s'):=by
 obtain ⟨i0,hi0,hz0,hz1,hz2⟩:=info_parts Q3y;unfold Q43 at hg;obtain ⟨v1,s1,g1⟩:=Q0k (Q0e a) s0;have hlt:=QfO g1 ho d0;have hls:=Q0i g1;have hlp:st.pairs.length+1+s1.left<=2000000000:=by obtain ⟨pv,sv,h⟩:=h;have:=h.lp;omega
 rw[Q01,g1] at hg
 obtain ⟨b1,d1⟩:=Q0b g1 (Q04 (Q1V a0 a1)) d0;have hxl:=hx.lo.lo;have hxl2:=hx.lo.hi;have hxh:=hx.hi.lo;have hxh2:=hx.hi.hi;have hxm:=hx.most.lo;have hxm2:=hx.most.hi;have HG:=LH hg;have G1:=LH g1;have H0:=LH h;have HLS:=LH hls;clear hg g1 h hls;clear hlt ho hx;go_enter Tryz.func262,Tryz.ntmps262;go_wp2_with (fail);with_reducible refine (Q0d _ rb _ s0 s1 v1 a _ H0.out.here d0 G1.out).mono ?_
 rintro e w1 ⟨rfl,h1⟩;have H1:=LH (H0.out.run_ h1 HLS.out);clear h1 H0 G1 HLS;have cc:∃pv sv,RWQ F rb w0 s1 wb x st pv sv w1:=H1.out;obtain ⟨pv,sv,hq⟩:=cc;have c0:w1.cell? ⟨wb,0,none⟩=some (.int .i64 x.lo):=hq.blk.cell 0;have c1:w1.cell? ⟨wb,1,none⟩=some (.int .i64 x.hi):=hq.blk.cell 1;have c4:w1.cell? ⟨wb,4,none⟩=some (.bool x.values):=hq.blk.cell 4;clear hq;have hb1:=b1.lo;have hb2:=b1.hi;by_cases k1:v1<x.lo
 ·have hg:=HG.out;clear HG
  rw[if_pos (.inl k1)] at hg
  have HG:=LH hg;clear hg;obtain ⟨hfin,rfl⟩:=Prod.mk.inj HG.out;obtain ⟨rfl,rfl⟩:=Prod.mk.inj hfin;go_wp2_with (fail);go_ret;exact ⟨rfl,H1.out⟩
 ·by_cases k2:x.hi<v1
  ·have hg:=HG.out;clear HG
   rw[if_pos (.inr k2)] at hg
   have HG:=LH hg;clear hg;obtain ⟨hfin,rfl⟩:=Prod.mk.inj HG.out;obtain ⟨rfl,rfl⟩:=Prod.mk.inj hfin;go_wp2_with (fail);go_ret;exact ⟨rfl,H1.out⟩
  ·have hg:=HG.out;clear HG
   rw[if_neg (fun e=>e.elim k1 k2)] at hg
   have HG:=LH hg;clear hg
   cases hv:x.values with
   |true=>
    rw[hv] at c4
    have hg:=HG.out;clear HG
    rw[if_pos hv] at hg
    have HG:=LH hg;clear hg;clear hv;go_wp2_with (fail);obtain ⟨v2,s2,g2⟩:=Q0k (Q0e (a+1)) s1;have HL2:=LH (Q0i g2);have HT2:=LH (Q0v g2);have hg:=HG.out;clear HG
    rw[Q01,g2] at hg
    have HG:=LH hg;clear hg;obtain ⟨b2,d2⟩:=Q0b g2 (Q04 (Q2I a0 a1 (by decide) (by decide))) d1;have G2:=LH g2;clear g2;with_reducible refine (Q0d _ rb _ s1 s2 v2 (a+1) _ H1.out.here d1 G2.out).mono ?_
    rintro e w2 ⟨rfl,h2⟩;have H2:=LH (H1.out.run_ h2 HL2.out);clear h2 H1 G2;have hlp:st.pairs.length+1+s2.left<=2000000000:=by have:=HL2.out;omega
    obtain ⟨hfin,rfl⟩:=Prod.mk.inj HG.out;obtain ⟨rfl,rfl⟩:=Prod.mk.inj hfin;obtain ⟨A,c,sv2,c5,hO,hF⟩:=Q8M F rb wb w0 x st v1 v2 s2 w2 H2.out (by omega);have hsz:=H2.out.run.2.size;have hb1:=(Below.refl w2.heap.size w2).alloc (Nat.le_refl _) (.cells #[.int .i64 v1,.int .i64 v2] 52);have hzz:w0.heap.size<=(w2.alloc (.cells #[.int .i64 v1,.int .i64 v2] 52)).heap.size:=by have:=hb1.size;omega
    have HN:=LH (Q2y w2 52 (.int .i64 v1) (.int .i64 v2));have HOA:=LH hO;have HF:=LH hF;have hpl:st.pairs.length<=2000000000:=by omega
    have hm3:w2.cell? ⟨wb,3,none⟩=some (.int .i64 x.most):=by obtain ⟨pv,sv,hq⟩:=H2.out;exact hq.blk.cell 3
    clear hO hF hb1;go_wp2_with (at_builtin;refine wpList_append_own _ rfl _ _ 40 rfl w0.heap.size 52 i0 (.agg #[.int .i64 0,.int .i64 0]) 2 16 Tryz.underlying40 hi0 hz0 hz1 hz2 rfl (by decide) _ _ _ rfl HOA.out ⟨w2.heap.size,0,none⟩ 1 1 [.int .i64 v1,.int .i64 v2] rfl rfl HN.out (by simp[Value.oneCell']) (by unfold maxLen;omega) (by omega) hzz ?_;intro v' w5 hO5 hg5 _;have K5:=HF.out v' w5 hO5 hg5;have c55:=K5.out.1;have f55:=K5.out.2.1;obtain ⟨A5,c5',rfl⟩:=Q03 hO5;clear hO5 hg5);have hK6:=K5.out.2.2;clear K5 c55 f55 HN HOA HF c5 hm3 hsz hzz;generalize w5.setCell ⟨wb,5,none⟩ (.slice A5 (st.pairs.length+1) c5')=w6 at hK6|-;have d3:w6.cell? ⟨wb,3,none⟩=some (.int .i64 x.most):=hK6.blk.cell 3;have d5:w6.cell? ⟨wb,5,none⟩=some (.slice A5 (st.pairs.length+1) c5'):=hK6.blk.cell 5;have HK6:Hid (∀k,RW F rb w0 s2 wb x ⟨st.pairs++[(v1,v2)],st.spots⟩ (w6.drewN k)):=LH (fun k=>⟨_,_,hK6.below (Q08 ⟨k,rfl⟩ _)⟩);clear hK6;by_cases m1:0<x.most
    ·by_cases m2:x.most<=(st.pairs.length:Int)+1
     ·have em:=LH (show decide (0<x.most/\x.most<=((st.pairs++[(v1,v2)]).length:Int))=true from decide_eq_true ⟨m1,by simp;omega⟩)
      go_quiet (fail)
      go_wp2_with (fail);go_ret;refine ⟨Eq.trans ?_ (congrArg (fun b=>Ending.returned (.bool b)) em.out.symm),HK6.out _⟩;rfl
     ·have em:=LH (show decide (0<x.most/\x.most<=((st.pairs++[(v1,v2)]).length:Int))=false from decide_eq_false (fun e=>m2 (by have:=e.2;simp at this;omega)));have m2':decide (x.most<=(st.pairs.length:Int)+1)=false:=decide_eq_false m2;clear m2
      go_quiet (fail)
      go_wp2_with (fail);go_ret;refine ⟨Eq.trans ?_ (congrArg (fun b=>Ending.returned (.bool b)) em.out.symm),HK6.out _⟩;rfl
    ·have em:=LH (show decide (0<x.most/\x.most<=((st.pairs++[(v1,v2)]).length:Int))=false from decide_eq_false (fun e=>m1 e.1));have m1':decide (0<x.most)=false:=decide_eq_false m1;clear m1
     go_quiet (fail)
     go_wp2_with (fail);go_ret;refine ⟨Eq.trans ?_ (congrArg (fun b=>Ending.returned (.bool b)) em.out.symm),HK6.out _⟩;rfl
   |false=>
    rw[hv] at c4
    have hg:=HG.out;clear HG
    rw[if_neg (show ¬x.values=true by rw[hv];exact Bool.false_ne_true)] at hg
    have HG:=LH hg;clear hg;clear hv;have hg:=HG.out;clear HG
    rw[Q01] at hg
    have HG:=LH hg;clear hg;obtain ⟨hfin,rfl⟩:=Prod.mk.inj HG.out;obtain ⟨rfl,rfl⟩:=Prod.mk.inj hfin;obtain ⟨A,c,sv2,c5,hO,hF⟩:=Q8M F rb wb w0 x st v1 0 s1 w1 H1.out (by omega);have hsz:=H1.out.run.2.size;have hb1:=(Below.refl w1.heap.size w1).alloc (Nat.le_refl _) (.cells #[.int .i64 v1,.int .i64 0] 52);have hzz:w0.heap.size<=(w1.alloc (.cells #[.int .i64 v1,.int .i64 0] 52)).heap.size:=by have:=hb1.size;omega
    have HN:=LH (Q2y w1 52 (.int .i64 v1) (.int .i64 0));have HOA:=LH hO;have HF:=LH hF;have hpl:st.pairs.length<=2000000000:=by omega
    have hm3:w1.cell? ⟨wb,3,none⟩=some (.int .i64 x.most):=by obtain ⟨pv,sv,hq⟩:=H1.out;exact hq.blk.cell 3
    clear hO hF hb1;go_wp2_with (at_builtin;refine wpList_append_own _ rfl _ _ 40 rfl w0.heap.size 52 i0 (.agg #[.int .i64 0,.int .i64 0]) 2 16 Tryz.underlying40 hi0 hz0 hz1 hz2 rfl (by decide) _ _ _ rfl HOA.out ⟨w1.heap.size,0,none⟩ 1 1 [.int .i64 v1,.int .i64 0] rfl rfl HN.out (by simp[Value.oneCell']) (by unfold maxLen;omega) (by omega) hzz ?_;intro v' w5 hO5 hg5 _;have K5:=HF.out v' w5 hO5 hg5;have c55:=K5.out.1;have f55:=K5.out.2.1;obtain ⟨A5,c5',rfl⟩:=Q03 hO5;clear hO5 hg5);have hK6:=K5.out.2.2;clear K5 c55 f55 HN HOA HF c5 hm3 hsz hzz;generalize w5.setCell ⟨wb,5,none⟩ (.slice A5 (st.pairs.length+1) c5')=w6 at hK6|-;have d3:w6.cell? ⟨wb,3,none⟩=some (.int .i64 x.most):=hK6.blk.cell 3;have d5:w6.cell? ⟨wb,5,none⟩=some (.slice A5 (st.pairs.length+1) c5'):=hK6.blk.cell 5;have HK6:Hid (∀k,RW F rb w0 s1 wb x ⟨st.pairs++[(v1,0)],st.spots⟩ (w6.drewN k)):=LH (fun k=>⟨_,_,hK6.below (Q08 ⟨k,rfl⟩ _)⟩);clear hK6;by_cases m1:0<x.most
    ·by_cases m2:x.most<=(st.pairs.length:Int)+1
     ·have em:=LH (show decide (0<x.most/\x.most<=((st.pairs++[(v1,0)]).length:Int))=true from decide_eq_true ⟨m1,by simp;omega⟩)
      go_quiet (fail)
      go_wp2_with (fail);go_ret;refine ⟨Eq.trans ?_ (congrArg (fun b=>Ending.returned (.bool b)) em.out.symm),HK6.out _⟩;rfl
     ·have em:=LH (show decide (0<x.most/\x.most<=((st.pairs++[(v1,0)]).length:Int))=false from decide_eq_false (fun e=>m2 (by have:=e.2;simp at this;omega)));have m2':decide (x.most<=(st.pairs.length:Int)+1)=false:=decide_eq_false m2;clear m2
      go_quiet (fail)
      go_wp2_with (fail);go_ret;refine ⟨Eq.trans ?_ (congrArg (fun b=>Ending.returned (.bool b)) em.out.symm),HK6.out _⟩;rfl
    ·have em:=LH (show decide (0<x.most/\x.most<=((st.pairs++[(v1,0)]).length:Int))=false from decide_eq_false (fun e=>m1 e.1));have m1':decide (0<x.most)=false:=decide_eq_false m1;clear m1
     go_quiet (fail)
     go_wp2_with (fail);go_ret;refine ⟨Eq.trans ?_ (congrArg (fun b=>Ending.returned (.bool b)) em.out.symm),HK6.out _⟩;rfl
end
def Q7i (x:WQ) (g:Nat) (w:Int) (st:WAcc):Prog (WAcc×Bool):=
 if Q05 w=2 then Q43 x (wAt w) st
 else if Q05 w=3 then Q0q x g (wAt w) st
 else if Q05 w=4 then (Q0e (wAt w)).bind fun t=>Q0q x g (wAt t) st
 else .ret (st,false)
theorem Q9f {x:WQ} {g:Nat} {w:Int} {st:WAcc} (hs:st.B):(Q7i x g w st).Ok (fun r=>r.1.B):=
 Q0h (fun _=>Q8N (Q0D w).1 (Q0D w).2 hs) fun _=>Q0h (fun _=>Q2s g _ _ (Q0D w).1 (Q0D w).2 hs) fun _=>Q0h (fun _=>Q07 (Q04 (Q0H w)) fun t _=>Q2s g _ _ (Q0D t).1 (Q0D t).2 hs) fun _=>hs
theorem Q5E (x:WQ) (g f:Nat) (n d i:Int) (st:WAcc):Q1f x (Q0q x g) (f+1) n d i st=.chk fun off=>if off=true then .ret (st,true) else
  (Q2V (Q06 n d i)).bind fun w=>.chk fun off2=>if off2=true then .ret (st,true) else
  (Q7i x g w ⟨st.pairs,st.spots++[(Q06 n d i,w)]⟩).bind fun r=>
  if r.2=true then .ret (r.1,true) else
  if x.back=true then (if i=0 then .ret (r.1,false) else (Q0e (Q0j n i)).bind fun q=>if q<=x.lo then .ret (r.1,false) else Q1f x (Q0q x g) f n d (wrap64 (i-1)) r.1)
  else if wrap64 (i+1)=d then .ret (r.1,false) else (Q0e (Q0j n (wrap64 (i+1)))).bind fun q=>if x.hi<q then .ret (r.1,false) else Q1f x (Q0q x g) f n d (wrap64 (i+1)) r.1:=rfl
theorem Q4K {x:WQ} {thr:Int->WAcc->Prog (WAcc×Bool)} {n d i:Int} {st:WAcc} {s:RunS} (h:s.off=true):∀f,(Q1f x thr f n d i st).go s=((st,true),s)
 |0=>rfl
 |f+1=>by unfold Q1f;rw[Q0B,if_pos h];rfl
section
variable (F:Nat->Prop) (rb wb:Nat) (w0:World)
def ThrC (x:WQ) (g:Nat):Prop:=∀(st st':WAcc) (bb:Bool) (s0 s':RunS) (n:Int) (w:World),RW F rb w0 s0 wb x st w->s0.Bd->(s0.off=false->s0.left<g)->0<=n->n<=65536->st.B->(Q0q x g n st).go s0=((st',bb),s')->
  Calls Tryz.prog 200 #[.pointer (some ⟨wb,0,none⟩),.pointer (some ⟨rb,0,none⟩),.int .i64 n] w (Q3H F rb wb w0 x st' bb s')
theorem ThrC.use {F:Nat->Prop} {rb wb:Nat} {w0:World} {x:WQ} {g:Nat} (h:ThrC F rb wb w0 x g) (st st':WAcc) (bb:Bool) (s0 s':RunS) (n:Int) (w:World) (h0:RW F rb w0 s0 wb x st w) (d0:s0.Bd) (hf:s0.off=false->s0.left<g) (n0:0<=n) (n1:n<=65536) (hs:st.B) (hg:(Q0q x g n st).go s0=((st',bb),s')):
  Calls Tryz.prog 200 #[.pointer (some ⟨wb,0,none⟩),.pointer (some ⟨rb,0,none⟩),.int .i64 n] w (Q3H F rb wb w0 x st' bb s'):=h st st' bb s0 s' n w h0 d0 hf n0 n1 hs hg
theorem Q7h (x:WQ) (g:Nat) (hth:ThrC F rb wb w0 x g) (st st':WAcc) (bb:Bool) (s0 s':RunS) (v:Int) (w:World) (h:RW F rb w0 s0 wb x st w) (d0:s0.Bd) (ho:s0.off=false) (hx:x.B) (hv:i64B v) (hf:s0.left<g) (hs:st.B) (hg:(Q7i x g v st).go s0=((st',bb),s')):
  Calls Tryz.prog 234 #[.pointer (some ⟨wb,0,none⟩),.pointer (some ⟨rb,0,none⟩),.int .i64 v] w (Q3H F rb wb w0 x st' bb s'):=by
 unfold Q7i at hg;have hv0:=hv.lo;have hv1:=hv.hi;obtain ⟨a0,a1⟩:=Q0D v;have HG:=LH hg;have H0:=LH h;have HTH:=LH hth;have HX:=LH hx;have HF:=LH hf;have HS:=LH hs;have HO:=LH ho;clear hg h hth hx hf hs ho;go_enter Tryz.func234,Tryz.ntmps234;go_wp2_with (fail);with_reducible refine (Q0x v _ hv0 hv1).mono ?_
 rintro e w1 ⟨rfl,rfl⟩;go_wp2_with (fail);with_reducible refine (Q0A v _ hv0 hv1).mono ?_
 rintro e w1 ⟨rfl,rfl⟩;by_cases k2:Q05 v=2
 ·have hg:=HG.out;clear HG
  rw[if_pos k2] at hg
  have HG:=LH hg;clear hg;have e2:(Q05 v==2)=true:=by simpa using k2
  clear k2;go_wp2_with (fail);with_reducible refine (Qbl F rb wb w0 x st st' bb s0 s' (wAt v) _ H0.out d0 HO.out HX.out a0 a1 HG.out).mono ?_
  rintro e w2 ⟨rfl,h2⟩;have H2:=LH h2;clear h2;go_wp2_with (fail);go_ret;exact ⟨rfl,H2.out⟩
 ·have hg:=HG.out;clear HG
  rw[if_neg k2] at hg
  have HG:=LH hg;clear hg;have e2:(Q05 v==2)=false:=by simpa using k2
  clear k2;by_cases k3:Q05 v=3
  ·have hg:=HG.out;clear HG
   rw[if_pos k3] at hg
   have HG:=LH hg;clear hg;have e3:(Q05 v==3)=true:=by simpa using k3
   clear k3;go_wp2_with (fail);with_reducible refine (HTH.out.use st st' bb s0 s' (wAt v) _ H0.out d0 (fun _=>HF.out) a0 a1 HS.out HG.out).mono ?_
   rintro e w2 ⟨rfl,h2⟩;have H2:=LH h2;clear h2;go_wp2_with (fail);go_ret;exact ⟨rfl,H2.out⟩
  ·have hg:=HG.out;clear HG
   rw[if_neg k3] at hg
   have HG:=LH hg;clear hg;have e3:(Q05 v==3)=false:=by simpa using k3
   clear k3;by_cases k4:Q05 v=4
   ·have hg:=HG.out;clear HG
    rw[if_pos k4] at hg
    have HG:=LH hg;clear hg;have e4:(Q05 v==4)=true:=by simpa using k4
    clear k4;go_wp2_with (fail);obtain ⟨v1,s1,g1⟩:=Q0k (Q0e (wAt v)) s0;have HL1:=LH (Q0i g1);have HT1:=LH (Q0v g1);have hg:=HG.out;clear HG
    rw[Q01,g1] at hg
    have HG:=LH hg;clear hg;obtain ⟨b1,d1⟩:=Q0b g1 (Q04 (Q0H v)) d0;have G1:=LH g1;clear g1;with_reducible refine (Q0d _ rb _ s0 s1 v1 (wAt v) _ H0.out.here d0 G1.out).mono ?_
    rintro e w1 ⟨rfl,h1⟩;have H1:=LH (H0.out.run_ h1 HL1.out);clear h1 H0 G1;obtain ⟨t0,t1⟩:=Q0D v1;go_wp2_with (fail);with_reducible refine (Q0x v1 _ b1.lo b1.hi).mono ?_
    rintro e w2 ⟨rfl,rfl⟩;go_wp2_with (fail);with_reducible refine (HTH.out.use st st' bb s1 s' (wAt v1) _ H1.out d1 (fun _=>Nat.lt_of_le_of_lt HL1.out HF.out) t0 t1 HS.out HG.out).mono ?_
    rintro e w2 ⟨rfl,h2⟩;have H2:=LH h2;clear h2;go_wp2_with (fail);go_ret;exact ⟨rfl,H2.out⟩
   ·have hg:=HG.out;clear HG
    rw[if_neg k4] at hg
    have HG:=LH hg;clear hg;have e4:(Q05 v==4)=false:=by simpa using k4
    clear k4;obtain ⟨hfin,rfl⟩:=Prod.mk.inj HG.out;obtain ⟨rfl,rfl⟩:=Prod.mk.inj hfin;go_wp2_with (fail);go_ret;exact ⟨rfl,H0.out⟩
theorem Q8k (x:WQ) (st:WAcc) (k v:Int) (s:RunS) (w:World) (h:RW F rb w0 s wb x st w) (hl:st.spots.length+1+s.left<=2000000000):∃A c pv,w.cell? ⟨wb,6,none⟩=some (.slice A st.spots.length c)/\
  (w.alloc (.cells #[.int .i64 k,.int .i64 v] 114)).ownsRow w0.heap.size 114 2 (.slice A st.spots.length c) st.spots.length (Q0p st.spots)/\
  ∀v' w5,w5.ownsRow w0.heap.size 114 2 v' (st.spots.length+1) (Q0p st.spots++[.int .i64 k,.int .i64 v])->(w.alloc (.cells #[.int .i64 k,.int .i64 v] 114)).grownBy w5 (Value.slice A st.spots.length c).ownBlock->
   Hid (w5.cell? ⟨wb,6,none⟩=some (.slice A st.spots.length c)/\w5.frozen? ⟨wb,6,none⟩=false/\RWQ F rb w0 s wb x ⟨st.pairs,st.spots++[(k,v)]⟩ pv v' (w5.setCell ⟨wb,6,none⟩ v')):=by
 obtain ⟨pv,sv,hq⟩:=h;obtain ⟨A,c,rfl⟩:=Q03 hq.sps;have hb:=(Below.refl w.heap.size w).alloc (Nat.le_refl _) (.cells #[.int .i64 k,.int .i64 v] 114);exact ⟨A,c,pv,hq.blk.cell 6,Q0n hq.sps hb,fun v' w5 hO hg=>hq.apps hb hO hg hl⟩
theorem RW.cell {F:Nat->Prop} {rb wb:Nat} {w0 w:World} {s:RunS} {x:WQ} {st:WAcc} (h:RW F rb w0 s wb x st w):w.cell? ⟨wb,0,none⟩=some (.int .i64 x.lo)/\w.cell? ⟨wb,1,none⟩=some (.int .i64 x.hi)/\w.cell? ⟨wb,2,none⟩=some (.bool x.back):=by
 obtain ⟨pv,sv,hq⟩:=h;exact ⟨hq.blk.cell 0,hq.blk.cell 1,hq.blk.cell 2⟩
theorem RW.drew {F:Nat->Prop} {rb wb:Nat} {w0 w:World} {s:RunS} {x:WQ} {st:WAcc} (h:RW F rb w0 s wb x st w):RW F rb w0 s wb x st w.drew:=h.below (Q08 (Drawn.of w 1) _)
def Qgp (x:WQ) (g:Nat) (n d:Int) (st':WAcc) (bb:Bool) (s':RunS) (T:List Int) (iv:Value) (wr:World):Prop:=∃(i:Int) (f:Nat) (s:RunS) (st:WAcc),iv=.int .i64 i/\i64B i/\(s.off=false->s.left<f)/\(s.off=false->s.left<g+1)/\s.tape=T/\RW F rb w0 s wb x st wr/\s.Bd/\st.B/\(Q1f x (Q0q x g) f n d i st).go s=((st',bb),s')
theorem Q5e {x:WQ} {n:Int} {st:WAcc} {s:RunS} (h:s.off=true):∀g,(Q0q x g n st).go s=((st,true),s)
 |0=>rfl
 |g+1=>by
  unfold Q0q
  rw[Q01,Q73 _ s h,Q4K h]
def Qfa (x:WQ) (st:WAcc) (s:RunS) (iv:Value) (wr:World):Prop:=∃i:Int,iv=.int .i64 i/\RW F rb w0 s wb x st wr/\wr.cell? ⟨rb,2,none⟩=some (.bool true)
theorem Q3i (x:WQ) (hx:x.B) (hbk:x.back=true) (st:WAcc) (s0:RunS) (n:Int) (w:World) (h:RW F rb w0 s0 wb x st w) (d0:s0.Bd) (ho:s0.off=true) (hn:i64B n):
  Calls Tryz.prog 200 #[.pointer (some ⟨wb,0,none⟩),.pointer (some ⟨rb,0,none⟩),.int .i64 n] w (Q3H F rb wb w0 x st true s0):=by
 obtain ⟨xlo,xhi,xback⟩:=h.cell
 rw[hbk] at xback
 have hk:i64B x.hi:=hx.hi;obtain ⟨v1,s1,g1⟩:=Q0k (Q1B n x.hi) s0;have hs1:s1=s0:=Q7r g1 ho;subst hs1;have hl:=hk.lo;have hh:=hk.hi;have H0:=LH h;have G1:=LH g1;have HN:=LH hn;have HK:=LH hk;clear h g1 hn hk;go_enter Tryz.func200,Tryz.ntmps200;go_wp2_with (fail);with_reducible refine (Q2S _ rb _ s1 s1 v1 n x.hi _ H0.out.here d0 G1.out HN.out HK.out).mono ?_
 rintro e w1 ⟨rfl,h1⟩;have H1:=LH (H0.out.run_ h1 (Nat.le_refl _));clear h1 H0 G1;have c2:=Q0c H1.out.run ho;clear ho xlo xhi xback;generalize v1.2=i;generalize v1.1=d;go_wp2_with (fail)
 go_loopw [9] (fun iv wr=>Qfa F rb wb w0 x st s1 iv wr) (fun _ _=>0)
 case atStart=>unfold Qfa;exact ⟨i,rfl,H1.out,c2⟩
 case round=>
  obtain ⟨i2,rfl,h2,c2⟩:=hrel;clear H1;have H2:=LH h2;clear h2;go_wp2_with (fail);go_ret;exact ⟨rfl,H2.out⟩
theorem Q2Q (x:WQ) (hx:x.B) (hbk:x.back=false) (st:WAcc) (s0:RunS) (n:Int) (w:World) (h:RW F rb w0 s0 wb x st w) (d0:s0.Bd) (ho:s0.off=true) (hn:i64B n):
  Calls Tryz.prog 200 #[.pointer (some ⟨wb,0,none⟩),.pointer (some ⟨rb,0,none⟩),.int .i64 n] w (Q3H F rb wb w0 x st true s0):=by
 obtain ⟨xlo,xhi,xback⟩:=h.cell
 rw[hbk] at xback
 have hk:i64B x.lo:=hx.lo;obtain ⟨v1,s1,g1⟩:=Q0k (Q1B n x.lo) s0;have hs1:s1=s0:=Q7r g1 ho;subst hs1;have hl:=hk.lo;have hh:=hk.hi;have H0:=LH h;have G1:=LH g1;have HN:=LH hn;have HK:=LH hk;clear h g1 hn hk;go_enter Tryz.func200,Tryz.ntmps200;go_wp2_with (fail);with_reducible refine (Q2S _ rb _ s1 s1 v1 n x.lo _ H0.out.here d0 G1.out HN.out HK.out).mono ?_
 rintro e w1 ⟨rfl,h1⟩;have H1:=LH (H0.out.run_ h1 (Nat.le_refl _));clear h1 H0 G1;have c2:=Q0c H1.out.run ho;clear ho xlo xhi xback;generalize v1.2=i;generalize v1.1=d;go_wp2_with (fail)
 go_loopw [9] (fun iv wr=>Qfa F rb wb w0 x st s1 iv wr) (fun _ _=>0)
 case atStart=>unfold Qfa;exact ⟨i,rfl,H1.out,c2⟩
 case round=>
  obtain ⟨i2,rfl,h2,c2⟩:=hrel;clear H1;have H2:=LH h2;clear h2;go_wp2_with (fail);go_ret;exact ⟨rfl,H2.out⟩
theorem Q8d (x:WQ) (hx:x.B) (hbk:x.back=true) (g:Nat) (hth:ThrC F rb wb w0 x g) (st st':WAcc) (bb:Bool) (s0 s':RunS) (n:Int) (w:World) (h:RW F rb w0 s0 wb x st w) (d0:s0.Bd) (ho0:s0.off=false) (hf:s0.left<g+1) (hn:i64B n) (hs:st.B) (hg:(Q0q x (g+1) n st).go s0=((st',bb),s')):
  Calls Tryz.prog 200 #[.pointer (some ⟨wb,0,none⟩),.pointer (some ⟨rb,0,none⟩),.int .i64 n] w (Q3H F rb wb w0 x st' bb s'):=by
 obtain ⟨i0,hi0,hz0,hz1,hz2⟩:=info_parts Q4x;unfold Q0q at hg;obtain ⟨xlo,xhi,xback⟩:=h.cell
 rw[hbk] at xback hg
 have hk:i64B x.hi:=hx.hi;have ho0b:=hx.lo.lo;have ho1b:=hx.lo.hi;have hg:((Q1B n x.hi).bind fun r=>Q1f x (Q0q x g) (g+1) n r.1 r.2 st).go s0=((st',bb),s'):=hg;obtain ⟨v1,s1,g1⟩:=Q0k (Q1B n x.hi) s0;have hls:=Q0i g1;have hts:=Q0v g1
 rw[Q01,g1] at hg
 obtain ⟨b1,d1⟩:=Q0b g1 (Q4p hn) d0;have hl:=hk.lo;have hh:=hk.hi;have H0:=LH h;have G1:=LH g1;have HN:=LH hn;have HK:=LH hk;have HG:=LH hg;have HTH:=LH hth;have HX:=LH hx;have HBK:=LH hbk;have HS0:=LH hs;have HLS:=LH hls;clear h g1 hn hk hg hth hx hbk hs hls;go_enter Tryz.func200,Tryz.ntmps200;go_wp2_with (fail);with_reducible refine (Q2S _ rb _ s0 s1 v1 n x.hi _ H0.out.here d0 G1.out HN.out HK.out).mono ?_
 rintro e w1 ⟨rfl,h1⟩;have H1:=LH (H0.out.run_ h1 HLS.out);have hf1:s1.left<g+1:=Nat.lt_of_le_of_lt HLS.out hf;clear h1 H0 G1 HLS d0 hts ho0 hf;have HD:=LH b1.1;have hi1:=b1.2;have hd0:=HD.out.lo;have hd1:=HD.out.hi;clear xlo xhi xback b1;generalize v1.2=ii at HG hi1|-;generalize v1.1=d at HG HD hd0 hd1|-;go_wp2_with (fail)
 go_loopw [9] (fun iv wr=>Qgp F rb wb w0 x g n d st' bb s' s1.tape iv wr) (fun _ wr=>Q65 rb s1.tape.length wr)
 case atStart=>unfold Qgp;exact ⟨ii,g+1,s1,st,rfl,hi1,fun _=>hf1,fun _=>hf1,rfl,H1.out,d1,HS0.out,HG.out⟩
 case round=>
  obtain ⟨i,f,s2,st2,rfl,hi2,hf2,hfg2,ht2,h2,d2,hs2,hg2⟩:=hrel;clear H1 HG HS0 d1 hi1 hf1;have H2:=LH h2;have HG:=LH hg2;have HF2:=LH hf2;have HFG2:=LH hfg2;have HT2:=LH ht2;have HS2:=LH hs2;have HI2:=LH hi2;have hi0':=hi2.lo;have hi1':=hi2.hi;have H2r:=LH h2.run;clear h2 hg2 hf2 hfg2 ht2 hs2 hi2
  cases ho:s2.off with
  |true=>
   have c2:=Q0c H2.out.run ho;have hg:=HG.out;clear HG
   rw[Q4K ho] at hg
   have HG:=LH hg;clear hg;clear ho;obtain ⟨hfin,rfl⟩:=Prod.mk.inj HG.out;obtain ⟨rfl,rfl⟩:=Prod.mk.inj hfin;go_wp2_with (fail);go_ret;exact ⟨rfl,H2.out⟩
  |false=>
   have c2:=Q0c H2.out.run ho;have HO:=LH ho;have hlt:=HF2.out ho;have hlg:=HFG2.out ho;obtain ⟨f,rfl⟩:∃k,f=k+1:=⟨f-1,by omega⟩;have hg:=HG.out;clear HG
   rw[Q5E] at hg
   have HG:=LH hg;clear hg;have hg:=HG.out;clear HG
   rw[Q0B] at hg
   have HG:=LH hg;clear hg;have hg:=HG.out;clear HG
   rw[ho] at hg
   have HG:=LH hg;clear hg;clear ho;have hg:=HG.out;clear HG
   rw[if_neg Bool.false_ne_true] at hg
   have HG:=LH hg;clear hg;go_wp2_with (fail);with_reducible refine (Q0F n d i _).mono ?_
   rintro e w3 ⟨rfl,rfl⟩;obtain ⟨v3,s3,g3⟩:=Q0k (Q2V (Q06 n d i)) s2;have hp3:=Q9C g3 HO.out d2;have HT3:=LH (Q0v g3);have hg:=HG.out;clear HG
   rw[Q01,g3] at hg
   have HG:=LH hg;clear hg;obtain ⟨b3,d3⟩:=Q0b g3 (Q29 (Q0r n d i)) d2;have G3:=LH g3;clear g3
   have hsl:st2.spots.length+1+s3.left<=2000000000:=by
    obtain ⟨pv,sv,hq⟩:=H2.out;have:=hq.ls;omega
   go_wp2_with (fail);with_reducible refine (Q3u _ rb _ s2 s3 v3 (Q06 n d i) _ H2.out.here d2 G3.out (Q0r n d i)).mono ?_
   rintro e w3 ⟨rfl,h3⟩;have H3:=LH (H2.out.run_ h3 (Nat.le_of_lt hp3));clear h3 G3 c2;have hg:=HG.out;clear HG
   rw[Q0B] at hg
   have HG:=LH hg;clear hg
   cases ho3:s3.off with
   |true=>
    have c2:=Q0c H3.out.run ho3;have hg:=HG.out;clear HG
    rw[ho3] at hg
    have HG:=LH hg;clear hg;clear ho3;have hg:=HG.out;clear HG
    rw[if_pos rfl] at hg
    have HG:=LH hg;clear hg;obtain ⟨hfin,rfl⟩:=Prod.mk.inj HG.out;obtain ⟨rfl,rfl⟩:=Prod.mk.inj hfin;go_wp2_with (fail);go_ret;exact ⟨rfl,H3.out⟩
   |false=>
    have c2:=Q0c H3.out.run ho3;have hg:=HG.out;clear HG
    rw[ho3] at hg
    have HG:=LH hg;clear hg;have HO3:=LH ho3;clear ho3;have hg:=HG.out;clear HG
    rw[if_neg Bool.false_ne_true] at hg
    have HG:=LH hg;clear hg;obtain ⟨A,c,pv2,c6,hO,hF⟩:=Q8k F rb wb w0 x st2 (Q06 n d i) v3 s3 w3 H3.out hsl;have hsz:=H3.out.run.2.size;have hb1:=(Below.refl w3.heap.size w3).alloc (Nat.le_refl _) (.cells #[.int .i64 (Q06 n d i),.int .i64 v3] 114);have hzz:w0.heap.size<=(w3.alloc (.cells #[.int .i64 (Q06 n d i),.int .i64 v3] 114)).heap.size:=by have:=hb1.size;omega
    have HN6:=LH (Q2y w3 114 (.int .i64 (Q06 n d i)) (.int .i64 v3));have HOA:=LH hO;have HF6:=LH hF;have hpl:st2.spots.length<=2000000000:=by omega
    have HS3:Hid (WAcc.B ⟨st2.pairs,st2.spots++[(Q06 n d i,v3)]⟩):=LH ⟨HS2.out.pairs,HS2.out.spots.snoc (Q0r n d i) b3⟩;clear hO hF hb1;go_wp2_with (at_builtin;refine wpList_append_own _ rfl _ _ 41 rfl w0.heap.size 114 i0 (.agg #[.int .i64 0,.int .i64 0]) 2 16 Tryz.underlying41 hi0 hz0 hz1 hz2 rfl (by decide) _ _ _ rfl HOA.out ⟨w3.heap.size,0,none⟩ 1 1 [.int .i64 (Q06 n d i),.int .i64 v3] rfl rfl HN6.out (by simp[Value.oneCell']) (by unfold maxLen;omega) (by omega) hzz ?_;intro v' w5 hO5 hg5 _;have K5:=HF6.out v' w5 hO5 hg5;have c55:=K5.out.1;have f55:=K5.out.2.1;obtain ⟨A5,c5',rfl⟩:=Q03 hO5;clear hO5 hg5);have hK6:=K5.out.2.2;clear K5 c55 f55 HN6 HOA HF6 c6 hsz hzz c2 H3 H2;generalize w5.setCell ⟨wb,6,none⟩ (.slice A5 (st2.spots.length+1) c5')=w6 at hK6|-;have H6:Hid (RW F rb w0 s3 wb x ⟨st2.pairs,st2.spots++[(Q06 n d i,v3)]⟩ w6):=LH ⟨_,_,hK6⟩;clear hK6;obtain ⟨⟨st7,b7⟩,s7,g7⟩:=Q0k (Q7i x g v3 ⟨st2.pairs,st2.spots++[(Q06 n d i,v3)]⟩) s3;have HL7:=LH (Q0i g7);have HT7:=LH (Q0v g7);have hg:=HG.out;clear HG
    rw[Q01,g7] at hg
    have HG:=LH hg;clear hg;obtain ⟨hs7,d7⟩:=Q0b g7 (Q9f HS3.out) d3;have HS7:=LH hs7;have G7:=LH g7;have HS3b:=HS3;clear g7 hs7 HS3;with_reducible refine (Q7h F rb wb w0 x g HTH.out _ st7 b7 s3 s7 v3 _ H6.out d3 HO3.out HX.out b3 (by omega) HS3b.out G7.out).mono ?_
    rintro e w7 ⟨rfl,h7⟩;have H7:=LH h7;clear h7 G7 H6
    cases b7 with
    |true=>
     have hg:=HG.out;clear HG
     rw[if_pos rfl] at hg
     have HG:=LH hg;clear hg;obtain ⟨hfin,rfl⟩:=Prod.mk.inj HG.out;obtain ⟨rfl,rfl⟩:=Prod.mk.inj hfin;go_wp2_with (fail);go_ret;exact ⟨rfl,H7.out⟩
    |false=>
     have hg:=HG.out;clear HG
     rw[if_neg Bool.false_ne_true] at hg
     have HG:=LH hg;clear hg;obtain ⟨xlo,xhi,xback⟩:=H7.out.cell
     rw[HBK.out] at xback
     have hg:=HG.out;clear HG
     rw[if_pos HBK.out] at hg
     have HG:=LH hg;clear hg;by_cases z:i=0
     ·have hg:=HG.out;clear HG
      rw[if_pos z] at hg
      have HG:=LH hg;clear hg;have ez:(i==0)=true:=by simpa using z
      clear z;obtain ⟨hfin,rfl⟩:=Prod.mk.inj HG.out;obtain ⟨rfl,rfl⟩:=Prod.mk.inj hfin;go_wp2_with (fail)
      go_quiet (fail)
      go_wp2_with (fail);go_ret;exact ⟨rfl,H7.out.below (Q08 ⟨_,rfl⟩ _)⟩
     ·have hg:=HG.out;clear HG
      rw[if_neg z] at hg
      have HG:=LH hg;clear hg;have ez:(i==0)=false:=by simpa using z
      clear z;obtain ⟨v9,s9,g9⟩:=Q0k (Q0e (Q0j n i)) s7;have HL9:=LH (Q0i g9);have HT9:=LH (Q0v g9);have hg:=HG.out;clear HG
      rw[Q01,g9] at hg
      have HG:=LH hg;clear hg;obtain ⟨b9,d9⟩:=Q0b g9 (Q04 (Q11 n i)) d7;have G9:=LH g9;have hb90:=b9.lo;have hb91:=b9.hi;clear g9;have HD7:=LH H7.out.drew;have tst:w7.drew.cell? ⟨wb,0,none⟩=some (.int .i64 x.lo):=xlo;go_wp2_with (fail)
      go_region_held3 (fun w'=>w'.cell? ⟨wb,0,none⟩=some (.int .i64 x.lo)) (first|go_keep|exact K1.out) (first|(go_at_call 231;(with_reducible refine (Q1l n i _).mono ?_);rintro e w8 ⟨rfl,rfl⟩)|(go_at_call 226;(with_reducible refine (Q0d _ rb _ s7 s9 v9 (Q0j n i) _ HD7.out.here d7 G9.out).mono ?_);rintro e w9 ⟨rfl,h9⟩;have H9:=LH (HD7.out.run_ h9 HL9.out);have K1:Hid (w9.cell? ⟨wb,0,none⟩=some (.int .i64 x.lo)):=LH (H9.out.cell.1);clear h9))
      all_goals
       by_cases kq:v9<=x.lo
       ·have hg:=HG.out;clear HG
        rw[if_pos kq] at hg
        have HG:=LH hg;clear hg;obtain ⟨hfin,rfl⟩:=Prod.mk.inj HG.out;obtain ⟨rfl,rfl⟩:=Prod.mk.inj hfin;go_wp2_with (fail);go_ret;exact ⟨rfl,H9.out⟩
       ·have hg:=HG.out;clear HG
        rw[if_neg kq] at hg
        have HG:=LH hg;clear hg;have kq2:x.lo<v9:=by omega
        go_wp2_with (fail)
        go_roundw
        case rel=>unfold Qgp;exact ⟨wrap64 (i-1),f,s9,st7,rfl,Q0l _,fun _=>by have:=HL9.out;have:=HL7.out;omega,fun _=>by have:=HL9.out;have:=HL7.out;omega,by rw[HT9.out,HT7.out,HT3.out,HT2.out],H9.out,d9,HS7.out,HG.out⟩
        case measure=>
         have e9:=Q0u H9.out.run;have e2:=Q0u (show RAt F rb w0 s2 wr from H2r.out)
         rw[HT9.out,HT7.out,HT3.out,HT2.out] at e9
         rw[HT2.out] at e2
         have:=HL9.out;have:=HL7.out;omega
theorem Q7p (x:WQ) (hx:x.B) (hbk:x.back=false) (g:Nat) (hth:ThrC F rb wb w0 x g) (st st':WAcc) (bb:Bool) (s0 s':RunS) (n:Int) (w:World) (h:RW F rb w0 s0 wb x st w) (d0:s0.Bd) (ho0:s0.off=false) (hf:s0.left<g+1) (hn:i64B n) (hs:st.B) (hg:(Q0q x (g+1) n st).go s0=((st',bb),s')):
  Calls Tryz.prog 200 #[.pointer (some ⟨wb,0,none⟩),.pointer (some ⟨rb,0,none⟩),.int .i64 n] w (Q3H F rb wb w0 x st' bb s'):=by
 obtain ⟨i0,hi0,hz0,hz1,hz2⟩:=info_parts Q4x;unfold Q0q at hg;obtain ⟨xlo,xhi,xback⟩:=h.cell
 rw[hbk] at xback hg
 have hk:i64B x.lo:=hx.lo;have ho0b:=hx.hi.lo;have ho1b:=hx.hi.hi;have hg:((Q1B n x.lo).bind fun r=>Q1f x (Q0q x g) (g+1) n r.1 r.2 st).go s0=((st',bb),s'):=hg;obtain ⟨v1,s1,g1⟩:=Q0k (Q1B n x.lo) s0;have hls:=Q0i g1;have hts:=Q0v g1
 rw[Q01,g1] at hg
 obtain ⟨b1,d1⟩:=Q0b g1 (Q4p hn) d0;have hl:=hk.lo;have hh:=hk.hi;have H0:=LH h;have G1:=LH g1;have HN:=LH hn;have HK:=LH hk;have HG:=LH hg;have HTH:=LH hth;have HX:=LH hx;have HBK:=LH hbk;have HS0:=LH hs;have HLS:=LH hls;clear h g1 hn hk hg hth hx hbk hs hls;go_enter Tryz.func200,Tryz.ntmps200;go_wp2_with (fail);with_reducible refine (Q2S _ rb _ s0 s1 v1 n x.lo _ H0.out.here d0 G1.out HN.out HK.out).mono ?_
 rintro e w1 ⟨rfl,h1⟩;have H1:=LH (H0.out.run_ h1 HLS.out);have hf1:s1.left<g+1:=Nat.lt_of_le_of_lt HLS.out hf;clear h1 H0 G1 HLS d0 hts ho0 hf;have HD:=LH b1.1;have hi1:=b1.2;have hd0:=HD.out.lo;have hd1:=HD.out.hi;clear xlo xhi xback b1;generalize v1.2=ii at HG hi1|-;generalize v1.1=d at HG HD hd0 hd1|-;go_wp2_with (fail)
 go_loopw [9] (fun iv wr=>Qgp F rb wb w0 x g n d st' bb s' s1.tape iv wr) (fun _ wr=>Q65 rb s1.tape.length wr)
 case atStart=>unfold Qgp;exact ⟨ii,g+1,s1,st,rfl,hi1,fun _=>hf1,fun _=>hf1,rfl,H1.out,d1,HS0.out,HG.out⟩
 case round=>
  obtain ⟨i,f,s2,st2,rfl,hi2,hf2,hfg2,ht2,h2,d2,hs2,hg2⟩:=hrel;clear H1 HG HS0 d1 hi1 hf1;have H2:=LH h2;have HG:=LH hg2;have HF2:=LH hf2;have HFG2:=LH hfg2;have HT2:=LH ht2;have HS2:=LH hs2;have HI2:=LH hi2;have hi0':=hi2.lo;have hi1':=hi2.hi;have H2r:=LH h2.run;clear h2 hg2 hf2 hfg2 ht2 hs2 hi2
  cases ho:s2.off with
  |true=>
   have c2:=Q0c H2.out.run ho;have hg:=HG.out;clear HG
   rw[Q4K ho] at hg
   have HG:=LH hg;clear hg;clear ho;obtain ⟨hfin,rfl⟩:=Prod.mk.inj HG.out;obtain ⟨rfl,rfl⟩:=Prod.mk.inj hfin;go_wp2_with (fail);go_ret;exact ⟨rfl,H2.out⟩
  |false=>
   have c2:=Q0c H2.out.run ho;have HO:=LH ho;have hlt:=HF2.out ho;have hlg:=HFG2.out ho;obtain ⟨f,rfl⟩:∃k,f=k+1:=⟨f-1,by omega⟩;have hg:=HG.out;clear HG
   rw[Q5E] at hg
   have HG:=LH hg;clear hg;have hg:=HG.out;clear HG
   rw[Q0B] at hg
   have HG:=LH hg;clear hg;have hg:=HG.out;clear HG
   rw[ho] at hg
   have HG:=LH hg;clear hg;clear ho;have hg:=HG.out;clear HG
   rw[if_neg Bool.false_ne_true] at hg
   have HG:=LH hg;clear hg;go_wp2_with (fail);with_reducible refine (Q0F n d i _).mono ?_
   rintro e w3 ⟨rfl,rfl⟩;obtain ⟨v3,s3,g3⟩:=Q0k (Q2V (Q06 n d i)) s2;have hp3:=Q9C g3 HO.out d2;have HT3:=LH (Q0v g3);have hg:=HG.out;clear HG
   rw[Q01,g3] at hg
   have HG:=LH hg;clear hg;obtain ⟨b3,d3⟩:=Q0b g3 (Q29 (Q0r n d i)) d2;have G3:=LH g3;clear g3
   have hsl:st2.spots.length+1+s3.left<=2000000000:=by
    obtain ⟨pv,sv,hq⟩:=H2.out;have:=hq.ls;omega
   go_wp2_with (fail);with_reducible refine (Q3u _ rb _ s2 s3 v3 (Q06 n d i) _ H2.out.here d2 G3.out (Q0r n d i)).mono ?_
   rintro e w3 ⟨rfl,h3⟩;have H3:=LH (H2.out.run_ h3 (Nat.le_of_lt hp3));clear h3 G3 c2;have hg:=HG.out;clear HG
   rw[Q0B] at hg
   have HG:=LH hg;clear hg
   cases ho3:s3.off with
   |true=>
    have c2:=Q0c H3.out.run ho3;have hg:=HG.out;clear HG
    rw[ho3] at hg
    have HG:=LH hg;clear hg;clear ho3;have hg:=HG.out;clear HG
    rw[if_pos rfl] at hg
    have HG:=LH hg;clear hg;obtain ⟨hfin,rfl⟩:=Prod.mk.inj HG.out;obtain ⟨rfl,rfl⟩:=Prod.mk.inj hfin;go_wp2_with (fail);go_ret;exact ⟨rfl,H3.out⟩
   |false=>
    have c2:=Q0c H3.out.run ho3;have hg:=HG.out;clear HG
    rw[ho3] at hg
    have HG:=LH hg;clear hg;have HO3:=LH ho3;clear ho3;have hg:=HG.out;clear HG
    rw[if_neg Bool.false_ne_true] at hg
    have HG:=LH hg;clear hg;obtain ⟨A,c,pv2,c6,hO,hF⟩:=Q8k F rb wb w0 x st2 (Q06 n d i) v3 s3 w3 H3.out hsl;have hsz:=H3.out.run.2.size;have hb1:=(Below.refl w3.heap.size w3).alloc (Nat.le_refl _) (.cells #[.int .i64 (Q06 n d i),.int .i64 v3] 114);have hzz:w0.heap.size<=(w3.alloc (.cells #[.int .i64 (Q06 n d i),.int .i64 v3] 114)).heap.size:=by have:=hb1.size;omega
    have HN6:=LH (Q2y w3 114 (.int .i64 (Q06 n d i)) (.int .i64 v3));have HOA:=LH hO;have HF6:=LH hF;have hpl:st2.spots.length<=2000000000:=by omega
    have HS3:Hid (WAcc.B ⟨st2.pairs,st2.spots++[(Q06 n d i,v3)]⟩):=LH ⟨HS2.out.pairs,HS2.out.spots.snoc (Q0r n d i) b3⟩;clear hO hF hb1;go_wp2_with (at_builtin;refine wpList_append_own _ rfl _ _ 41 rfl w0.heap.size 114 i0 (.agg #[.int .i64 0,.int .i64 0]) 2 16 Tryz.underlying41 hi0 hz0 hz1 hz2 rfl (by decide) _ _ _ rfl HOA.out ⟨w3.heap.size,0,none⟩ 1 1 [.int .i64 (Q06 n d i),.int .i64 v3] rfl rfl HN6.out (by simp[Value.oneCell']) (by unfold maxLen;omega) (by omega) hzz ?_;intro v' w5 hO5 hg5 _;have K5:=HF6.out v' w5 hO5 hg5;have c55:=K5.out.1;have f55:=K5.out.2.1;obtain ⟨A5,c5',rfl⟩:=Q03 hO5;clear hO5 hg5);have hK6:=K5.out.2.2;clear K5 c55 f55 HN6 HOA HF6 c6 hsz hzz c2 H3 H2;generalize w5.setCell ⟨wb,6,none⟩ (.slice A5 (st2.spots.length+1) c5')=w6 at hK6|-;have H6:Hid (RW F rb w0 s3 wb x ⟨st2.pairs,st2.spots++[(Q06 n d i,v3)]⟩ w6):=LH ⟨_,_,hK6⟩;clear hK6;obtain ⟨⟨st7,b7⟩,s7,g7⟩:=Q0k (Q7i x g v3 ⟨st2.pairs,st2.spots++[(Q06 n d i,v3)]⟩) s3;have HL7:=LH (Q0i g7);have HT7:=LH (Q0v g7);have hg:=HG.out;clear HG
    rw[Q01,g7] at hg
    have HG:=LH hg;clear hg;obtain ⟨hs7,d7⟩:=Q0b g7 (Q9f HS3.out) d3;have HS7:=LH hs7;have G7:=LH g7;have HS3b:=HS3;clear g7 hs7 HS3;with_reducible refine (Q7h F rb wb w0 x g HTH.out _ st7 b7 s3 s7 v3 _ H6.out d3 HO3.out HX.out b3 (by omega) HS3b.out G7.out).mono ?_
    rintro e w7 ⟨rfl,h7⟩;have H7:=LH h7;clear h7 G7 H6
    cases b7 with
    |true=>
     have hg:=HG.out;clear HG
     rw[if_pos rfl] at hg
     have HG:=LH hg;clear hg;obtain ⟨hfin,rfl⟩:=Prod.mk.inj HG.out;obtain ⟨rfl,rfl⟩:=Prod.mk.inj hfin;go_wp2_with (fail);go_ret;exact ⟨rfl,H7.out⟩
    |false=>
     have hg:=HG.out;clear HG
     rw[if_neg Bool.false_ne_true] at hg
     have HG:=LH hg;clear hg;obtain ⟨xlo,xhi,xback⟩:=H7.out.cell
     rw[HBK.out] at xback
     have hg:=HG.out;clear HG
     rw[if_neg (show ¬x.back=true by rw[HBK.out];exact Bool.false_ne_true)] at hg
     have HG:=LH hg;clear hg;go_wp2_with (fail);generalize hj:wrap64 (i+1)=j at HG|-;have hjb:=Q0l (i+1)
     rw[hj] at hjb
     have hj0:=hjb.lo;have hj1:=hjb.hi;by_cases z:j=d
     ·have hg:=HG.out;clear HG
      rw[if_pos z] at hg
      have HG:=LH hg;clear hg;have ez:(j==d)=true:=by simpa using z
      clear z;obtain ⟨hfin,rfl⟩:=Prod.mk.inj HG.out;obtain ⟨rfl,rfl⟩:=Prod.mk.inj hfin;go_wp2_with (fail)
      go_quiet (fail)
      go_wp2_with (fail);go_ret;exact ⟨rfl,H7.out.below (Q08 ⟨_,rfl⟩ _)⟩
     ·have hg:=HG.out;clear HG
      rw[if_neg z] at hg
      have HG:=LH hg;clear hg;have ez:(j==d)=false:=by simpa using z
      clear z;obtain ⟨v9,s9,g9⟩:=Q0k (Q0e (Q0j n j)) s7;have HL9:=LH (Q0i g9);have HT9:=LH (Q0v g9);have hg:=HG.out;clear HG
      rw[Q01,g9] at hg
      have HG:=LH hg;clear hg;obtain ⟨b9,d9⟩:=Q0b g9 (Q04 (Q11 n j)) d7;have G9:=LH g9;have hb90:=b9.lo;have hb91:=b9.hi;clear g9;have HD7:=LH H7.out.drew;have tst:w7.drew.cell? ⟨wb,1,none⟩=some (.int .i64 x.hi):=xhi;go_wp2_with (fail)
      go_region_held3 (fun w'=>w'.cell? ⟨wb,1,none⟩=some (.int .i64 x.hi)) (first|go_keep|exact K1.out) (first|(go_at_call 231;(with_reducible refine (Q1l n j _).mono ?_);rintro e w8 ⟨rfl,rfl⟩)|(go_at_call 226;(with_reducible refine (Q0d _ rb _ s7 s9 v9 (Q0j n j) _ HD7.out.here d7 G9.out).mono ?_);rintro e w9 ⟨rfl,h9⟩;have H9:=LH (HD7.out.run_ h9 HL9.out);have K1:Hid (w9.cell? ⟨wb,1,none⟩=some (.int .i64 x.hi)):=LH (H9.out.cell.2.1);clear h9))
      all_goals
       by_cases kq:x.hi<v9
       ·have hg:=HG.out;clear HG
        rw[if_pos kq] at hg
        have HG:=LH hg;clear hg;obtain ⟨hfin,rfl⟩:=Prod.mk.inj HG.out;obtain ⟨rfl,rfl⟩:=Prod.mk.inj hfin;go_wp2_with (fail);go_ret;exact ⟨rfl,H9.out⟩
       ·have hg:=HG.out;clear HG
        rw[if_neg kq] at hg
        have HG:=LH hg;clear hg;have kq2:v9<=x.hi:=by omega
        go_wp2_with (fail)
        go_roundw
        case rel=>unfold Qgp;exact ⟨j,f,s9,st7,rfl,hjb,fun _=>by have:=HL9.out;have:=HL7.out;omega,fun _=>by have:=HL9.out;have:=HL7.out;omega,by rw[HT9.out,HT7.out,HT3.out,HT2.out],H9.out,d9,HS7.out,HG.out⟩
        case measure=>
         have e9:=Q0u H9.out.run;have e2:=Q0u (show RAt F rb w0 s2 wr from H2r.out)
         rw[HT9.out,HT7.out,HT3.out,HT2.out] at e9
         rw[HT2.out] at e2
         have:=HL9.out;have:=HL7.out;omega
theorem Q5d (x:WQ) (hx:x.B):∀(g:Nat),ThrC F rb wb w0 x g:=by
 intro g
 induction g with
 |zero=>
  intro st st' bb s0 s' n w h d0 hf n0 n1 hs hg
  cases ho:s0.off with
  |false=>exact absurd (hf ho) (by omega)
  |true=>
   rw[Q5e ho] at hg
   obtain ⟨h1,rfl⟩:=Prod.mk.inj hg;obtain ⟨rfl,rfl⟩:=Prod.mk.inj h1
   cases hbk:x.back with
   |true=>exact Q3i F rb wb w0 x hx hbk st s0 n w h d0 ho (Q1V n0 n1)
   |false=>exact Q2Q F rb wb w0 x hx hbk st s0 n w h d0 ho (Q1V n0 n1)
 |succ g ih=>
  intro st st' bb s0 s' n w h d0 hf n0 n1 hs hg
  cases ho:s0.off with
  |false=>
   cases hbk:x.back with
   |true=>exact Q8d F rb wb w0 x hx hbk g ih st st' bb s0 s' n w h d0 ho (hf ho) (Q1V n0 n1) hs hg
   |false=>exact Q7p F rb wb w0 x hx hbk g ih st st' bb s0 s' n w h d0 ho (hf ho) (Q1V n0 n1) hs hg
  |true=>
   rw[Q5e ho] at hg
   obtain ⟨h1,rfl⟩:=Prod.mk.inj hg;obtain ⟨rfl,rfl⟩:=Prod.mk.inj h1
   cases hbk:x.back with
   |true=>exact Q3i F rb wb w0 x hx hbk st s0 n w h d0 ho (Q1V n0 n1)
   |false=>exact Q2Q F rb wb w0 x hx hbk st s0 n w h d0 ho (Q1V n0 n1)
end
theorem Q6V {sf:Nat} {mk:Int->Prog Int} {n d i all:Int} {s:RunS} (h:s.off=true):∀f,(Q23 sf mk f n d i all).go s=(all,s)
 |0=>rfl
 |f+1=>by
  unfold Q23
  rw[Q0B,if_neg (fun e=>by rw[h] at e;exact Bool.false_ne_true e.2.symm)];rfl
theorem Qbm {sf:Nat} {mk:Int->Prog Int} {n d i all:Int} {s:RunS} (h:¬i<d):∀f,(Q23 sf mk f n d i all).go s=(all,s)
 |0=>rfl
 |f+1=>by
  unfold Q23
  rw[Q0B,if_neg (fun e=>h e.1)];rfl
theorem QdW {α:Type} {q:Ask} {k:Int->Prog α} {s:RunS} (h:s.off=true):(Prog.ask q k).go s=(k 0).go s:=by rw[Q8Y,Q5A h]
theorem Q3N {a:Int} {s:RunS} (h:s.off=true):(Q0e a).go s=(0,s):=by unfold Q0e;rw[QdW h];rfl
theorem Q4g {a x:Int} {s:RunS} (h:s.off=true):(Q2p a x).go s=((),s):=by unfold Q2p;rw[QdW h];rfl
theorem Q8O {n:Int} {s:RunS} (h:s.off=true):∀g,(Q2v g n).go s=(0,s)
 |0=>rfl
 |g+1=>by
  unfold Q2v
  rw[Q01,Q3N h]
  show ((if (0:Int)=0 then _ else _:Prog Int)).go s=_
  rw[if_pos rfl,Q01,Q4g h,Q01,Q3N h,Q01,Q6V h,Q01,Q4g h]
  rfl
theorem QfL {f:Nat} {a v:Int} {s s':RunS} (hg:(Q4M f a).go s=(v,s')) (h:s.off=false) (d:s.Bd):s'.left<s.left:=by
 have:=Q5v a (Q3j a f) h d
 rw[show ((Q0e a).bind (Q3j a f)).go s=(v,s') from hg] at this
 exact this
section
variable (F:Nat->Prop) (rb:Nat) (w0:World)
def MarkC (g:Nat):Prop:=∀(s0 s':RunS) (v n:Int) (w:World),RAt F rb w0 s0 w->s0.Bd->(s0.off=false->s0.left<g)->0<=n->n<=65536->(Q2v g n).go s0=(v,s')->
  Calls Tryz.prog 202 #[.pointer (some ⟨rb,0,none⟩),.int .i64 n] w fun e w'=>e=.returned (.int .i64 v)/\RAt F rb w0 s' w'
theorem MarkC.use {F:Nat->Prop} {rb:Nat} {w0:World} {g:Nat} (h:MarkC F rb w0 g) (s0 s':RunS) (v n:Int) (w:World) (h0:RAt F rb w0 s0 w) (d0:s0.Bd) (hf:s0.off=false->s0.left<g) (n0:0<=n) (n1:n<=65536) (hg:(Q2v g n).go s0=(v,s')):
  Calls Tryz.prog 202 #[.pointer (some ⟨rb,0,none⟩),.int .i64 n] w fun e w'=>e=.returned (.int .i64 v)/\RAt F rb w0 s' w':=h s0 s' v n w h0 d0 hf n0 n1 hg
def QfC (s:RunS) (av iv:Value) (wr:World):Prop:=av=.int .i64 0/\iv=.int .i64 0/\RAt F rb w0 s wr
theorem Q5l (s:RunS) (n:Int) (w:World) (h:RAt F rb w0 s w) (d0:s.Bd) (ho:s.off=true) (n0:0<=n) (n1:n<=65536):
  Calls Tryz.prog 202 #[.pointer (some ⟨rb,0,none⟩),.int .i64 n] w fun e w'=>e=.returned (.int .i64 0)/\RAt F rb w0 s w':=by
 have HO:=LH ho;have H:=LH h;clear ho h;go_enter Tryz.func202,Tryz.ntmps202;go_wp2_with (fail);with_reducible refine (Q0d F rb w0 s s 0 (n+4) _ H.out d0 (Q3N HO.out)).mono ?_
 rintro e w1 ⟨rfl,h1⟩;have H1:=LH h1;clear h1 H;go_wp2_with (fail);with_reducible refine (Q2e F rb w0 s s () (n+2) 1 _ H1.out d0 (Q4g HO.out)).mono ?_
 rintro e w2 ⟨rfl,h2⟩;have H2:=LH h2;clear h2 H1;go_wp2_with (fail);with_reducible refine (Q0d F rb w0 s s 0 n _ H2.out d0 (Q3N HO.out)).mono ?_
 rintro e w3 ⟨rfl,h3⟩;have H3:=LH h3;clear h3 H2;go_wp2_with (fail)
 go_loopw [7,8] (fun av iv wr=>QfC F rb w0 s av iv wr) (fun _ _ _=>0)
 case atStart=>unfold QfC;exact ⟨rfl,rfl,H3.out⟩
 case round=>
  obtain ⟨rfl,rfl,h4⟩:=hrel;clear H3;have H4:=LH h4;clear h4;have c2:=Q0c H4.out HO.out;go_wp2_with (fail);with_reducible refine (Q2e F rb w0 s s () (n+4) 1 _ H4.out d0 (Q4g HO.out)).mono ?_
  rintro e w5 ⟨rfl,h5⟩;have H5:=LH h5;clear h5 H4;go_wp2_with (fail);go_ret;exact ⟨rfl,H5.out⟩
def Qc3 (g:Nat) (n d vm:Int) (sm:RunS) (T:List Int) (av iv:Value) (wr:World):Prop:=∃(i all:Int) (f:Nat) (s:RunS),av=.int .i64 all/\iv=.int .i64 i/\0<=i/\i<=9223372036854775807/\i64B all/\(s.off=false->s.left<f)/\(s.off=false->s.left<g+1)/\s.tape=T/\RAt F rb w0 s wr/\s.Bd/\(Q23 (g+1) (Q2v g) f n d i all).go s=(vm,sm)
theorem Q9F (g:Nat) (hmk:MarkC F rb w0 g) (s0 s':RunS) (v n:Int) (w:World) (h:RAt F rb w0 s0 w) (d0:s0.Bd) (ho:s0.off=false) (hf:s0.left<g+1) (n0:0<=n) (n1:n<=65536) (hg:(Q2v (g+1) n).go s0=(v,s')):
  Calls Tryz.prog 202 #[.pointer (some ⟨rb,0,none⟩),.int .i64 n] w fun e w'=>e=.returned (.int .i64 v)/\RAt F rb w0 s' w':=by
 unfold Q2v at hg;have hn:=Q1V n0 n1;have HG:=LH hg;have H0:=LH h;have HMK:=LH hmk;have HF:=LH hf;clear hg h hmk hf;clear ho;go_enter Tryz.func202,Tryz.ntmps202;obtain ⟨v1,s1,g1⟩:=Q0k (Q0e (n+4)) s0;have HL1:=LH (Q0i g1);have HT1:=LH (Q0v g1);have hg:=HG.out;clear HG
 rw[Q01,g1] at hg
 have HG:=LH hg;clear hg;obtain ⟨b1,d1⟩:=Q0b g1 (Q04 (Q2I n0 n1 (by decide) (by decide))) d0;have G1:=LH g1;clear g1;go_wp2_with (fail);with_reducible refine (Q0d F rb w0 s0 s1 v1 (n+4) _ H0.out d0 G1.out).mono ?_
 rintro e w1 ⟨rfl,h1⟩;have H1:=LH h1;clear h1 H0 G1;have hb10:=b1.lo;have hb11:=b1.hi;by_cases z:v1=0
 ·have hg:=HG.out;clear HG
  rw[if_pos z] at hg
  have HG:=LH hg;clear hg;have ez:(v1 !=0)=false:=by simpa using z
  clear z;obtain ⟨v2,s2,g2⟩:=Q0k (Q2p (n+2) 1) s1;have HL2:=LH (Q0i g2);have HT2:=LH (Q0v g2);have hg:=HG.out;clear HG
  rw[Q01,g2] at hg
  have HG:=LH hg;clear hg;obtain ⟨b2,d2⟩:=Q0b g2 (Q2o (Q2I n0 n1 (by decide) (by decide)) Q10) d1;have G2:=LH g2;clear g2;go_wp2_with (fail);with_reducible refine (Q2e F rb w0 s1 s2 v2 (n+2) 1 _ H1.out d1 G2.out).mono ?_
  rintro e w2 ⟨rfl,h2⟩;have H2:=LH h2;clear h2 H1 G2;obtain ⟨v3,s3,g3⟩:=Q0k (Q0e n) s2;have HL3:=LH (Q0i g3);have HT3:=LH (Q0v g3);have hg:=HG.out;clear HG
  rw[Q01,g3] at hg
  have HG:=LH hg;clear hg;obtain ⟨b3,d3⟩:=Q0b g3 (Q04 hn) d2;have G3:=LH g3;clear g3;go_wp2_with (fail);with_reducible refine (Q0d F rb w0 s2 s3 v3 n _ H2.out d2 G3.out).mono ?_
  rintro e w3 ⟨rfl,h3⟩;have H3:=LH h3;clear h3 H2 G3;have hd0:=b3.lo;have hd1:=b3.hi;have hf3:s3.left<g+1:=by have:=HL1.out;have:=HL2.out;have:=HL3.out;have:=HF.out;omega
  obtain ⟨vm,sm,gm⟩:=Q0k (Q23 (g+1) (Q2v g) (g+1) n v3 0 0) s3;have hg:=HG.out;clear HG
  rw[Q01,gm] at hg
  have HG:=LH hg;clear hg;obtain ⟨bm,dm⟩:=Q0b gm (Q63 (fun n h0 h1=>Q3P g n h0 h1) (g+1) n v3 0 0 Q0f) d3;have GM:=LH gm;have hm0:=bm.lo;have hm1:=bm.hi;clear gm b1 b3 HF HL1 HL2 HL3 HT1 HT2 HT3 d1 d2;go_wp2_with (fail)
  go_loopw [7,8] (fun av iv wr=>Qc3 F rb w0 g n v3 vm sm s3.tape av iv wr) (fun _ _ wr=>Q65 rb s3.tape.length wr)
  case atStart=>unfold Qc3;exact ⟨0,0,g+1,s3,rfl,rfl,by omega,by omega,Q0f,fun _=>hf3,fun _=>hf3,rfl,H3.out,d3,GM.out⟩
  case round=>
   obtain ⟨i,all,f,s4,rfl,rfl,hi0,hi1,hall,hf4,hfg4,ht4,h4,d4,gm4⟩:=hrel;clear H3 GM d3 hf3;have H4:=LH h4;have HM:=LH gm4;have HF4:=LH hf4;have HFG4:=LH hfg4;have HT4:=LH ht4;have ha0:=hall.lo;have ha1:=hall.hi;have HALL:=LH hall;clear h4 gm4 hf4 hfg4 ht4 hall;have done:∀(w5:World),all=vm->s4=sm->RAt F rb w0 s4 w5->True:=fun _ _ _ _=>trivial;clear done;by_cases hlt:i<v3
   ·cases ho:s4.off with
    |true=>
     have c2:=Q0c H4.out ho;obtain ⟨rfl,rfl⟩:=Prod.mk.inj ((Q6V ho f).symm.trans HM.out);clear ho;go_wp2_with (fail);obtain ⟨v5,s5,g5⟩:=Q0k (Q2p (n+4) (wrap64 (all+1))) s4;have hg:=HG.out;clear HG
     rw[Q01,g5] at hg
     have HG:=LH hg;clear hg;obtain ⟨b5,d5⟩:=Q0b g5 (Q2o (Q2I n0 n1 (by decide) (by decide)) (Q0l _)) d4;have G5:=LH g5;clear g5;with_reducible refine (Q2e F rb w0 s4 s5 v5 (n+4) (wrap64 (all+1)) _ H4.out d4 G5.out).mono ?_
     rintro e w5 ⟨rfl,h5⟩;have H5:=LH h5;clear h5 H4 G5;obtain ⟨rfl,rfl⟩:=Prod.mk.inj HG.out;go_wp2_with (fail);go_ret;exact ⟨rfl,H5.out⟩
    |false=>
     have c2:=Q0c H4.out ho;have HO:=LH ho;have hlt4:=HF4.out ho;have hlg4:=HFG4.out ho;obtain ⟨f,rfl⟩:∃k,f=k+1:=⟨f-1,by omega⟩;have hm:=HM.out;clear HM;unfold Q23 at hm
     rw[Q0B,ho,if_pos ⟨hlt,rfl⟩] at hm
     clear ho;obtain ⟨v5,s5,g5⟩:=Q0k (Q4M (g+1) (Q06 n v3 i)) s4;have hp5:=QfL g5 HO.out d4;have HT5:=LH (Q0v g5)
     rw[Q01,g5] at hm
     have HM:=LH hm;clear hm;obtain ⟨b5,d5⟩:=Q0b g5 (Q4l (Q0r n v3 i) (g+1)) d4;have G5:=LH g5;clear g5;go_wp2_with (fail);with_reducible refine (Q0F n v3 i _).mono ?_
     rintro e w5 ⟨rfl,rfl⟩;go_wp2_with (fail);with_reducible refine (Q8n F rb w0 s4 s5 v5 (g+1) (Q06 n v3 i) _ H4.out d4 G5.out (Q0r n v3 i) (by omega)).mono ?_
     rintro e w5 ⟨rfl,h5⟩;have H5:=LH h5;clear h5 G5;have H4r:=H4;clear H4 c2;go_wp2_with (fail);with_reducible refine (Q0x v5 _ b5.lo b5.hi).mono ?_
     rintro e w6 ⟨rfl,rfl⟩;go_wp2_with (fail);with_reducible refine (Q0A v5 _ b5.lo b5.hi).mono ?_
     rintro e w6 ⟨rfl,rfl⟩;obtain ⟨wa0,wa1⟩:=Q0D v5;by_cases k2:Q05 v5=2
     ·have e2:(Q05 v5==2)=true:=by simpa using k2
      have hm:=HM.out;clear HM
      rw[if_pos k2] at hm
      have HM:=LH hm;clear hm k2;go_wp2_with (fail)
      go_roundw
      case rel=>unfold Qc3;exact ⟨i+1,wrap64 (all+1),f,s5,rfl,by go_num,by omega,by omega,Q0l _,fun _=>by omega,fun _=>by omega,by rw[HT5.out,HT4.out],H5.out,d5,HM.out⟩
      case measure=>
       have e5:=Q0u H5.out;have e4:=Q0u H4r.out
       rw[HT5.out,HT4.out] at e5
       rw[HT4.out] at e4
       omega
     ·have e2:(Q05 v5==2)=false:=by simpa using k2
      by_cases k3:Q05 v5=3
      ·have e3:(Q05 v5==3)=true:=by simpa using k3
       have hm:=HM.out;clear HM
       rw[if_neg k2,if_pos k3] at hm
       obtain ⟨v6,s6,g6⟩:=Q0k (Q2v g (wAt v5)) s5;have HL6:=LH (Q0i g6);have HT6:=LH (Q0v g6)
       rw[Q01,Q01,g6] at hm
       have HM:=LH hm;clear hm k2 k3;obtain ⟨b6,d6⟩:=Q0b g6 (Q3P g _ wa0 wa1) d5;have hb60:=b6.lo;have hb61:=b6.hi;have G6:=LH g6;clear g6;go_wp2_with (fail);with_reducible refine (HMK.out.use s5 s6 v6 (wAt v5) _ H5.out d5 (fun _=>by omega) wa0 wa1 G6.out).mono ?_
       rintro e w6 ⟨rfl,h6⟩;have H6:=LH h6;clear h6 G6 H5;go_wp2_with (fail)
       go_roundw
       case rel=>unfold Qc3;exact ⟨i+1,wrap64 (all+v6),f,s6,rfl,by go_num,by omega,by omega,Q0l _,fun _=>by have:=HL6.out;omega,fun _=>by have:=HL6.out;omega,by rw[HT6.out,HT5.out,HT4.out],H6.out,d6,HM.out⟩
       case measure=>
        have e5:=Q0u H6.out;have e4:=Q0u H4r.out
        rw[HT6.out,HT5.out,HT4.out] at e5
        rw[HT4.out] at e4
        have:=HL6.out;omega
      ·have e3:(Q05 v5==3)=false:=by simpa using k3
       by_cases k4:Q05 v5=4
       ·have e4:(Q05 v5==4)=true:=by simpa using k4
        have hm:=HM.out;clear HM
        rw[if_neg k2,if_neg k3,if_pos k4] at hm
        obtain ⟨v7,s7,g7⟩:=Q0k (Q0e (wAt v5)) s5;have HL7:=LH (Q0i g7);have HT7:=LH (Q0v g7);obtain ⟨b7,d7⟩:=Q0b g7 (Q04 (Q0H v5)) d5;obtain ⟨wb0,wb1⟩:=Q0D v7;obtain ⟨v6,s6,g6⟩:=Q0k (Q2v g (wAt v7)) s7;have HL6:=LH (Q0i g6);have HT6:=LH (Q0v g6)
        rw[Q01,Q01,g7] at hm
        have hm:(Q23 (g+1) (Q2v g) f n v3 (i+1) (((Q2v g (wAt v7)).bind fun m=>.ret (wrap64 (all+m))).go s7).1).go (((Q2v g (wAt v7)).bind fun m=>.ret (wrap64 (all+m))).go s7).2=(vm,sm):=hm
        rw[Q01,g6] at hm
        have HM:=LH (show (Q23 (g+1) (Q2v g) f n v3 (i+1) (wrap64 (all+v6))).go s6=(vm,sm) from hm);clear hm k2 k3 k4;obtain ⟨b6,d6⟩:=Q0b g6 (Q3P g _ wb0 wb1) d7;have hb60:=b6.lo;have hb61:=b6.hi;have G6:=LH g6;have G7:=LH g7;clear g6 g7;go_wp2_with (fail);with_reducible refine (Q0d F rb w0 s5 s7 v7 (wAt v5) _ H5.out d5 G7.out).mono ?_
        rintro e w7 ⟨rfl,h7⟩;have H7:=LH h7;clear h7 G7 H5;go_wp2_with (fail);with_reducible refine (Q0x v7 _ b7.lo b7.hi).mono ?_
        rintro e w8 ⟨rfl,rfl⟩;go_wp2_with (fail);with_reducible refine (HMK.out.use s7 s6 v6 (wAt v7) _ H7.out d7 (fun _=>by have:=HL7.out;omega) wb0 wb1 G6.out).mono ?_
        rintro e w6 ⟨rfl,h6⟩;have H6:=LH h6;clear h6 G6 H7;go_wp2_with (fail)
        go_roundw
        case rel=>unfold Qc3;exact ⟨i+1,wrap64 (all+v6),f,s6,rfl,by go_num,by omega,by omega,Q0l _,fun _=>by have:=HL6.out;have:=HL7.out;omega,fun _=>by have:=HL6.out;have:=HL7.out;omega,by rw[HT6.out,HT7.out,HT5.out,HT4.out],H6.out,d6,HM.out⟩
        case measure=>
         have e5:=Q0u H6.out;have e4:=Q0u H4r.out
         rw[HT6.out,HT7.out,HT5.out,HT4.out] at e5
         rw[HT4.out] at e4
         have:=HL6.out;have:=HL7.out;omega
       ·have e4:(Q05 v5==4)=false:=by simpa using k4
        have hm:=HM.out;clear HM
        rw[if_neg k2,if_neg k3,if_neg k4] at hm
        have HM:=LH hm;clear hm k2 k3 k4;go_wp2_with (fail)
        go_roundw
        case rel=>unfold Qc3;exact ⟨i+1,all,f,s5,rfl,by go_num,by omega,by omega,HALL.out,fun _=>by omega,fun _=>by omega,by rw[HT5.out,HT4.out],H5.out,d5,HM.out⟩
        case measure=>
         have e5:=Q0u H5.out;have e4:=Q0u H4r.out
         rw[HT5.out,HT4.out] at e5
         rw[HT4.out] at e4
         omega
   ·have hge:v3<=i:=by omega
    have hend:(Q23 (g+1) (Q2v g) f n v3 i all).go s4=(all,s4):=Qbm hlt f;obtain ⟨rfl,rfl⟩:=Prod.mk.inj (hend.symm.trans HM.out);clear hend;go_wp2_with (fail);obtain ⟨v5,s5,g5⟩:=Q0k (Q2p (n+4) (wrap64 (all+1))) s4;have hg:=HG.out;clear HG
    rw[Q01,g5] at hg
    have HG:=LH hg;clear hg;obtain ⟨b5,d5⟩:=Q0b g5 (Q2o (Q2I n0 n1 (by decide) (by decide)) (Q0l _)) d4;have G5:=LH g5;clear g5;with_reducible refine (Q2e F rb w0 s4 s5 v5 (n+4) (wrap64 (all+1)) _ H4.out d4 G5.out).mono ?_
    rintro e w5 ⟨rfl,h5⟩;have H5:=LH h5;clear h5 H4 G5;obtain ⟨rfl,rfl⟩:=Prod.mk.inj HG.out;go_wp2_with (fail);go_ret;exact ⟨rfl,H5.out⟩
 ·have hg:=HG.out;clear HG
  rw[if_neg z] at hg
  have HG:=LH hg;clear hg;have ez:(v1 !=0)=true:=by simpa using z
  clear z;obtain ⟨rfl,rfl⟩:=Prod.mk.inj HG.out;go_wp2_with (fail);go_ret;exact ⟨rfl,H1.out⟩
theorem Qd0:∀(g:Nat),MarkC F rb w0 g:=by
 intro g
 induction g with
 |zero=>
  intro s0 s' v n w h d0 hf n0 n1 hg
  cases ho:s0.off with
  |false=>exact absurd (hf ho) (by omega)
  |true=>
   rw[Q8O ho] at hg
   obtain ⟨rfl,rfl⟩:=Prod.mk.inj hg;exact Q5l F rb w0 s0 n w h d0 ho n0 n1
 |succ g ih=>
  intro s0 s' v n w h d0 hf n0 n1 hg
  cases ho:s0.off with
  |false=>exact Q9F F rb w0 g ih s0 s' v n w h d0 ho (hf ho) n0 n1 hg
  |true=>
   rw[Q8O ho] at hg
   obtain ⟨rfl,rfl⟩:=Prod.mk.inj hg;exact Q5l F rb w0 s0 n w h d0 ho n0 n1
end
theorem Q5o {gt:Int->Int->Int->List (Int×Int)->Prog (List (Int×Int))} {n d a b i rank:Int} {out:List (Int×Int)} {s:RunS} (h:s.off=true):∀f,(Q0Y gt f n d a b i rank out).go s=(out,s)
 |0=>rfl
 |f+1=>by
  unfold Q0Y
  rw[Q0B,if_neg (fun e=>by rw[h] at e;exact Bool.false_ne_true e.2.symm)];rfl
theorem Q5p {gt:Int->Int->Int->List (Int×Int)->Prog (List (Int×Int))} {n d a b i rank:Int} {out:List (Int×Int)} {s:RunS} (h:¬(i<d/\rank<b)):∀f,(Q0Y gt f n d a b i rank out).go s=(out,s)
 |0=>rfl
 |f+1=>by
  unfold Q0Y
  rw[Q0B,if_neg (fun e=>h e.1)];rfl
theorem Q6g {n a b:Int} {out:List (Int×Int)} {s:RunS} (h:s.off=true):∀g,(Q0Q g n a b out).go s=(out,s)
 |0=>rfl
 |g+1=>by
  unfold Q0Q
  rw[Q01,Q3N h,Q5o h]
structure RG (F:Nat->Prop) (rb:Nat) (w0:World) (s:RunS) (ov:Value) (out:List (Int×Int)) (w:World):Prop where
 run:RAt F rb w0 s w
 own:w.ownsRow w0.heap.size 52 2 ov out.length (Q0p out)
 len:out.length+s.left<=2000000000
section
variable {F:Nat->Prop} {rb:Nat} {w0 w w' wd w5:World} {s s':RunS} {ov v':Value} {out:List (Int×Int)} {k v:Int}
theorem RG.here (h:RG F rb w0 s ov out w):RAt (fun y=>F y\/w0.heap.size<=y) rb w s w:=h.run.here
theorem RG.run_ (h:RG F rb w0 s ov out w) (h':RAt (fun y=>F y\/w0.heap.size<=y) rb w s' w') (hl:s'.left<=s.left):RG F rb w0 s' ov out w':=
 ⟨h.run.step h',h.run.keepO h'.2 h.own (by decide),by have:=h.len;omega⟩
theorem RG.app (h:RG F rb w0 s ov out w) (hb:Below w.heap.size w wd) (hO:w5.ownsRow w0.heap.size 52 2 v' (out.length+1) (Q0p out++[.int .i64 k,.int .i64 v])) (hg:wd.grownBy w5 ov.ownBlock) (hl:out.length+1+s.left<=2000000000):RG F rb w0 s v' (out++[(k,v)]) w5:=by
 have hc:Chg (fun y=>ov.ownBlock=some y) w w5:=(Chg.of_below hb).trans (Chg.of_grown hg);refine ⟨h.run.keepT hc (fun y hy=> ?_), ?_,by simpa using hl⟩
 ·obtain ⟨cs,hb⟩:=Q1r h.own hy;exact ⟨(h.own.lt y hy).1,_,cs,hb,by decide,by decide⟩
 ·rw[Q1L,List.length_append];exact hO
end
section
variable (F:Nat->Prop) (rb:Nat) (w0:World)
def Qfg (out:List (Int×Int)) (s':RunS) (e:Ending) (w':World):Prop:=∃ov,e=.returned ov/\RG F rb w0 s' ov out w'
def GatherC (g:Nat):Prop:=∀(s0 s':RunS) (out out':List (Int×Int)) (ov:Value) (n a b:Int) (w:World),RG F rb w0 s0 ov out w->s0.Bd->(s0.off=false->s0.left<g)->0<=n->n<=65536->i64B a->i64B b->LB out->(Q0Q g n a b out).go s0=(out',s')->
  Calls Tryz.prog 203 #[.pointer (some ⟨rb,0,none⟩),.int .i64 n,.int .i64 a,.int .i64 b,ov] w (Qfg F rb w0 out' s')
theorem GatherC.use {F:Nat->Prop} {rb:Nat} {w0:World} {g:Nat} (h:GatherC F rb w0 g) (s0 s':RunS) (out out':List (Int×Int)) (ov:Value) (n a b:Int) (w:World) (h0:RG F rb w0 s0 ov out w) (d0:s0.Bd) (hf:s0.off=false->s0.left<g) (n0:0<=n) (n1:n<=65536) (ha:i64B a) (hb:i64B b) (hl:LB out) (hg:(Q0Q g n a b out).go s0=(out',s')):
  Calls Tryz.prog 203 #[.pointer (some ⟨rb,0,none⟩),.int .i64 n,.int .i64 a,.int .i64 b,ov] w (Qfg F rb w0 out' s'):=h s0 s' out out' ov n a b w h0 d0 hf n0 n1 ha hb hl hg
def QgH (s:RunS) (out:List (Int×Int)) (ov rv iv:Value) (wr:World):Prop:=rv=.int .i64 0/\iv=.int .i64 0/\RG F rb w0 s ov out wr
theorem Q44 (s:RunS) (out:List (Int×Int)) (ov:Value) (n a b:Int) (w:World) (h:RG F rb w0 s ov out w) (d0:s.Bd) (ho:s.off=true):
  Calls Tryz.prog 203 #[.pointer (some ⟨rb,0,none⟩),.int .i64 n,.int .i64 a,.int .i64 b,ov] w (Qfg F rb w0 out s):=by
 have HO:=LH ho;have H:=LH h;clear ho h;go_enter Tryz.func203,Tryz.ntmps203;go_wp2_with (fail);with_reducible refine (Q0d _ rb _ s s 0 n _ H.out.here d0 (Q3N HO.out)).mono ?_
 rintro e w1 ⟨rfl,h1⟩;have H1:=LH (H.out.run_ h1 (Nat.le_refl _));clear h1 H;go_wp2_with (fail)
 go_loopw [4,12,13] (fun ov rv iv wr=>QgH F rb w0 s out ov rv iv wr) (fun _ _ _ _=>0)
 case atStart=>unfold QgH;exact ⟨rfl,rfl,H1.out⟩
 case round=>
  obtain ⟨rfl,rfl,h4⟩:=hrel;clear H1;have H4:=LH h4;clear h4;go_wp2_with (fail);go_ret;exact ⟨_,rfl,H4.out⟩
def Qfd (g:Nat) (n d a b:Int) (vo:List (Int×Int)) (so:RunS) (T:List Int) (ov rv iv:Value) (wr:World):Prop:=∃(i rank:Int) (out:List (Int×Int)) (f:Nat) (s:RunS),rv=.int .i64 rank/\iv=.int .i64 i/\0<=i/\i<=9223372036854775807/\i64B rank/\(s.off=false->s.left<f)/\(s.off=false->s.left<g+1)/\s.tape=T/\RG F rb w0 s ov out wr/\s.Bd/\LB out/\(Q0Y (Q0Q g) f n d a b i rank out).go s=(vo,so)
theorem Q7R (g:Nat) (hgc:GatherC F rb w0 g) (s0 s':RunS) (out out':List (Int×Int)) (ov:Value) (n a b:Int) (w:World) (h:RG F rb w0 s0 ov out w) (d0:s0.Bd) (ho:s0.off=false) (hf:s0.left<g+1) (n0:0<=n) (n1:n<=65536) (ha:i64B a) (hb:i64B b) (hl:LB out) (hg:(Q0Q (g+1) n a b out).go s0=(out',s')):
  Calls Tryz.prog 203 #[.pointer (some ⟨rb,0,none⟩),.int .i64 n,.int .i64 a,.int .i64 b,ov] w (Qfg F rb w0 out' s'):=by
 obtain ⟨i0,hi0,hz0,hz1,hz2⟩:=info_parts Q3y;unfold Q0Q at hg;have hn:=Q1V n0 n1;have ha0:=ha.lo;have ha1:=ha.hi;have hb0:=hb.lo;have hb1:=hb.hi;have HG:=LH hg;have H0:=LH h;have HGC:=LH hgc;have HF:=LH hf;have HLB:=LH hl;clear hg h hgc hf hl;clear ho;go_enter Tryz.func203,Tryz.ntmps203;go_wp2_with (fail);obtain ⟨v1,s1,g1⟩:=Q0k (Q0e n) s0;have HL1:=LH (Q0i g1);have HT1:=LH (Q0v g1);have hg:=HG.out;clear HG
 rw[Q01,g1] at hg
 have HG:=LH hg;clear hg;obtain ⟨b1,d1⟩:=Q0b g1 (Q04 hn) d0;have G1:=LH g1;clear g1;with_reducible refine (Q0d _ rb _ s0 s1 v1 n _ H0.out.here d0 G1.out).mono ?_
 rintro e w1 ⟨rfl,h1⟩;have H1:=LH (H0.out.run_ h1 HL1.out);clear h1 H0 G1;have hd0:=b1.lo;have hd1:=b1.hi;have hf1:s1.left<g+1:=by have:=HL1.out;have:=HF.out;omega
 clear b1 HF HL1 HT1;go_wp2_with (fail)
 go_loopw [4,12,13] (fun ov rv iv wr=>Qfd F rb w0 g n v1 a b out' s' s1.tape ov rv iv wr) (fun _ _ _ wr=>Q65 rb s1.tape.length wr)
 case atStart=>unfold Qfd;exact ⟨0,0,out,g+1,s1,rfl,rfl,by omega,by omega,Q0f,fun _=>hf1,fun _=>hf1,rfl,H1.out,d1,HLB.out,HG.out⟩
 case round=>
  clear H1 HG d1 hf1 HLB;obtain ⟨i,rank,L,f,s4,rfl,rfl,hi0',hi1',hrk,hf4,hfg4,ht4,h4,d4,hl4,gm4⟩:=hrel;have hrk0:=hrk.lo;have hrk1:=hrk.hi;have hlen:=h4.len;obtain ⟨oA,oc,rfl⟩:=Q03 h4.own;have H4:=LH h4;have H4r:=LH h4.run;have HM:=LH gm4;have HF4:=LH hf4;have HFG4:=LH hfg4;have HT4:=LH ht4;have HRK:=LH hrk;have HL4:=LH hl4;clear h4 gm4 hf4 hfg4 ht4 hrk hl4;by_cases hlt:i<v1
  ·by_cases hrt:rank<b
   ·cases ho:s4.off with
    |true=>
     have c2:=Q0c H4.out.run ho;obtain ⟨rfl,rfl⟩:=Prod.mk.inj ((Q5o ho f).symm.trans HM.out);clear ho;go_wp2_with (fail);go_ret;exact ⟨_,rfl,H4.out⟩
    |false=>
     have c2:=Q0c H4.out.run ho;have HO:=LH ho;have hlt4:=HF4.out ho;have hlg4:=HFG4.out ho;obtain ⟨f,rfl⟩:∃k,f=k+1:=⟨f-1,by omega⟩;have hm:=HM.out;clear HM;unfold Q0Y at hm
     rw[Q0B,ho,if_pos ⟨⟨hlt,hrt⟩,rfl⟩] at hm
     clear ho;obtain ⟨v5,s5,g5⟩:=Q0k (Q2V (Q06 n v1 i)) s4;have hp5:=Q9C g5 HO.out d4;have HT5:=LH (Q0v g5)
     rw[Q01,g5] at hm
     have HM:=LH hm;clear hm;obtain ⟨b5,d5⟩:=Q0b g5 (Q29 (Q0r n v1 i)) d4;have G5:=LH g5;clear g5;go_wp2_with (fail);with_reducible refine (Q0F n v1 i _).mono ?_
     rintro e w5 ⟨rfl,rfl⟩;go_wp2_with (fail);with_reducible refine (Q3u _ rb _ s4 s5 v5 (Q06 n v1 i) _ H4.out.here d4 G5.out (Q0r n v1 i)).mono ?_
     rintro e w5 ⟨rfl,h5⟩;have H5:=LH (H4.out.run_ h5 (Nat.le_of_lt hp5));clear h5 G5 H4 c2;go_wp2_with (fail);with_reducible refine (Q0x v5 _ b5.lo b5.hi).mono ?_
     rintro e w6 ⟨rfl,rfl⟩;go_wp2_with (fail);with_reducible refine (Q0A v5 _ b5.lo b5.hi).mono ?_
     rintro e w6 ⟨rfl,rfl⟩;obtain ⟨wa0,wa1⟩:=Q0D v5;by_cases k2:Q05 v5=2
     ·have e2:(Q05 v5==2)=true:=by simpa using k2
      have hm:=HM.out;clear HM
      rw[if_pos k2,Q01] at hm
      have erk:wrap64 (rank+1)=rank+1:=by unfold wrap64;omega
      by_cases kr:a<=rank
      ·rw[if_pos kr] at hm
       obtain ⟨v6,s6,g6⟩:=Q0k (Q0e (wAt v5)) s5;have HL6:=LH (Q0i g6);have HT6:=LH (Q0v g6);obtain ⟨b6,d6⟩:=Q0b g6 (Q04 (Q0H v5)) d5;obtain ⟨v7,s7,g7⟩:=Q0k (Q0e (wAt v5+1)) s6;have HL7:=LH (Q0i g7);have HT7:=LH (Q0v g7);obtain ⟨b7,d7⟩:=Q0b g7 (Q04 Q3J) d6
       rw[Q01,g6] at hm
       have hm:(Q0Y (Q0Q g) f n v1 a b (i+1) (wrap64 (rank+1)) (((Q0e (wAt v5+1)).bind fun v=>.ret (L++[(v6,v)])).go s6).1).go (((Q0e (wAt v5+1)).bind fun v=>.ret (L++[(v6,v)])).go s6).2=(out',s'):=hm
       rw[Q01,g7] at hm
       have HM:=LH (show (Q0Y (Q0Q g) f n v1 a b (i+1) (wrap64 (rank+1)) (L++[(v6,v7)])).go s7=(out',s') from hm);have G6:=LH g6;have G7:=LH g7;have HLB2:=LH (HL4.out.snoc b6 b7);clear hm g6 g7 k2;go_wp2_with (fail);with_reducible refine (Q0d _ rb _ s5 s6 v6 (wAt v5) _ H5.out.here d5 G6.out).mono ?_
       rintro e w6 ⟨rfl,h6⟩;have H6:=LH (H5.out.run_ h6 HL6.out);clear h6 G6 H5;go_wp2_with (fail);with_reducible refine (Q0d _ rb _ s6 s7 v7 (wAt v5+1) _ H6.out.here d6 G7.out).mono ?_
       rintro e w7 ⟨rfl,h7⟩;have H7:=LH (H6.out.run_ h7 HL7.out);clear h7 G7 H6;have hsl:L.length+1+s7.left<=2000000000:=by have:=HL6.out;have:=HL7.out;omega
       have hsz:=H7.out.run.2.size;have hb1:=(Below.refl w7.heap.size w7).alloc (Nat.le_refl _) (.cells #[.int .i64 v6,.int .i64 v7] 52);have hzz:w0.heap.size<=(w7.alloc (.cells #[.int .i64 v6,.int .i64 v7] 52)).heap.size:=by have:=hb1.size;omega
       have HN6:=LH (Q2y w7 52 (.int .i64 v6) (.int .i64 v7));have HOA:=LH (Q0n H7.out.own hb1);have HB1:=LH hb1;clear hb1;go_wp2_with (at_builtin;refine wpList_append_own _ rfl _ _ 40 rfl w0.heap.size 52 i0 (.agg #[.int .i64 0,.int .i64 0]) 2 16 Tryz.underlying40 hi0 hz0 hz1 hz2 rfl (by decide) _ _ _ rfl HOA.out ⟨w7.heap.size,0,none⟩ 1 1 [.int .i64 v6,.int .i64 v7] rfl rfl HN6.out (by simp[Value.oneCell']) (by unfold maxLen;omega) (by omega) hzz ?_;intro v' w8 hO5 hg5 _;have H8:=LH (H7.out.app HB1.out hO5 hg5 hsl);clear hO5 hg5)
       go_roundw
       case rel=>unfold Qfd;exact ⟨i+1,wrap64 (rank+1),_,f,s7,by rw[erk],by go_num,by omega,by omega,Q0l _,fun _=>by have:=HL6.out;have:=HL7.out;omega,fun _=>by have:=HL6.out;have:=HL7.out;omega,by rw[HT7.out,HT6.out,HT5.out,HT4.out],H8.out,d7,HLB2.out,HM.out⟩
       case measure=>
        have e5:=Q0u H8.out.run;have e4:=Q0u H4r.out
        rw[HT7.out,HT6.out,HT5.out,HT4.out] at e5
        rw[HT4.out] at e4
        have:=HL6.out;have:=HL7.out;omega
      ·rw[if_neg kr] at hm
       have HM:=LH (show (Q0Y (Q0Q g) f n v1 a b (i+1) (wrap64 (rank+1)) L).go s5=(out',s') from hm);clear hm k2;go_wp2_with (fail)
       go_roundw
       case rel=>unfold Qfd;exact ⟨i+1,wrap64 (rank+1),_,f,s5,by rw[erk],by go_num,by omega,by omega,Q0l _,fun _=>by omega,fun _=>by omega,by rw[HT5.out,HT4.out],H5.out,d5,HL4.out,HM.out⟩
       case measure=>
        have e5:=Q0u H5.out.run;have e4:=Q0u H4r.out
        rw[HT5.out,HT4.out] at e5
        rw[HT4.out] at e4
        omega
     ·have e2:(Q05 v5==2)=false:=by simpa using k2
      by_cases k3:Q05 v5=3
      ·have e3:(Q05 v5==3)=true:=by simpa using k3
       have e4:(Q05 v5==4)=false:=by rw[k3];rfl
       have hm:=HM.out;clear HM
       rw[if_neg k2,if_pos (.inl k3),Q01,if_neg (by rw[k3];decide)] at hm
       have hm:((Q0e (wAt v5+4)).bind fun s=>(if a<wrap64 (rank+wrap64 (s-1)) then Q0Q g (wAt v5) (wrap64 (a-rank)) (wrap64 (b-rank)) L else .ret L).bind fun out'=>Q0Y (Q0Q g) f n v1 a b (i+1) (wrap64 (rank+wrap64 (s-1))) out').go s5=(out',s'):=hm;clear k2 k3;go_wp2_with (fail);with_reducible refine (Q0A v5 _ b5.lo b5.hi).mono ?_
       rintro e w6 ⟨rfl,rfl⟩;obtain ⟨v8,s8,g8⟩:=Q0k (Q0e (wAt v5+4)) s5;have HL8:=LH (Q0i g8);have HT8:=LH (Q0v g8);obtain ⟨b8,d8⟩:=Q0b g8 (Q04 (Q2I wa0 wa1 (by decide) (by decide))) d5;have hb80:=b8.lo;have hb81:=b8.hi
       rw[Q01,g8] at hm
       have G8:=LH g8;have HM:=LH hm;clear g8 hm;go_wp2_with (fail);with_reducible refine (Q0d _ rb _ s5 s8 v8 (wAt v5+4) _ H5.out.here d5 G8.out).mono ?_
       rintro e w8 ⟨rfl,h8⟩;have H8:=LH (H5.out.run_ h8 HL8.out);clear h8 G8 H5;have hm:=HM.out;clear HM;by_cases kc:a<wrap64 (rank+wrap64 (v8-1))
       ·rw[Q01,if_pos kc] at hm
        obtain ⟨L9,s9,g9⟩:=Q0k (Q0Q g (wAt v5) (wrap64 (a-rank)) (wrap64 (b-rank)) L) s8;have HL9:=LH (Q0i g9);have HT9:=LH (Q0v g9);obtain ⟨b9,d9⟩:=Q0b g9 (Q1T g _ _ _ _ wa0 wa1 HL4.out) d8
        rw[g9] at hm
        have G9:=LH g9;have HM:=LH hm;have HB9:=LH b9;clear g9 hm b9;go_wp2_with (fail);with_reducible refine (HGC.out.use s8 s9 L L9 _ (wAt v5) (wrap64 (a-rank)) (wrap64 (b-rank)) _ H8.out d8 (fun _=>by have:=HL8.out;omega) wa0 wa1 (Q0l _) (Q0l _) HL4.out G9.out).mono ?_
        rintro e w9 ⟨ov9,rfl,h9⟩;have H9:=LH h9;clear h9 G9 H8;go_wp2_with (fail)
        go_roundw
        case rel=>unfold Qfd;exact ⟨i+1,wrap64 (rank+wrap64 (v8-1)),_,f,s9,rfl,by go_num,by omega,by omega,Q0l _,fun _=>by have:=HL8.out;have:=HL9.out;omega,fun _=>by have:=HL8.out;have:=HL9.out;omega,by rw[HT9.out,HT8.out,HT5.out,HT4.out],H9.out,d9,HB9.out,HM.out⟩
        case measure=>
         have e5:=Q0u H9.out.run;have e4:=Q0u H4r.out
         rw[HT9.out,HT8.out,HT5.out,HT4.out] at e5
         rw[HT4.out] at e4
         have:=HL8.out;have:=HL9.out;omega
       ·rw[Q01,if_neg kc] at hm
        have HM:=LH (show (Q0Y (Q0Q g) f n v1 a b (i+1) (wrap64 (rank+wrap64 (v8-1))) L).go s8=(out',s') from hm);clear hm;go_wp2_with (fail)
        go_roundw
        case rel=>unfold Qfd;exact ⟨i+1,wrap64 (rank+wrap64 (v8-1)),_,f,s8,rfl,by go_num,by omega,by omega,Q0l _,fun _=>by have:=HL8.out;omega,fun _=>by have:=HL8.out;omega,by rw[HT8.out,HT5.out,HT4.out],H8.out,d8,HL4.out,HM.out⟩
        case measure=>
         have e5:=Q0u H8.out.run;have e4:=Q0u H4r.out
         rw[HT8.out,HT5.out,HT4.out] at e5
         rw[HT4.out] at e4
         have:=HL8.out;omega
      ·have e3:(Q05 v5==3)=false:=by simpa using k3
       by_cases k4:Q05 v5=4
       ·have e4:(Q05 v5==4)=true:=by simpa using k4
        have hm:=HM.out;clear HM
        rw[if_neg k2,if_pos (.inr k4),Q01,if_pos k4] at hm
        obtain ⟨v6,s6,g6⟩:=Q0k (Q0e (wAt v5)) s5;have HL6:=LH (Q0i g6);have HT6:=LH (Q0v g6);obtain ⟨b6,d6⟩:=Q0b g6 (Q04 (Q0H v5)) d5;have eX:((Q0e (wAt v5)).bind fun t=>Prog.ret (wAt t)).go s5=(wAt v6,s6):=by rw[Q01,g6];rfl
        rw[eX] at hm
        clear eX;have hm:((Q0e (wAt v6+4)).bind fun s=>(if a<wrap64 (rank+wrap64 (s-1)) then Q0Q g (wAt v6) (wrap64 (a-rank)) (wrap64 (b-rank)) L else .ret L).bind fun out'=>Q0Y (Q0Q g) f n v1 a b (i+1) (wrap64 (rank+wrap64 (s-1))) out').go s6=(out',s'):=hm;have G6:=LH g6;clear k2 k3 k4 g6;go_wp2_with (fail);with_reducible refine (Q0A v5 _ b5.lo b5.hi).mono ?_
        rintro e w6 ⟨rfl,rfl⟩;go_wp2_with (fail);with_reducible refine (Q0d _ rb _ s5 s6 v6 (wAt v5) _ H5.out.here d5 G6.out).mono ?_
        rintro e w6 ⟨rfl,h6⟩;have H6:=LH (H5.out.run_ h6 HL6.out);clear h6 G6 H5;obtain ⟨wc0,wc1⟩:=Q0D v6;go_wp2_with (fail);with_reducible refine (Q0x v6 _ b6.lo b6.hi).mono ?_
        rintro e w6b ⟨rfl,rfl⟩;obtain ⟨v8,s8,g8⟩:=Q0k (Q0e (wAt v6+4)) s6;have HL8:=LH (Q0i g8);have HT8:=LH (Q0v g8);obtain ⟨b8,d8⟩:=Q0b g8 (Q04 (Q2I wc0 wc1 (by decide) (by decide))) d6;have hb80:=b8.lo;have hb81:=b8.hi
        rw[Q01,g8] at hm
        have G8:=LH g8;have HM:=LH hm;clear g8 hm;go_wp2_with (fail);with_reducible refine (Q0d _ rb _ s6 s8 v8 (wAt v6+4) _ H6.out.here d6 G8.out).mono ?_
        rintro e w8 ⟨rfl,h8⟩;have H8:=LH (H6.out.run_ h8 HL8.out);clear h8 G8 H6;have hm:=HM.out;clear HM;by_cases kc:a<wrap64 (rank+wrap64 (v8-1))
        ·rw[Q01,if_pos kc] at hm
         obtain ⟨L9,s9,g9⟩:=Q0k (Q0Q g (wAt v6) (wrap64 (a-rank)) (wrap64 (b-rank)) L) s8;have HL9:=LH (Q0i g9);have HT9:=LH (Q0v g9);obtain ⟨b9,d9⟩:=Q0b g9 (Q1T g _ _ _ _ wc0 wc1 HL4.out) d8
         rw[g9] at hm
         have G9:=LH g9;have HM:=LH hm;have HB9:=LH b9;clear g9 hm b9;go_wp2_with (fail);with_reducible refine (HGC.out.use s8 s9 L L9 _ (wAt v6) (wrap64 (a-rank)) (wrap64 (b-rank)) _ H8.out d8 (fun _=>by have:=HL6.out;have:=HL8.out;omega) wc0 wc1 (Q0l _) (Q0l _) HL4.out G9.out).mono ?_
         rintro e w9 ⟨ov9,rfl,h9⟩;have H9:=LH h9;clear h9 G9 H8;go_wp2_with (fail)
         go_roundw
         case rel=>unfold Qfd;exact ⟨i+1,wrap64 (rank+wrap64 (v8-1)),_,f,s9,rfl,by go_num,by omega,by omega,Q0l _,fun _=>by have:=HL6.out;have:=HL8.out;have:=HL9.out;omega,fun _=>by have:=HL6.out;have:=HL8.out;have:=HL9.out;omega,by rw[HT9.out,HT8.out,HT6.out,HT5.out,HT4.out],H9.out,d9,HB9.out,HM.out⟩
         case measure=>
          have e5:=Q0u H9.out.run;have e4:=Q0u H4r.out
          rw[HT9.out,HT8.out,HT6.out,HT5.out,HT4.out] at e5
          rw[HT4.out] at e4
          have:=HL6.out;have:=HL8.out;have:=HL9.out;omega
        ·rw[Q01,if_neg kc] at hm
         have HM:=LH (show (Q0Y (Q0Q g) f n v1 a b (i+1) (wrap64 (rank+wrap64 (v8-1))) L).go s8=(out',s') from hm);clear hm;go_wp2_with (fail)
         go_roundw
         case rel=>unfold Qfd;exact ⟨i+1,wrap64 (rank+wrap64 (v8-1)),_,f,s8,rfl,by go_num,by omega,by omega,Q0l _,fun _=>by have:=HL6.out;have:=HL8.out;omega,fun _=>by have:=HL6.out;have:=HL8.out;omega,by rw[HT8.out,HT6.out,HT5.out,HT4.out],H8.out,d8,HL4.out,HM.out⟩
         case measure=>
          have e5:=Q0u H8.out.run;have e4:=Q0u H4r.out
          rw[HT8.out,HT6.out,HT5.out,HT4.out] at e5
          rw[HT4.out] at e4
          have:=HL6.out;have:=HL8.out;omega
       ·have e4:(Q05 v5==4)=false:=by simpa using k4
        have hm:=HM.out;clear HM
        rw[if_neg k2,if_neg (fun e=>e.elim k3 k4)] at hm
        have HM:=LH hm;clear hm k2 k3 k4;go_wp2_with (fail)
        go_roundw
        case rel=>unfold Qfd;exact ⟨i+1,rank,_,f,s5,rfl,by go_num,by omega,by omega,HRK.out,fun _=>by omega,fun _=>by omega,by rw[HT5.out,HT4.out],H5.out,d5,HL4.out,HM.out⟩
        case measure=>
         have e5:=Q0u H5.out.run;have e4:=Q0u H4r.out
         rw[HT5.out,HT4.out] at e5
         rw[HT4.out] at e4
         omega
   ·obtain ⟨rfl,rfl⟩:=Prod.mk.inj ((Q5p (fun e=>hrt e.2) f).symm.trans HM.out);go_wp2_with (fail);go_ret;exact ⟨_,rfl,H4.out⟩
  ·obtain ⟨rfl,rfl⟩:=Prod.mk.inj ((Q5p (fun e=>hlt e.1) f).symm.trans HM.out);go_wp2_with (fail);go_ret;exact ⟨_,rfl,H4.out⟩
theorem Q6f:∀(g:Nat),GatherC F rb w0 g:=by
 intro g
 induction g with
 |zero=>
  intro s0 s' out out' ov n a b w h d0 hf n0 n1 ha hb hl hg
  cases ho:s0.off with
  |false=>exact absurd (hf ho) (by omega)
  |true=>
   rw[Q6g ho] at hg
   obtain ⟨rfl,rfl⟩:=Prod.mk.inj hg;exact Q44 F rb w0 s0 out ov n a b w h d0 ho
 |succ g ih=>
  intro s0 s' out out' ov n a b w h d0 hf n0 n1 ha hb hl hg
  cases ho:s0.off with
  |false=>exact Q7R F rb w0 g ih s0 s' out out' ov n a b w h d0 ho (hf ho) n0 n1 ha hb hl hg
  |true=>
   rw[Q6g ho] at hg
   obtain ⟨rfl,rfl⟩:=Prod.mk.inj hg;exact Q44 F rb w0 s0 out ov n a b w h d0 ho
end
attribute [local go_sem] Q39 Q4X
theorem RootAt.start32 {n:Int} (h0:0<n) (h1:n<=9223372036854775807):RootAt n 32 0:=by
 refine ⟨⟨0,by simp⟩,by omega, ?_,by decide⟩;have:((0:Int)+2^32)*(0+2^32)=18446744073709551616:=by decide
 omega
theorem Q9w (n:Int) (w:World) (h1:n<=9223372036854775807):
  Calls Tryz.prog 263 #[.int .i64 n] w fun e w'=>e=.returned (.int .i64 (Q2t n))/\w=w':=by
 by_cases hn:0<n
 ·go_enter Tryz.func263,Tryz.ntmps263
  go_wp2
  go_loop [3,4,5] (fun r t _=>∃(b:Nat) (x:Int),b<=32/\r=.int .i64 x/\t=.int .i64 ((b:Int)-1)/\RootAt n b x) (fun _ t _=>(intOf t+1).toNat)
  case atStart=>exact ⟨32,0,by omega,rfl,rfl,RootAt.start32 hn h1⟩
  case round=>
   obtain ⟨b,r,hb,rfl,rfl,H0⟩:=hrel
   rcases b with _|j
   ·have H:=LH H0.end_;clear H0
    go_wp2
    go_ret;exact ⟨Q0y H.out.symm,rfl⟩
   ·have hj:j<32:=by omega
    have p0:=Q7z j;have p1:=QfQ hj;have r0:=H0.nonneg;have r1:r<4294967296:=H0.2.2.2;have H:=LH H0;clear H0;by_cases c:r+2^j<=n/(r+2^j)
    ·go_wp2
     go_round
     case rel=>exact ⟨j,_,by omega,rfl,by go_num,H.out.yes (by omega) h1 c⟩
     case measure=>simp[intOf]
    ·go_wp2
     go_round
     case rel=>exact ⟨j,_,by omega,rfl,by go_num,H.out.no c⟩
     case measure=>simp[intOf]
 ·have H:=LH (QcB (n:=n) (by omega));go_enter Tryz.func263,Tryz.ntmps263
  go_wp2
  go_ret;exact ⟨Q0y H.out.symm,rfl⟩
attribute [local go_sem] Q39 Q4X Q7E Q9D
theorem Q0E (n:Int) (w:World) (h0:-9223372036854775808<=n) (h1:n<=9223372036854775807):Calls Tryz.prog 238 #[.int .i64 n] w fun e w'=>e=.returned (.int .i64 (Q00 n))/\w=w':=by
 by_cases h:n<2
 ·have H:=LH (Q1a (n:=n) (by omega));go_enter Tryz.func238,Tryz.ntmps238;go_wp2_with (fail);go_ret;exact ⟨Q0y H.out.symm,rfl⟩
 ·by_cases g:16384<n
  ·have H:=LH (Q1a (n:=n) (by omega));go_enter Tryz.func238,Tryz.ntmps238;go_wp2_with (fail);go_ret;exact ⟨Q0y H.out.symm,rfl⟩
  ·have H:(if 2<Q2t n then Q2t n else 2)=Q00 n:=by unfold Q00;rw[if_neg (show ¬(n<2\/16384<n) by omega)]
   go_enter Tryz.func238,Tryz.ntmps238;go_wp2_with (go_at_call 263;refine (Q9w _ _ (by omega)).mono ?_;rintro e w' ⟨rfl,rfl⟩);go_ret;exact ⟨rfl,rfl⟩
theorem Q8y (n:Int) (w:World) (h0:-9223372036854775808<=n) (h1:n<=9223372036854775807):Calls Tryz.prog 246 #[.int .i64 n] w fun e w'=>e=.returned (.int .i64 (Q5m n))/\w=w':=by
 by_cases h:n<0
 ·have H:=LH (show Q5m n=0 from if_pos (.inl h));go_enter Tryz.func246,Tryz.ntmps246;go_wp2_with (fail);go_ret;exact ⟨Q0y H.out.symm,rfl⟩
 ·by_cases g:16384<n
  ·have H:=LH (show Q5m n=0 from if_pos (.inr g));go_enter Tryz.func246,Tryz.ntmps246;go_wp2_with (fail);go_ret;exact ⟨Q0y H.out.symm,rfl⟩
  ·have H:=LH (show Q5m n=n/4+2 from if_neg (by omega));go_enter Tryz.func246,Tryz.ntmps246;go_wp2_with (fail);go_ret;exact ⟨Q0y H.out.symm,rfl⟩
theorem Q1P (n i:Int) (w:World) (h0:-9223372036854775808<=n) (h1:n<=9223372036854775807) (i0:-9223372036854775808<=i) (i1:i<=9223372036854775807):Calls Tryz.prog 240 #[.int .i64 n,.int .i64 i] w fun e w'=>e=.returned (.int .i64 (Q14 n i))/\w=w':=by
 by_cases h:i<0
 ·have H:=LH (Q5K (n:=n) (i:=i) (.inl h));go_enter Tryz.func240,Tryz.ntmps240;go_wp2_with (go_at_call 238;refine (Q0E _ _ (by omega) (by omega)).mono ?_;rintro e w' ⟨rfl,rfl⟩);go_ret;exact ⟨Q0y H.out.symm,rfl⟩
 ·by_cases g:Q00 n<=i
  ·have H:=LH (Q5K (n:=n) (i:=i) (.inr g));go_enter Tryz.func240,Tryz.ntmps240;go_wp2_with (go_at_call 238;refine (Q0E _ _ (by omega) (by omega)).mono ?_;rintro e w' ⟨rfl,rfl⟩);go_ret;exact ⟨Q0y H.out.symm,rfl⟩
  ·have hd:Q00 n≠0:=by omega
   have hn:¬(n<2\/16384<n):=fun g=>hd (Q1a g);clear hd;obtain ⟨s1,s2,s3⟩:=Q26 (n:=n) (i:=i) (by omega) (by omega) (by omega) (by omega);obtain ⟨p1,p2,p3,p4,p5,p6⟩:=parts (n:=n) (by omega) (by omega);obtain ⟨d0,d1,d2⟩:=Q0L (n:=n) (by omega) (by omega);have n0:0<=n:=by omega
   clear p1 p6;by_cases c:i<n%Q00 n
   ·rw[if_pos c] at s1
    have H:=LH s1;clear s1;go_enter Tryz.func240,Tryz.ntmps240;go_wp2_with (go_at_call 238;refine (Q0E _ _ (by omega) (by omega)).mono ?_;rintro e w' ⟨rfl,rfl⟩);go_ret;exact ⟨Q0y H.out.symm,rfl⟩
   ·rw[if_neg c] at s1
    have H:=LH s1;clear s1;go_enter Tryz.func240,Tryz.ntmps240;go_wp2_with (go_at_call 238;refine (Q0E _ _ (by omega) (by omega)).mono ?_;rintro e w' ⟨rfl,rfl⟩);go_ret;exact ⟨Q0y H.out.symm,rfl⟩
theorem Q5R (n i:Int) (w:World) (h0:-9223372036854775808<=n) (h1:n<=9223372036854775807):Calls Tryz.prog 239 #[.int .i64 n,.int .i64 i] w fun e w'=>e=.returned (.int .i64 (Q0R n i))/\w=w':=by
 by_cases h:i<0
 ·have H:=LH (show Q0R n i=0 from if_pos (.inl h));go_enter Tryz.func239,Tryz.ntmps239;go_wp2_with (go_at_call 238;refine (Q0E _ _ (by omega) (by omega)).mono ?_;rintro e w' ⟨rfl,rfl⟩);go_ret;exact ⟨Q0y H.out.symm,rfl⟩
 ·by_cases g:Q00 n<=i
  ·have H:=LH (show Q0R n i=0 from if_pos (.inr g));go_enter Tryz.func239,Tryz.ntmps239;go_wp2_with (go_at_call 238;refine (Q0E _ _ (by omega) (by omega)).mono ?_;rintro e w' ⟨rfl,rfl⟩);go_ret;exact ⟨Q0y H.out.symm,rfl⟩
  ·have hd:Q00 n≠0:=by omega
   have hn:¬(n<2\/16384<n):=fun g=>hd (Q1a g);clear hd;have g0:2<=n:=by omega
   have g1:n<=16384:=by omega
   have i0:0<=i:=by omega
   have i1:i<Q00 n:=by omega
   obtain ⟨d0,d1,d2⟩:=Q0L (n:=n) (by omega) (by omega);have H:=LH (Q2c i0 i1);have Z:=LH (Q5V g0 g1);go_enter Tryz.func239,Tryz.ntmps239;go_wp2_with (go_at_call 238;refine (Q0E _ _ (by omega) (by omega)).mono ?_;rintro e w' ⟨rfl,rfl⟩)
   go_loop [5,6] (fun s t=>∃k:Int,0<=k/\k<=i/\s=.int .i64 (Q6Q n k)/\t=.int .i64 k) (fun _ t=>(i-intOf t).toNat)
   case atStart=>exact ⟨0,by omega,by omega,by rw[Z.out],rfl⟩
   case round=>
    obtain ⟨k,k0,k1,rfl,rfl⟩:=hrel;by_cases c:k<i
    ·have S:=LH (Q3t (i:=k) g0 g1 (by omega) (by omega));have b:=Q4U (i:=k) g0 g1 (by omega) (by omega);have sb:=Qa9 n k;go_wp2_with (go_at_call 240;refine (Q1P _ _ _ (by omega) (by omega) (by omega) (by omega)).mono ?_;rintro e w' ⟨rfl,rfl⟩)
     go_round
     case rel=>exact ⟨k+1,by omega,by omega,by rw[S.out],rfl⟩
     case measure=>simp[intOf];omega
    ·have:k=i:=by omega
     go_wp2_with (fail);go_ret;exact ⟨Q0y H.out.symm,rfl⟩
theorem Q9x (k:Nat):∀(n:Int) (w:World),n<=k->-9223372036854775808<=n->n<=9223372036854775807->
  Calls Tryz.prog 251 #[.int .i64 n] w fun e w'=>e=.returned (.int .i64 (Q0C n))/\w=w':=by
 induction k with
 |zero=>
  intro n w hk h0 h1;by_cases g:n<0
  ·have H:=LH (Q3f (n:=n) (by omega));go_enter Tryz.func251,Tryz.ntmps251;go_wp2_with (fail);go_ret;exact ⟨Q0y H.out.symm,rfl⟩
  ·obtain rfl:n=0:=by omega
   go_enter Tryz.func251,Tryz.ntmps251;go_wp2_with (fail);go_ret;exact ⟨Q0y cellsI_zero.symm,rfl⟩
 |succ k ih=>
  intro n w hk h0 h1;by_cases g:n<0
  ·have H:=LH (Q3f (n:=n) (by omega));go_enter Tryz.func251,Tryz.ntmps251;go_wp2_with (fail);go_ret;exact ⟨Q0y H.out.symm,rfl⟩
  ·by_cases g':16384<n
   ·have H:=LH (Q3f (n:=n) (by omega));go_enter Tryz.func251,Tryz.ntmps251;go_wp2_with (fail);go_ret;exact ⟨Q0y H.out.symm,rfl⟩
   ·by_cases u:n<2
    ·have H:Q0C n=n+1:=by
      have:n=0\/n=1:=by omega
      rcases this with rfl|rfl
      ·exact cellsI_zero
      ·exact Q56
     replace H:=LH H
     go_enter Tryz.func251,Tryz.ntmps251;go_wp2_with (fail);go_ret;exact ⟨Q0y H.out.symm,rfl⟩
    ·have g0:2<=n:=by omega
     have g1:n<=16384:=by omega
     clear g;obtain ⟨d0,d1,d2⟩:=Q0L (n:=n) (by omega) (by omega);have H:=LH (Q6n g0 g1);go_enter Tryz.func251,Tryz.ntmps251;go_wp2_with (go_at_call 238;refine (Q0E _ _ (by omega) (by omega)).mono ?_;rintro e w' ⟨rfl,rfl⟩)
     go_loop [3,4] (fun s t=>∃k:Nat,(k:Int)<=Q00 n/\s=.int .i64 (Q1U n k)/\t=.int .i64 k) (fun _ t=>(Q00 n-intOf t).toNat)
     case atStart=>exact ⟨0,by omega,rfl,rfl⟩
     case round=>
      obtain ⟨i,i1,rfl,rfl⟩:=hrel;by_cases c:(i:Int)<Q00 n
      ·obtain ⟨s0,s1⟩:=(Q26 (n:=n) (i:=i) g0 g1 (by omega) (by omega)).2;have b:=Q7e n i;obtain ⟨a0,a1⟩:=Q32 (Q14 n i);go_wp2_with (first|(go_at_call 238;refine (Q0E _ _ (by omega) (by omega)).mono ?_;rintro e w' ⟨rfl,rfl⟩)|(go_at_call 240;refine (Q1P _ _ _ (by omega) (by omega) (by omega) (by omega)).mono ?_;rintro e w' ⟨rfl,rfl⟩)|(go_at_call 251;refine (ih _ _ (by omega) (by omega) (by omega)).mono ?_;rintro e w' ⟨rfl,rfl⟩))
       go_round
       case rel=>exact ⟨i+1,by omega,rfl,by go_num⟩
       case measure=>simp[intOf];omega
      ·have e:i=(Q00 n).toNat:=by omega
       have E:=LH e;clear e;go_wp2_with (go_at_call 238;refine (Q0E _ _ (by omega) (by omega)).mono ?_;rintro e w' ⟨rfl,rfl⟩);go_ret;exact ⟨Q0y (by rw[E.out,H.out]),rfl⟩
theorem Q5i (n:Int) (w:World) (h0:-9223372036854775808<=n) (h1:n<=9223372036854775807):
  Calls Tryz.prog 251 #[.int .i64 n] w fun e w'=>e=.returned (.int .i64 (Q0C n))/\w=w':=Q9x n.toNat n w (by omega) h0 h1
theorem Q2w (n:Int) (A1 A2:Option Addr) (c1 c2:Nat) (q c:List Int) (w:World) (hq:IntsAt w w.heap.size A1 q) (hc:IntsAt w w.heap.size A2 c) (hl1:q.length<=1000) (hl2:c.length<=1000):
  Calls Tryz.prog 241 #[.int .i64 n,.slice A1 q.length c1,.slice A2 c.length c2] w (Q86 (Q12 n q c) w):=by
 obtain ⟨i0,hi0,hz0,hz1,hz2⟩:=info_parts Q1h;by_cases e:c.length=q.length+1
 ·have e1:((c.length:Int) !=(q.length:Int)+1)=false:=by simp;omega
  have HE:=LH (show Q12 n q c=Q0U n q c from if_pos e);have hB:=(Below.refl w.heap.size w).alloc (Nat.le_refl _) (.cells #[.int .i64 c.length,.int .i64 n,.int .i64 0,.int .i64 0,.int .i64 0] 2);have hO:(w.alloc (.cells #[.int .i64 c.length,.int .i64 n,.int .i64 0,.int .i64 0,.int .i64 0] 2)).ownsRow w.heap.size 2 1 (.slice (some ⟨w.heap.size,0,none⟩) 5 5) 5 (([(c.length:Int),n,0,0,0]:List Int).map (Value.int .i64)):=World.ownsRow_lit (base:=w.heap.size) (e:=2) (size:=1) w #[.int .i64 c.length,.int .i64 n,.int .i64 0,.int .i64 0,.int .i64 0] 5 (Nat.le_refl _) (by unfold maxLen;decide) (by rfl);have hin1:=hq.below hB;have hin2:=hc.below hB;have hsz:=hB.size;have HO:=LH hO;have HQ:=LH hin1;have HC:=LH hin2;have HB:=LH hB;clear hq hc hO hin1 hin2 hB e;go_enter Tryz.func241,Tryz.ntmps241;go_wp2_with (first|(at_builtin;refine Q09 _ rfl _ _ 22 rfl w.heap.size 2 i0 (.int .i64 0) 1 8 Tryz.underlying22 hi0 hz0 hz1 hz2 rfl (by decide) _ 5 _ rfl HO.out w.heap.size A1 q.length c1 (q.map (Value.int .i64)) rfl HQ.out (Q3T q) ?p1 ?p2 ?p3 ?_;(case p1=>(unfold maxLen;omega));(case p2=>omega);(case p3=>exact hsz);intro v' w2 hO2 hg hvb;have HB2:=LH (HB.out.grown hg hsz (fun g h=>(HO.out.lt g h).1));have HO2:=LH hO2;have HC2:=LH ((show IntsAt w2 w.heap.size A2 c from Reads.below HC.out ((Below.refl w.heap.size (w.alloc (.cells #[.int .i64 c.length,.int .i64 n,.int .i64 0,.int .i64 0,.int .i64 0] 2))).grown hg hsz (fun g h=>(HO.out.lt g h).1))));have hsz2:=HB2.out.size;clear hO2 hg hvb HO HQ HC)|(at_builtin;refine Q09 _ rfl _ _ 22 rfl w.heap.size 2 i0 (.int .i64 0) 1 8 Tryz.underlying22 hi0 hz0 hz1 hz2 rfl (by decide) _ _ _ rfl HO2.out w.heap.size A2 c.length c2 (c.map (Value.int .i64)) rfl HC2.out (Q3T c) ?p1 ?p2 ?p3 ?_;(case p1=>(unfold maxLen;omega));(case p2=>omega);(case p3=>exact hsz2);intro v3 w3 hO3 hg hvb;have HB3:=LH (HB2.out.grown hg hsz2 (fun g h=>(HO2.out.lt g h).1));have HO3:=LH hO3;clear hO3 hg hvb HO2 HC2));go_wp2_with (fail);go_ret;refine ⟨_,rfl, ?_,HB3.out⟩
  rw[HE.out]
  have h3:=HO3.out;unfold Q0U
  simpa[Nat.add_comm,Nat.add_left_comm,Nat.add_assoc] using h3
 ·have e1:((c.length:Int) !=(q.length:Int)+1)=true:=by simp;omega
  have HE:=LH (show Q12 n q c=[] from if_neg e);clear hq hc e;go_enter Tryz.func241,Tryz.ntmps241;go_wp2_with (fail);go_ret;refine ⟨_,rfl, ?_,Below.refl _ _⟩
  rw[HE.out]
  exact World.ownsRow_nil _ _ _ _
theorem Chg.cell_ {F:Nat->Prop} {w w':World} (m:Chg F w w') {p:Addr} (hp:p.block<w.heap.size) (hn:¬F p.block):w'.cell? p=w.cell? p:=
 World.cell?_of_block (m.block _ hp hn)
structure GRQ (F F1:Nat->Prop) (rb:Nat) (w0:World) (s:RunS) (qv:Value) (q:List Int) (cv:Value) (c:List Int) (w:World):Prop where
 sub:∀x,F1 x->F x\/w0.heap.size<=x
 run:RunP F1 rb s w
 chg:Chg (fun x=>x=rb) w0 w
 qo:w.ownsRow w0.heap.size 2 1 qv q.length (q.map (Value.int .i64))
 co:w.ownsRow w0.heap.size 2 1 cv c.length (c.map (Value.int .i64))
 qd:∀g,qv.ownBlock=some g->¬F1 g/\cv.ownBlock≠some g
 cd:∀g,cv.ownBlock=some g->¬F1 g
section
variable {F F1:Nat->Prop} {rb:Nat} {w0 w w' w5:World} {s s':RunS} {qv cv v':Value} {q c:List Int} {k:Int}
theorem RunP.within (h:RunP F rb s w):RunP (fun y=>F y/\y<w.heap.size) rb s w:=by
 obtain ⟨tv,wv,rec,laid,h⟩:=h;exact ⟨tv,wv,rec,laid,⟨h.fb,h.blk.lt⟩,h.blk,h.tape,h.ws,fun g hg=>⟨h.ft g hg,Q0T h.tape g hg⟩,fun g hg=>⟨h.fw g hg,Q0T h.ws g hg⟩⟩
theorem GRQ.rat (h:GRQ F F1 rb w0 s qv q cv c w):RAt F rb w0 s w:=⟨h.run.mono h.sub,h.chg⟩
theorem GRQ.step (h:GRQ F F1 rb w0 s qv q cv c w) (h':RAt F1 rb w s' w'):GRQ F (fun x=>F1 x\/w.heap.size<=x) rb w0 s' qv q cv c w':=
 ⟨fun x hx=>hx.elim (h.sub x) (fun e=>.inr (Nat.le_trans h.chg.size e)),h'.1,h.chg.trans h'.2,h.rat.keepO h'.2 h.qo (by decide),h.rat.keepO h'.2 h.co (by decide),
  fun g hg=>⟨fun e=>e.elim (h.qd g hg).1 (fun e=>by have:=Q0T h.qo g hg;omega),(h.qd g hg).2⟩,fun g hg e=>e.elim (h.cd g hg) (fun e=>by have:=Q0T h.co g hg;omega)⟩
theorem GRQ.below (h:GRQ F F1 rb w0 s qv q cv c w) (hb:Below w.heap.size w w'):GRQ F F1 rb w0 s qv q cv c w':=
 ⟨h.sub,h.run.below hb,h.chg.trans (Chg.of_below hb),Q0n h.qo hb,Q0n h.co hb,h.qd,h.cd⟩
theorem GRQ.appq (h:GRQ F F1 rb w0 s qv q cv c w) (hO:w5.ownsRow w0.heap.size 2 1 v' (q.length+1) (q.map (Value.int .i64)++[.int .i64 k])) (hg:w.grownBy w5 qv.ownBlock) (hv:v'.ownBlock=qv.ownBlock\/v'.ownBlock=some w.heap.size):GRQ F (fun x=>F1 x/\x<w.heap.size) rb w0 s v' (q++[k]) cv c w5:=by
 have hc:Chg (fun y=>qv.ownBlock=some y) w w5:=(Chg.of_grown hg).mono (fun _ e=>e);refine ⟨fun x hx=>h.sub x hx.1,h.run.within.chg hc (fun x hx e=>(h.qd x e).1 hx.1),h.chg.grow hc (fun x e=>.inr (h.qo.lt x e).1),by rw[List.length_append,List.map_append];exact hO,hc.own h.co (fun g hg e=>(h.qd g e).2 hg),fun g hg'=> ?_,fun g hg' e=>h.cd g hg' e.1⟩
 rcases hv with e|e
 ·rw[e] at hg';exact ⟨fun e=>(h.qd g hg').1 e.1,(h.qd g hg').2⟩
 ·rw[e] at hg'
  injection hg' with hg';exact ⟨fun e=>by have:=e.2;omega,fun e=>by have:=Q0T h.co g e;omega⟩
theorem GRQ.appc (h:GRQ F F1 rb w0 s qv q cv c w) (hO:w5.ownsRow w0.heap.size 2 1 v' (c.length+1) (c.map (Value.int .i64)++[.int .i64 k])) (hg:w.grownBy w5 cv.ownBlock) (hv:v'.ownBlock=cv.ownBlock\/v'.ownBlock=some w.heap.size):GRQ F (fun x=>F1 x/\x<w.heap.size) rb w0 s qv q v' (c++[k]) w5:=by
 have hc:Chg (fun y=>cv.ownBlock=some y) w w5:=(Chg.of_grown hg).mono (fun _ e=>e);refine ⟨fun x hx=>h.sub x hx.1,h.run.within.chg hc (fun x hx e=>h.cd x e hx.1),h.chg.grow hc (fun x e=>.inr (h.co.lt x e).1),hc.own h.qo (fun g hg e=>(h.qd g hg).2 e),by rw[List.length_append,List.map_append];exact hO,fun g hg'=>⟨fun e=>(h.qd g hg').1 e.1,fun e=> ?_⟩,fun g hg' e=> ?_⟩
 ·rcases hv with e'|e'
  ·rw[e'] at e;exact (h.qd g hg').2 e
  ·rw[e'] at e
   injection e with e;have:=Q0T h.qo g hg';omega
 ·rcases hv with e'|e'
  ·rw[e'] at hg';exact h.cd g hg' e.1
  ·rw[e'] at hg'
   injection hg' with hg';have:=e.2;omega
end
def GR (F:Nat->Prop) (rb:Nat) (w0:World) (s:RunS) (qv:Value) (q:List Int) (cv:Value) (c:List Int) (w:World):Prop:=∃F1,GRQ F F1 rb w0 s qv q cv c w
def Q3Y (F:Nat->Prop) (rb:Nat) (w0:World) (v:Int×Bool) (s':RunS) (e:Ending) (w':World):Prop:=e=.returned (.tuple #[.int .i64 v.1,.bool v.2])/\RAt F rb w0 s' w'
def GrowC (f:Nat):Prop:=∀(F:Nat->Prop) (rb:Nat) (s0 s':RunS) (v:Int×Bool) (l:List (Int×Int)) (A:Option Addr) (c N:Nat) (w:World),N=l.length->RunP F rb s0 w->s0.Bd->PairsAt w w.heap.size A l->(∀ad,A=some ad->ad.block≠rb)->l.length<=c->l.length<f->l.length<=2000000000->LB l->(Q2b f l).go s0=(v,s')->
  Calls Tryz.prog 205 #[.pointer (some ⟨rb,0,none⟩),.slice A N c] w (Q3Y F rb w v s')
theorem GrowC.use {f:Nat} (h:GrowC f) (F:Nat->Prop) (rb:Nat) (s0 s':RunS) (v:Int×Bool) (l:List (Int×Int)) (A:Option Addr) (c N:Nat) (w:World) (hN:N=l.length) (h0:RunP F rb s0 w) (d0:s0.Bd) (hq:PairsAt w w.heap.size A l) (hA:∀ad,A=some ad->ad.block≠rb) (hc:l.length<=c) (hf:l.length<f) (hl:l.length<=2000000000) (hb:LB l) (hg:(Q2b f l).go s0=(v,s')):
  Calls Tryz.prog 205 #[.pointer (some ⟨rb,0,none⟩),.slice A N c] w (Q3Y F rb w v s'):=h F rb s0 s' v l A c N w hN h0 d0 hq hA hc hf hl hb hg
theorem Qdn (f:Nat) (F:Nat->Prop) (rb:Nat) (s0 s':RunS) (v:Int×Bool) (A:Option Addr) (c:Nat) (w:World) (h:RunP F rb s0 w) (d0:s0.Bd) (hg:(Q2b (f+1) []).go s0=(v,s')):
  Calls Tryz.prog 205 #[.pointer (some ⟨rb,0,none⟩),.slice A 0 c] w (Q3Y F rb w v s'):=by
 have hg:((Q1G [0] 0).bind fun a=>.ret (wOf 1 a,decide (0<a))).go s0=(v,s'):=hg;have H0:Hid (RAt F rb w s0 w):=LH (RAt.refl h);have HG:=LH hg;clear hg;clear h;go_enter Tryz.func205,Tryz.ntmps205;go_wp2_with (fail);with_reducible refine (Q3c _).mono ?_
 rintro e wa ⟨qv,rfl,hq,hqb⟩;have HQ:=LH (Q0Z hq (Nat.zero_le _));have HN:=LH (fun g (hg:qv.ownBlock=some g)=>(hq.lt g hg).1);have H0a:=LH (H0.out.below hqb);clear hq hqb H0;obtain ⟨v1,s1,g1⟩:=Q0k (Q1G [0] 0) s0;have hg:=HG.out;clear HG
 rw[Q01,g1] at hg
 have HG:=LH hg;clear hg;obtain ⟨b1,d1⟩:=Q0b g1 (Q19 (Q60 Q0f) (by decide)) d0;have G1:=LH g1;clear g1;have b10:=b1.lo;have b11:=b1.hi;go_wp2_with (fail);with_reducible refine (Q1x F rb w s0 s1 v1 [0] 0 qv _ H0a.out d0 HQ.out HN.out G1.out).mono ?_
 rintro e w1 ⟨rfl,h1⟩;have H1:=LH h1;clear h1 H0a HQ HN G1;go_wp2_with (fail);with_reducible refine (Q0I 1 v1 _).mono ?_
 rintro e w2 ⟨rfl,rfl⟩;obtain ⟨rfl,rfl⟩:=Prod.mk.inj HG.out;go_wp2_with (fail)
 go_ret2
 exact ⟨rfl,H1.out⟩
theorem Qdm (f:Nat) (F:Nat->Prop) (rb:Nat) (s0 s':RunS) (v:Int×Bool) (l:List (Int×Int)) (A:Option Addr) (c:Nat) (w:World) (h:RunP F rb s0 w) (d0:s0.Bd) (h1l:l.length=1) (hq:PairsAt w w.heap.size A l) (hA:∀ad,A=some ad->ad.block≠rb) (hb:LB l) (hg:(Q2b (f+1) l).go s0=(v,s')):
  Calls Tryz.prog 205 #[.pointer (some ⟨rb,0,none⟩),.slice A 1 c] w (Q3Y F rb w v s'):=by
 unfold Q2b at hg
 rw[if_neg (by omega),if_pos h1l] at hg
 obtain ⟨ad,rfl,hab,_⟩:=PairsAt.both hq (by omega);obtain ⟨k1,k2⟩:=Q2C hq (i:=0) (by omega);obtain ⟨bk,bx⟩:=hb.at_ 0
 rw[show 0*2=0 from rfl,Q35] at k1 k2
 have hz:=hA ad rfl;clear hA hb hq;generalize Q17 l 0=kk at hg k1 bk;generalize Q4b l 0=xx at hg k2 bx;clear h1l;have H0:Hid (RAt F rb w s0 w.drew):=LH ((RAt.refl h).drew);have K0:Hid (w.drew.cell? ad=some (.int .i64 kk)/\w.drew.cell? {block:=ad.block,off:=ad.off+1}=some (.int .i64 xx)):=LH ⟨k1,k2⟩;obtain ⟨v1,s1,g1⟩:=Q0k (Q1G [kk,xx] 0) s0
 rw[Q01,g1] at hg
 obtain ⟨b1,d1⟩:=Q0b g1 (Q19 (Q5c bk bx) (by simp)) d0;have G1:=LH g1;have HG:=LH hg;have b10:=b1.lo;have b11:=b1.hi;have hlt:ad.block<w.drew.heap.size:=hab;have tst1:w.drew.cell? ad=some (.int .i64 kk):=K0.out.1;have tst2:w.drew.cell? {block:=ad.block,off:=ad.off+1}=some (.int .i64 xx):=K0.out.2;clear g1 hg h;have hsz:w.drew.heap.size=w.heap.size:=rfl;go_enter Tryz.func205,Tryz.ntmps205;go_wp2_with (fail)
 go_region_held3 (fun w'=>w'.cell? ad=some (.int .i64 kk)/\w'.cell? {block:=ad.block,off:=ad.off+1}=some (.int .i64 xx)) (first|go_keep|exact ⟨K0.out.1,K0.out.2⟩|exact ⟨K1.out.1,K1.out.2⟩|exact ⟨K2.out.1,K2.out.2⟩) (first|(go_at_call 237;(with_reducible refine (Q4Z kk xx _).mono ?_);rintro e w2 ⟨qv,rfl,hq,hb⟩;have HQ:=LH (Q0Z hq (Nat.zero_le _));have HN:=LH (fun g (hg:qv.ownBlock=some g)=>(show w.heap.size<=g from (hq.lt g hg).1));have H2:=LH (H0.out.below hb);have K1:=LH (show w2.cell? ad=some (.int .i64 kk)/\w2.cell? {block:=ad.block,off:=ad.off+1}=some (.int .i64 xx) from ⟨(hb.cell hlt).trans K0.out.1,(hb.cell (p:={block:=ad.block,off:=ad.off+1}) hlt).trans K0.out.2⟩);clear hq hb)|(go_at_call 229;(with_reducible refine (Q1x F rb w s0 s1 v1 [kk,xx] 0 qv _ H2.out d0 HQ.out HN.out G1.out).mono ?_);rintro e w3 ⟨rfl,h3⟩;have H3:=LH h3;have K2:=LH (show w3.cell? ad=some (.int .i64 kk)/\w3.cell? {block:=ad.block,off:=ad.off+1}=some (.int .i64 xx) from ⟨(h3.2.cell_ hab hz).trans K0.out.1,(h3.2.cell_ (p:={block:=ad.block,off:=ad.off+1}) hab hz).trans K0.out.2⟩);clear h3))
 all_goals
  go_wp2_with (fail);with_reducible refine (Q0I 2 v1 _).mono ?_
  rintro e w4 ⟨rfl,rfl⟩;obtain ⟨rfl,rfl⟩:=Prod.mk.inj HG.out;go_wp2_with (fail)
  go_ret2
  exact ⟨rfl,H3.out⟩
theorem Q4h {w:World} {B:Nat} {ad:Addr} {l:List (Int×Int)} {F Z:Nat} (h:PairsAt w B (some ad) l) (hz:F+Z<=l.length):PairsAt w B (some (ad.add (F*2))) ((l.drop F).take Z)/\((l.drop F).take Z).length=Z:=by
 have h1:=h.cut (n:=F) (by omega);have h2:PairsAt w B (some (ad.add (F*2))) (l.drop F):=by unfold PairsAt;rw[List.length_drop];exact h1
 have h3:=h2.take (n:=Z) (by rw[List.length_drop];omega);have e:((l.drop F).take Z).length=Z:=by rw[List.length_take,List.length_drop];omega
 refine ⟨?_,e⟩;unfold PairsAt
 rw[e]
 exact h3
theorem LB.part {l:List (Int×Int)} (h:LB l) (a b:Nat):LB ((l.drop a).take b):=fun p hp=>h p (List.mem_of_mem_drop (List.mem_of_mem_take hp))
theorem Q2g (w:World) (t:TypeId) (a:Value):Reads (w.alloc (.cells #[a] t)) (w.heap.size+1) 1 (some ⟨w.heap.size,0,none⟩) 1 [a]:=by
 refine ⟨rfl,fun _=>⟨_,rfl,Nat.lt_succ_self _,fun j u hu=> ?_⟩⟩
 rcases j with _|j
 ·simp at hu;subst hu;rw[Q35,World.cell?_alloc_at _ _ _ _ rfl]<;>rfl
 ·simp at hu
def Qfc (F:Nat->Prop) (rb:Nat) (w0:World) (f:Nat) (l:List (Int×Int)) (D:Int) (v:Int×Bool) (s':RunS) (qv cv iv:Value) (wr:World):Prop:=∃(i m:Nat) (q c:List Int) (s:RunS),iv=.int .i64 i/\(m:Int)+i=D/\c.length=i/\q.length<=i/\VB q/\VB c/\GR F rb w0 s qv q cv c wr/\s.Bd/\(Q2F (Q2b f) l m i q c).go s=(v,s')
theorem Qdl (f:Nat) (ih:GrowC f) (F:Nat->Prop) (rb:Nat) (s0 s':RunS) (v:Int×Bool) (l:List (Int×Int)) (A:Option Addr) (c:Nat) (w:World) (h:RunP F rb s0 w) (d0:s0.Bd) (hn:2<=l.length) (hq:PairsAt w w.heap.size A l) (hA:∀ad,A=some ad->ad.block≠rb) (hc:l.length<=c) (hf:l.length<f+1) (hl:l.length<=2000000000) (hb:LB l) (hg:(Q2b (f+1) l).go s0=(v,s')):
  Calls Tryz.prog 205 #[.pointer (some ⟨rb,0,none⟩),.slice A l.length c] w (Q3Y F rb w v s'):=by
 obtain ⟨i0,hi0',hz0,hz1,hz2⟩:=info_parts Q1h;unfold Q2b at hg
 rw[if_neg (by omega),if_neg (by omega)] at hg
 have hdl:=Q2l l.length;have hd0:=Q1q l.length
 have hpl:∀i:Nat,(i:Int)<Q00 l.length->2<=l.length/\l.length<=16384:=fun i hi=>by
  by_cases h2:(l.length:Int)<2\/16384<(l.length:Int)
  ·rw[Q1a h2] at hi;omega
  ·omega
 have hparts:∀i:Nat,(i:Int)<Q00 l.length->∃Fi Zi:Nat,Q0R l.length i=Fi/\Q14 l.length i=Zi/\Fi+Zi<=l.length/\1<=Zi/\Zi<l.length:=fun i hi=>by
  obtain ⟨h2,h3⟩:=hpl i hi;obtain ⟨-,p1,p2,p3,p4⟩:=Q7B h2 h3 hi;exact ⟨(Q0R l.length i).toNat,(Q14 l.length i).toNat,by omega,by omega,by omega,by omega,by omega⟩
 obtain ⟨ad,rfl,hab,_⟩:=PairsAt.both hq (by omega);have hz:=hA ad rfl;have e0:((l.length:Int)==0)=false:=beq_false_of_ne (by omega);have e1:((l.length:Int)==1)=false:=beq_false_of_ne (by omega);obtain ⟨D,hD⟩:∃D,Q00 l.length=D:=⟨_,rfl⟩
 rw[hD] at hdl hd0 hg hparts
 have H0:Hid (RunP F rb s0 w):=LH h;have HPA:=LH hparts;have HG:=LH hg;have HDE:=LH hD;have HQ:=LH hq;have HLB:=LH hb;have HIH:=LH ih;have HA:=LH hA;clear hg hD hq hb ih hA;clear hpl hparts h;go_enter Tryz.func205,Tryz.ntmps205;go_wp2_with (fail)
 go_loopw [11,12,13] (fun qv cv iv wr=>Qfc F rb w f l D v s' qv cv iv wr) (fun _ _ iv _=>(D-intOf iv).toNat)
 case atStart=>unfold Qfc;exact ⟨0,D.toNat,[],[],s0,rfl,by omega,rfl,Nat.le_refl _,fun x hx=>(by cases hx),fun x hx=>(by cases hx),⟨F,fun x hx=>.inl hx,H0.out,Chg.refl _ _,World.ownsRow_nil _ _ _ _,World.ownsRow_nil _ _ _ _,fun g hg=>by simp[Value.ownBlock] at hg,fun g hg=>by simp[Value.ownBlock] at hg⟩,d0,HG.out⟩
 case round=>
  clear HG H0 d0;obtain ⟨i,m,q,ch,s1,rfl,hm,hcl,hql,hvq,hvc,⟨F1,hgr⟩,d1,hg1⟩:=hrel;obtain ⟨qA,qc,rfl⟩:=Q03 hgr.qo;obtain ⟨cA,cc,rfl⟩:=Q03 hgr.co;have hcl2:ch.length<=200:=by omega
  have hql2:q.length<=200:=by omega
  have HCL:=LH hcl;clear hcl;have HGR:=LH hgr;have HG:=LH hg1;have HVQ:=LH hvq;have HVC:=LH hvc;have HQL:=LH hql;clear hgr hg1 hvq hvc hql;have hi128:(i:Int)<=128:=by omega
  go_wp2_with (fail);with_reducible refine (Q0E l.length _ (by omega) (by omega)).mono ?_
  rintro e w1 ⟨rfl,rfl⟩
  rw[HDE.out]
  by_cases hlt:(i:Int)<D
  ·obtain ⟨Fi,Zi,hF,hZ,hFZ,hZ1,hZl⟩:=HPA.out i hlt;obtain ⟨m,rfl⟩:∃k,m=k+1:=⟨m-1,by omega⟩;unfold Q2F at HG;have hg2:=HG.out;clear HG
   rw[hF,hZ] at hg2
   have hg2:((Q2b f ((l.drop Fi).take Zi)).bind fun r=>if r.2=false then .ret (0,false) else Q2F (Q2b f) l m ((i:Int)+1) (if 0<(i:Int) then q++[Q17 l Fi] else q) (ch++[r.1])).go s1=(v,s'):=hg2;have HFE:=LH hF;have HZE:=LH hZ;clear hF hZ;obtain ⟨r,s2,g2⟩:=Q0k (Q2b f ((l.drop Fi).take Zi)) s1;obtain ⟨b2,d2⟩:=Q0b g2 (Q7O f _ (HLB.out.part _ _)) d1
   rw[Q01,g2] at hg2
   have G2:=LH g2;have HG:=LH hg2;have HB2:=LH b2;clear g2 hg2 b2;have hFi:(Fi:Int)<(l.length:Int):=by omega
   have hFc:(Fi:Int)+(Zi:Int)<=(c:Int):=by omega
   have hqw:PairsAt wr wr.heap.size (some ad) l:=(HQ.out.chg HGR.out.chg (Nat.le_refl _) (fun a ha=>by injection ha with ha;subst ha;exact hz)).more HGR.out.chg.size;obtain ⟨k1,-⟩:=Q2C hqw (i:=Fi) (by omega);clear hqw;go_wp2_with (fail);with_reducible refine (Q5R l.length i _ (by omega) (by omega)).mono ?_
   rintro e w1 ⟨rfl,rfl⟩
   rw[HFE.out]
   by_cases hi0:i=0
   ·subst hi0;have HZE2:Hid (Q14 l.length 0=Zi):=HZE;have HGN:Hid ((Q2F (Q2b f) l m (((0:Nat):Int)+1) (if 0<((0:Nat):Int) then q++[Q17 l Fi] else q) (ch++[r.1])).go s2=(v,s')->(Q2F (Q2b f) l m ((1:Nat):Int) q (ch++[r.1])).go s2=(v,s')):=LH (fun e=>by rw[if_neg (by omega)] at e;exact e);have HS:=LH (Q4h ((HQ.out.chg HGR.out.chg (Nat.le_refl _) (fun a ha=>by injection ha with ha;subst ha;exact hz)).more HGR.out.chg.size) hFZ);go_wp2_with (fail);with_reducible refine (Q1P l.length 0 _ (by omega) (by omega) (by omega) (by omega)).mono ?_
    rintro e wz ⟨rfl,rfl⟩
    rw[HZE2.out]
    have hZc:(Fi:Int)<=(Fi:Int)+(Zi:Int):=by omega
    go_wp2_with (fail);with_reducible refine (HIH.out.use _ rb s1 s2 r ((l.drop Fi).take Zi) (some (ad.add (Fi*2))) (c-Fi) Zi _ HS.out.2.symm HGR.out.run d1 HS.out.1 (fun a ha=>by injection ha with ha;subst ha;rw[Q0O];exact hz) (by have:=HS.out.2;omega) (by have:=HS.out.2;omega) (by have:=HS.out.2;omega) (HLB.out.part _ _) G2.out).mono ?_
    rintro e w7 ⟨rfl,h7⟩;have H7:=LH (HGR.out.step h7);clear h7 G2 HS HGR;obtain ⟨r1,r2⟩:=r
    cases r2 with
    |false=>
     have hg:=HG.out;clear HG
     rw[if_pos rfl] at hg
     have HG:=LH hg;clear hg;obtain ⟨rfl,rfl⟩:=Prod.mk.inj HG.out;go_wp2_with (fail)
     go_ret2
     exact ⟨rfl,H7.out.rat⟩
    |true=>
     have hg:=HG.out;clear HG
     rw[if_neg (fun e=>Bool.noConfusion e)] at hg
     have HG:=LH hg;clear hg;have HR1:=LH (Q2g w7 2 (.int .i64 r1));have hb8:=(Below.refl w7.heap.size w7).alloc (Nat.le_refl _) (.cells #[.int .i64 r1] 2);have hzz:=hb8.size;have hsz:=H7.out.chg.size;have H8:=LH (H7.out.below hb8);clear hb8;go_wp2_with (at_builtin;refine Q09 _ rfl _ _ 22 rfl w.heap.size 2 i0 (.int .i64 0) 1 8 Tryz.underlying22 hi0' hz0 hz1 hz2 rfl (by decide) _ _ _ rfl H8.out.co _ _ 1 1 [.int .i64 r1] rfl HR1.out (by simp[Value.oneCell']) ?p1 ?p2 ?p3 ?_;(case p1=>(unfold maxLen;omega));(case p2=>omega);(case p3=>omega);intro v9 w9 hO9 hg9 hv9;have H9:=LH (H8.out.appc hO9 hg9 hv9);clear hO9 hg9 hv9)
     go_roundw
     case rel=>unfold Qfc;exact ⟨1,m,q,ch++[r1],s2,by go_num,by omega,by rw[List.length_append];have:=HCL.out;simp only[List.length_cons,List.length_nil];omega,by have:=HQL.out;(try rw[List.length_append]);(try simp only[List.length_cons,List.length_nil]);omega,HVQ.out,HVC.out.snoc HB2.out,⟨_,H9.out⟩,d2,HGN.out HG.out⟩
     case measure=>simp[intOf];omega
   ·have hip:0<(i:Int):=by omega
    have HZE2:=HZE;have HGN:Hid ((Q2F (Q2b f) l m ((i:Int)+1) (if 0<(i:Int) then q++[Q17 l Fi] else q) (ch++[r.1])).go s2=(v,s')->(Q2F (Q2b f) l m ((i+1:Nat):Int) (q++[Q17 l Fi]) (ch++[r.1])).go s2=(v,s')):=LH (fun e=>by rw[if_pos hip] at e;exact e);have HQ1:=LH (Q2g wr 2 (.int .i64 (Q17 l Fi)));have hb4:=(Below.refl wr.heap.size wr).alloc (Nat.le_refl _) (.cells #[.int .i64 (Q17 l Fi)] 2);have hzz4:=hb4.size;have hsz4:=HGR.out.chg.size;have H4:=LH (HGR.out.below hb4);clear hb4;go_wp2_with (at_builtin;refine Q09 _ rfl _ _ 22 rfl w.heap.size 2 i0 (.int .i64 0) 1 8 Tryz.underlying22 hi0' hz0 hz1 hz2 rfl (by decide) _ _ _ rfl H4.out.qo _ _ 1 1 [.int .i64 (Q17 l Fi)] rfl HQ1.out (by simp[Value.oneCell']) ?p1 ?p2 ?p3 ?_;(case p1=>(unfold maxLen;omega));(case p2=>omega);(case p3=>omega);intro v5 w5 hO5 hg5 hv5;have H5:=LH (H4.out.appq hO5 hg5 hv5);obtain ⟨A5,c5,rfl⟩:=Q03 hO5;clear hO5 hg5 hv5);clear HGR H4 HQ1;have HS:=LH (Q4h ((HQ.out.chg H5.out.chg (Nat.le_refl _) (fun a ha=>by injection ha with ha;subst ha;exact hz)).more H5.out.chg.size) hFZ);go_wp2_with (fail);with_reducible refine (Q1P l.length i _ (by omega) (by omega) (by omega) (by omega)).mono ?_
    rintro e wz ⟨rfl,rfl⟩
    rw[HZE2.out]
    have hZc:(Fi:Int)<=(Fi:Int)+(Zi:Int):=by omega
    go_wp2_with (fail);with_reducible refine (HIH.out.use _ rb s1 s2 r ((l.drop Fi).take Zi) (some (ad.add (Fi*2))) (c-Fi) Zi _ HS.out.2.symm H5.out.run d1 HS.out.1 (fun a ha=>by injection ha with ha;subst ha;rw[Q0O];exact hz) (by have:=HS.out.2;omega) (by have:=HS.out.2;omega) (by have:=HS.out.2;omega) (HLB.out.part _ _) G2.out).mono ?_
    rintro e w7 ⟨rfl,h7⟩;have H7:=LH (H5.out.step h7);clear h7 G2 HS H5;obtain ⟨r1,r2⟩:=r
    cases r2 with
    |false=>
     have hg:=HG.out;clear HG
     rw[if_pos rfl] at hg
     have HG:=LH hg;clear hg;obtain ⟨rfl,rfl⟩:=Prod.mk.inj HG.out;go_wp2_with (fail)
     go_ret2
     exact ⟨rfl,H7.out.rat⟩
    |true=>
     have hg:=HG.out;clear HG
     rw[if_neg (fun e=>Bool.noConfusion e)] at hg
     have HG:=LH hg;clear hg;have HR1:=LH (Q2g w7 2 (.int .i64 r1));have hb8:=(Below.refl w7.heap.size w7).alloc (Nat.le_refl _) (.cells #[.int .i64 r1] 2);have hzz:=hb8.size;have hsz:=H7.out.chg.size;have H8:=LH (H7.out.below hb8);clear hb8;go_wp2_with (at_builtin;refine Q09 _ rfl _ _ 22 rfl w.heap.size 2 i0 (.int .i64 0) 1 8 Tryz.underlying22 hi0' hz0 hz1 hz2 rfl (by decide) _ _ _ rfl H8.out.co _ _ 1 1 [.int .i64 r1] rfl HR1.out (by simp[Value.oneCell']) ?p1 ?p2 ?p3 ?_;(case p1=>(unfold maxLen;omega));(case p2=>omega);(case p3=>omega);intro v9 w9 hO9 hg9 hv9;have H9:=LH (H8.out.appc hO9 hg9 hv9);clear hO9 hg9 hv9)
     go_roundw
     case rel=>unfold Qfc;exact ⟨i+1,m,q++[Q17 l Fi],ch++[r1],s2,by go_num,by omega,by rw[List.length_append];have:=HCL.out;simp only[List.length_cons,List.length_nil];omega,by have:=HQL.out;(try rw[List.length_append]);(try simp only[List.length_cons,List.length_nil]);omega,HVQ.out.snoc (HLB.out.at_ Fi).1,HVC.out.snoc HB2.out,⟨_,H9.out⟩,d2,HGN.out HG.out⟩
     case measure=>simp[intOf];omega
  ·have hm0:m=0:=by omega
   subst hm0;have hbd:i64B (l.length:Int):=by unfold i64B;omega
   have hw:=Q1S (n:=(l.length:Int)) (q:=q) (c:=ch) (fun _=>hbd) HVQ.out HVC.out (by omega);have hg2:((Q1G (Q12 l.length q ch) 0).bind fun a=>.ret (wOf 3 a,decide (0<a))).go s1=(v,s'):=HG.out;clear HG;obtain ⟨v1,s2,g2⟩:=Q0k (Q1G (Q12 l.length q ch) 0) s1
   rw[Q01,g2] at hg2
   have HG:=LH hg2;obtain ⟨b2,d2⟩:=Q0b g2 (Q19 hw.1 hw.2) d1;have b20:=b2.lo;have b21:=b2.hi;have G2:=LH g2;have HQI:=LH (IntsAt.of_own HGR.out.qo).2;have HCI:=LH (IntsAt.of_own HGR.out.co).2;clear g2 hg2 hw;go_wp2_with (fail);with_reducible refine (Q2w l.length qA cA qc cc q ch _ HQI.out HCI.out (by omega) (by omega)).mono ?_
   rintro e w3 ⟨qv,rfl,hq,hqb⟩;have HQ3:=LH (Q0Z hq (Nat.zero_le _));have HN3:=LH (fun g (hg:qv.ownBlock=some g)=>Nat.le_trans HGR.out.chg.size (hq.lt g hg).1);have HR3:=LH (HGR.out.rat.below hqb);clear hq hqb HQI HCI HGR;go_wp2_with (fail);with_reducible refine (Q1x F rb w s1 s2 v1 (Q12 l.length q ch) 0 qv _ HR3.out d1 HQ3.out HN3.out G2.out).mono ?_
   rintro e w4 ⟨rfl,h4⟩;have H4:=LH h4;clear h4 HR3 HQ3 HN3 G2;go_wp2_with (fail);with_reducible refine (Q0I 3 v1 _).mono ?_
   rintro e w5 ⟨rfl,rfl⟩;obtain ⟨rfl,rfl⟩:=Prod.mk.inj HG.out;go_wp2_with (fail)
   go_ret2
   exact ⟨rfl,H4.out⟩
theorem Qdk:∀f,GrowC f:=by
 intro f
 induction f with
 |zero=>intro F rb s0 s' v l A c N w hN h d0 hq hA hc hf;exact absurd hf (by omega)
 |succ f ih=>
  intro F rb s0 s' v l A c N w hN h d0 hq hA hc hf hl hb hg;subst hN;by_cases h0:l.length=0
  ·have e:l=[]:=List.eq_nil_of_length_eq_zero h0;subst e;exact Qdn f F rb s0 s' v A c w h d0 hg
  ·by_cases h1:l.length=1
   ·have:=Qdm f F rb s0 s' v l A c w h d0 h1 hq hA hb hg
    rw[h1];exact this
   ·exact Qdl f ih F rb s0 s' v l A c w h d0 (by omega) hq hA hc hf hl hb hg
theorem Q67 {lay:List Int->List (Int×Int)->List Int×Int} (hl:∀C l,∃X,(lay C l).1=C++X) (C:List Int) (l:List (Int×Int)) (i:Nat):∀k:Nat,∃X,(Q0P lay C l (i+k)).1=(Q0P lay C l i).1++X
 |0=>⟨[],by simp⟩
 |k+1=>by
  obtain ⟨X,hX⟩:=Q67 hl C l i k;obtain ⟨Y,hY⟩:=hl (Q0P lay C l (i+k)).1 ((l.drop (Q0R l.length ((i+k:Nat):Int)).toNat).take (Q14 l.length ((i+k:Nat):Int)).toNat);refine ⟨X++Y, ?_⟩;exact hY.trans (by rw[hX,List.append_assoc])
theorem Qal:∀(f:Nat) (C:List Int) (l:List (Int×Int)),∃X,(Q0S f C l).1=C++X
 |0,C,l=>⟨[],by simp[Q0S]⟩
 |f+1,C,l=>by
  unfold Q0S
  split
  ·exact ⟨_,rfl⟩
  ·split
   ·exact ⟨_,rfl⟩
   ·obtain ⟨X,hX⟩:=Q67 (lay:=Q0S f) (Qal f) C l 0 (Q00 l.length).toNat
    rw[Nat.zero_add] at hX
    rw[hX]
    exact ⟨_,List.append_assoc _ _ _⟩
def DoPost (F:Nat->Prop) (bm:Nat) (C:List Int) (max:Int) (q:Ask) (w:World) (e:Ending) (w':World):Prop:=e=.returned (.int .i64 (exQ max q C).1)/\M7 (fun x=>F x\/w.heap.size<=x) bm (exQ max q C).2 max w'/\Chg F w w'
theorem DoPost.mk {F:Nat->Prop} {bm:Nat} {C C':List Int} {max r:Int} {q:Ask} {w w1 w':World} (he:exQ max q C=(r,C')) (hb:Below w.heap.size w w1) (hm:M7 F bm C' max w') (hc:Chg F w1 w'):DoPost F bm C max q w (.returned (.int .i64 r)) w':=by
 unfold DoPost
 rw[he]
 exact ⟨rfl,hm.mono (fun _=>.inl),(Chg.of_below hb).trans hc⟩
section
variable (F:Nat->Prop) (bm:Nat) (C:List Int) (max:Int)
theorem Qg7 (a x y t:Int) (ws:List Int) (A:Option Addr) (c:Nat) (w:World) (h:M7 F bm C max w) (hC:C.length<=1000000) (hm0:(C.length:Int)<=max) (hm:max<=65536) (hq:w.ownsRow 0 2 1 (.slice A ws.length c) ws.length (ws.map (Value.int .i64))) (hql:ws.length<=1000000):
  Calls Tryz.prog 96 #[.pointer (some ⟨bm,0,none⟩),.agg #[.int .i64 1,.int .i64 a,.int .i64 x,.int .i64 y,.slice A ws.length c]] w (DoPost F bm C max ⟨1,a,x,y,ws,t⟩ w):=by
 have hx:=Blk.new w 143 #[.int .i64 1,.int .i64 a,.int .i64 x,.int .i64 y,.slice A ws.length c];have hb:=(Below.refl w.heap.size w).alloc (Nat.le_refl _) (.cells #[.int .i64 1,.int .i64 a,.int .i64 x,.int .i64 y,.slice A ws.length c] 143);have H1:=LH (h.below hb);have HQ1:=LH (Q0n hq hb);have HB:=LH hb;have HX:=LH hx;clear hx hb hq h;go_enter Tryz.func96,Tryz.ntmps96;go_wp2_with (fail);generalize w.alloc (.cells #[.int .i64 1,.int .i64 a,.int .i64 x,.int .i64 y,.slice A ws.length c] 143)=w1 at H1 HQ1 HB HX|-;with_reducible refine (QcD F bm C max a w1 H1.out hC).mono ?_
 rintro e w2 ⟨rfl,hm2,hc2⟩;have fb:F bm:=by obtain ⟨_,_,_,_,h⟩:=H1.out;exact h.fb
 have HP:Hid (DoPost F bm C max ⟨1,a,x,y,ws,t⟩ w (.returned (.int .i64 (rdC C a))) w2):=LH (DoPost.mk (Qar rfl) HB.out hm2 (hc2.mono (fun z hz=>hz▸fb)));clear hm2 hc2 H1 HQ1 HB HX;go_wp2_with (fail);go_ret;exact HP.out
theorem Qg6 (a x y t:Int) (ws:List Int) (A:Option Addr) (c:Nat) (w:World) (h:M7 F bm C max w) (hC:C.length<=1000000) (hm0:(C.length:Int)<=max) (hm:max<=65536) (hq:w.ownsRow 0 2 1 (.slice A ws.length c) ws.length (ws.map (Value.int .i64))) (hql:ws.length<=1000000):
  Calls Tryz.prog 96 #[.pointer (some ⟨bm,0,none⟩),.agg #[.int .i64 2,.int .i64 a,.int .i64 x,.int .i64 y,.slice A ws.length c]] w (DoPost F bm C max ⟨2,a,x,y,ws,t⟩ w):=by
 have hx:=Blk.new w 143 #[.int .i64 2,.int .i64 a,.int .i64 x,.int .i64 y,.slice A ws.length c];have hb:=(Below.refl w.heap.size w).alloc (Nat.le_refl _) (.cells #[.int .i64 2,.int .i64 a,.int .i64 x,.int .i64 y,.slice A ws.length c] 143);have H1:=LH (h.below hb);have HQ1:=LH (Q0n hq hb);have HB:=LH hb;have HX:=LH hx;clear hx hb hq h;go_enter Tryz.func96,Tryz.ntmps96;go_wp2_with (fail);generalize w.alloc (.cells #[.int .i64 2,.int .i64 a,.int .i64 x,.int .i64 y,.slice A ws.length c] 143)=w1 at H1 HQ1 HB HX|-;with_reducible refine (Q6F F bm C max a x w1 H1.out hC).mono ?_
 rintro e w2 ⟨rfl,hm2,hc2⟩;have HP:Hid (DoPost F bm C max ⟨2,a,x,y,ws,t⟩ w (.returned (.int .i64 0)) w2):=LH (DoPost.mk (Q92 rfl) HB.out hm2 hc2);clear hm2 hc2 H1 HQ1 HB HX;go_wp2_with (fail);go_ret;exact HP.out
theorem Qg5 (a x y t:Int) (ws:List Int) (A:Option Addr) (c:Nat) (w:World) (h:M7 F bm C max w) (hC:C.length<=1000000) (hm0:(C.length:Int)<=max) (hm:max<=65536) (hq:w.ownsRow 0 2 1 (.slice A ws.length c) ws.length (ws.map (Value.int .i64))) (hql:ws.length<=1000000):
  Calls Tryz.prog 96 #[.pointer (some ⟨bm,0,none⟩),.agg #[.int .i64 3,.int .i64 a,.int .i64 x,.int .i64 y,.slice A ws.length c]] w (DoPost F bm C max ⟨3,a,x,y,ws,t⟩ w):=by
 have hx:=Blk.new w 143 #[.int .i64 3,.int .i64 a,.int .i64 x,.int .i64 y,.slice A ws.length c];have hb:=(Below.refl w.heap.size w).alloc (Nat.le_refl _) (.cells #[.int .i64 3,.int .i64 a,.int .i64 x,.int .i64 y,.slice A ws.length c] 143);have H1:=LH (h.below hb);have HQ1:=LH (Q0n hq hb);have HB:=LH hb;have HX:=LH hx;clear hx hb hq h;go_enter Tryz.func96,Tryz.ntmps96;go_wp2_with (fail);generalize w.alloc (.cells #[.int .i64 3,.int .i64 a,.int .i64 x,.int .i64 y,.slice A ws.length c] 143)=w1 at H1 HQ1 HB HX|-;with_reducible refine (Qf2 F bm C max a x y w1 H1.out hC).mono ?_
 rintro e w2 ⟨rfl,hm2,hc2⟩;have HP:Hid (DoPost F bm C max ⟨3,a,x,y,ws,t⟩ w (.returned (.int .i64 (if (QbR C a x y).1=true then 1 else 0))) w2):=LH (DoPost.mk (Qdq rfl) HB.out hm2 hc2);clear hm2 hc2 H1 HQ1 HB HX;generalize (QbR C a x y).1=z at HP|-
 cases z with
 |true=>
  go_wp2_with (fail);go_ret;exact HP.out
 |false=>
  go_wp2_with (fail);go_ret;exact HP.out
theorem Qg4 (a x y t:Int) (ws:List Int) (A:Option Addr) (c:Nat) (w:World) (h:M7 F bm C max w) (hC:C.length<=1000000) (hm0:(C.length:Int)<=max) (hm:max<=65536) (hq:w.ownsRow 0 2 1 (.slice A ws.length c) ws.length (ws.map (Value.int .i64))) (hql:ws.length<=1000000):
  Calls Tryz.prog 96 #[.pointer (some ⟨bm,0,none⟩),.agg #[.int .i64 4,.int .i64 a,.int .i64 x,.int .i64 y,.slice A ws.length c]] w (DoPost F bm C max ⟨4,a,x,y,ws,t⟩ w):=by
 have hx:=Blk.new w 143 #[.int .i64 4,.int .i64 a,.int .i64 x,.int .i64 y,.slice A ws.length c];have hb:=(Below.refl w.heap.size w).alloc (Nat.le_refl _) (.cells #[.int .i64 4,.int .i64 a,.int .i64 x,.int .i64 y,.slice A ws.length c] 143);have H1:=LH (h.below hb);have HQ1:=LH (Q0n hq hb);have HB:=LH hb;have HX:=LH hx;clear hx hb hq h;go_enter Tryz.func96,Tryz.ntmps96;go_wp2_with (fail);generalize w.alloc (.cells #[.int .i64 4,.int .i64 a,.int .i64 x,.int .i64 y,.slice A ws.length c] 143)=w1 at H1 HQ1 HB HX|-;with_reducible refine (Qf8 F bm C max a x w1 H1.out hC).mono ?_
 rintro e w2 ⟨rfl,hm2,hc2⟩;have HP:Hid (DoPost F bm C max ⟨4,a,x,y,ws,t⟩ w (.returned (.int .i64 (rdC C a))) w2):=LH (DoPost.mk (Qds rfl) HB.out hm2 hc2);clear hm2 hc2 H1 HQ1 HB HX;go_wp2_with (fail);go_ret;exact HP.out
theorem Qg3 (a x y t:Int) (ws:List Int) (A:Option Addr) (c:Nat) (w:World) (h:M7 F bm C max w) (hC:C.length<=1000000) (hm0:(C.length:Int)<=max) (hm:max<=65536) (hq:w.ownsRow 0 2 1 (.slice A ws.length c) ws.length (ws.map (Value.int .i64))) (hql:ws.length<=1000000):
  Calls Tryz.prog 96 #[.pointer (some ⟨bm,0,none⟩),.agg #[.int .i64 5,.int .i64 a,.int .i64 x,.int .i64 y,.slice A ws.length c]] w (DoPost F bm C max ⟨5,a,x,y,ws,t⟩ w):=by
 have hx:=Blk.new w 143 #[.int .i64 5,.int .i64 a,.int .i64 x,.int .i64 y,.slice A ws.length c];have hb:=(Below.refl w.heap.size w).alloc (Nat.le_refl _) (.cells #[.int .i64 5,.int .i64 a,.int .i64 x,.int .i64 y,.slice A ws.length c] 143);have H1:=LH (h.below hb);have HQ1:=LH (Q0n hq hb);have HB:=LH hb;have HX:=LH hx;clear hx hb hq h;go_enter Tryz.func96,Tryz.ntmps96;go_wp2_with (fail);generalize w.alloc (.cells #[.int .i64 5,.int .i64 a,.int .i64 x,.int .i64 y,.slice A ws.length c] 143)=w1 at H1 HQ1 HB HX|-;with_reducible refine (Q2X F bm C max A c _ ws w1 rfl H1.out hC hm0 hm HQ1.out hql).mono ?_
 rintro e w2 ⟨rfl,hm2,hc2⟩
 have HP:Hid (DoPost F bm C max ⟨5,a,x,y,ws,t⟩ w (.returned (.int .i64 (mkC C max ws).1)) w2):=LH (by
  unfold DoPost
  rw[Qas rfl]
  exact ⟨rfl,hm2.mono (fun z hz=>hz.imp id (fun hz=>Nat.le_trans HB.out.size hz)),(Chg.of_below HB.out).trans hc2⟩)
 clear hm2 hc2 H1 HQ1 HB HX;generalize (mkC C max ws).1=z at HP|-;go_wp2_with (fail);go_ret;exact HP.out
theorem QgB (q:Ask) (qv:Value) (w:World) (h:M7 F bm C max w) (hC:C.length<=1000000) (hm0:(C.length:Int)<=max) (hm:max<=65536) (hq:w.ownsRow 0 2 1 qv q.ws.length (q.ws.map (Value.int .i64))) (hk:q.Ok):
  Calls Tryz.prog 96 #[.pointer (some ⟨bm,0,none⟩),.agg #[.int .i64 q.kind,.int .i64 q.a,.int .i64 q.x,.int .i64 q.y,qv]] w (DoPost F bm C max q w):=by
 obtain ⟨A,c,rfl⟩:=Q03 hq;obtain ⟨k,a,x,y,ws,t⟩:=q;have k0:1<=k:=hk.k0;have k1:k<=5:=hk.k1;have hl:ws.length<=1000000:=hk.len;have:k=1\/k=2\/k=3\/k=4\/k=5:=by omega
 rcases this with rfl|rfl|rfl|rfl|rfl
 ·exact Qg7 F bm C max a x y t ws A c w h hC hm0 hm hq hl
 ·exact Qg6 F bm C max a x y t ws A c w h hC hm0 hm hq hl
 ·exact Qg5 F bm C max a x y t ws A c w h hC hm0 hm hq hl
 ·exact Qg4 F bm C max a x y t ws A c w h hC hm0 hm hq hl
 ·exact Qg3 F bm C max a x y t ws A c w h hC hm0 hm hq hl
end
structure FX where
 proc:Int
 a:Int
 b:Int
 p:Int
 w:WQ
 spots:List (Int×Int)
 op:Op
structure FOut where
 word:Int
 ok:Bool
 n:Int
 m:Int
 value:Int
 pairs:List (Int×Int)
 spots:List (Int×Int)
 res:Res
def FOut.zero:FOut:=⟨0,false,0,0,0,[],[],Res.none⟩
instance:Inhabited FOut:=⟨FOut.zero⟩
def Q20:Ask:=⟨0,0,0,0,[],0⟩
def FX.tree (x:FX) (N:Nat):Prog FOut:=
 if x.proc=15 then (Q1B x.a x.p).bind fun r=>.ret {FOut.zero with n:=r.1,m:=r.2}
 else if x.proc=16 then (Q4m x.p N 1).bind fun r=>.ret {FOut.zero with value:=r.1,ok:=r.2}
 else if x.proc=17 then (Q0q x.w N 1 ⟨[],[]⟩).bind fun r=>.ret {FOut.zero with pairs:=r.1.pairs,spots:=r.1.spots}
 else if x.proc=18 then (Q46 x.spots).bind fun b=>.ret {FOut.zero with ok:=b}
 else if x.proc=24 then (Q1K x.op (N+1)).bind fun r=>.ret {FOut.zero with res:=r}
 else if x.op.kind<4\/10<x.op.kind then .ret {FOut.zero with res:=Res.err 5}
 else if x.b<1\/64<x.b then .ret {FOut.zero with res:=Res.err 2}
 else (Q5k N x.op x.b).bind fun r=>.ret {FOut.zero with res:=r}
def Qfn (o:FOut) (pv sv lv:Value):Value:=.agg #[.int .i64 o.word,.bool o.ok,.int .i64 o.n,.int .i64 o.m,.int .i64 o.value,pv,sv,.int .i64 o.res.why,.bool o.res.found,.int .i64 o.res.key,.int .i64 o.res.val,.int .i64 o.res.n,lv]
structure OutRows (F:Nat->Prop) (o:FOut) (pv sv lv:Value) (w:World):Prop where
 prs:PrP F 52 pv o.pairs w
 sps:PrP F 114 sv o.spots w
 lst:PrP F 52 lv o.res.list w
structure FrQ (F:Nat->Prop) (fb:Nat) (x:FX) (T:List Int) (done:Bool) (o:FOut) (xv tv pv sv lv:Value) (rec laid:Int) (w:World):Prop where
 ff:F fb
 blk:Blk w fb 58 #[.int .i64 x.proc,.int .i64 x.a,.int .i64 x.b,.int .i64 0,.int .i64 x.p,.int .i64 0,.int .i64 x.w.lo,.int .i64 x.w.hi,.bool x.w.back,.int .i64 x.w.most,.bool x.w.values,.slice none 0 0,.slice none 0 0,xv,.slice none 0 0,.slice none 0 0,.int .i64 0,.int .i64 0,.int .i64 0,.int .i64 x.op.kind,.int .i64 x.op.key,.int .i64 x.op.val,tv,.bool done,.int .i64 o.word,.bool o.ok,.int .i64 o.n,.int .i64 o.m,.int .i64 o.value,pv,sv,.int .i64 o.res.why,.bool o.res.found,.int .i64 o.res.key,.int .i64 o.res.val,.int .i64 o.res.n,lv,.int .i64 rec,.int .i64 laid]
 tape:w.ownsRow 0 2 1 tv T.length (T.map (Value.int .i64))
 ft:∀g,tv.ownBlock=some g->F g
 spots:PrP F 114 xv x.spots w
 rows:OutRows F o pv sv lv w
def FrP (F:Nat->Prop) (fb:Nat) (x:FX) (T:List Int) (done:Bool) (o:FOut) (w:World):Prop:=∃xv tv pv sv lv rec laid,FrQ F fb x T done o xv tv pv sv lv rec laid w
section
variable {F G:Nat->Prop} {fb:Nat} {x:FX} {T:List Int} {done:Bool} {o:FOut} {xv tv pv sv lv:Value} {rec laid:Int} {w w':World}
theorem OutRows.mono (h:OutRows F o pv sv lv w) (hs:∀x,F x->G x):OutRows G o pv sv lv w:=⟨h.prs.mono hs,h.sps.mono hs,h.lst.mono hs⟩
theorem OutRows.chg (h:OutRows F o pv sv lv w) (m:Chg G w w') (hd:∀x,F x->G x->False):OutRows F o pv sv lv w':=⟨h.prs.chg m hd,h.sps.chg m hd,h.lst.chg m hd⟩
theorem OutRows.keep (h:OutRows F o pv sv lv w) (m:Chg G w w') (hG:∀x,G x->∃t cs,Blk w x t cs/\t≠52/\t≠114):OutRows F o pv sv lv w':=
 ⟨h.prs.keep m (fun x hx=>by obtain ⟨t,cs,a,b,c⟩:=hG x hx;exact ⟨t,cs,a,b⟩),h.sps.keep m (fun x hx=>by obtain ⟨t,cs,a,b,c⟩:=hG x hx;exact ⟨t,cs,a,c⟩),h.lst.keep m (fun x hx=>by obtain ⟨t,cs,a,b,c⟩:=hG x hx;exact ⟨t,cs,a,b⟩)⟩
theorem OutRows.nil {r:FOut} (h1:r.pairs=[]) (h2:r.spots=[]) (h3:r.res.list=[]):OutRows F r (.slice none 0 0) (.slice none 0 0) (.slice none 0 0) w:=⟨by rw[h1];exact PrP.nil',by rw[h2];exact PrP.nil',by rw[h3];exact PrP.nil'⟩
theorem FrQ.mono (h:FrQ F fb x T done o xv tv pv sv lv rec laid w) (hs:∀x,F x->G x):FrQ G fb x T done o xv tv pv sv lv rec laid w:=⟨hs _ h.ff,h.blk,h.tape,fun g hg=>hs _ (h.ft g hg),h.spots.mono hs,h.rows.mono hs⟩
theorem FrQ.chg (h:FrQ F fb x T done o xv tv pv sv lv rec laid w) (m:Chg G w w') (hd:∀x,F x->G x->False):FrQ F fb x T done o xv tv pv sv lv rec laid w':=
 ⟨h.ff,m.blk h.blk (fun e=>hd _ h.ff e),m.own h.tape (fun g hg e=>hd _ (h.ft g hg) e),h.ft,h.spots.chg m hd,h.rows.chg m hd⟩
theorem FrQ.below (h:FrQ F fb x T done o xv tv pv sv lv rec laid w) (hb:Below w.heap.size w w'):FrQ F fb x T done o xv tv pv sv lv rec laid w':=h.chg (G:=fun _=>False) (Chg.of_below hb) (fun _ _ hg=>hg)
theorem FrP.mono (h:FrP F fb x T done o w) (hs:∀x,F x->G x):FrP G fb x T done o w:=by obtain ⟨a,b,c,d,e,f,g,h⟩:=h;exact ⟨a,b,c,d,e,f,g,h.mono hs⟩
theorem FrP.chg (h:FrP F fb x T done o w) (m:Chg G w w') (hd:∀x,F x->G x->False):FrP F fb x T done o w':=by obtain ⟨a,b,c,d,e,f,g,h⟩:=h;exact ⟨a,b,c,d,e,f,g,h.chg m hd⟩
theorem FrP.below (h:FrP F fb x T done o w) (hb:Below w.heap.size w w'):FrP F fb x T done o w':=h.chg (G:=fun _=>False) (Chg.of_below hb) (fun _ _ hg=>hg)
theorem FrP.lt (h:FrP F fb x T done o w):fb<w.heap.size:=by obtain ⟨a,b,c,d,e,f,g,h⟩:=h;exact h.blk.lt
end
theorem RunP.keep {F G:Nat->Prop} {rb:Nat} {s:RunS} {w w':World} (h:RunP F rb s w) (m:Chg G w w') (hG:∀x,G x->∃t cs,Blk w x t cs/\t≠145/\t≠2):RunP F rb s w':=by
 obtain ⟨tv,wv,rec,laid,h⟩:=h;refine ⟨tv,wv,rec,laid,h.fb,m.blk h.blk (fun hg=> ?_),m.own h.tape (fun g hg hx=> ?_),m.own h.ws (fun g hg hx=> ?_),h.ft,h.fw⟩
 ·obtain ⟨t,cs,hb,h1,h2⟩:=hG _ hg;exact hb.ne_ h.blk h1 rfl
 ·obtain ⟨t,cs,hb,h1,h2⟩:=hG _ hx;exact Q0o h.tape hb (fun e=>h2 e.symm) hg
 ·obtain ⟨t,cs,hb,h1,h2⟩:=hG _ hx;exact Q0o h.ws hb (fun e=>h2 e.symm) hg
def Qa3 (Fr:Nat->Prop) (rb:Nat) (o:FOut) (s':RunS) (w:World) (e:Ending) (w':World):Prop:=∃pv sv lv,e=.returned (Qfn o pv sv lv)/\OutRows (fun x=>w.heap.size<=x) o pv sv lv w'/\RAt Fr rb w s' w'
theorem Blk.setRow {w:World} {g:Nat} {t:TypeId} {old:Array Value} (h:Blk w g t old) (cs:Array Value):Blk (w.setRow g cs) g t cs:=setRow_heap w g old cs t (0,0) h
theorem Chg.setRow (w:World) (g:Nat) (cs:Array Value):Chg (fun x=>x=g) w (w.setRow g cs):=⟨rfl,rfl,rfl,by simp,fun k _ hk=>setRow_other w g k cs hk⟩
abbrev oA (o':FOut) (pv3 sv3 lv3:Value):Array Value:=#[.int .i64 o'.word,.bool o'.ok,.int .i64 o'.n,.int .i64 o'.m,.int .i64 o'.value,pv3,sv3,.int .i64 o'.res.why,.bool o'.res.found,.int .i64 o'.res.key,.int .i64 o'.res.val,.int .i64 o'.res.n,lv3]
theorem Q22 {P:Program} {fn:Func} {p1 p2:Tmp} {ty:TypeId} (h:fn.results=#[.tmp p1,.cell p2 ty]) (tmps:Array Value) (w:World) (v:Value) (g:Nat) (t:TypeId) (cs:Array Value) (fr:Nat×Nat) (d:TypeDesc)
  (hv:tmps.getD p1 undef=v) (hp:tmps.getD p2 undef=.pointer (some ⟨g,0,none⟩)) (hg:w.heap[g]? =some (.cells cs t fr))
  (hu:P.underlying ty=some d) (hd:(match d with|.struct _|.array _ _=>true|_=>false)=true) (hi:(P.info? ty).map (·.size)=some cs.size):
  (results fn tmps).run P w=.ok (.tuple #[v,.agg cs]) w:=by
 have hp':tmps[p2]?.getD undef=.pointer (some ⟨g,0,none⟩):=by simpa using hp
 have hv':tmps[p1]?.getD undef=v:=by simpa using hv
 simp[results,h,hp',hv',asAddr,run_loadVar_row w g t ty cs fr d hg hu hd hi]
def Q5B (F:Nat->Prop) (o:FOut) (s':RunS) (w:World) (e:Ending) (w':World):Prop:=∃rb pv sv lv,e=.returned (.tuple #[.pointer (some ⟨rb,0,none⟩),Qfn o pv sv lv])/\OutRows (fun x=>w.heap.size<=x) o pv sv lv w'/\RunP (fun y=>F y\/w.heap.size<=y) rb s' w'/\w.heap.size<=rb/\Below w.heap.size w w'
def Qcu (cs:Array Value):Nat->List Value->Array Value
 |_,[]=>cs
 |o,v::r=>Qcu (cs.setIfInBounds o v) (o+1) r
theorem Blk.setCells {g:Nat} {t:TypeId}:∀(vs:List Value) (o:Nat) (cs:Array Value) (w:World),Blk w g t cs->Blk (w.setCells g o vs) g t (Qcu cs o vs)
 |[],o,cs,w,h=>h
 |v::r,o,cs,w,h=>Blk.setCells r (o+1) _ _ (h.set_ o v)
theorem Chg.setCells (g:Nat):∀(vs:List Value) (o:Nat) (w:World),Chg (fun y=>y=g) w (w.setCells g o vs)
 |[],o,w=>Chg.refl _ _
 |v::r,o,w=>(Chg.set1 w g o v).trans (Chg.setCells g r (o+1) _)
theorem Blk.out {w:World} {fb:Nat} {x:FX} {xv tv pv sv lv pv3 sv3 lv3:Value} {done:Bool} {o o':FOut} {rec laid:Int} (h:Blk w fb 58 #[.int .i64 x.proc,.int .i64 x.a,.int .i64 x.b,.int .i64 0,.int .i64 x.p,.int .i64 0,.int .i64 x.w.lo,.int .i64 x.w.hi,.bool x.w.back,.int .i64 x.w.most,.bool x.w.values,.slice none 0 0,.slice none 0 0,xv,.slice none 0 0,.slice none 0 0,.int .i64 0,.int .i64 0,.int .i64 0,.int .i64 x.op.kind,.int .i64 x.op.key,.int .i64 x.op.val,tv,.bool done,.int .i64 o.word,.bool o.ok,.int .i64 o.n,.int .i64 o.m,.int .i64 o.value,pv,sv,.int .i64 o.res.why,.bool o.res.found,.int .i64 o.res.key,.int .i64 o.res.val,.int .i64 o.res.n,lv,.int .i64 rec,.int .i64 laid]):Blk (w.setCells fb 24 [.int .i64 o'.word,.bool o'.ok,.int .i64 o'.n,.int .i64 o'.m,.int .i64 o'.value,pv3,sv3,.int .i64 o'.res.why,.bool o'.res.found,.int .i64 o'.res.key,.int .i64 o'.res.val,.int .i64 o'.res.n,lv3]) fb 58 #[.int .i64 x.proc,.int .i64 x.a,.int .i64 x.b,.int .i64 0,.int .i64 x.p,.int .i64 0,.int .i64 x.w.lo,.int .i64 x.w.hi,.bool x.w.back,.int .i64 x.w.most,.bool x.w.values,.slice none 0 0,.slice none 0 0,xv,.slice none 0 0,.slice none 0 0,.int .i64 0,.int .i64 0,.int .i64 0,.int .i64 x.op.kind,.int .i64 x.op.key,.int .i64 x.op.val,tv,.bool done,.int .i64 o'.word,.bool o'.ok,.int .i64 o'.n,.int .i64 o'.m,.int .i64 o'.value,pv3,sv3,.int .i64 o'.res.why,.bool o'.res.found,.int .i64 o'.res.key,.int .i64 o'.res.val,.int .i64 o'.res.n,lv3,.int .i64 rec,.int .i64 laid]:=by
 have:=Blk.setCells [.int .i64 o'.word,.bool o'.ok,.int .i64 o'.n,.int .i64 o'.m,.int .i64 o'.value,pv3,sv3,.int .i64 o'.res.why,.bool o'.res.found,.int .i64 o'.res.key,.int .i64 o'.res.val,.int .i64 o'.res.n,lv3] 24 _ w h;have e:Qcu #[.int .i64 x.proc,.int .i64 x.a,.int .i64 x.b,.int .i64 0,.int .i64 x.p,.int .i64 0,.int .i64 x.w.lo,.int .i64 x.w.hi,.bool x.w.back,.int .i64 x.w.most,.bool x.w.values,.slice none 0 0,.slice none 0 0,xv,.slice none 0 0,.slice none 0 0,.int .i64 0,.int .i64 0,.int .i64 0,.int .i64 x.op.kind,.int .i64 x.op.key,.int .i64 x.op.val,tv,.bool done,.int .i64 o.word,.bool o.ok,.int .i64 o.n,.int .i64 o.m,.int .i64 o.value,pv,sv,.int .i64 o.res.why,.bool o.res.found,.int .i64 o.res.key,.int .i64 o.res.val,.int .i64 o.res.n,lv,.int .i64 rec,.int .i64 laid] 24 [.int .i64 o'.word,.bool o'.ok,.int .i64 o'.n,.int .i64 o'.m,.int .i64 o'.value,pv3,sv3,.int .i64 o'.res.why,.bool o'.res.found,.int .i64 o'.res.key,.int .i64 o'.res.val,.int .i64 o'.res.n,lv3]=#[.int .i64 x.proc,.int .i64 x.a,.int .i64 x.b,.int .i64 0,.int .i64 x.p,.int .i64 0,.int .i64 x.w.lo,.int .i64 x.w.hi,.bool x.w.back,.int .i64 x.w.most,.bool x.w.values,.slice none 0 0,.slice none 0 0,xv,.slice none 0 0,.slice none 0 0,.int .i64 0,.int .i64 0,.int .i64 0,.int .i64 x.op.kind,.int .i64 x.op.key,.int .i64 x.op.val,tv,.bool done,.int .i64 o'.word,.bool o'.ok,.int .i64 o'.n,.int .i64 o'.m,.int .i64 o'.value,pv3,sv3,.int .i64 o'.res.why,.bool o'.res.found,.int .i64 o'.res.key,.int .i64 o'.res.val,.int .i64 o'.res.n,lv3,.int .i64 rec,.int .i64 laid]:=by kernel_rfl
 rw[e] at this
 exact this
section
variable {F:Nat->Prop} {fb:Nat} {x:FX} {T:List Int} {done done':Bool} {o o':FOut} {xv tv pv sv lv pv3 sv3 lv3:Value} {rec laid rec' laid':Int} {w w':World}
theorem FrQ.own (h:FrQ F fb x T done o xv tv pv sv lv rec laid w) (m:Chg (fun y=>y=fb) w w') (hb:Blk w' fb 58 #[.int .i64 x.proc,.int .i64 x.a,.int .i64 x.b,.int .i64 0,.int .i64 x.p,.int .i64 0,.int .i64 x.w.lo,.int .i64 x.w.hi,.bool x.w.back,.int .i64 x.w.most,.bool x.w.values,.slice none 0 0,.slice none 0 0,xv,.slice none 0 0,.slice none 0 0,.int .i64 0,.int .i64 0,.int .i64 0,.int .i64 x.op.kind,.int .i64 x.op.key,.int .i64 x.op.val,tv,.bool done',.int .i64 o.word,.bool o.ok,.int .i64 o.n,.int .i64 o.m,.int .i64 o.value,pv,sv,.int .i64 o.res.why,.bool o.res.found,.int .i64 o.res.key,.int .i64 o.res.val,.int .i64 o.res.n,lv,.int .i64 rec',.int .i64 laid']):FrQ F fb x T done' o xv tv pv sv lv rec' laid' w':=
 ⟨h.ff,hb,m.own h.tape (Q0t h.tape h.blk (by decide)),h.ft,h.spots.keep m (fun y hy=>⟨_,_,hy▸h.blk,by decide⟩),h.rows.keep m (fun y hy=>⟨_,_,hy▸h.blk,by decide,by decide⟩)⟩
end
theorem Q8e {w:World} {g:Nat} {t:TypeId} {cs:Array Value} (h:Blk w g t cs) (o n:Nat) (hn:o+n<=cs.size):w.there g o n:=fun j hj=>⟨by rw[h.cell];rw[Array.getElem?_eq_getElem (by omega)];rfl,h.frozen _⟩
def Q5s (N:Nat) (x:FX):Prop:=∀(F:Nat->Prop) (fb:Nat) (T:List Int) (done:Bool) (o o':FOut) (s':RunS) (w:World),FrP F fb x T done o w->(RunS.mk T 0 false Q20).Bd->T.length+1<N->(x.tree N).go ⟨T,0,false,Q20⟩=(o',s')->
 Calls Tryz.prog 95 #[.pointer (some ⟨fb,0,none⟩)] w (Q5B F o' s' w)
def Qc2 (F:Nat->Prop) (fb:Nat) (x:FX) (T:List Int) (done:Bool) (o o':FOut) (off:Bool) (w:World) (e:Ending) (w':World):Prop:=e=.returned (.tuple #[])/\FrP (fun y=>F y\/w.heap.size<=y) fb x T (done|| !off) (if off=true then o else o') w'/\Chg (fun y=>y=fb) w w'
theorem Q6L (N:Nat) (x:FX) (hP:Q5s N x) (F:Nat->Prop) (fb:Nat) (T:List Int) (done:Bool) (o o':FOut) (s':RunS) (w:World) (h:FrP F fb x T done o w) (d0:(RunS.mk T 0 false Q20).Bd) (hf:T.length+1<N) (hg:(x.tree N).go ⟨T,0,false,Q20⟩=(o',s')):
  Calls Tryz.prog 90 #[.pointer (some ⟨fb,0,none⟩)] w (Qc2 F fb x T done o o' s'.off w):=by
 have HC:=LH (hP F fb T done o o' s' w h d0 hf hg);have hflt:=h.lt;have H:=LH h;obtain ⟨off,hoff⟩:∃b,s'.off=b:=⟨_,rfl⟩
 rw[hoff]
 have HOFF:=LH hoff;clear hP h hg hoff
 cases off with
 |true=>
  go_enter Tryz.func90,Tryz.ntmps90;go_wp2_with (fail);with_reducible refine (HC.out).mono ?_
  rintro e w1 ⟨rb,pv3,sv3,lv3,rfl,hrows,hrun,hrb,hb1⟩;have H1:=LH (H.out.below hb1);have hz1:=hb1.size
  have hone:((oA o' pv3 sv3 lv3):Array Value).all (·.oneCell')=true:=by
   obtain ⟨_,_,rfl⟩:=Q03 hrows.prs.1;obtain ⟨_,_,rfl⟩:=Q03 hrows.sps.1;obtain ⟨_,_,rfl⟩:=Q03 hrows.lst.1;simp[Value.oneCell']
  have hbn:=Blk.new w1 56 oZ;have hba:=(Below.refl w1.heap.size w1).alloc (Nat.le_refl _) (.cells oZ 56);have hcs:Chg (fun y=>y=w1.heap.size) (w1.alloc (.cells oZ 56)) ((w1.alloc (.cells oZ 56)).setRow w1.heap.size (oA o' pv3 sv3 lv3)):=Chg.setRow _ _ _;have hbb:Below w1.heap.size w1 ((w1.alloc (.cells oZ 56)).setRow w1.heap.size (oA o' pv3 sv3 lv3)):=hba.trans (hcs.below (fun y hy=>by omega) hba.size);have HT:=LH hbn;have HT2:=LH (hbn.setRow (oA o' pv3 sv3 lv3));have HONE:=LH hone;have HR2:=LH (hrun.below hbb);have HROW2:=LH (hrows.chg (G:=fun _=>False) (Chg.of_below hbb) (fun _ _ g=>g));have HF2:=LH (H1.out.below hbb);have HB2:=LH (hb1.trans (hbb.mono hz1));clear hbn hba hcs hbb hone hrun hrows hb1 H1 HC;unfold Qfn;go_wp2_with (first|((with_reducible refine (show wpList _ _ _ ((Oper.mk none (.store _ (.tmp 3) _) _ _ _ _)::_) _ _ from ?_));refine wpList_store_row rfl 56 (.tmp 3) (.tmp 8) rfl w1.heap.size (oA o' pv3 sv3 lv3) rfl rfl _ _ HT.out (by kernel_rfl) rfl HONE.out ?_;generalize (w1.alloc (.cells oZ 56)).setRow w1.heap.size (oA o' pv3 sv3 lv3)=W at HT2 HR2 HROW2 HF2 HB2|-;clear HT;obtain ⟨xv,tv,pv,sv,lv,rec,laid,hq⟩:=HF2.out;obtain ⟨rtv,rwv,rrec,rlaid,hr⟩:=HR2.out;have hnb:rb≠fb:=hr.blk.ne_ hq.blk (by decide);have hnt:w1.heap.size≠fb:=HT2.out.ne_ hq.blk (by decide);have q2:=(HOFF.out▸hr.blk.cell 2:W.cell? ⟨rb,2,none⟩=some (.bool true));have q8:W.cell? ⟨rb,8,none⟩=some (.int .i64 rrec):=hr.blk.cell 8;have q9:W.cell? ⟨rb,9,none⟩=some (.int .i64 rlaid):=hr.blk.cell 9;have c37:W.cell? ⟨fb,37,none⟩=some (.int .i64 rec):=hq.blk.cell 37;have f37:=hq.blk.frozen 37;have b1:=hq.blk.set_ 37 (.int .i64 rrec);have m1:=Chg.set1 W fb 37 (.int .i64 rrec);have r1:Blk (W.setCell ⟨fb,37,none⟩ (.int .i64 rrec)) rb _ _:=m1.blk hr.blk hnb;have q91:(W.setCell ⟨fb,37,none⟩ (.int .i64 rrec)).cell? ⟨rb,9,none⟩=some (.int .i64 rlaid):=r1.cell 9;have c38:(W.setCell ⟨fb,37,none⟩ (.int .i64 rrec)).cell? ⟨fb,38,none⟩=some (.int .i64 laid):=b1.cell 38;have f38:=b1.frozen 38;have b2:=b1.set_ 38 (.int .i64 rlaid);have m2:=m1.trans (Chg.set1 (W.setCell ⟨fb,37,none⟩ (.int .i64 rrec)) fb 38 (.int .i64 rlaid));have r2:Blk ((W.setCell ⟨fb,37,none⟩ (.int .i64 rrec)).setCell ⟨fb,38,none⟩ (.int .i64 rlaid)) rb _ _:=m2.blk hr.blk hnb;have q22:=(HOFF.out▸r2.cell 2:((W.setCell ⟨fb,37,none⟩ (.int .i64 rrec)).setCell ⟨fb,38,none⟩ (.int .i64 rlaid)).cell? ⟨rb,2,none⟩=some (.bool true));skip;have HQ:=LH hq;have HB1:=LH b2;have HM2:=LH m2;clear hq hr b1 m1 r1 b2 m2 r2 HF2 HR2))
  go_end0
  have hm:=HM2.out;refine ⟨rfl,⟨xv,tv,pv,sv,lv,rrec,rlaid, ?_⟩,(Chg.of_below HB2.out).grow hm (fun y hy=>.inl hy)⟩
  rw[if_pos rfl,show (done|| !true)=done from by cases done<;>rfl]
  exact (HQ.out.own hm HB1.out).mono (fun _=>.inl)
 |false=>
  go_enter Tryz.func90,Tryz.ntmps90;go_wp2_with (fail);with_reducible refine (HC.out).mono ?_
  rintro e w1 ⟨rb,pv3,sv3,lv3,rfl,hrows,hrun,hrb,hb1⟩;have H1:=LH (H.out.below hb1);have hz1:=hb1.size
  have hone:((oA o' pv3 sv3 lv3):Array Value).all (·.oneCell')=true:=by
   obtain ⟨_,_,rfl⟩:=Q03 hrows.prs.1;obtain ⟨_,_,rfl⟩:=Q03 hrows.sps.1;obtain ⟨_,_,rfl⟩:=Q03 hrows.lst.1;simp[Value.oneCell']
  have hbn:=Blk.new w1 56 oZ;have hba:=(Below.refl w1.heap.size w1).alloc (Nat.le_refl _) (.cells oZ 56);have hcs:Chg (fun y=>y=w1.heap.size) (w1.alloc (.cells oZ 56)) ((w1.alloc (.cells oZ 56)).setRow w1.heap.size (oA o' pv3 sv3 lv3)):=Chg.setRow _ _ _;have hbb:Below w1.heap.size w1 ((w1.alloc (.cells oZ 56)).setRow w1.heap.size (oA o' pv3 sv3 lv3)):=hba.trans (hcs.below (fun y hy=>by omega) hba.size);have HT:=LH hbn;have HT2:=LH (hbn.setRow (oA o' pv3 sv3 lv3));have HONE:=LH hone;have HR2:=LH (hrun.below hbb);have HROW2:=LH (hrows.chg (G:=fun _=>False) (Chg.of_below hbb) (fun _ _ g=>g));have HF2:=LH (H1.out.below hbb);have HB2:=LH (hb1.trans (hbb.mono hz1));clear hbn hba hcs hbb hone hrun hrows hb1 H1 HC;unfold Qfn;go_wp2_with (first|((with_reducible refine (show wpList _ _ _ ((Oper.mk none (.store _ (.tmp 3) _) _ _ _ _)::_) _ _ from ?_));refine wpList_store_row rfl 56 (.tmp 3) (.tmp 8) rfl w1.heap.size (oA o' pv3 sv3 lv3) rfl rfl _ _ HT.out (by kernel_rfl) rfl HONE.out ?_;generalize (w1.alloc (.cells oZ 56)).setRow w1.heap.size (oA o' pv3 sv3 lv3)=W at HT2 HR2 HROW2 HF2 HB2|-;clear HT;obtain ⟨xv,tv,pv,sv,lv,rec,laid,hq⟩:=HF2.out;obtain ⟨rtv,rwv,rrec,rlaid,hr⟩:=HR2.out;have hnb:rb≠fb:=hr.blk.ne_ hq.blk (by decide);have hnt:w1.heap.size≠fb:=HT2.out.ne_ hq.blk (by decide);have q2:=(HOFF.out▸hr.blk.cell 2:W.cell? ⟨rb,2,none⟩=some (.bool false));have q8:W.cell? ⟨rb,8,none⟩=some (.int .i64 rrec):=hr.blk.cell 8;have q9:W.cell? ⟨rb,9,none⟩=some (.int .i64 rlaid):=hr.blk.cell 9;have c37:W.cell? ⟨fb,37,none⟩=some (.int .i64 rec):=hq.blk.cell 37;have f37:=hq.blk.frozen 37;have b1:=hq.blk.set_ 37 (.int .i64 rrec);have m1:=Chg.set1 W fb 37 (.int .i64 rrec);have r1:Blk (W.setCell ⟨fb,37,none⟩ (.int .i64 rrec)) rb _ _:=m1.blk hr.blk hnb;have q91:(W.setCell ⟨fb,37,none⟩ (.int .i64 rrec)).cell? ⟨rb,9,none⟩=some (.int .i64 rlaid):=r1.cell 9;have c38:(W.setCell ⟨fb,37,none⟩ (.int .i64 rrec)).cell? ⟨fb,38,none⟩=some (.int .i64 laid):=b1.cell 38;have f38:=b1.frozen 38;have b2:=b1.set_ 38 (.int .i64 rlaid);have m2:=m1.trans (Chg.set1 (W.setCell ⟨fb,37,none⟩ (.int .i64 rrec)) fb 38 (.int .i64 rlaid));have r2:Blk ((W.setCell ⟨fb,37,none⟩ (.int .i64 rrec)).setCell ⟨fb,38,none⟩ (.int .i64 rlaid)) rb _ _:=m2.blk hr.blk hnb;have q22:=(HOFF.out▸r2.cell 2:((W.setCell ⟨fb,37,none⟩ (.int .i64 rrec)).setCell ⟨fb,38,none⟩ (.int .i64 rlaid)).cell? ⟨rb,2,none⟩=some (.bool false));have c23:((W.setCell ⟨fb,37,none⟩ (.int .i64 rrec)).setCell ⟨fb,38,none⟩ (.int .i64 rlaid)).cell? ⟨fb,23,none⟩=some (.bool done):=b2.cell 23;have f23:=b2.frozen 23;have b3:=b2.set_ 23 (.bool true);have m3:=m2.trans (Chg.set1 ((W.setCell ⟨fb,37,none⟩ (.int .i64 rrec)).setCell ⟨fb,38,none⟩ (.int .i64 rlaid)) fb 23 (.bool true));have HT3:=LH (m3.blk HT2.out hnt);have HTH:=LH (Q8e b3 24 13 (by simp));have HB3:=LH b3;have HM3:=LH m3;clear b3 m3;have HQ:=LH hq;have HB1:=LH b2;have HM2:=LH m2;clear hq hr b1 m1 r1 b2 m2 r2 HF2 HR2)|((with_reducible refine (show wpList _ _ _ ((Oper.mk (some 32) (.load _ _) _ _ _ _)::_) _ _ from ?_));refine wpList_load_row rfl 56 (.tmp 3) rfl w1.heap.size rfl _ _ (0,0) _ HT3.out Tryz.underlying56 rfl (by kernel_rfl) ?_)|((with_reducible refine (show wpList _ _ _ ((Oper.mk none (.store _ (.tmp 34) _) _ _ _ _)::_) _ _ from ?_));refine wpList_store_mid rfl 56 (.tmp 34) (.tmp 32) rfl fb 24 (oA o' pv3 sv3 lv3) rfl rfl HTH.out (by kernel_rfl) HONE.out ?_))
  go_end0
  have hm:=HM3.out.trans (Chg.setCells fb [.int .i64 o'.word,.bool o'.ok,.int .i64 o'.n,.int .i64 o'.m,.int .i64 o'.value,pv3,sv3,.int .i64 o'.res.why,.bool o'.res.found,.int .i64 o'.res.key,.int .i64 o'.res.val,.int .i64 o'.res.n,lv3] 24 _);refine ⟨rfl,⟨xv,tv,pv3,sv3,lv3,rrec,rlaid, ?_⟩,(Chg.of_below HB2.out).grow hm (fun y hy=>.inl hy)⟩
  rw[if_neg Bool.false_ne_true,show (done|| !false)=true from by cases done<;>rfl]
  have h1:=HQ.out.own HM3.out HB3.out;have hk:∀y,y=fb->∃t cs,Blk W y t cs/\t≠52/\t≠114:=fun y hy=>⟨_,_,hy▸HQ.out.blk,by decide,by decide⟩;exact ⟨.inl h1.ff,Blk.out h1.blk,hm.own HQ.out.tape (Q0t HQ.out.tape HQ.out.blk (by decide)),fun g hg=>.inl (HQ.out.ft g hg),(HQ.out.spots.keep hm (fun y hy=>by obtain ⟨t,cs,a,b,c⟩:=hk y hy;exact ⟨t,cs,a,c⟩)).mono (fun _=>.inl),(HROW2.out.keep hm hk).mono (fun y hy=>.inr (by omega))⟩
section
variable {F G:Nat->Prop} {fb bm:Nat} {x:FX} {T C:List Int} {done:Bool} {o:FOut} {xv tv pv sv lv:Value} {rec laid max:Int} {w w':World}
theorem FrP.within (h:FrP F fb x T done o w):FrP (fun y=>F y/\y<w.heap.size) fb x T done o w:=by
 obtain ⟨a,b,c,d,e,f,g,h⟩:=h;exact ⟨a,b,c,d,e,f,g,⟨h.ff,h.blk.lt⟩,h.blk,h.tape,fun y hy=>⟨h.ft y hy,Q0T h.tape y hy⟩,h.spots.within,h.rows.prs.within,h.rows.sps.within,h.rows.lst.within⟩
theorem M7.within (h:M7 F bm C max w):M7 (fun y=>F y/\y<w.heap.size) bm C max w:=by
 obtain ⟨v,a,b,c,h⟩:=h;exact ⟨v,a,b,c,⟨h.fb,h.blk.lt⟩,h.blk,h.row,fun y hy=>⟨h.fr y hy,Q0T h.row y hy⟩⟩
theorem FrQ.app {v:Int} {wd w5:World} {gg cap:Nat} (h:FrQ F fb x T done o xv tv pv sv lv rec laid w) (hb:Below w.heap.size w wd) (hO:w5.ownsRow 0 2 1 (.slice (some ⟨gg,0,none⟩) (T.length+1) cap) (T.length+1) (T.map (Value.int .i64)++[.int .i64 v])) (hg:wd.grownBy w5 tv.ownBlock) (hat:tv.ownBlock=some gg\/w.heap.size<=gg):
  Hid (w5.cell? ⟨fb,22,none⟩=some tv/\w5.frozen? ⟨fb,22,none⟩=false/\FrQ (fun y=>F y\/w.heap.size<=y) fb x (T++[v]) done o xv (.slice (some ⟨gg,0,none⟩) (T.length+1) cap) pv sv lv rec laid (w5.setCell ⟨fb,22,none⟩ (.slice (some ⟨gg,0,none⟩) (T.length+1) cap))/\Chg (fun y=>F y) w (w5.setCell ⟨fb,22,none⟩ (.slice (some ⟨gg,0,none⟩) (T.length+1) cap))):=by
 have hc:=(Chg.of_below (F:=fun y=>tv.ownBlock=some y) hb).trans (Chg.of_grown hg);have hbl:=hc.blk h.blk (fun e=>Q0o h.tape h.blk (by decide) e);have hc6:Chg (fun y=>y=fb\/tv.ownBlock=some y) w (w5.setCell ⟨fb,22,none⟩ (.slice (some ⟨gg,0,none⟩) (T.length+1) cap)):=(hc.mono (fun _=>.inr)).trans ((Chg.set1 w5 fb 22 _).mono (fun _=>.inl))
 have k:∀y,(y=fb\/tv.ownBlock=some y)->∃t cs,Blk w y t cs/\t≠52/\t≠114:=fun y hy=>by
  rcases hy with rfl|hy
  ·exact ⟨_,_,h.blk,by decide,by decide⟩
  ·obtain ⟨cs,hb⟩:=Q1r h.tape hy;exact ⟨_,cs,hb,by decide,by decide⟩
 refine LH ⟨hbl.cell 22,hbl.frozen 22,⟨.inl h.ff,hbl.set_ 22 _, ?_,fun g hg=> ?_,(h.spots.keep hc6 (fun y hy=>by obtain ⟨t,cs,a,b,c⟩:=k y hy;exact ⟨t,cs,a,c⟩)).mono (fun _=>.inl),(h.rows.keep hc6 k).mono (fun _=>.inl)⟩,hc6.mono (fun y hy=> ?_)⟩
 ·rw[List.map_append,List.length_append]
  exact (Chg.set1 w5 fb 22 _).own hO (Q0t hO hbl (by decide))
 ·have hgg:gg=g:=by simpa[Value.ownBlock] using hg
  subst hgg
  rcases hat with e|e
  ·exact .inl (h.ft gg e)
  ·exact .inr e
 ·rcases hy with rfl|e
  ·exact h.ff
  ·exact h.ft y e
end
theorem Q8B {w:World} {g:Nat} {t:TypeId} {cs:Array Value} (h:Blk w g t cs) (o:Nat) (l:List Value) (hl:∀j v,l[j]? =some v->cs[o+j]? =some v):w.rangeAt g o l:=fun j v hv=>(h.cell (o+j)).trans (hl j v hv)
def Q6x (F Fm:Nat->Prop) (fb bm:Nat) (x:FX) (T:List Int) (done:Bool) (o:FOut) (C:List Int) (max:Int) (w:World) (e:Ending) (w':World):Prop:=e=.returned (.bool done)/\∃F' Fm':Nat->Prop,FrP F' fb x T done o w'/\M7 Fm' bm C max w'/\(∀y,F' y->Fm' y->False)/\(∀y,F' y->F y\/w.heap.size<=y)/\(∀y,Fm' y->Fm y\/w.heap.size<=y)/\Chg (fun y=>F y\/Fm y) w w'
theorem QaZ (F Fm:Nat->Prop) (fb bm:Nat) (x:FX) (T:List Int) (o:FOut) (C:List Int) (max:Int) (w:World) (h:FrP F fb x T true o w) (hm:M7 Fm bm C max w) (hd:∀y,F y->Fm y->False):
  Calls Tryz.prog 31 #[.pointer (some ⟨fb,0,none⟩),.pointer (some ⟨bm,0,none⟩)] w (Q6x F Fm fb bm x T true o C max w):=by
 have c23:w.cell? ⟨fb,23,none⟩=some (.bool true):=by obtain ⟨_,_,_,_,_,_,_,h⟩:=h;exact h.blk.cell 23
 have H:Hid (FrP F fb x T true o w/\M7 Fm bm C max w):=LH ⟨h,hm⟩;clear h hm;go_enter Tryz.func31,Tryz.ntmps31;go_wp2_with (fail);go_ret;exact ⟨rfl,F,Fm,H.out.1,H.out.2,hd,fun y hy=>.inl hy,fun y hy=>.inl hy,Chg.refl _ _⟩
theorem Q8i (N:Nat) (F Fm:Nat->Prop) (fb bm:Nat) (x:FX) (T:List Int) (o o1 o2:FOut) (s1 s2:RunS) (C:List Int) (max:Int) (w:World) (hP:Q5s N x) (h:FrP F fb x T false o w) (hm:M7 Fm bm C max w) (hd:∀y,F y->Fm y->False)
  (d0:(RunS.mk T 0 false Q20).Bd) (hf:T.length+2<N) (hC:C.length<=1000000) (hm0:(C.length:Int)<=max) (hmx:max<=65536) (v:Int) (C':List Int) (dn:Bool) (oo:FOut) (hex:exQ max s1.next C=(v,C')) (hv:i64B v) (hq:s1.next.Ok) (hT:T.length<=1000000)
  (hg1:(x.tree N).go ⟨T,0,false,Q20⟩=(o1,s1)) (hoff:s1.off=true) (hg2:(x.tree N).go ⟨T++[v],0,false,Q20⟩=(o2,s2)) (hdn:(!s2.off)=dn) (hoo:(if s2.off=true then o else o2)=oo):
  Calls Tryz.prog 31 #[.pointer (some ⟨fb,0,none⟩),.pointer (some ⟨bm,0,none⟩)] w (Q6x F Fm fb bm x (T++[v]) dn oo C' max w):=by
 obtain ⟨i0,hi0,hz0,hz1,hz2⟩:=info_parts Q1h;have h:=h.within;have hm:=hm.within;have c23:w.cell? ⟨fb,23,none⟩=some (.bool false):=by obtain ⟨_,_,_,_,_,_,_,h⟩:=h;exact h.blk.cell 23
 have HPC:=LH hP;have HPL:=LH (hP _ fb T false o o1 s1 w h d0 (by omega) hg1);have H:=LH h;have HM:=LH hm;have HD:=LH hd;have HQ:=LH hq;have HOFF:=LH hoff;have HG2:=LH hg2;have HD2:=LH (show (RunS.mk (T++[v]) 0 false Q20).Bd from ⟨fun y hy=>(List.mem_append.1 hy).elim (fun hy=>d0.vals y hy) (fun hy=>by rw[List.mem_singleton] at hy;rw[hy];exact hv),by simp;omega,Nat.zero_le _⟩);have HEX:=LH hex;have HDN:=LH hdn;have HOO:=LH hoo;clear hP h hm hd hq hoff hg2 hg1 hv hex hdn hoo;go_enter Tryz.func31,Tryz.ntmps31;go_wp2_with (fail);with_reducible refine (HPL.out).mono ?_
 rintro e w1 ⟨rb,pv3,sv3,lv3,rfl,hrows,hrun,hrb,hb1⟩;have hzb:=hb1.size
 have hone:(#[.int .i64 o1.word,.bool o1.ok,.int .i64 o1.n,.int .i64 o1.m,.int .i64 o1.value,pv3,sv3,.int .i64 o1.res.why,.bool o1.res.found,.int .i64 o1.res.key,.int .i64 o1.res.val,.int .i64 o1.res.n,lv3]:Array Value).all (·.oneCell')=true:=by
  obtain ⟨_,_,rfl⟩:=Q03 hrows.prs.1;obtain ⟨_,_,rfl⟩:=Q03 hrows.sps.1;obtain ⟨_,_,rfl⟩:=Q03 hrows.lst.1;simp[Value.oneCell']
 have hbn:=Blk.new w1 56 oZ;have hba:=(Below.refl w1.heap.size w1).alloc (Nat.le_refl _) (.cells oZ 56);have hcs:Chg (fun y=>y=w1.heap.size) (w1.alloc (.cells oZ 56)) ((w1.alloc (.cells oZ 56)).setRow w1.heap.size #[.int .i64 o1.word,.bool o1.ok,.int .i64 o1.n,.int .i64 o1.m,.int .i64 o1.value,pv3,sv3,.int .i64 o1.res.why,.bool o1.res.found,.int .i64 o1.res.key,.int .i64 o1.res.val,.int .i64 o1.res.n,lv3]):=Chg.setRow _ _ _;have hbb:Below w1.heap.size w1 ((w1.alloc (.cells oZ 56)).setRow w1.heap.size #[.int .i64 o1.word,.bool o1.ok,.int .i64 o1.n,.int .i64 o1.m,.int .i64 o1.value,pv3,sv3,.int .i64 o1.res.why,.bool o1.res.found,.int .i64 o1.res.key,.int .i64 o1.res.val,.int .i64 o1.res.n,lv3]):=hba.trans (hcs.below (fun y hy=>by omega) hba.size);have HT:=LH hbn;have HONE:=LH hone;have HR2:=LH (hrun.below hbb);have HB2:=LH (hb1.trans (hbb.mono hzb));have HF2:=LH (H.out.below HB2.out);have HM2:=LH (HM.out.below HB2.out);clear hbn hba hcs hbb hone hrun hrows hb1 HPL;unfold Qfn;go_wp2_with (first|((with_reducible refine (show wpList _ _ _ ((Oper.mk none (.store _ (.tmp 6) _) _ _ _ _)::_) _ _ from ?_));refine wpList_store_row rfl 56 (.tmp 6) (.tmp 15) rfl w1.heap.size #[.int .i64 o1.word,.bool o1.ok,.int .i64 o1.n,.int .i64 o1.m,.int .i64 o1.value,pv3,sv3,.int .i64 o1.res.why,.bool o1.res.found,.int .i64 o1.res.key,.int .i64 o1.res.val,.int .i64 o1.res.n,lv3] rfl rfl _ _ HT.out (by kernel_rfl) rfl HONE.out ?_;generalize (w1.alloc (.cells oZ 56)).setRow w1.heap.size #[.int .i64 o1.word,.bool o1.ok,.int .i64 o1.n,.int .i64 o1.m,.int .i64 o1.value,pv3,sv3,.int .i64 o1.res.why,.bool o1.res.found,.int .i64 o1.res.key,.int .i64 o1.res.val,.int .i64 o1.res.n,lv3]=W at HR2 HF2 HM2 HB2|-;clear HT HONE));obtain ⟨xv,tv,pv,sv,lv,rec,laid,hq⟩:=HF2.out;obtain ⟨rtv,rwv,rrec,rlaid,hr⟩:=HR2.out;obtain ⟨tA,tc,rfl⟩:=Q03 hq.tape;obtain ⟨qA,qc,rfl⟩:=Q03 hr.ws;have c22:W.cell? ⟨fb,22,none⟩=some (.slice tA T.length tc):=hq.blk.cell 22;have r3:W.cell? ⟨rb,3,none⟩=some (.int .i64 s1.next.kind):=hr.blk.cell 3;have r4:W.cell? ⟨rb,4,none⟩=some (.int .i64 s1.next.a):=hr.blk.cell 4;have r5:W.cell? ⟨rb,5,none⟩=some (.int .i64 s1.next.x):=hr.blk.cell 5;have r6:W.cell? ⟨rb,6,none⟩=some (.int .i64 s1.next.y):=hr.blk.cell 6;have r7:W.cell? ⟨rb,7,none⟩=some (.slice qA s1.next.ws.length qc):=hr.blk.cell 7;have hqd:=hq.below (Q08 (Drawn.of W 1) _)
 have DOC:Hid (Calls Tryz.prog 96 #[.pointer (some ⟨bm,0,none⟩),.agg #[.int .i64 s1.next.kind,.int .i64 s1.next.a,.int .i64 s1.next.x,.int .i64 s1.next.y,.slice qA s1.next.ws.length qc]] W.drew fun e w'=>e=.returned (.int .i64 v)/\M7 (fun y=>(Fm y/\y<w.heap.size)\/W.heap.size<=y) bm C' max w'/\Chg (fun y=>Fm y/\y<w.heap.size) W.drew w'):=LH ((QgB (fun y=>Fm y/\y<w.heap.size) bm C max s1.next _ W.drew (HM2.out.below (Q08 (Drawn.of W 1) _)) hC hm0 hmx (Q0n hr.ws (Q08 (Drawn.of W 1) _)) HQ.out).mono fun e w' hp=>by
  unfold DoPost at hp
  rw[HEX.out] at hp
  exact hp)
 have hWz:w.heap.size<=W.heap.size:=HB2.out.size;have HWZ:=LH hWz
 have SLOT:Hid (∀w2,Chg (fun y=>Fm y/\y<w.heap.size) W.drew w2->w2.cell? ⟨fb,22,none⟩=some (.slice tA T.length tc)/\(w2.alloc (.cells #[.int .i64 v] 2)).ownsRow 0 2 1 (.slice tA T.length tc) T.length (T.map (Value.int .i64))/\(∀(j:Nat) (u:Value),([.int .i64 v]:List Value)[j]? =some u->(w2.alloc (.cells #[.int .i64 v] 2)).cell? ((⟨w2.heap.size,0,none⟩:Addr).add j)=some u)/\FrQ (fun y=>F y/\y<w.heap.size) fb x T false o xv (.slice tA T.length tc) pv sv lv rec laid w2/\W.heap.size<=w2.heap.size):=LH (fun w2 hc2=>by
  have hq2:=hqd.chg hc2 (fun y h1 h2=>HD.out y h1.1 h2.1);refine ⟨hq2.blk.cell 22,Q0n hq2.tape ((Below.refl _ _).alloc (Nat.le_refl _) _),fun j u hu=> ?_,hq2,hc2.size⟩;have e:(⟨w2.heap.size,0,none⟩:Addr).add j=⟨w2.heap.size,j,none⟩:=by unfold Addr.add;split<;>simp_all
  rw[e]
  have:=(Blk.new w2 2 #[.int .i64 v]).cell j;exact this.trans (by simpa using hu))
 have n1:=World.new_ne W ⟨fb,22,none⟩ c22;clear hq hr hqd hWz HR2 HF2
 go_region_law (first|(refine step_append_lies _ (by rfl) _ _ _ (by rfl) 0 2 i0 _ 1 8 Tryz.underlying22 hi0 hz0 hz1 hz2 rfl (by omega) (.slice tA T.length tc) T.length (T.map (Value.int .i64)) (by rfl) SF.out.2.1 ⟨w2.heap.size,0,none⟩ 1 1 [.int .i64 v] (by rfl) (by rfl) SF.out.2.2.1 (by simp[Value.oneCell']) (by omega) (by unfold maxLen;omega) (by omega) (by omega) (w2.heap.size+1) (by simp) ?_;intro gg cap w5 hO5 hg5 hat hlt5;have K5:=SF.out.2.2.2.1.app ((Below.refl _ _).alloc (Nat.le_refl _) _) hO5 hg5 (hat.imp id (fun e=>by omega));have c5:=K5.out.1;have f5:=K5.out.2.1;clear hO5 hg5 hat hlt5)|(go_simp;go_at_call 96;(with_reducible refine (DOC.out).mono ?_);rintro e w2 ⟨rfl,hm2,hc2⟩;have SF:=LH (SLOT.out w2 hc2);have MF:=LH hm2;have CF:=LH hc2;have c22b:=SF.out.1;have n2:=World.new_ne w2 ⟨fb,22,none⟩ c22b;have hbl2:fb<w2.heap.size:=World.block_lt_of_cell? w2 _ c22b;clear hm2 hc2))
 all_goals
  have hP:=K5.out.2.2;have HSZ:=LH SF.out.2.2.2.2;clear K5 c5 f5 SF c22b n2 hbl2 n1 c22 r3 r4 r5 r6 r7 SLOT DOC;revert hP;generalize w5.setCell ⟨fb,22,none⟩ (.slice (some ⟨gg,0,none⟩) (T.length+1) cap)=w6;rintro ⟨hq6,hc6⟩;have HW6:Hid (FrP (fun y=>(F y/\y<w.heap.size)\/w2.heap.size<=y) fb x (T++[v]) false o w6):=LH ⟨_,_,_,_,_,_,_,hq6⟩;have HC6:=LH hc6
  have HM6:Hid (M7 (fun y=>((Fm y/\y<w.heap.size)\/W.heap.size<=y)/\y<w2.heap.size) bm C' max w6):=LH (MF.out.within.chg hc6 (fun y h1 h2=>by
   rcases h1.1 with h3|h3
   ·exact HD.out y h2.1 h3.1
   ·have:=HWZ.out;omega))
  clear hq6 hc6 MF;go_wp2_with (fail);with_reducible refine (Q6L N x HPC.out _ fb (T++[v]) false o o2 s2 w6 HW6.out HD2.out (by simp;omega) HG2.out).mono ?_
  rintro e w7 ⟨rfl,hf7,hc7⟩;have hff:F fb:=by obtain ⟨_,_,_,_,_,_,_,h⟩:=H.out;exact h.ff.1
  have HM7:=LH (HM6.out.chg hc7 (fun y h1 h2=>by
   have:y=fb:=h2;subst this
   rcases h1.1 with h3|h3
   ·exact HD.out y hff h3.1
   ·have:=H.out.lt;have:=HWZ.out;omega))
  rw[HOO.out,show (false|| !s2.off)=dn from by rw[<-HDN.out];rfl] at hf7
  have d23:w7.cell? ⟨fb,23,none⟩=some (.bool dn):=by obtain ⟨_,_,_,_,_,_,_,h⟩:=hf7;exact h.blk.cell 23
  have HF7:=LH hf7;have HC7:=LH hc7;have HFF:=LH hff;clear hf7 hc7 hff;go_wp2_with (fail);go_ret;have z1:=HWZ.out;have z2:=HSZ.out;have z6:=HC6.out.size;refine ⟨rfl,_,_,HF7.out,HM7.out,fun y h1 h2=> ?_,fun y h1=> ?_,fun y h1=> ?_, ?_⟩
  ·rcases h1 with (h1|h1)|h1
   ·rcases h2.1 with h3|h3
    ·exact HD.out y h1.1 h3.1
    ·omega
   ·omega
   ·omega
  ·rcases h1 with (h1|h1)|h1
   ·exact .inl h1.1
   ·exact .inr (by omega)
   ·exact .inr (by omega)
  ·rcases h1.1 with h3|h3
   ·exact .inl h3.1
   ·exact .inr (by omega)
  ·exact (((Chg.of_below HB2.out).trans (Chg.of_below (Q08 (Drawn.of W 1) _))).trans (CF.out.mono (fun y hy=>.inr hy.1))).trans ((HC6.out.mono (fun y hy=>.inl hy.1)).trans (HC7.out.mono (fun y hy=>.inl (hy▸HFF.out))))
def QaG (G:Nat->Prop) (x:FX) (o':FOut) (off:Bool) (w:World) (e:Ending) (w':World):Prop:=∃fb,e=.returned (.pointer (some ⟨fb,0,none⟩))/\FrP (fun y=>G y\/w.heap.size<=y) fb x [] (!off) (if off=true then FOut.zero else o') w'/\w.heap.size<=fb/\Below w.heap.size w w'
theorem Qai (N:Nat) (G:Nat->Prop) (x:FX) (xv:Value) (o':FOut) (s':RunS) (w:World) (hP:Q5s N x) (hsp:PrP G 114 xv x.spots w) (hf:1<N) (hg:(x.tree N).go ⟨[],0,false,Q20⟩=(o',s')):
  Calls Tryz.prog 29 #[.int .i64 x.proc,.agg #[.int .i64 x.a,.int .i64 x.b,.int .i64 0,.int .i64 x.p,.int .i64 0,.int .i64 x.w.lo,.int .i64 x.w.hi,.bool x.w.back,.int .i64 x.w.most,.bool x.w.values,.slice none 0 0,.slice none 0 0,xv,.slice none 0 0,.slice none 0 0,.int .i64 0,.int .i64 0,.int .i64 0,.int .i64 x.op.kind,.int .i64 x.op.key,.int .i64 x.op.val]] w (QaG G x o' s'.off w):=by
 obtain ⟨xA,xc,rfl⟩:=Q03 hsp.1;have hba:=(Below.refl w.heap.size w).alloc (Nat.le_refl _) (.cells #[.int .i64 x.a,.int .i64 x.b,.int .i64 0,.int .i64 x.p,.int .i64 0,.int .i64 x.w.lo,.int .i64 x.w.hi,.bool x.w.back,.int .i64 x.w.most,.bool x.w.values,.slice none 0 0,.slice none 0 0,.slice xA x.spots.length xc,.slice none 0 0,.slice none 0 0,.int .i64 0,.int .i64 0,.int .i64 0,.int .i64 x.op.kind,.int .i64 x.op.key,.int .i64 x.op.val] 50);have hza:(w.alloc (.cells #[.int .i64 x.a,.int .i64 x.b,.int .i64 0,.int .i64 x.p,.int .i64 0,.int .i64 x.w.lo,.int .i64 x.w.hi,.bool x.w.back,.int .i64 x.w.most,.bool x.w.values,.slice none 0 0,.slice none 0 0,.slice xA x.spots.length xc,.slice none 0 0,.slice none 0 0,.int .i64 0,.int .i64 0,.int .i64 0,.int .i64 x.op.kind,.int .i64 x.op.key,.int .i64 x.op.val] 50)).heap.size=w.heap.size+1:=by simp
 have hbb:=hba.alloc hba.size (.cells #[.int .i64 x.proc,.int .i64 x.a,.int .i64 x.b,.int .i64 0,.int .i64 x.p,.int .i64 0,.int .i64 x.w.lo,.int .i64 x.w.hi,.bool x.w.back,.int .i64 x.w.most,.bool x.w.values,.slice none 0 0,.slice none 0 0,.slice xA x.spots.length xc,.slice none 0 0,.slice none 0 0,.int .i64 0,.int .i64 0,.int .i64 0,.int .i64 x.op.kind,.int .i64 x.op.key,.int .i64 x.op.val,.slice none 0 0,.bool false,.int .i64 0,.bool false,.int .i64 0,.int .i64 0,.int .i64 0,.slice none 0 0,.slice none 0 0,.int .i64 0,.bool false,.int .i64 0,.int .i64 0,.int .i64 0,.slice none 0 0,.int .i64 0,.int .i64 0] 58)
 have hfr:FrP (fun y=>G y\/w.heap.size<=y) (w.heap.size+1) x [] false FOut.zero ((w.alloc (.cells #[.int .i64 x.a,.int .i64 x.b,.int .i64 0,.int .i64 x.p,.int .i64 0,.int .i64 x.w.lo,.int .i64 x.w.hi,.bool x.w.back,.int .i64 x.w.most,.bool x.w.values,.slice none 0 0,.slice none 0 0,.slice xA x.spots.length xc,.slice none 0 0,.slice none 0 0,.int .i64 0,.int .i64 0,.int .i64 0,.int .i64 x.op.kind,.int .i64 x.op.key,.int .i64 x.op.val] 50)).alloc (.cells #[.int .i64 x.proc,.int .i64 x.a,.int .i64 x.b,.int .i64 0,.int .i64 x.p,.int .i64 0,.int .i64 x.w.lo,.int .i64 x.w.hi,.bool x.w.back,.int .i64 x.w.most,.bool x.w.values,.slice none 0 0,.slice none 0 0,.slice xA x.spots.length xc,.slice none 0 0,.slice none 0 0,.int .i64 0,.int .i64 0,.int .i64 0,.int .i64 x.op.kind,.int .i64 x.op.key,.int .i64 x.op.val,.slice none 0 0,.bool false,.int .i64 0,.bool false,.int .i64 0,.int .i64 0,.int .i64 0,.slice none 0 0,.slice none 0 0,.int .i64 0,.bool false,.int .i64 0,.int .i64 0,.int .i64 0,.slice none 0 0,.int .i64 0,.int .i64 0] 58)):=by
  have hb:=Blk.new (w.alloc (.cells #[.int .i64 x.a,.int .i64 x.b,.int .i64 0,.int .i64 x.p,.int .i64 0,.int .i64 x.w.lo,.int .i64 x.w.hi,.bool x.w.back,.int .i64 x.w.most,.bool x.w.values,.slice none 0 0,.slice none 0 0,.slice xA x.spots.length xc,.slice none 0 0,.slice none 0 0,.int .i64 0,.int .i64 0,.int .i64 0,.int .i64 x.op.kind,.int .i64 x.op.key,.int .i64 x.op.val] 50)) 58 #[.int .i64 x.proc,.int .i64 x.a,.int .i64 x.b,.int .i64 0,.int .i64 x.p,.int .i64 0,.int .i64 x.w.lo,.int .i64 x.w.hi,.bool x.w.back,.int .i64 x.w.most,.bool x.w.values,.slice none 0 0,.slice none 0 0,.slice xA x.spots.length xc,.slice none 0 0,.slice none 0 0,.int .i64 0,.int .i64 0,.int .i64 0,.int .i64 x.op.kind,.int .i64 x.op.key,.int .i64 x.op.val,.slice none 0 0,.bool false,.int .i64 0,.bool false,.int .i64 0,.int .i64 0,.int .i64 0,.slice none 0 0,.slice none 0 0,.int .i64 0,.bool false,.int .i64 0,.int .i64 0,.int .i64 0,.slice none 0 0,.int .i64 0,.int .i64 0]
  rw[hza] at hb
  exact ⟨_,.slice none 0 0,.slice none 0 0,.slice none 0 0,.slice none 0 0,0,0,.inr (by omega),hb,World.ownsRow_nil _ _ _ _,fun g hg=>absurd hg (by simp[Value.ownBlock]),(hsp.chg (G:=fun _=>False) (Chg.of_below (hbb.mono (Nat.le_refl _))) (fun _ _ g=>g)).mono (fun _=>.inl),OutRows.nil rfl rfl rfl⟩
 have hd0:(RunS.mk [] 0 false Q20).Bd:=⟨fun y hy=>(List.not_mem_nil hy).elim,by simp,Nat.zero_le _⟩;have HP:=LH hP;have HFR:=LH hfr;have HBB:=LH hbb;have HD0:=LH hd0;have HG:=LH hg;have hbt:=Blk.new w 50 #[.int .i64 x.a,.int .i64 x.b,.int .i64 0,.int .i64 x.p,.int .i64 0,.int .i64 x.w.lo,.int .i64 x.w.hi,.bool x.w.back,.int .i64 x.w.most,.bool x.w.values,.slice none 0 0,.slice none 0 0,.slice xA x.spots.length xc,.slice none 0 0,.slice none 0 0,.int .i64 0,.int .i64 0,.int .i64 0,.int .i64 x.op.kind,.int .i64 x.op.key,.int .i64 x.op.val];have HBT:=LH hbt;have RA:=LH (Q8B hbt 0 [.int .i64 x.a,.int .i64 x.b,.int .i64 0,.int .i64 x.p,.int .i64 0,.int .i64 x.w.lo,.int .i64 x.w.hi,.bool x.w.back,.int .i64 x.w.most,.bool x.w.values,.slice none 0 0,.slice none 0 0,.slice xA x.spots.length xc,.slice none 0 0,.slice none 0 0,.int .i64 0,.int .i64 0,.int .i64 0,.int .i64 x.op.kind,.int .i64 x.op.key,.int .i64 x.op.val] (fun j v hv=>by simpa using hv));clear hP hfr hbb hba hd0 hg hza hsp hbt;go_enter Tryz.func29,Tryz.ntmps29;go_wp2_with (first|((with_reducible refine (show wpList _ _ _ ((Oper.mk (some 7) (.load _ _) _ _ _ _)::_) _ _ from ?_));refine wpList_load_row rfl 50 (.tmp 3) rfl w.heap.size rfl _ _ (0,0) _ HBT.out Tryz.underlying50 rfl (by kernel_rfl) ?_));generalize (w.alloc (.cells #[.int .i64 x.a,.int .i64 x.b,.int .i64 0,.int .i64 x.p,.int .i64 0,.int .i64 x.w.lo,.int .i64 x.w.hi,.bool x.w.back,.int .i64 x.w.most,.bool x.w.values,.slice none 0 0,.slice none 0 0,.slice xA x.spots.length xc,.slice none 0 0,.slice none 0 0,.int .i64 0,.int .i64 0,.int .i64 0,.int .i64 x.op.kind,.int .i64 x.op.key,.int .i64 x.op.val] 50)).alloc (.cells #[.int .i64 x.proc,.int .i64 x.a,.int .i64 x.b,.int .i64 0,.int .i64 x.p,.int .i64 0,.int .i64 x.w.lo,.int .i64 x.w.hi,.bool x.w.back,.int .i64 x.w.most,.bool x.w.values,.slice none 0 0,.slice none 0 0,.slice xA x.spots.length xc,.slice none 0 0,.slice none 0 0,.int .i64 0,.int .i64 0,.int .i64 0,.int .i64 x.op.kind,.int .i64 x.op.key,.int .i64 x.op.val,.slice none 0 0,.bool false,.int .i64 0,.bool false,.int .i64 0,.int .i64 0,.int .i64 0,.slice none 0 0,.slice none 0 0,.int .i64 0,.bool false,.int .i64 0,.int .i64 0,.int .i64 0,.slice none 0 0,.int .i64 0,.int .i64 0] 58)=W at HFR HBB|-;with_reducible refine (Q6L N x HP.out _ (w.heap.size+1) [] false FOut.zero o' s' W HFR.out HD0.out (by simpa using hf) HG.out).mono ?_
 rintro e w2 ⟨rfl,hf2,hc2⟩;have HF2:=LH hf2;have HC2:=LH hc2;clear hf2 hc2;go_wp2_with (fail);go_ret;have hz:=HBB.out.size;refine ⟨w.heap.size+1,rfl, ?_,by omega,HBB.out.trans (HC2.out.below (fun y hy=>by omega) hz)⟩;have:=HF2.out.mono (G:=fun y=>G y\/w.heap.size<=y) (fun y hy=>hy.elim id (fun h=>.inr (by omega)))
 simpa using this
theorem Q4w {C q:List Int} {max:Int} (h0:0<q.length) (h:(C.length:Int)+q.length<=max):mkC C max q=((C.length:Int)+1,C++q):=by
 unfold mkC
 rw[if_neg (by omega)]
theorem Qak (f:Nat) (C:List Int) (l:List (Int×Int)) (i k:Nat):(Q0P (Q0S f) C l i).1.length<=(Q0P (Q0S f) C l (i+k)).1.length:=by
 obtain ⟨X,e⟩:=Q67 (fun C l=>Qal f C l) C l i k
 rw[e];simp
structure MGQ (F F1:Nat->Prop) (bm:Nat) (max:Int) (w0:World) (C:List Int) (qv:Value) (q:List Int) (cv:Value) (c:List Int) (w:World):Prop where
 sub:∀x,F1 x->F x\/w0.heap.size<=x
 mem:M7 F1 bm C max w
 chg:Chg F w0 w
 qo:w.ownsRow w0.heap.size 2 1 qv q.length (q.map (Value.int .i64))
 co:w.ownsRow w0.heap.size 2 1 cv c.length (c.map (Value.int .i64))
 qd:∀g,qv.ownBlock=some g->¬F1 g/\cv.ownBlock≠some g
 cd:∀g,cv.ownBlock=some g->¬F1 g
section
variable {F F1:Nat->Prop} {bm:Nat} {max:Int} {w0 w w' w5:World} {C C':List Int} {qv cv v':Value} {q c:List Int} {k:Int}
theorem MGQ.step (h:MGQ F F1 bm max w0 C qv q cv c w) (hm:M7 (fun x=>F1 x\/w.heap.size<=x) bm C' max w') (hc:Chg F1 w w'):MGQ F (fun x=>F1 x\/w.heap.size<=x) bm max w0 C' qv q cv c w':=
 ⟨fun x hx=>hx.elim (h.sub x) (fun e=>.inr (Nat.le_trans h.chg.size e)),hm,h.chg.grow hc h.sub,hc.own h.qo (fun g hg=>(h.qd g hg).1),hc.own h.co h.cd,
  fun g hg=>⟨fun e=>e.elim (h.qd g hg).1 (fun e=>by have:=Q0T h.qo g hg;omega),(h.qd g hg).2⟩,fun g hg e=>e.elim (h.cd g hg) (fun e=>by have:=Q0T h.co g hg;omega)⟩
theorem MGQ.below (h:MGQ F F1 bm max w0 C qv q cv c w) (hb:Below w.heap.size w w'):MGQ F F1 bm max w0 C qv q cv c w':=
 ⟨h.sub,h.mem.below hb,h.chg.trans (Chg.of_below hb),Q0n h.qo hb,Q0n h.co hb,h.qd,h.cd⟩
theorem MGQ.appq (h:MGQ F F1 bm max w0 C qv q cv c w) (hO:w5.ownsRow w0.heap.size 2 1 v' (q.length+1) (q.map (Value.int .i64)++[.int .i64 k])) (hg:w.grownBy w5 qv.ownBlock) (hv:v'.ownBlock=qv.ownBlock\/v'.ownBlock=some w.heap.size):MGQ F (fun x=>F1 x/\x<w.heap.size) bm max w0 C v' (q++[k]) cv c w5:=by
 have hc:Chg (fun y=>qv.ownBlock=some y) w w5:=(Chg.of_grown hg).mono (fun _ e=>e);refine ⟨fun x hx=>h.sub x hx.1,h.mem.within.chg hc (fun x hx e=>(h.qd x e).1 hx.1),h.chg.grow hc (fun x e=>.inr (h.qo.lt x e).1),by rw[List.length_append,List.map_append];exact hO,hc.own h.co (fun g hg e=>(h.qd g e).2 hg),fun g hg'=> ?_,fun g hg' e=>h.cd g hg' e.1⟩
 rcases hv with e|e
 ·rw[e] at hg';exact ⟨fun e=>(h.qd g hg').1 e.1,(h.qd g hg').2⟩
 ·rw[e] at hg'
  injection hg' with hg';exact ⟨fun e=>by have:=e.2;omega,fun e=>by have:=Q0T h.co g e;omega⟩
theorem MGQ.appc (h:MGQ F F1 bm max w0 C qv q cv c w) (hO:w5.ownsRow w0.heap.size 2 1 v' (c.length+1) (c.map (Value.int .i64)++[.int .i64 k])) (hg:w.grownBy w5 cv.ownBlock) (hv:v'.ownBlock=cv.ownBlock\/v'.ownBlock=some w.heap.size):MGQ F (fun x=>F1 x/\x<w.heap.size) bm max w0 C qv q v' (c++[k]) w5:=by
 have hc:Chg (fun y=>cv.ownBlock=some y) w w5:=(Chg.of_grown hg).mono (fun _ e=>e);refine ⟨fun x hx=>h.sub x hx.1,h.mem.within.chg hc (fun x hx e=>h.cd x e hx.1),h.chg.grow hc (fun x e=>.inr (h.co.lt x e).1),hc.own h.qo (fun g hg e=>(h.qd g hg).2 e),by rw[List.length_append,List.map_append];exact hO,fun g hg'=>⟨fun e=>(h.qd g hg').1 e.1,fun e=> ?_⟩,fun g hg' e=> ?_⟩
 ·rcases hv with e'|e'
  ·rw[e'] at e;exact (h.qd g hg').2 e
  ·rw[e'] at e
   injection e with e;have:=Q0T h.qo g hg';omega
 ·rcases hv with e'|e'
  ·rw[e'] at hg';exact h.cd g hg' e.1
  ·rw[e'] at hg'
   injection hg' with hg';have:=e.2;omega
end
def Q59 (F:Nat->Prop) (bm:Nat) (C:List Int) (max v:Int) (w0:World) (e:Ending) (w':World):Prop:=e=.returned (.int .i64 v)/\M7 (fun x=>F x\/w0.heap.size<=x) bm C max w'/\Chg F w0 w'
def BldC (f:Nat):Prop:=∀(F:Nat->Prop) (bm:Nat) (C:List Int) (max:Int) (l:List (Int×Int)) (A:Option Addr) (c N:Nat) (w:World),N=l.length->M7 F bm C max w->max<=65536->PairsAt w w.heap.size A l->(∀ad,A=some ad->¬F ad.block)->l.length<=c->l.length<f->l.length<=16384->((Q0S f C l).1.length:Int)<=max->
  Calls Tryz.prog 252 #[.pointer (some ⟨bm,0,none⟩),.slice A N c] w (Q59 F bm (Q0S f C l).1 max (Q0S f C l).2 w)
theorem BldC.use {f:Nat} (h:BldC f) (F:Nat->Prop) (bm:Nat) (C:List Int) (max:Int) (l:List (Int×Int)) (A:Option Addr) (c N:Nat) (w:World) (hN:N=l.length) (hm:M7 F bm C max w) (hx:max<=65536) (hq:PairsAt w w.heap.size A l) (hA:∀ad,A=some ad->¬F ad.block) (hc:l.length<=c) (hf:l.length<f) (hl:l.length<=16384) (hr:((Q0S f C l).1.length:Int)<=max):
  Calls Tryz.prog 252 #[.pointer (some ⟨bm,0,none⟩),.slice A N c] w (Q59 F bm (Q0S f C l).1 max (Q0S f C l).2 w):=h F bm C max l A c N w hN hm hx hq hA hc hf hl hr
theorem Qf6 (f:Nat) (F:Nat->Prop) (bm:Nat) (C:List Int) (max:Int) (A:Option Addr) (c:Nat) (w:World) (h:M7 F bm C max w) (hx:max<=65536) (hr:((Q0S (f+1) C []).1.length:Int)<=max):
  Calls Tryz.prog 252 #[.pointer (some ⟨bm,0,none⟩),.slice A 0 c] w (Q59 F bm (Q0S (f+1) C []).1 max (Q0S (f+1) C []).2 w):=by
 have hr:((C++[0]).length:Int)<=max:=hr
 rw[List.length_append] at hr
 simp only[List.length_cons,List.length_nil] at hr;have H0:=LH h;clear h;go_enter Tryz.func252,Tryz.ntmps252;go_wp2_with (fail);with_reducible refine (Q3c _).mono ?_
 rintro e wa ⟨qv,rfl,hq,hqb⟩;have HQ:=LH (Q0Z hq (Nat.zero_le _));have H1:=LH (H0.out.below hqb);have HB:=LH hqb;obtain ⟨qA,qc,rfl⟩:=Q03 hq;clear hq hqb;go_wp2_with (fail);with_reducible refine (Q2X F bm C max qA qc 1 [0] _ rfl H1.out (by omega) (by omega) hx HQ.out (by decide)).mono ?_
 rintro e w1 ⟨rfl,hm,hc⟩
 rw[Q4w (C:=C) (q:=[0]) (by decide) (by simp only[List.length_cons,List.length_nil];omega)] at hm|-
 have HM:=LH (hm.mono (G:=fun x=>F x\/w.heap.size<=x) (fun x hx=>hx.imp id (fun e=>Nat.le_trans HB.out.size e)));have HC:=LH ((Chg.of_below (F:=F) HB.out).trans hc);clear hm hc;go_wp2_with (fail);with_reducible refine (Q0I 1 ((C.length:Int)+1) _).mono ?_
 rintro e w2 ⟨rfl,rfl⟩;go_wp2_with (fail);go_ret;exact ⟨rfl,HM.out,HC.out⟩
theorem Qf5 (f:Nat) (F:Nat->Prop) (bm:Nat) (C:List Int) (max:Int) (l:List (Int×Int)) (A:Option Addr) (c:Nat) (w:World) (h:M7 F bm C max w) (hx:max<=65536) (h1l:l.length=1) (hq:PairsAt w w.heap.size A l) (hA:∀ad,A=some ad->¬F ad.block) (hr:((Q0S (f+1) C l).1.length:Int)<=max):
  Calls Tryz.prog 252 #[.pointer (some ⟨bm,0,none⟩),.slice A 1 c] w (Q59 F bm (Q0S (f+1) C l).1 max (Q0S (f+1) C l).2 w):=by
 have e1:Q0S (f+1) C l=(C++[Q17 l 0,Q4b l 0],wOf 2 ((C.length:Int)+1)):=by unfold Q0S;rw[if_neg (by omega),if_pos h1l]
 rw[e1] at hr|-
 obtain ⟨ad,rfl,hab,_⟩:=PairsAt.both hq (by omega);obtain ⟨k1,k2⟩:=Q2C hq (i:=0) (by omega)
 rw[show 0*2=0 from rfl,Q35] at k1 k2
 have hz:=hA ad rfl;clear hA hq e1;simp only[List.length_append,List.length_cons,List.length_nil] at hr;generalize Q17 l 0=kk at k1 hr|-;generalize Q4b l 0=xx at k2 hr|-;clear h1l;have hbd:Below w.heap.size w w.drew:=Q08 (Drawn.of w 1) _;have H0:Hid (M7 F bm C max w.drew):=LH (h.below hbd);have HBD:=LH hbd;have K0:Hid (w.drew.cell? ad=some (.int .i64 kk)/\w.drew.cell? {block:=ad.block,off:=ad.off+1}=some (.int .i64 xx)):=LH ⟨k1,k2⟩;have hlt:ad.block<w.drew.heap.size:=hab;have tst1:w.drew.cell? ad=some (.int .i64 kk):=K0.out.1;have tst2:w.drew.cell? {block:=ad.block,off:=ad.off+1}=some (.int .i64 xx):=K0.out.2;clear h hbd;have hsz:w.drew.heap.size=w.heap.size:=rfl;have hr2:(C.length:Int)+(([kk,xx]:List Int).length:Int)<=max:=by simp only[List.length_cons,List.length_nil];omega
 have HMK:=LH (Q4w (C:=C) (q:=[kk,xx]) (by simp) hr2);go_enter Tryz.func252,Tryz.ntmps252;go_wp2_with (fail)
 go_region_held3 (fun w'=>w'.cell? ad=some (.int .i64 kk)/\w'.cell? {block:=ad.block,off:=ad.off+1}=some (.int .i64 xx)) (first|go_keep|exact ⟨K0.out.1,K0.out.2⟩|exact ⟨K1.out.1,K1.out.2⟩|exact ⟨K2.out.1,K2.out.2⟩) (first|(go_at_call 237;(with_reducible refine (Q4Z kk xx _).mono ?_);rintro e w2 ⟨qv,rfl,hq,hb⟩;have HQ:=LH (Q0Z hq (Nat.zero_le _));have H2:=LH (H0.out.below hb);have HB2:=LH hb;have K1:=LH (show w2.cell? ad=some (.int .i64 kk)/\w2.cell? {block:=ad.block,off:=ad.off+1}=some (.int .i64 xx) from ⟨(hb.cell hlt).trans K0.out.1,(hb.cell (p:={block:=ad.block,off:=ad.off+1}) hlt).trans K0.out.2⟩);obtain ⟨qA,qc,rfl⟩:=Q03 hq;clear hq hb)|(go_at_call 26;(with_reducible refine (Q2X F bm C max qA qc 2 [kk,xx] _ rfl H2.out (by omega) (by omega) hx HQ.out (by simp)).mono ?_);rintro e w3 ⟨rfl,hm3,hc3⟩;rw[HMK.out] at hm3|-;have HM:=LH (hm3.mono (G:=fun x=>F x\/w.heap.size<=x) (fun x hx=>hx.imp id (fun e=>Nat.le_trans HB2.out.size e)));have HC:=LH (((Chg.of_below (F:=F) HBD.out).trans (Chg.of_below (F:=F) HB2.out)).trans hc3);have K2:=LH (show w3.cell? ad=some (.int .i64 kk)/\w3.cell? {block:=ad.block,off:=ad.off+1}=some (.int .i64 xx) from ⟨(HC.out.cell_ hab hz).trans k1,(HC.out.cell_ (p:={block:=ad.block,off:=ad.off+1}) hab hz).trans k2⟩);clear hm3 hc3))
 all_goals
  go_wp2_with (fail);with_reducible refine (Q0I 2 ((C.length:Int)+1) _).mono ?_
  rintro e w4 ⟨rfl,rfl⟩;go_wp2_with (fail);go_ret;exact ⟨rfl,HM.out,HC.out⟩
def QgP (F:Nat->Prop) (bm:Nat) (max:Int) (w0:World) (C:List Int) (f:Nat) (l:List (Int×Int)) (D:Int) (qv cv av iv:Value) (wr:World):Prop:=∃i:Nat,iv=.int .i64 i/\av=.int .i64 (Q6Q l.length i)/\(i:Int)<=D/\∃F1,MGQ F F1 bm max w0 (Q0P (Q0S f) C l i).1 qv (Q1n l i) cv (Q0P (Q0S f) C l i).2 wr
theorem Qbt (l:List (Int×Int)) (i:Nat):(Q1n l i).length<=i:=by
 cases i with
 |zero=>exact Nat.le_refl _
 |succ i=>rw[Q2i];omega
theorem Qf4 (f:Nat) (ih:BldC f) (F:Nat->Prop) (bm:Nat) (C:List Int) (max:Int) (l:List (Int×Int)) (A:Option Addr) (c:Nat) (w:World) (h:M7 F bm C max w) (hx:max<=65536) (hn:2<=l.length) (hq:PairsAt w w.heap.size A l) (hA:∀ad,A=some ad->¬F ad.block) (hc:l.length<=c) (hf:l.length<f+1) (hl:l.length<=16384) (hr:((Q0S (f+1) C l).1.length:Int)<=max):
  Calls Tryz.prog 252 #[.pointer (some ⟨bm,0,none⟩),.slice A l.length c] w (Q59 F bm (Q0S (f+1) C l).1 max (Q0S (f+1) C l).2 w):=by
 obtain ⟨i0,hi0',hz0,hz1,hz2⟩:=info_parts Q1h
 have e1:Q0S (f+1) C l=((Q0P (Q0S f) C l (Q00 l.length).toNat).1++Q0U l.length (Q1n l (Q00 l.length).toNat) (Q0P (Q0S f) C l (Q00 l.length).toNat).2,wOf 3 (((Q0P (Q0S f) C l (Q00 l.length).toNat).1.length:Int)+1)):=by
  show (if l.length=0 then _ else if l.length=1 then _ else _)=_
  rw[if_neg (by omega),if_neg (by omega)]
 rw[e1] at hr|-
 have hn2:(2:Int)<=l.length:=by omega
 have hl2:(l.length:Int)<=16384:=by omega
 obtain ⟨hd2,hdl,-⟩:=Q0L hn2 hl2
 have hparts:∀i:Nat,(i:Int)<Q00 l.length->∃Fi Zi:Nat,Q0R l.length i=Fi/\Q6Q l.length i=Fi/\Q14 l.length i=Zi/\Q6Q l.length ((i+1:Nat):Int)=Fi+Zi/\Fi+Zi<=l.length/\1<=Zi/\Zi<l.length:=fun i hi=>by
  obtain ⟨-,p1,p2,p3,p4⟩:=Q7B hn hl hi;have hst:=Q3t hn2 hl2 (i:=(i:Int)) (by omega) hi;have hfi:=Q2c (n:=(l.length:Int)) (i:=(i:Int)) (by omega) hi;exact ⟨(Q0R l.length i).toNat,(Q14 l.length i).toNat,by omega,by omega,by omega,by rw[show ((i+1:Nat):Int)=(i:Int)+1 by omega];omega,by omega,by omega,by omega⟩
 have hroom:∀i:Nat,(i:Int)<=Q00 l.length->((Q0P (Q0S f) C l i).1.length:Int)<=max:=fun i hi=>by
  have:=Qak f C l i ((Q00 l.length).toNat-i)
  rw[show i+((Q00 (l.length:Int)).toNat-i)=(Q00 (l.length:Int)).toNat by omega] at this
  rw[List.length_append] at hr
  omega
 obtain ⟨ad,rfl,hab,_⟩:=PairsAt.both hq (by omega);have hz:=hA ad rfl;have e0:((l.length:Int)==0)=false:=beq_false_of_ne (by omega);have e1:((l.length:Int)==1)=false:=beq_false_of_ne (by omega);obtain ⟨D,hD⟩:∃D,Q00 l.length=D:=⟨_,rfl⟩
 rw[hD] at hdl hd2 hparts hroom hr|-
 have hraw0:=Q5V hn2 hl2;have HRW:=LH hraw0;have H0:=LH h;have HPA:=LH hparts;have HRM:=LH hroom;have HR:=LH hr;have HDE:=LH hD;have HQ:=LH hq;have HIH:=LH ih;have HA:=LH hA;clear hD hq ih hA;clear hparts hroom h hr hraw0;go_enter Tryz.func252,Tryz.ntmps252;go_wp2_with (fail)
 go_loopw [10,11,12,13] (fun qv cv av iv wr=>QgP F bm max w C f l D qv cv av iv wr) (fun _ _ _ iv _=>(D-intOf iv).toNat)
 case atStart=>unfold QgP;exact ⟨0,rfl,(by rw[show Q6Q l.length ((0:Nat):Int)=0 from HRW.out]),by omega,F,fun x hx=>.inl hx,H0.out,Chg.refl _ _,World.ownsRow_nil _ _ _ _,World.ownsRow_nil _ _ _ _,fun g hg=>by simp[Value.ownBlock] at hg,fun g hg=>by simp[Value.ownBlock] at hg⟩
 case round=>
  clear H0;obtain ⟨i,rfl,rfl,hiD,F1,hgr⟩:=hrel;have hcl:(Q0P (Q0S f) C l i).2.length=i:=Q1R i;have hql:=Qbt l i;have hrm:=HRM.out i hiD;have HCL:=LH hcl;clear hcl;have HGR:=LH hgr;clear hgr;go_wp2_with (fail);with_reducible refine (Q0E l.length _ (by omega) (by omega)).mono ?_
  rintro e w1 ⟨rfl,rfl⟩
  rw[HDE.out]
  by_cases hlt:(i:Int)<D
  ·obtain ⟨Fi,Zi,hF,hRF,hZ,hRN,hFZ,hZ1,hZl⟩:=HPA.out i hlt;have hrm1:=HRM.out (i+1) (by omega)
   have hlay:Q0P (Q0S f) C l (i+1)=((Q0S f (Q0P (Q0S f) C l i).1 ((l.drop Fi).take Zi)).1,(Q0P (Q0S f) C l i).2++[(Q0S f (Q0P (Q0S f) C l i).1 ((l.drop Fi).take Zi)).2]):=by
    show ((Q0S f (Q0P (Q0S f) C l i).1 ((l.drop (Q0R l.length i).toNat).take (Q14 l.length i).toNat)).1,_)=_
    rw[hF,hZ];rfl
   have hkey:0<i->Q1n l (i+1)=Q1n l i++[Q17 l Fi]:=fun h0=>by
    obtain ⟨j,rfl⟩:∃j,i=j+1:=⟨i-1,by omega⟩;show Q1n l (j+1)++[Q17 l (Q0R l.length ((j+1:Nat):Int)).toNat]=_
    rw[hF];rfl
   have HLAY:=LH hlay;have HKEY:=LH hkey;have HRN:=LH hRN
   rw[hlay] at hrm1
   generalize (Q0P (Q0S f) C l i).1=Ci at HGR hrm hrm1 HLAY;generalize (Q0P (Q0S f) C l i).2=ci at HGR HCL HLAY
   rw[hRF]
   have HFE:=LH hF;have HZE:=LH hZ;clear hF hZ hlay hkey hRN hRF;obtain ⟨qA,qc,rfl⟩:=Q03 HGR.out.qo;obtain ⟨cA,cc,rfl⟩:=Q03 HGR.out.co;have hFi:(Fi:Int)<(l.length:Int):=by omega
   have hFc:(Fi:Int)+(Zi:Int)<=(c:Int):=by omega
   have hZc:(Fi:Int)<=(Fi:Int)+(Zi:Int):=by omega
   have NOF:Hid (∀{F2:Nat->Prop} {C2 qv2 q2 cv2 c2 w2},MGQ F F2 bm max w C2 qv2 q2 cv2 c2 w2->¬F2 ad.block):=LH (fun hg h2=>by
    rcases hg.sub _ h2 with h3|h3
    ·exact hz h3
    ·omega)
   have RM1:=LH hrm1;have hcl200:ci.length<=200:=by have:=HCL.out;omega
   have hql200:(Q1n l i).length<=200:=by omega
   go_wp2_with (fail);with_reducible refine (Q1P l.length i _ (by omega) (by omega) (by omega) (by omega)).mono ?_
   rintro e wz ⟨rfl,rfl⟩
   rw[HZE.out]
   by_cases hi0:i=0
   ·subst hi0;have HS:=LH (Q4h ((HQ.out.chg HGR.out.chg (Nat.le_refl _) (fun a ha=>by injection ha with ha;subst ha;exact hz)).more HGR.out.chg.size) hFZ);have hRN2:=HRN.out;have HLAY2:=HLAY;go_wp2_with (fail);with_reducible refine (HIH.out.use _ bm Ci max ((l.drop Fi).take Zi) (some (ad.add (Fi*2))) (c-Fi) Zi _ HS.out.2.symm HGR.out.mem hx HS.out.1 (fun a ha=>by injection ha with ha;subst ha;rw[Q0O];exact NOF.out HGR.out) (by have:=HS.out.2;omega) (by have:=HS.out.2;omega) (by have:=HS.out.2;omega) RM1.out).mono ?_
    rintro e w7 ⟨rfl,h7,c7⟩;have H7:=LH (HGR.out.step h7 c7);clear h7 c7 HS HGR;have HR1:=LH (Q2g w7 2 (.int .i64 (Q0S f Ci ((l.drop Fi).take Zi)).2));have hb8:=(Below.refl w7.heap.size w7).alloc (Nat.le_refl _) (.cells #[.int .i64 (Q0S f Ci ((l.drop Fi).take Zi)).2] 2);have hzz:=hb8.size;have hsz:=H7.out.chg.size;have H8:=LH (H7.out.below hb8);clear hb8;go_wp2_with (at_builtin;refine Q09 _ rfl _ _ 22 rfl w.heap.size 2 i0 (.int .i64 0) 1 8 Tryz.underlying22 hi0' hz0 hz1 hz2 rfl (by decide) _ _ _ rfl H8.out.co _ _ 1 1 [.int .i64 (Q0S f Ci ((l.drop Fi).take Zi)).2] rfl HR1.out (by simp[Value.oneCell']) ?p1 ?p2 ?p3 ?_;(case p1=>(unfold maxLen;omega));(case p2=>omega);(case p3=>omega);intro v9 w9 hO9 hg9 hv9;have H9:=LH (H8.out.appc hO9 hg9 hv9);clear hO9 hg9 hv9)
    go_roundw
    case rel=>unfold QgP;exact ⟨1,by go_num,by rw[HRN.out],by omega,_,by rw[HLAY.out];exact H9.out⟩
    case measure=>simp[intOf];omega
   ·have hip:0<(i:Int):=by omega
    have hqw:PairsAt wr wr.heap.size (some ad) l:=(HQ.out.chg HGR.out.chg (Nat.le_refl _) (fun a ha=>by injection ha with ha;subst ha;exact hz)).more HGR.out.chg.size;obtain ⟨k1,-⟩:=Q2C hqw (i:=Fi) (by omega);clear hqw;have HQ1:=LH (Q2g wr 2 (.int .i64 (Q17 l Fi)));have hb4:=(Below.refl wr.heap.size wr).alloc (Nat.le_refl _) (.cells #[.int .i64 (Q17 l Fi)] 2);have hzz4:=hb4.size;have hsz4:=HGR.out.chg.size;have H4:=LH (HGR.out.below hb4);clear hb4;go_wp2_with (at_builtin;refine Q09 _ rfl _ _ 22 rfl w.heap.size 2 i0 (.int .i64 0) 1 8 Tryz.underlying22 hi0' hz0 hz1 hz2 rfl (by decide) _ _ _ rfl H4.out.qo _ _ 1 1 [.int .i64 (Q17 l Fi)] rfl HQ1.out (by simp[Value.oneCell']) ?p1 ?p2 ?p3 ?_;(case p1=>(unfold maxLen;omega));(case p2=>omega);(case p3=>omega);intro v5 w5 hO5 hg5 hv5;have H5:=LH (H4.out.appq hO5 hg5 hv5);obtain ⟨A5,c5,rfl⟩:=Q03 hO5;clear hO5 hg5 hv5);clear HGR H4 HQ1;have HS:=LH (Q4h ((HQ.out.chg H5.out.chg (Nat.le_refl _) (fun a ha=>by injection ha with ha;subst ha;exact hz)).more H5.out.chg.size) hFZ);go_wp2_with (fail);with_reducible refine (HIH.out.use _ bm Ci max ((l.drop Fi).take Zi) (some (ad.add (Fi*2))) (c-Fi) Zi _ HS.out.2.symm H5.out.mem hx HS.out.1 (fun a ha=>by injection ha with ha;subst ha;rw[Q0O];exact NOF.out H5.out) (by have:=HS.out.2;omega) (by have:=HS.out.2;omega) (by have:=HS.out.2;omega) RM1.out).mono ?_
    rintro e w7 ⟨rfl,h7,c7⟩;have H7:=LH (H5.out.step h7 c7);clear h7 c7 HS H5;have HR1:=LH (Q2g w7 2 (.int .i64 (Q0S f Ci ((l.drop Fi).take Zi)).2));have hb8:=(Below.refl w7.heap.size w7).alloc (Nat.le_refl _) (.cells #[.int .i64 (Q0S f Ci ((l.drop Fi).take Zi)).2] 2);have hzz:=hb8.size;have hsz:=H7.out.chg.size;have H8:=LH (H7.out.below hb8);clear hb8;go_wp2_with (at_builtin;refine Q09 _ rfl _ _ 22 rfl w.heap.size 2 i0 (.int .i64 0) 1 8 Tryz.underlying22 hi0' hz0 hz1 hz2 rfl (by decide) _ _ _ rfl H8.out.co _ _ 1 1 [.int .i64 (Q0S f Ci ((l.drop Fi).take Zi)).2] rfl HR1.out (by simp[Value.oneCell']) ?p1 ?p2 ?p3 ?_;(case p1=>(unfold maxLen;omega));(case p2=>omega);(case p3=>omega);intro v9 w9 hO9 hg9 hv9;have H9:=LH (H8.out.appc hO9 hg9 hv9);clear hO9 hg9 hv9)
    go_roundw
    case rel=>unfold QgP;exact ⟨i+1,by go_num,by rw[HRN.out],by omega,_,by rw[HLAY.out,HKEY.out (by omega)];exact H9.out⟩
    case measure=>simp[intOf];omega
  ·have hm0:(i:Int)=D:=by omega
   have hDi:D.toNat=i:=by omega
   rw[hDi] at HR
   have HDI:=LH hDi;clear hDi;obtain ⟨qA,qc,rfl⟩:=Q03 HGR.out.qo;obtain ⟨cA,cc,rfl⟩:=Q03 HGR.out.co;have HQI:=LH (IntsAt.of_own HGR.out.qo).2;have HCI:=LH (IntsAt.of_own HGR.out.co).2;have hc200:(Q0P (Q0S f) C l i).2.length<=200:=by have:=HCL.out;omega
   have hwl:(Q0U l.length (Q1n l i) (Q0P (Q0S f) C l i).2).length=5+(Q1n l i).length+(Q0P (Q0S f) C l i).2.length:=by unfold Q0U;simp;omega
   have hiw:Q12 l.length (Q1n l i) (Q0P (Q0S f) C l i).2=Q0U l.length (Q1n l i) (Q0P (Q0S f) C l i).2:=by
    refine if_pos ?_
    rw[HCL.out]
    obtain ⟨j,rfl⟩:∃j,i=j+1:=⟨i-1,by omega⟩
    rw[Q2i]
   have hr3:=HR.out
   rw[List.length_append] at hr3
   have HMK:=LH (Q4w (C:=(Q0P (Q0S f) C l i).1) (q:=Q0U l.length (Q1n l i) (Q0P (Q0S f) C l i).2) (max:=max) (by omega) (by omega));have HIW:=LH hiw;clear hiw hr3;go_wp2_with (fail);with_reducible refine (Q2w l.length qA cA qc cc (Q1n l i) (Q0P (Q0S f) C l i).2 _ HQI.out HCI.out (by omega) (by omega)).mono ?_
   rintro e w3 ⟨qv,rfl,hq,hqb⟩
   rw[HIW.out] at hq
   have HQ3:=LH (Q0Z hq (Nat.zero_le _));have H3:=LH (HGR.out.below hqb);obtain ⟨xA,xc,rfl⟩:=Q03 hq;clear hq hqb HQI HCI HGR;go_wp2_with (fail);with_reducible refine (Q2X F1 bm (Q0P (Q0S f) C l i).1 max xA xc _ (Q0U l.length (Q1n l i) (Q0P (Q0S f) C l i).2) _ hwl.symm H3.out.mem (by omega) (by omega) hx HQ3.out (by omega)).mono ?_
   rintro e w4 ⟨rfl,hm4,hc4⟩
   rw[HMK.out] at hm4|-
   have HM:=LH (hm4.mono (G:=fun x=>F x\/w.heap.size<=x) (fun x hx=>hx.elim (H3.out.sub x) (fun e=>.inr (Nat.le_trans H3.out.chg.size e))));have HC:=LH (H3.out.chg.grow hc4 H3.out.sub);clear hm4 hc4 H3 HQ3 HMK;go_wp2_with (fail);with_reducible refine (Q0I 3 (((Q0P (Q0S f) C l i).1.length:Int)+1) _).mono ?_
   rintro e w5 ⟨rfl,rfl⟩;go_wp2_with (fail);go_ret
   rw[HDI.out]
   exact ⟨rfl,HM.out,HC.out⟩
theorem Qgf:∀f,BldC f:=by
 intro f
 induction f with
 |zero=>intro F bm C max l A c N w hN h hx hq hA hc hf;exact absurd hf (by omega)
 |succ f ih=>
  intro F bm C max l A c N w hN h hx hq hA hc hf hl hr;subst hN;by_cases h0:l.length=0
  ·have e:l=[]:=List.eq_nil_of_length_eq_zero h0;subst e;exact Qf6 f F bm C max A c w h hx hr
  ·by_cases h1:l.length=1
   ·rw[h1];exact Qf5 f F bm C max l A c w h hx h1 hq hA hr
   ·exact Qf4 f ih F bm C max l A c w h hx (by omega) hq hA hc hf hl hr
theorem Qbo (n:Nat):madeCells #[Value.int .i64 0] n=Array.replicate n (.int .i64 0):=by
 apply Array.ext
 ·simp[madeCells]
 ·intro i h1 h2;simp[madeCells,Nat.mod_one]
theorem Q6W (n:Nat) (d:Int) (hd:d=n) (h1:n<=1000):∀u:World,(Instr.makeSlice 22 (.int .i64 d) (.int .i64 d)).run Tryz.prog u=.ok (.slice (some ⟨u.heap.size,0,none⟩) n n) (u.alloc (.cells (Array.replicate n (.int .i64 0)) 2)):=by
 intro u;subst hd;obtain ⟨i0,hi0,hz0,hz1,hz2⟩:=info_parts Q1h;have:=run_make (P:=Tryz.prog) u 22 2 i0 (.int .i64 0) Tryz.underlying22 hi0 hz0 .i64 .i64 (n:Int) (n:Int) (by omega) (Int.le_refl _) (by rw[hz2];omega) (by omega)
 rw[hz1,Nat.mul_one,Int.toNat_natCast] at this
 have e2:(Value.int .i64 0).cells=#[Value.int .i64 0]:=rfl
 rw[e2,Qbo] at this
 exact this
theorem Q8a (u:World) (a:Nat):IntsAt (u.alloc (.cells (Array.replicate a (.int .i64 0)) 2)) (u.heap.size+1) (some ⟨u.heap.size,0,none⟩) (List.replicate a 0):=by
 have:=Q2a u 2 (List.replicate a 0)
 rw[show ((List.replicate a (0:Int)).map (Value.int .i64)).toArray=Array.replicate a (.int .i64 0) by simp] at this
 exact this
theorem Qfi (u:World) (a b:Nat):IntsAt ((u.alloc (.cells (Array.replicate a (.int .i64 0)) 2)).alloc (.cells (Array.replicate b (.int .i64 0)) 2)).drew ((u.alloc (.cells (Array.replicate a (.int .i64 0)) 2)).alloc (.cells (Array.replicate b (.int .i64 0)) 2)).drew.heap.size (some ⟨u.heap.size,0,none⟩) (List.replicate a 0)/\
  IntsAt ((u.alloc (.cells (Array.replicate a (.int .i64 0)) 2)).alloc (.cells (Array.replicate b (.int .i64 0)) 2)).drew ((u.alloc (.cells (Array.replicate a (.int .i64 0)) 2)).alloc (.cells (Array.replicate b (.int .i64 0)) 2)).drew.heap.size (some ⟨u.heap.size+1,0,none⟩) (List.replicate b 0)/\
  Below u.heap.size u ((u.alloc (.cells (Array.replicate a (.int .i64 0)) 2)).alloc (.cells (Array.replicate b (.int .i64 0)) 2)).drew:=by
 have h1:=Q8a u a;have b1:=(Below.refl u.heap.size u).alloc (Nat.le_refl _) (.cells (Array.replicate a (.int .i64 0)) 2);have h2:=Q8a (u.alloc (.cells (Array.replicate a (.int .i64 0)) 2)) b;have b2:=b1.alloc b1.size (.cells (Array.replicate b (.int .i64 0)) 2);have e:(u.alloc (.cells (Array.replicate a (.int .i64 0)) 2)).heap.size=u.heap.size+1:=by simp
 rw[e] at h2
 exact ⟨((Reads.alloc h1 (by simp) _).more (by simp)).drew,(h2.more (by simp)).drew,b2.trans (Q08 (Drawn.of _ 1) _)⟩
theorem Q6Z (n:Int) (x y a b a' b':Nat) (w:World) (hq:IntsAt w w.heap.size (some ⟨x,0,none⟩) (List.replicate a 0)) (hc:IntsAt w w.heap.size (some ⟨y,0,none⟩) (List.replicate b 0)) (ha:a=a') (hb:b=b') (hl1:a<=1000) (hl2:b<=1000):
  Calls Tryz.prog 241 #[.int .i64 n,.slice (some ⟨x,0,none⟩) a' a',.slice (some ⟨y,0,none⟩) b' b'] w (Q86 (Q12 n (List.replicate a 0) (List.replicate b 0)) w):=by
 subst ha;subst hb;have:=Q2w n (some ⟨x,0,none⟩) (some ⟨y,0,none⟩) a b (List.replicate a 0) (List.replicate b 0) w hq hc (by simpa using hl1) (by simpa using hl2)
 simpa using this
section
variable (F:Nat->Prop) (rb:Nat) (w0:World)
def Q84 (v:Int×Bool) (s':RunS) (e:Ending) (w':World):Prop:=e=.returned (.tuple #[.int .i64 v.1,.bool v.2])/\RAt F rb w0 s' w'
attribute [local go_sem] Q4X
theorem Qek (f:Nat) (t n:Int) (s0 s':RunS) (v:Int×Bool) (w:World) (h:RAt F rb w0 s0 w) (d0:s0.Bd) (hn:i64B n) (h2:2<=n) (hg:(Qe6 f t n).go s0=(v,s')):
  Calls Tryz.prog 242 #[.pointer (some ⟨rb,0,none⟩),.int .i64 t,.int .i64 n] w (Q84 F rb w0 v s'):=by
 unfold Qe6 at hg
 rw[if_pos h2] at hg
 have hn0:=hn.lo;have hn1:=hn.hi;have hd:=Q2l n;have hd0:=Q1q n;have hmb:0<=Q9E (Q00 n) 1/\1<=Q9E (Q00 n) 1/\Q9E (Q00 n) 1<=128:=by unfold Q9E;split<;>omega
 obtain ⟨N,hN⟩:∃N:Nat,Q9E (Q00 n) 1=N:=⟨(Q9E (Q00 n) 1).toNat,by omega⟩;have hmx:Builtin.max2 (.int .i64 (Q00 n)) (.int .i64 1)=pure (.int .i64 (N:Int)):=by rw[Q39,<-hN];rfl
 rw[hN,Int.toNat_natCast,show ((N:Int)-1).toNat=N-1 by omega] at hg
 have hN1:1<=N:=by omega
 have hN2:N<=128:=by omega
 have hmk1:=Q6W N (N:Int) rfl (by omega);have hmk3:=Q6W (N-1) (IntKind.i64.wrap ((N:Int)-1)) (by rw[IntWalk.i64_in _ (by omega)];omega) (by omega);have hw:=Q1S (n:=n) (q:=List.replicate (N-1) 0) (c:=List.replicate N 0) (fun _=>hn) (Qab _) (Qab _) (by simp;omega);obtain ⟨v1,s1,g1⟩:=Q0k (Q1G (Q12 n (List.replicate (N-1) 0) (List.replicate N 0)) 0) s0
 rw[Q01,g1] at hg
 obtain ⟨b1,d1⟩:=Q0b g1 (Q19 hw.1 hw.2) d0;have b10:=b1.lo;have b11:=b1.hi;have G1:=LH g1;have HG:=LH hg;have H0:=LH h;clear g1 hg hw h hN hd hd0 hmb;go_enter Tryz.func242,Tryz.ntmps242;go_wp2_with (fail);with_reducible refine (Q0E n _ hn0 hn1).mono ?_
 rintro e w1 ⟨rfl,rfl⟩;have HZ1:=LH (Qfi w (N-1) N);have HZ2:=LH (Qfi w N (N-1));go_wp2_with (fail)
 go_region_held3 (fun w'=>True) (first|go_keep|trivial) (first|(go_at_call 241;(first|((with_reducible refine (Q6Z n _ _ (N-1) N _ _ _ HZ1.out.1 HZ1.out.2.1 rfl rfl (by omega) (by omega)).mono ?_);(rintro e w3 ⟨qv,rfl,hq,hqb⟩;have HQ3:=LH (Q0Z hq (Nat.zero_le _));have HN3:=LH (fun g (hg:qv.ownBlock=some g)=>Nat.le_trans (Nat.le_trans H0.out.2.size HZ1.out.2.2.size) (hq.lt g hg).1);have HR3:=LH ((H0.out.below HZ1.out.2.2).below hqb);clear hq hqb))|((with_reducible refine (Q6Z n _ _ (N-1) N _ _ _ HZ2.out.2.1 HZ2.out.1 rfl rfl (by omega) (by omega)).mono ?_);(rintro e w3 ⟨qv,rfl,hq,hqb⟩;have HQ3:=LH (Q0Z hq (Nat.zero_le _));have HN3:=LH (fun g (hg:qv.ownBlock=some g)=>Nat.le_trans (Nat.le_trans H0.out.2.size HZ2.out.2.2.size) (hq.lt g hg).1);have HR3:=LH ((H0.out.below HZ2.out.2.2).below hqb);clear hq hqb))))|(go_at_call 229;(with_reducible refine (Q1x F rb w0 s0 s1 v1 (Q12 n (List.replicate (N-1) 0) (List.replicate N 0)) 0 qv _ HR3.out d0 HQ3.out HN3.out G1.out).mono ?_);rintro e w4 ⟨rfl,h4⟩;have H4:=LH h4;clear h4))
 all_goals
  go_wp2_with (fail);with_reducible refine (Q0I 3 v1 _).mono ?_
  rintro e w5 ⟨rfl,rfl⟩;obtain ⟨rfl,rfl⟩:=Prod.mk.inj HG.out;go_wp2_with (fail)
  go_ret2
  exact ⟨rfl,H4.out⟩
end
theorem Q4d {s:RunS} (h:s.Bd):s.left<=1000000001:=by
 have:=h.len;unfold RunS.left
 split<;>omega
theorem RAt.runp {F:Nat->Prop} {rb:Nat} {w0 w:World} {s:RunS} (h:RAt F rb w0 s w):RunP (fun x=>F x\/w0.heap.size<=x) rb s w:=h.1
theorem RG.list {F:Nat->Prop} {rb:Nat} {w0 w:World} {s:RunS} {ov:Value} {out:List (Int×Int)} (h:RG F rb w0 s ov out w):∃A c,ov=.slice A out.length c/\PairsAt w w.heap.size A out/\(∀ad,A=some ad->ad.block≠rb)/\out.length<=c/\out.length<=2000000000:=by
 have hl:=h.len;have ho:=h.own;obtain ⟨⟨tv,wv,rec,laid,hq⟩,hc⟩:=h.run
 rcases ho.2 with ⟨rfl,h0⟩|⟨g,cap,cur,rfl,_,hg,hle,_⟩
 ·have:out=[]:=List.eq_nil_of_length_eq_zero h0;subst this;exact ⟨none,0,rfl,Reads.none_,fun ad ha=>(by cases ha),Nat.le_refl _,by omega⟩
 ·exact ⟨_,cap,rfl,Reads.of_own ho,fun ad ha=>by injection ha with ha;subst ha;exact fun e=>Q0o ho hq.blk (by decide) (by rw[<-e];rfl),hle,by omega⟩
theorem Q6d (F:Nat->Prop) (rb:Nat) (s0 s':RunS) (v:Int×Bool) (l:List (Int×Int)) (A:Option Addr) (c N:Nat) (w:World) (hN:N=l.length) (h0:RunP F rb s0 w) (d0:s0.Bd) (hq:PairsAt w w.heap.size A l) (hA:∀ad,A=some ad->ad.block≠rb) (hc:l.length<=c) (hl:l.length<=2000000000) (hb:LB l) (hg:(Q8W l).go s0=(v,s')):
  Calls Tryz.prog 205 #[.pointer (some ⟨rb,0,none⟩),.slice A N c] w (Q3Y F rb w v s'):=Qdk (l.length+1) F rb s0 s' v l A c N w hN h0 d0 hq hA hc (Nat.lt_succ_self _) hl hb hg
theorem QeW (n i:Int):0<=Q0R n i/\Q0R n i<=16384:=by
 by_cases h:i<0\/Q00 n<=i
 ·rw[show Q0R n i=0 from if_pos h];omega
 ·have h2:¬(n<2\/16384<n):=fun e=>by have:=Q1a e;omega
  rw[Q2c (by omega) (by omega)]
  have:=Q4U (n:=n) (i:=i) (by omega) (by omega) (by omega) (by omega);omega
section
variable (F:Nat->Prop) (rb:Nat) (w0:World)
theorem Qei (f:Nat) (t n:Int) (s0 s':RunS) (v:Int×Bool) (w:World) (h:RAt F rb w0 s0 w) (d0:s0.Bd) (hn:i64B n) (t0:0<=t) (t1:t<=65536) (hf:s0.off=false->s0.left<f) (hg:(Qe6 f t n).go s0=(v,s')):
  Calls Tryz.prog 242 #[.pointer (some ⟨rb,0,none⟩),.int .i64 t,.int .i64 n] w (Q84 F rb w0 v s'):=by
 by_cases h2:2<=n
 ·exact Qek F rb w0 f t n s0 s' v w h d0 hn h2 hg
 ·unfold Qe6 at hg
  rw[if_neg h2] at hg
  have hn0:=hn.lo;have hn1:=hn.hi;have hll:=Q4d d0;by_cases k1:n=1
  ·rw[if_pos k1] at hg
   have e1:(n==1)=true:=by simpa using k1
   obtain ⟨p,s1,g1⟩:=Q0k (Q0Q f t 0 1 []) s0
   rw[Q01,g1] at hg
   obtain ⟨b1,d1⟩:=Q0b g1 (Q1T f t 0 1 [] t0 t1 LB.nil) d0;have G1:=LH g1;have HG:=LH hg;have H0:Hid (RG F rb w0 s0 (.slice none 0 0) [] w):=LH ⟨h,World.ownsRow_nil _ _ _ _,by simp;omega⟩;have HF:=LH hf;have HB:=LH b1;clear g1 hg h hf b1 k1;go_enter Tryz.func242,Tryz.ntmps242;go_wp2_with (fail);with_reducible refine ((Q6f F rb w0 f).use s0 s1 [] p (.slice none 0 0) t 0 1 _ H0.out d0 HF.out t0 t1 Q0f Q10 LB.nil G1.out).mono ?_
   rintro e w1 ⟨ov,rfl,h1⟩;have H1:=LH h1;clear h1 H0 G1;obtain ⟨A,c,rfl,hq,hA,hc,hpl⟩:=H1.out.list;have HQ:=LH hq;have HA:=LH hA;clear hq hA;have hg:=HG.out;clear HG
   rw[Q0B] at hg
   have HG:=LH hg;clear hg
   cases ho:s1.off with
   |true=>
    have c2:=Q0c H1.out.run ho;have hg:=HG.out;clear HG
    rw[ho] at hg
    have HG:=LH hg;clear hg;have hg:=HG.out;clear HG
    rw[if_pos rfl] at hg
    have HG:=LH hg;clear hg;clear ho;obtain ⟨rfl,rfl⟩:=Prod.mk.inj HG.out;go_wp2_with (fail)
    go_ret2
    exact ⟨rfl,H1.out.run⟩
   |false=>
    have c2:=Q0c H1.out.run ho;have hg:=HG.out;clear HG
    rw[ho] at hg
    have HG:=LH hg;clear hg;have hg:=HG.out;clear HG
    rw[if_neg Bool.false_ne_true] at hg
    have HG:=LH hg;clear hg;clear ho;go_wp2_with (fail);with_reducible refine (Q6d _ rb s1 s' v p A c p.length _ rfl H1.out.run.runp d1 HQ.out HA.out hc hpl HB.out HG.out).mono ?_
    rintro e w2 ⟨rfl,h2⟩;have H2:=LH (H1.out.run.step h2);clear h2;go_wp2_with (fail)
    go_ret2
    exact ⟨rfl,H2.out⟩
  ·rw[if_neg k1] at hg
   have e1:(n==1)=false:=by simpa using k1
   have HG:=LH hg;have H1:=LH h;clear hg h k1;go_enter Tryz.func242,Tryz.ntmps242;have hg:=HG.out;clear HG
   rw[Q01] at hg
   have HG:=LH hg;clear hg;have hg:=HG.out;clear HG
   rw[Q0B] at hg
   have HG:=LH hg;clear hg
   cases ho:s0.off with
   |true=>
    have c2:=Q0c H1.out ho;have hg:=HG.out;clear HG
    rw[show ((Prog.ret []).go s0:List (Int×Int)×RunS).2.off=s0.off from rfl,ho,if_pos rfl] at hg
    have HG:=LH (show (Prog.ret ((0:Int),false)).go s0=(v,s') from hg);clear hg ho;obtain ⟨rfl,rfl⟩:=Prod.mk.inj HG.out;go_wp2_with (fail)
    go_ret2
    exact ⟨rfl,H1.out⟩
   |false=>
    have c2:=Q0c H1.out ho;have hg:=HG.out;clear HG
    rw[show ((Prog.ret []).go s0:List (Int×Int)×RunS).2.off=s0.off from rfl,ho,if_neg Bool.false_ne_true] at hg
    have HG:=LH (show (Q8W []).go s0=(v,s') from hg);clear hg ho;go_wp2_with (fail);with_reducible refine (Q6d _ rb s0 s' v [] none 0 0 _ rfl H1.out.runp d0 (PairsAt.nil _ _) (fun ad ha=>by cases ha) (Nat.le_refl _) (by simp) LB.nil HG.out).mono ?_
    rintro e w2 ⟨rfl,h2⟩;have H2:=LH (H1.out.step h2);clear h2;go_wp2_with (fail)
    go_ret2
    exact ⟨rfl,H2.out⟩
def Q5C (v:Bool) (s':RunS) (e:Ending) (w':World):Prop:=e=.returned (.bool v)/\RAt F rb w0 s' w'
theorem Q4u (f:Nat) (t n x d i:Int) (s0 s':RunS) (v:Bool) (w:World) (h:RAt F rb w0 s0 w) (d0:s0.Bd) (hn:i64B n) (hi:i64B i) (t0:0<=t) (t1:t<=65536) (hf:s0.off=false->s0.left<f) (hg:(Q5r f t n x d i).go s0=(v,s')):
  Calls Tryz.prog 264 #[.pointer (some ⟨rb,0,none⟩),.int .i64 t,.int .i64 n,.int .i64 x,.int .i64 d,.int .i64 i] w (Q5C F rb w0 v s'):=by
 unfold Q5r at hg;have hn0:=hn.lo;have hn1:=hn.hi;have hi0:=hi.lo;have hi1:=hi.hi;have hll:=Q4d d0;obtain ⟨f0,f1⟩:=QeW n i;obtain ⟨z0,z1⟩:=Qa9 n i;have hfb:i64B (Q0R n i):=⟨by omega,by omega⟩;have hzb:i64B (Q0R n i+Q14 n i):=⟨by omega,by omega⟩;obtain ⟨p,s1,g1⟩:=Q0k (Q0Q f t (Q0R n i) (Q0R n i+Q14 n i) []) s0
 rw[Q01,g1] at hg
 obtain ⟨b1,d1⟩:=Q0b g1 (Q1T f t _ _ [] t0 t1 LB.nil) d0;have G1:=LH g1;have HG:=LH hg;have H0:Hid (RG F rb w0 s0 (.slice none 0 0) [] w):=LH ⟨h,World.ownsRow_nil _ _ _ _,by simp;omega⟩;have HF:=LH hf;have HB:=LH b1;have HFB:=LH hfb;have HZB:=LH hzb;clear g1 hg h hf b1 hfb hzb;go_enter Tryz.func264,Tryz.ntmps264;go_wp2_with (fail);with_reducible refine (Q5R n i _ hn0 hn1).mono ?_
 rintro e w1 ⟨rfl,rfl⟩;go_wp2_with (fail);with_reducible refine (Q1P n i _ hn0 hn1 hi0 hi1).mono ?_
 rintro e w1 ⟨rfl,rfl⟩;generalize Q0R n i=fr at*;generalize Q14 n i=sz at*;go_wp2_with (fail);with_reducible refine ((Q6f F rb w0 f).use s0 s1 [] p (.slice none 0 0) t fr (fr+sz) _ H0.out d0 HF.out t0 t1 HFB.out HZB.out LB.nil G1.out).mono ?_
 rintro e w1 ⟨ov,rfl,h1⟩;have H1:=LH h1;clear h1 H0 G1 HF HFB HZB;obtain ⟨A,c,rfl,hq,hA,hc,hpl⟩:=H1.out.list;have HQ:=LH hq;have HA:=LH hA;clear hq hA;have hg:=HG.out;clear HG
 rw[Q0B] at hg
 have HG:=LH hg;clear hg
 cases ho:s1.off with
 |true=>
  have c2:=Q0c H1.out.run ho;have hg:=HG.out;clear HG
  rw[ho] at hg
  have HG:=LH hg;clear hg;have hg:=HG.out;clear HG
  rw[if_pos rfl] at hg
  have HG:=LH hg;clear hg;clear ho;obtain ⟨rfl,rfl⟩:=Prod.mk.inj HG.out;go_wp2_with (fail);go_ret;exact ⟨rfl,H1.out.run⟩
 |false=>
  have c2:=Q0c H1.out.run ho;have hg:=HG.out;clear HG
  rw[ho] at hg
  have HG:=LH hg;clear hg;have hg:=HG.out;clear HG
  rw[if_neg Bool.false_ne_true] at hg
  have HG:=LH hg;clear hg;clear ho;obtain ⟨⟨r1,r2⟩,s2,g2⟩:=Q0k (Q8W p) s1;have hg:=HG.out;clear HG
  rw[Q01,g2] at hg
  have HG:=LH hg;clear hg;obtain ⟨b2,d2⟩:=Q0b g2 (Q7N HB.out) d1;have HB2:=LH b2;have G2:=LH g2;clear g2 b2;go_wp2_with (fail);with_reducible refine (Q6d _ rb s1 s2 (r1,r2) p A c p.length _ rfl H1.out.run.runp d1 HQ.out HA.out hc hpl HB.out G2.out).mono ?_
  rintro e w2 ⟨rfl,h2⟩;have HQ2:=LH ((HQ.out.chg h2.2 (Nat.le_refl _) HA.out).more h2.2.size);have H2:=LH (H1.out.run.step h2);clear h2 H1 HQ G2 c2
  cases r2 with
  |false=>
   have hg:=HG.out;clear HG
   rw[if_pos rfl] at hg
   have HG:=LH hg;clear hg;obtain ⟨rfl,rfl⟩:=Prod.mk.inj HG.out;go_wp2_with (fail);go_ret;exact ⟨rfl,H2.out⟩
  |true=>
   have hg:=HG.out;clear HG
   rw[if_neg (fun e=>Bool.noConfusion e)] at hg
   have HG:=LH hg;clear hg;by_cases ki:0<i
   ·by_cases kp:p=[]
    ·subst kp
     have HG3:=LH (show ((Q33 (Q06 x d i) 0 r1).bind fun _=>.ret true).go s2=(v,s') by
      have hg:=HG.out
      rw[Q01,if_neg (fun e=>e.2 rfl)] at hg
      exact hg)
     clear HG;go_wp2_with (fail);with_reducible refine (Q0F x d i _).mono ?_
     rintro e w5 ⟨rfl,rfl⟩;obtain ⟨v6,s6,g6⟩:=Q0k (Q33 (Q06 x d i) 0 r1) s2;have hg:=HG3.out;clear HG3
     rw[Q01,g6] at hg
     have HG:=LH hg;clear hg;obtain ⟨b6,d6⟩:=Q0b g6 (Q1j (Q0r x d i) Q0f HB2.out) d2;have G6:=LH g6;clear g6;go_wp2_with (fail);with_reducible refine (Q1g F rb w0 s2 s6 v6 (Q06 x d i) 0 r1 _ H2.out d2 G6.out).mono ?_
     rintro e w6 ⟨rfl,h6⟩;have H6:=LH h6;clear h6 H2 G6;obtain ⟨rfl,rfl⟩:=Prod.mk.inj HG.out;go_wp2_with (fail);go_ret;exact ⟨rfl,H6.out⟩
    ·have hp0:0<p.length:=List.length_pos_iff.2 kp;have hp1:(0:Int)<(p.length:Int):=by omega
     obtain ⟨v4,s4,g4⟩:=Q0k (Q2p (Q0j x i) (Q17 p 0)) s2
     have HG3:=LH (show ((Q33 (Q06 x d i) 0 r1).bind fun _=>.ret true).go s4=(v,s') by
      have hg:=HG.out
      rw[Q01,if_pos ⟨ki,kp⟩,g4] at hg
      exact hg)
     clear HG kp;obtain ⟨b4,d4⟩:=Q0b g4 (Q2o (Q11 x i) (HB.out.at_ 0).1) d2;have G4:=LH g4;clear g4;obtain ⟨ad,rfl,hab,_⟩:=PairsAt.both HQ2.out hp0;obtain ⟨k1,-⟩:=Q2C HQ2.out (i:=0) hp0
     rw[show 0*2=0 from rfl,Q35] at k1
     have hz:=HA.out ad rfl;have HD:=LH H2.out.drew;have tst:w2.drew.cell? ad=some (.int .i64 (Q17 p 0)):=k1;go_wp2_with (fail)
     go_region_held3 (fun w'=>w'.cell? ad=some (.int .i64 (Q17 p 0))) (first|go_keep|exact K1.out) (first|(go_at_call 231;(with_reducible refine (Q1l x i _).mono ?_);rintro e w3 ⟨rfl,rfl⟩)|(go_at_call 235;(with_reducible refine (Q2e _ rb _ s2 s4 v4 (Q0j x i) (Q17 p 0) _ HD.out.here d2 G4.out).mono ?_);rintro e w4 ⟨rfl,h4⟩;have K1:=LH ((h4.2.cell_ hab hz).trans tst);have H4:=LH (HD.out.step h4);clear h4))
     all_goals
      go_wp2_with (fail);with_reducible refine (Q0F x d i _).mono ?_
      rintro e w5 ⟨rfl,rfl⟩;obtain ⟨v6,s6,g6⟩:=Q0k (Q33 (Q06 x d i) 0 r1) s4;have hg:=HG3.out;clear HG3
      rw[Q01,g6] at hg
      have HG:=LH hg;clear hg;obtain ⟨b6,d6⟩:=Q0b g6 (Q1j (Q0r x d i) Q0f HB2.out) d4;have G6:=LH g6;clear g6;go_wp2_with (fail);with_reducible refine (Q1g F rb w0 s4 s6 v6 (Q06 x d i) 0 r1 _ H4.out d4 G6.out).mono ?_
      rintro e w6 ⟨rfl,h6⟩;have H6:=LH h6;clear h6 H4 G6;obtain ⟨rfl,rfl⟩:=Prod.mk.inj HG.out;go_wp2_with (fail);go_ret;exact ⟨rfl,H6.out⟩
   ·have HG3:=LH (show ((Q33 (Q06 x d i) 0 r1).bind fun _=>.ret true).go s2=(v,s') by
     have hg:=HG.out
     rw[Q01,if_neg (fun e=>ki e.1)] at hg
     exact hg)
    clear HG;go_wp2_with (fail);with_reducible refine (Q0F x d i _).mono ?_
    rintro e w5 ⟨rfl,rfl⟩;obtain ⟨v6,s6,g6⟩:=Q0k (Q33 (Q06 x d i) 0 r1) s2;have hg:=HG3.out;clear HG3
    rw[Q01,g6] at hg
    have HG:=LH hg;clear hg;obtain ⟨b6,d6⟩:=Q0b g6 (Q1j (Q0r x d i) Q0f HB2.out) d2;have G6:=LH g6;clear g6;go_wp2_with (fail);with_reducible refine (Q1g F rb w0 s2 s6 v6 (Q06 x d i) 0 r1 _ H2.out d2 G6.out).mono ?_
    rintro e w6 ⟨rfl,h6⟩;have H6:=LH h6;clear h6 H2 G6;obtain ⟨rfl,rfl⟩:=Prod.mk.inj HG.out;go_wp2_with (fail);go_ret;exact ⟨rfl,H6.out⟩
end
end Go.Proofs.YtblajeildolloaaGreat
