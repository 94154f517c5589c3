/- Part 3 of what the statement of SeekPlays needs. No condition. -/
import Derived.Test.YtblajeildolloaaGreatSeekPlaysB2
import Derived.Deep.RegionLaw
import Derived.Laws.OwnMore
namespace Go.Proofs.YtblajeildolloaaGreat
set_option linter.unusedVariables false
set_option linter.unusedSimpArgs false
open Go.RowKit
section
variable {β:Type} {M:Int} {t:Nat} {C:List Int} {G G':GS} {R:β→GS→Prop}
structure NF (G:GS) (n d:Int) (K:Int→Int):Prop where
 ty:G.ty n=3
 cmp:G.cmp n
 deg:G.deg n=d
 ks:G.ks n=K
theorem NF.ext {n d:Int} {K:Int→Int} (h:NF G n d K) (x:Ext G G'):NF G' n d K:=by
 have:=h.ty
 exact ⟨x.t3 h.ty,x.cmp h.ty h.cmp,by rw[x.deg n (by omega)];exact h.deg,by rw[x.ks n (by omega)];exact h.ks⟩
theorem NF.bd {n d:Int} {K:Int→Int} (h:NF G n d K) (i:Inv G):1≤n∧n≤16384∧d≤16384:=by
 have c:=i.cap n (by rw[h.ty];decide)
 rw[len3 h.ty,h.deg] at c
 omega
theorem NF.key {n d i:Int} {K:Int→Int} (h:NF G n d K) (hi:Inv G) (r:Rep C G) (i0:1≤i) (i1:i<d):rdC C (keyAtI n i)=K i:=by
 have b:=h.bd hi
 rw[keyAt_in (by omega) (by omega) (by omega) (by omega),r.key n i h.ty i0 (by rw[h.deg];exact i1)]
 rcases (hi.inn n h.ty).key i i0 (by rw[h.deg];exact i1) with e|e
 ·rw[e,h.ks]
 ·exact absurd e (h.cmp i (by omega) (by rw[h.deg];exact i1))
def RtK (G:GS) (k d:Int) (K:Int→Int) (f:Int×Int→Prog β) (M:Int) (t:Nat) (R:β→GS→Prop):Prop:=∀i G',Inv G'→Ext G G'→0≤i→i<d→K i≤k→k<K (i+1)→Safe M t (f (d,i)) R G'
theorem RtK.ext {k d:Int} {K:Int→Int} {f:Int×Int→Prog β} (h:RtK G k d K f M t R) (x:Ext G G'):RtK G' k d K f M t R:=fun i G2 i2 x2 h0 h1 h2 h3=>h i G2 i2 (x.trans x2) h0 h1 h2 h3
theorem safe_down {n k d:Int} {K:Int→Int} {f:Int×Int→Prog β} (h1k:K 1≤k) (hd:1<d):∀(fu:Nat) (i:Int) (G:GS),Inv G→NF G n d K→1≤i→i≤fu→i<d→k<K (i+1)→RtK G k d K f M t R→Safe M t ((downGo n k d fu i).bind f) R G
 |0,i,G,hi,h,i1,i2,_,_,_=>by omega
 |fu+1,i,G,hi,h,i1,i2,i3,hk,kk=>by
  show Safe M t ((if 1<i∧false=false then (readP (keyAtI n i)).bind fun q=>if q≤k then .ret (d,i) else downGo n k d fu (i-1) else .ret (d,1)).bind f) R G
  by_cases c:1<i
  ·rw[if_pos ⟨c,rfl⟩,bind_assoc]
   refine Safe.read fun C1 G1 r1 p1=> ?_
   have h1:=h.ext r1.ext
   rw[h1.key r1.inv p1 (by omega) i3]
   by_cases q:K i≤k
   ·rw[if_pos q]
    exact kk i G1 r1.inv r1.ext (by omega) i3 q hk
   ·rw[if_neg q]
    exact safe_down h1k hd fu (i-1) G1 r1.inv h1 (by omega) (by omega) (by omega) (by rw[show i-1+1=i by omega];omega) (kk.ext r1.ext)
  ·rw[if_neg (fun h=>c h.1)]
   have e:i=1:=by omega
   subst e
   exact kk 1 G hi (Ext.refl _) (by decide) hd h1k hk
theorem safe_up {n k d:Int} {K:Int→Int} {f:Int×Int→Prog β} (hm:k<K (d-1)) (hd:1<d):∀(fu:Nat) (i:Int) (G:GS),Inv G→NF G n d K→1≤i→i≤d-1→d-1-i≤fu→K (i-1)≤k→RtK G k d K f M t R→Safe M t ((upGo n k d (d-1) fu i).bind f) R G
 |0,i,G,hi,h,i1,i2,i3,hk,kk=>by
  have e:i=d-1:=by omega
  subst e
  exact kk (d-1-1) G hi (Ext.refl _) (by omega) (by omega) hk (by rw[show d-1-1+1=d-1 by omega];exact hm)
 |fu+1,i,G,hi,h,i1,i2,i3,hk,kk=>by
  show Safe M t ((if i<d-1∧false=false then (readP (keyAtI n i)).bind fun q=>if k<q then .ret (d,i-1) else upGo n k d (d-1) fu (i+1) else .ret (d,d-1-1)).bind f) R G
  by_cases c:i<d-1
  ·rw[if_pos ⟨c,rfl⟩,bind_assoc]
   refine Safe.read fun C1 G1 r1 p1=> ?_
   have h1:=h.ext r1.ext
   rw[h1.key r1.inv p1 i1 (by omega)]
   by_cases q:k<K i
   ·rw[if_pos q]
    exact kk (i-1) G1 r1.inv r1.ext (by omega) (by omega) hk (by rw[show i-1+1=i by omega];exact q)
   ·rw[if_neg q]
    exact safe_up hm hd fu (i+1) G1 r1.inv h1 (by omega) (by omega) (by omega) (by rw[show i+1-1=i by omega];omega) (kk.ext r1.ext)
  ·rw[if_neg (fun h=>c h.1)]
   have e:i=d-1:=by omega
   subst e
   exact kk (d-1-1) G hi (Ext.refl _) (by omega) (by omega) hk (by rw[show d-1-1+1=d-1 by omega];exact hm)
theorem safe_route {n k d:Int} {K:Int→Int} {f:Int×Int→Prog β} (hi:Inv G) (h:NF G n d K) (hlo:K 0≤k) (hhi:k<K d) (kk:RtK G k d K f M t R):Safe M t ((routeP n k).bind f) R G:=by
 unfold routeP
 rw[bind_assoc]
 refine Safe.read fun C1 G1 r1 p1=> ?_
 have h1:=h.ext r1.ext
 have d1:=p1.deg n h1.ty
 have b1:=h1.bd r1.inv
 have d0:=d1.1
 rw[h1.deg] at d0
 rw[d1.2,h1.deg,wrap_sm (x:=d-1) (by omega) (by omega)]
 rw[h1.deg] at d1
 have k1:=kk.ext r1.ext
 by_cases c:d-1<1
 ·rw[if_pos c]
  exact k1 0 G1 r1.inv (Ext.refl _) (by decide) (by omega) hlo (by rw[show (0:Int)+1=d by omega];exact hhi)
 ·rw[if_neg c,bind_assoc]
  refine Safe.read fun C2 G2 r2 p2=> ?_
  have h2:=h1.ext r2.ext
  have k2:=k1.ext r2.ext
  rw[h2.key r2.inv p2 (by decide) (by omega)]
  by_cases c2:k<K 1
  ·rw[if_pos c2]
   exact k2 0 G2 r2.inv (Ext.refl _) (by decide) (by omega) hlo c2
  ·rw[if_neg c2]
   by_cases c3:d-1=1
   ·rw[if_pos c3]
    exact k2 1 G2 r2.inv (Ext.refl _) (by decide) (by omega) (by omega) (by rw[show (1:Int)+1=d by omega];exact hhi)
   ·rw[if_neg c3,bind_assoc]
    refine Safe.read fun C3 G3 r3 p3=> ?_
    have h3:=h2.ext r3.ext
    have k3:=k2.ext r3.ext
    rw[h3.key r3.inv p3 (by omega) (by omega)]
    by_cases c4:K (d-1)≤k
    ·rw[if_pos c4]
     exact k3 (d-1) G3 r3.inv (Ext.refl _) (by omega) (by omega) c4 (by rw[show d-1+1=d by omega];exact hhi)
    ·rw[if_neg c4]
     have g:=guessI_bd (f:=K 1) (l:=K (d-1)) (k:=k) (n:=d-1) (by omega) (by omega) (by omega) (by omega)
     show Safe M t ((if false=true∨guessI (K 1) (K (d-1)) k (d-1)<1 then .ret (d,0) else
      if 1<guessI (K 1) (K (d-1)) k (d-1) then (readP (keyAtI n (guessI (K 1) (K (d-1)) k (d-1)))).bind fun q=>if k<q then downGo n k d (guessI (K 1) (K (d-1)) k (d-1)).toNat (guessI (K 1) (K (d-1)) k (d-1)-1) else upGo n k d (d-1) (d-1-guessI (K 1) (K (d-1)) k (d-1)).toNat (guessI (K 1) (K (d-1)) k (d-1)+1)
      else upGo n k d (d-1) (d-1-guessI (K 1) (K (d-1)) k (d-1)).toNat (guessI (K 1) (K (d-1)) k (d-1)+1):Prog (Int×Int)).bind f) R G3
     generalize guessI (K 1) (K (d-1)) k (d-1)=j at g⊢
     rw[if_neg (by simp;omega)]
     by_cases c5:1<j
     ·rw[if_pos c5,bind_assoc]
      refine Safe.read fun C4 G4 r4 p4=> ?_
      have h4:=h3.ext r4.ext
      have k4:=k3.ext r4.ext
      rw[h4.key r4.inv p4 (by omega) (by omega)]
      by_cases c6:k<K j
      ·rw[if_pos c6]
       exact safe_down (by omega) (by omega) _ _ G4 r4.inv h4 (by omega) (by omega) (by omega) (by rw[show j-1+1=j by omega];exact c6) k4
      ·rw[if_neg c6]
       exact safe_up (by omega) (by omega) _ _ G4 r4.inv h4 (by omega) (by omega) (by omega) (by rw[show j+1-1=j by omega];omega) k4
     ·rw[if_neg c5]
      have e:j=1:=by omega
      subst e
      exact safe_up (by omega) (by omega) _ _ G3 r3.inv h3 (by omega) (by omega) (by omega) (by show K 1≤k;omega) k3
theorem Inv.nf (h:Inv G) {n:Int} (t3:G.ty n=3) (c:G.cmp n):NF G n (G.deg n) (G.ks n):=⟨t3,c,rfl,rfl⟩
theorem safe_child {n k:Int} {f:Int→Prog β} (hi:Inv G) (t3:G.ty n=3) (c:G.cmp n) (hlo:G.lo n≤k) (hhi:k≤G.hi n)
  (kk:∀i G',Inv G'→Ext G G'→G'.At n i→G'.ks n i≤k→k<G'.ks n (i+1)→Safe M t (f (G'.sa n i)) R G'):Safe M t ((childP n k).bind f) R G:=by
 have io:=hi.inn n t3
 unfold childP
 rw[bind_assoc]
 refine safe_route hi (hi.nf t3 c) (by rw[io.k0];exact hlo) (by rw[io.kd];omega) fun i G1 i1 x1 h0 h1 h2 h3=> ?_
 have a1:G1.At n i:=x1.at_ ⟨t3,h0,h1⟩
 have ek:=x1.ks n (by omega)
 have ed:=x1.deg n (by omega)
 have cc:=i1.cap n (by rw[a1.ty];decide)
 rw[len3 a1.ty] at cc
 have ai:=a1.i1
 have e:childAtI n (G.deg n) i=G1.sa n i:=by
  rw[←ed,childAt_in (by omega) (by omega) (by omega) (by omega) h0 (by omega)];rfl
 show Safe M t (f (childAtI n (G.deg n) i)) R G1
 rw[e]
 exact kk i G1 i1 x1 a1 (by rw[ek];exact h2) (by rw[ek];exact h3)
def PE (G:GS) (e:Entry):Prop:=∃i,G.At e.node i∧e.slot=G.sa e.node i∧VW G e.node i e.word∧wKind e.word=3
theorem PE.ext {e:Entry} (h:PE G e) (x:Ext G G'):PE G' e:=by
 obtain ⟨i,a,b,c,d⟩:=h
 exact ⟨i,x.at_ a,by rw[x.sa a.ty];exact b,c.ext x a.ty,d⟩
theorem safe_start (hM:M≤16384) {fu:Nat} {e:Entry} {f:Bool→Prog β} (hi:Inv G) (pe:PE G e) (k:∀b G',Inv G'→Ext G G'→Safe M t (f b) R G'):Safe M t ((startP fu e).bind f) R G:=by
 obtain ⟨i,a,es,vw,k3⟩:=pe
 unfold startP
 have cn:=hi.cap e.node (by rw[a.ty];decide)
 rw[len3 a.ty] at cn
 have ai0:=a.i0
 have ai1:=a.i1
 rw[wrap_in (x:=e.node+2) (by omega) (by omega),bind_assoc,es,←wd_canon (w:=e.word) (by omega),k3]
 have wk:wKind (wOf 3 (wAt e.word))=3∧wAt (wOf 3 (wAt e.word))=wAt e.word:=by
  have:wOf 3 (wAt e.word)=e.word:=by rw[←k3];exact wd_canon (by omega)
  rw[this];exact ⟨k3,rfl⟩
 have vw':VW G e.node i (wOf 3 (wAt e.word)):=by
  have:wOf 3 (wAt e.word)=e.word:=by rw[←k3];exact wd_canon (by omega)
  rw[this];exact vw
 refine Safe.make hM (fun C1 G1 r1 p1=> ?_) (fun C1 G1 r1 p1 _ hb=> ?_)
 ·show Safe M t ((if (0:Int)≤0 then _ else _:Prog Bool).bind f) R G1
  rw[if_pos (by decide)]
  exact k false G1 r1.inv r1.ext
 ·have hb5:(C1.length:Int)+5≤16384:=by have:(rebuildW (wOf 3 (wAt e.word)) (e.node+2) (G.sa e.node i)).length=5:=rfl;omega
  have a1:=r1.ext.at_ a
  have nd1:=(vw'.nod wk.1).ext r1.ext
  rw[wk.2] at nd1
  have vr1:VR G1 (G1.ks e.node i) (G1.ks e.node (i+1)-1) (wOf 3 (wAt e.word)):=by
   rcases vw'.ext r1.ext a.ty with v|v
   ·exact v
   ·omega
  obtain ⟨s1,s2,s3⟩:=step_newR (t:=wAt e.word) r1.inv p1 rfl hb5 a1 nd1.ty vr1
  rw[←r1.ext.sa a.ty]
  generalize hm:(C1.length:Int)+1=m at s1 s2 s3⊢
  generalize hG2:GS.newR G1 m (wAt e.word) e.node i=G2 at s1 s2 s3
  have f0:G2.ty m=4:=by rw[←hG2];exact upd_eq _ _ _
  have f1:G2.nd m=e.node:=by rw[←hG2];exact upd_eq _ _ _
  have f2:G2.ix m=i:=by rw[←hG2];exact upd_eq _ _ _
  have f3:G2.tgt m=wAt e.word:=by rw[←hG2];exact upd_eq _ _ _
  refine ⟨G2,s1,⟨s2,s3,fun b _ _=>by rw[←hG2];rfl⟩, ?_⟩
  have m1:1≤m:=by omega
  have x2:=r1.ext.trans s3
  rw[if_neg (by omega),bind_assoc,←s3.sa a1.ty]
  have wd:=s1.wd (a:=m) (k:=4) (by omega) (by decide) (by decide)
  have lt:wAt e.word<m:=by have:=p1.used (a:=wAt e.word) (by rw[nd1.ty];decide);omega
  refine safe_dcss hM (x2.at_ a) (vw'.ext x2 a.ty) (.inr ⟨wd.1,by rw[wd.2];exact f0,by rw[wd.2];exact f1,by rw[wd.2];exact f2⟩) (by rw[wd.2,wk.2];exact lt) (fun _=>⟨wd.1,by rw[wd.2,wk.2];exact f3⟩) (fun h=>by omega) s2 fun d G3 i3 x3=> ?_
  rw[show (if d=1 then renewP fu m else if d=3 then .ret false else .ret true)=(if d=1 then renewP fu m else if d=3 then Prog.ret false else Prog.ret true) from rfl]
  by_cases c1:d=1
  ·rw[if_pos c1]
   exact safe_renew hM i3 (x3.t4 f0) fun b G4 i4 x4=>k b G4 i4 ((x2.trans x3).trans x4)
  ·rw[if_neg c1]
   by_cases c3:d=3
   ·rw[if_pos c3];exact k false G3 i3 (x2.trans x3)
   ·rw[if_neg c3];exact k true G3 i3 (x2.trans x3)
theorem safe_tally (hM:M≤16384) {fu:Nat} {f:Unit→Prog β}:∀(l:List Entry) (first:Option Entry) (G:GS),Inv G→(∀e∈l,PE G e)→(∀e,first=some e→PE G e)→(∀G',Inv G'→Ext G G'→Safe M t (f ()) R G')→Safe M t ((tallyGo fu l first).bind f) R G
 |[],first,G,hi,_,hf,k=>by
  rcases first with _|e
  ·exact k G hi (Ext.refl _)
  ·show Safe M t (((startP fu e).bind fun _=> .ret ()).bind f) R G
   rw[bind_assoc]
   exact safe_start hM hi (hf e rfl) fun b G1 i1 x1=>k G1 i1 x1
 |e::l,first,G,hi,hl,hf,k=>by
  show Safe M t (((addP (wAt e.word+3) 1).bind fun c=>(readP (wAt e.word+1)).bind fun s=>tallyGo fu l (if first.isNone=true∧limitI s≤wrap64 (c+1) then some e else first)).bind f) R G
  rw[bind_assoc]
  refine Safe.add fun C1 G1 r1 p1=> ?_
  obtain ⟨i,a,es,vw,k3⟩:=(hl e (List.mem_cons_self ..)).ext r1.ext
  have nd:=vw.nod k3
  have d1:=(p1.deg _ nd.ty).1
  refine ⟨G1,p1.free (b:=wAt e.word) (j:=3) (by rw[nd.ty];decide) (by decide) (by rw[len3 nd.ty];omega) (fun h=>by rw[nd.ty] at h;omega) (fun _=> .inl rfl) (fun h=>by rw[nd.ty] at h;omega) (fun h=>by rw[nd.ty] at h;omega),Guar.refl r1.inv, ?_⟩
  rw[bind_assoc]
  refine Safe.read fun C2 G2 r2 p2=> ?_
  have x2:=r1.ext.trans r2.ext
  refine safe_tally hM l _ G2 r2.inv (fun e' he=>(hl e' (List.mem_cons_of_mem _ he)).ext x2) (fun e' he=> ?_) (fun G' i' x'=>k G' i' (x2.trans x'))
  split at he
  ·injection he with he
   subst he
   exact (hl e (List.mem_cons_self ..)).ext x2
  ·exact (hf e' he).ext x2
structure LayW (G:GS) (n i key w:Int):Prop where
 at_:G.At n i
 vw:VW G n i w
 k2:wKind w≤2
 k0:G.ks n i≤key
 k1:key<G.ks n (i+1)
theorem LayW.ext {n i key w:Int} (h:LayW G n i key w) (x:Ext G G'):LayW G' n i key w:=by
 have:=h.at_.ty
 exact ⟨x.at_ h.at_,h.vw.ext x h.at_.ty,h.k2,by rw[x.ks n (by omega)];exact h.k0,by rw[x.ks n (by omega)];exact h.k1⟩
theorem safe_fresh (hM:M≤16384) {o:Op} {n i w q:Int} {there:Bool} {f:Int×Bool→Prog β} (hi:Inv G) (lw:LayW G n i o.key w) (hq:wKind w=2→q=G.k1 (wAt w)) (hne:wKind w=2→there=false→q≠o.key)
  (kn:∀x G',Inv G'→Ext G G'→Safe M t (f (x,false)) R G') (ky:∀x G',Inv G'→Ext G G'→VR G' (G'.ks n i) (G'.ks n (i+1)-1) x→wAt w<wAt x→Safe M t (f (x,true)) R G'):
  Safe M t ((freshP o w q (decide (wKind w=2)) there).bind f) R G:=by
 have vne:=lw.vw.ne
 have tw0:=lw.vw.ty
 have t3:=lw.at_.ty
 unfold freshP
 by_cases c3:o.kind=3
 ·rw[if_pos c3,bind_assoc]
  refine Safe.make hM (fun C1 G1 r1 p1=>kn _ G1 r1.inv r1.ext) (fun C1 G1 r1 p1 _ hb=> ?_)
  obtain ⟨s1,s2,s3⟩:=step_newE (a:=G.ks n i) (b:=G.ks n (i+1)-1) r1.inv p1 rfl (by simpa using hb)
  have cp:=rep_cap (k:=1) p1 rfl (by decide) (by decide) (by simpa using hb)
  have lt:=p1.used (a:=wAt w) (by rw[r1.ext.ty _ (by omega)];omega)
  refine ⟨_,s1,Guar.of ⟨s2,s3⟩ rfl, ?_⟩
  show Safe M t (f (_,decide (0<(C1.length:Int)+1))) R _
  rw[decide_eq_true cp.2.2]
  have x2:=r1.ext.trans s3
  refine ky _ _ s2 x2 ?_ (by omega)
  rw[x2.ks n (by omega)]
  refine ⟨by omega,by omega, ?_,fun _=> ?_,fun k=>by omega,fun k=>by omega⟩
  ·rw[cp.2.1,cp.1];exact upd_eq _ _ _
  ·rw[cp.2.1];exact ⟨upd_eq _ _ _,upd_eq _ _ _⟩
 ·rw[if_neg c3,bind_assoc]
  refine Safe.make hM (fun C1 G1 r1 p1=> ?_) (fun C1 G1 r1 p1 _ hb=> ?_)
  ·rw[if_pos (.inl (by decide))]
   exact kn _ G1 r1.inv r1.ext
  ·simp only[List.length_cons,List.length_nil] at hb
   obtain ⟨s1,s2,s3⟩:=step_newL (k:=o.key) (v:=o.val) r1.inv p1 rfl (by omega)
   have cp:=rep_cap (k:=2) p1 rfl (by decide) (by decide) (by omega)
   have lt:=p1.used (a:=wAt w) (by rw[r1.ext.ty _ (by omega)];omega)
   refine ⟨_,s1,Guar.of ⟨s2,s3⟩ rfl, ?_⟩
   have x2:=r1.ext.trans s3
   have e1:(G1.newL ((C1.length:Int)+1) o.key o.val).k1 ((C1.length:Int)+1)=o.key:=upd_eq _ _ _
   have e0:(G1.newL ((C1.length:Int)+1) o.key o.val).ty ((C1.length:Int)+1)=2:=upd_eq _ _ _
   generalize hG2:G1.newL ((C1.length:Int)+1) o.key o.val=G2 at s1 s2 s3 x2 e1 e0
   generalize hm:(C1.length:Int)+1=m at*
   have lf:∀a b,a≤o.key→o.key≤b→VR G2 a b (wOf 2 m):=fun a b h0 h1=>⟨by omega,by omega,by rw[cp.2.1,cp.1];exact e0,fun k=>by omega,fun _=>by rw[cp.2.1,e1];exact ⟨h0,h1⟩,fun k=>by omega⟩
   have ek2:=x2.ks n (by omega)
   by_cases c:¬0<m∨decide (wKind w=2)=false∨there=true
   ·rw[if_pos c]
    show Safe M t (f (_,decide (0<m))) R _
    rw[decide_eq_true cp.2.2]
    refine ky _ G2 s2 x2 ?_ (by omega)
    rw[ek2]
    exact lf _ _ lw.k0 (by have:=lw.k1;omega)
   ·rw[if_neg c]
    have k2:wKind w=2:=by
     apply Classical.byContradiction
     intro h
     exact c (.inr (.inl (decide_eq_false h)))
    have nt:there=false:=by cases there with
     |false=>rfl
     |true=>exact absurd (.inr (.inr rfl)) c
    have hne:=hne k2 nt
    have hq:=hq k2
    have vr:VR G (G.ks n i) (G.ks n (i+1)-1) w:=by
     rcases lw.vw with v|v
     ·exact v
     ·omega
    obtain ⟨q0,q1⟩:=vr.e2 k2
    rw[←hq] at q0 q1
    have key0:=lw.k0
    have key1:=lw.k1
    have tw2:G.ty (wAt w)=2:=by omega
    have kw2:∀G3,Ext G G3→G3.ty (wAt w)=2∧G3.k1 (wAt w)=q:=fun G3 x3=>⟨by rw[x3.ty _ (by omega)];exact tw2,by rw[x3.k1 _ (by omega)];exact hq.symm⟩
    have lfw:∀G3,Ext G G3→∀a b,a≤q→q≤b→VR G3 a b w:=fun G3 x3 a b h0 h1=>⟨by omega,by omega,by rw[(kw2 G3 x3).1,k2],fun k=>by omega,fun _=>by rw[(kw2 G3 x3).2];exact ⟨h0,h1⟩,fun k=>by omega⟩
    rw[bind_assoc]
    generalize hmx:(if q<o.key then o.key else q)=mx
    generalize hcc:(if o.key<q then [wOf 2 m,w] else [w,wOf 2 m])=cc
    have hcl:cc.length=2:=by rw[←hcc];split<;>rfl
    rw[show innerWs 2 [mx] cc=innerW 2 [mx] cc from if_pos (by rw[hcl];rfl)]
    refine Safe.make hM (fun C3 G3 r3 p3=>kn _ G3 r3.inv (x2.trans r3.ext)) (fun C3 G3 r3 p3 _ hb3=> ?_)
    have x3:=x2.trans r3.ext
    have hwl:((innerW 2 [mx] cc).length:Int)=4+2*cc.length:=by simp[innerW];omega
    have mxb:G.ks n i<mx∧mx≤G.ks n (i+1)-1:=by rw[←hmx];split<;>omega
    obtain ⟨z1,z2,z3⟩:=step_newI (a:=G.ks n i) (b:=G.ks n (i+1)-1) (K:=fun j=>if j≤0 then G.ks n i else if j≤1 then mx else G.ks n (i+1)) r3.inv p3 rfl (by rw[hcl];rfl) hb3 (by omega) rfl
     (by rw[hcl];show (if (2:Int)≤0 then _ else if (2:Int)≤1 then _ else _)=_;rw[if_neg (by decide),if_neg (by decide)];omega)
     (fun x y x0 xy y2=>by
      have hx:x=0∨x=1:=by omega
      have hy:y=1∨y=2:=by omega
      rcases hx with rfl|rfl<;>rcases hy with rfl|rfl<;>simp<;>omega)
     (fun j j0 j1=> .inl (by
      have e:j=1:=by omega
      subst e;rfl))
     (fun j j0 j1=> .inr (by
      have hj:j=0∨j=1:=by omega
      rw[←hcc]
      rcases hj with rfl|rfl
      ·by_cases cq:o.key<q
       ·rw[if_pos cq]
        show VR G3 (G.ks n i) (mx-1) (wOf 2 m)
        exact (lf _ _ key0 (by rw[←hmx,if_neg (by omega)];omega)).ext r3.ext
       ·rw[if_neg cq]
        show VR G3 (G.ks n i) (mx-1) w
        exact lfw G3 x3 _ _ q0 (by rw[←hmx,if_pos (by omega)];omega)
      ·by_cases cq:o.key<q
       ·rw[if_pos cq]
        show VR G3 mx (G.ks n (i+1)-1) w
        exact lfw G3 x3 _ _ (by rw[←hmx,if_neg (by omega)];omega) (by omega)
       ·rw[if_neg cq]
        show VR G3 mx (G.ks n (i+1)-1) (wOf 2 m)
        exact (lf _ _ (by rw[←hmx,if_pos (by omega)];omega) (by omega)).ext r3.ext))
    have cp3:=rep_cap (k:=3) p3 rfl (by decide) (by decide) (by omega)
    have lt3:=p3.used (a:=wAt w) (by rw[(kw2 G3 x3).1];decide)
    refine ⟨_,z1,Guar.of ⟨z2,z3⟩ rfl, ?_⟩
    show Safe M t (f (_,decide (0<(C3.length:Int)+1))) R _
    rw[decide_eq_true cp3.2.2]
    have x4:=x3.trans z3
    refine ky _ _ z2 x4 ?_ (by omega)
    rw[x4.ks n (by omega)]
    refine ⟨by omega,by omega, ?_,fun k=>by omega,fun k=>by omega,fun _=> ?_⟩
    ·rw[cp3.2.1,cp3.1];exact upd_eq _ _ _
    ·rw[cp3.2.1]
     refine ⟨upd_eq _ _ _,upd_eq _ _ _,fun j j0 j1=> ?_,by have:=p3.used (a:=1) (by rw[r3.inv.r1.1];decide);omega⟩
     rw[show (GS.newI G3 ((C3.length:Int)+1) cc.length (G.ks n i) (G.ks n (i+1)-1) (fun j=>if j≤0 then G.ks n i else if j≤1 then mx else G.ks n (i+1)) (fun i=>keyAt [mx] (i-1).toNat) (fun i=>keyAt cc i.toNat)).deg ((C3.length:Int)+1)=cc.length from upd_eq _ _ _] at j1
     rw[show (GS.newI G3 ((C3.length:Int)+1) cc.length (G.ks n i) (G.ks n (i+1)-1) (fun j=>if j≤0 then G.ks n i else if j≤1 then mx else G.ks n (i+1)) (fun i=>keyAt [mx] (i-1).toNat) (fun i=>keyAt cc i.toNat)).slot ((C3.length:Int)+1)=(fun i=>keyAt cc i.toNat) from upd_eq _ _ _]
     have wz:w≠0:=lw.vw.nz
     have mz:wOf 2 m≠0:=fun e=>by have:=cp.1;rw[e,kind_zero] at this;omega
     have hj:j=0∨j=1:=by omega
     rw[←hcc]
     rcases hj with rfl|rfl
     ·split
      ·exact mz
      ·exact wz
     ·split
      ·exact wz
      ·exact mz
theorem safe_lay (hM:M≤16384) {fu:Nat} {o:Op} {n i w:Int} {path:List Entry} {f:Res×Bool→Prog β} (hi:Inv G) (lw:LayW G n i o.key w) (hp:∀e∈path,PE G e) (k:∀r G',Inv G'→Ext G G'→Safe M t (f r) R G'):
  Safe M t ((layP fu o n (G.sa n i) w path).bind f) R G:=by
 have vne:=lw.vw.ne
 unfold layP
 rw[bind_assoc]
 have body:∀(q:Int) (res:Res) (G1:GS),Inv G1→Ext G G1→(wKind w=2→q=G1.k1 (wAt w))→(wKind w=2→res.found=false→q≠o.key)→Safe M t ((Prog.chk fun off=>if off=true∨(o.kind=1∧res.found=true)∨(o.kind=3∧res.found=false) then .ret (res,true) else
   (freshP o w q (decide (wKind w=2)) res.found).bind fun x=>if x.2=false then .ret (Res.err 8,true) else
   (dcssP 1 (wrap64 (n+2)) (G.sa n i) w x.1).bind fun d=>if d=3 then .ret (Res.err 8,true) else
   (if d=1∧(o.kind≠2∨res.found=false) then tallyGo fu path none else .ret ()).bind fun _=> .ret (res,decide (d=1))).bind f) R G1:=by
  intro q res G1 i1 x1 hq hne
  show Safe M t ((if false=true∨(o.kind=1∧res.found=true)∨(o.kind=3∧res.found=false) then .ret (res,true) else
   (freshP o w q (decide (wKind w=2)) res.found).bind fun x=>if x.2=false then .ret (Res.err 8,true) else
   (dcssP 1 (wrap64 (n+2)) (G.sa n i) w x.1).bind fun d=>if d=3 then .ret (Res.err 8,true) else
   (if d=1∧(o.kind≠2∨res.found=false) then tallyGo fu path none else .ret ()).bind fun _=> .ret (res,decide (d=1)):Prog (Res×Bool)).bind f) R G1
  by_cases c:false=true∨(o.kind=1∧res.found=true)∨(o.kind=3∧res.found=false)
  ·rw[if_pos c];exact k _ G1 i1 x1
  ·rw[if_neg c,bind_assoc]
   have lw1:=lw.ext x1
   refine safe_fresh hM i1 lw1 hq hne (fun x G2 i2 x2=>k _ G2 i2 (x1.trans x2)) (fun x G2 i2 x2 vr up=> ?_)
   show Safe M t (((dcssP 1 (wrap64 (n+2)) (G.sa n i) w x).bind _).bind f) R G2
   rw[bind_assoc]
   have lw2:=lw1.ext x2
   have cn:=i2.cap n (by rw[lw2.at_.ty];decide)
   rw[len3 lw2.at_.ty] at cn
   have a0:=lw2.at_.i0
   have a1:=lw2.at_.i1
   have lk:=lw.k2
   rw[wrap_in (x:=n+2) (by omega) (by omega),←(x1.trans x2).sa lw.at_.ty]
   refine safe_dcss hM lw2.at_ lw2.vw (.inl vr) up (fun h=>by omega) (fun h=>by omega) i2 fun d G3 i3 x3=> ?_
   have x03:=(x1.trans x2).trans x3
   by_cases c3:d=3
   ·rw[if_pos c3];exact k _ G3 i3 x03
   ·rw[if_neg c3,bind_assoc]
    by_cases c1:d=1∧(o.kind≠2∨res.found=false)
    ·rw[if_pos c1]
     exact safe_tally hM path none G3 i3 (fun e he=>(hp e he).ext x03) (fun e he=>by cases he) fun G4 i4 x4=>k _ G4 i4 (x03.trans x4)
    ·rw[if_neg c1];exact k _ G3 i3 x03
 by_cases c2:wKind w=2
 ·rw[if_pos c2,bind_assoc]
  have tw:G.ty (wAt w)=2:=by rw[lw.vw.ty];exact c2
  refine Safe.read fun C1 G1 r1 p1=> ?_
  have tw1:G1.ty (wAt w)=2:=by rw[r1.ext.ty _ (by omega)];exact tw
  rw[(p1.leaf _ tw1).1]
  by_cases cq:G1.k1 (wAt w)=o.key
  ·rw[if_pos cq,bind_assoc]
   refine Safe.read fun C2 G2 r2 p2=> ?_
   exact body _ _ G2 r2.inv (r1.ext.trans r2.ext) (fun _=>(r2.ext.k1 _ (by omega)).symm) (fun _ h=>by simp at h)
  ·rw[if_neg cq]
   exact body _ _ G1 r1.inv r1.ext (fun _=>rfl) (fun _ _=>cq)
 ·rw[if_neg c2]
  exact body 0 Res.none G hi (Ext.refl _) (fun h=>absurd h c2) (fun h=>absurd h c2)
theorem safe_attempt (hM:M≤16384) {fu:Nat} {o:Op} {f:Res×Bool→Prog β}:∀(m:Nat) (n:Int) (path:List Entry) (G:GS),Inv G→G.ty n=3→G.cmp n→G.lo n≤o.key→o.key≤G.hi n→(∀e∈path,PE G e)→(∀r G',Inv G'→Ext G G'→Safe M t (f r) R G')→Safe M t ((attemptGo fu o m n path).bind f) R G
 |0,_,_,_,_,_,_,_,_,_,_=>trivial
 |m+1,n,path,G,hi,t3,hc,hlo,hhi,hp,k=>by
  show Safe M t ((Prog.chk fun off=>if off=true then .ret (Res.none,true) else
   (childP n o.key).bind fun s=>(slotP m s).bind fun w=>
   if wKind w=4 then (renewP fu (wAt w)).bind fun ok=>if ok=false then .ret (Res.err 8,true) else .ret (Res.none,false)
   else if wKind w=3 then attemptGo fu o m (wAt w) (path++[⟨n,s,w⟩])
   else layP fu o n s w path).bind f) R G
  refine Safe.chkOff ?_
  rw[bind_assoc]
  refine safe_child hi t3 hc hlo hhi fun i G1 i1 x1 a1 k0 k1=> ?_
  rw[bind_assoc]
  refine safe_slot m a1 (x1.cmp t3 hc i a1.i0 a1.i1) i1 fun w G2 i2 x2 vw _=> ?_
  have x02:=x1.trans x2
  have vne:=vw.ne
  have t31:=a1.ty
  by_cases c4:wKind w=4
  ·rw[if_pos c4,bind_assoc]
   refine safe_renew hM i2 (by rw[vw.ty];exact c4) fun b G3 i3 x3=> ?_
   split
   ·exact k _ G3 i3 (x02.trans x3)
   ·exact k _ G3 i3 (x02.trans x3)
  ·rw[if_neg c4]
   by_cases c3:wKind w=3
   ·rw[if_pos c3]
    have nd:=vw.nod c3
    have vr:VR G2 (G2.ks n i) (G2.ks n (i+1)-1) w:=by
     rcases vw with v|v
     ·exact v
     ·omega
    obtain ⟨e1,e2,-⟩:=vr.e3 c3
    have ek:=x2.ks n (by omega)
    refine safe_attempt hM m (wAt w) _ G2 i2 nd.ty nd.cmp (by rw[e1,ek];exact k0) (by rw[e2,ek];omega) (fun e he=> ?_) (fun r G' i' x'=>k r G' i' (x02.trans x'))
    rcases List.mem_append.1 he with he|he
    ·exact (hp e he).ext x02
    ·rw[List.mem_singleton.1 he]
     exact ⟨i,x2.at_ a1,(x2.sa a1.ty i).symm,vw,c3⟩
   ·rw[if_neg c3]
    have ek:=x2.ks n (by omega)
    rw[←x2.sa a1.ty]
    exact safe_lay hM i2 ⟨x2.at_ a1,vw,by omega,by rw[ek];exact k0,by rw[ek];exact k1⟩ (fun e he=>(hp e he).ext x02) fun r G' i' x'=>k r G' i' (x02.trans x')
theorem safe_change (hM:M≤16384) {o:Op} (ho:leastI≤o.key∧o.key≤mostI):∀(fu:Nat) (G:GS),Inv G→Safe M t (changeP o fu) (fun _ _=>True) G
 |0,_,_=>trivial
 |fu+1,G,hi=>by
  show Safe M t ((attemptGo fu o fu 1 []).bind fun r=>if r.2=true then .ret r.1 else changeP o fu) (fun _ _=>True) G
  obtain ⟨a1,a2,a3,a4,a5,a6⟩:=hi.r1
  refine safe_attempt hM fu 1 [] G hi a1 a6 (by rw[a3];exact ho.1) (by rw[a4];exact ho.2) (fun e he=>by cases he) fun r G1 i1 x1=> ?_
  split
  ·exact fun _ _=>trivial
  ·exact safe_change hM ho fu G1 i1
end
def ReadsP {α:Type}:Prog α→Prop
 | .ret _=>True
 | .ask q k=>q.kind=1∧∀v,ReadsP (k v)
 | .chk k=>∀b,ReadsP (k b)
 | .stuck p=>ReadsP p
theorem ReadsP.safe {α:Type} {M:Int} {t:Nat}:∀{p:Prog α} {G:GS},ReadsP p→Safe M t p (fun _ _=>True) G
 | .ret a,G,h=>fun _ _=>trivial
 | .ask q k,G,h=>fun C G1 hr hp hl=>by
  have e:exQ M q C=(rdC C q.a,C):=if_pos h.1
  refine ⟨G1, ?_,Guar.refl hr.inv, ?_⟩
  ·rw[e];exact hp
  ·rw[e];exact ReadsP.safe (h.2 _)
 | .chk k,G,h=>ReadsP.safe (p:=k false) (h false)
 | .stuck p,G,h=>trivial
theorem ReadsP.bind {α β:Type}:∀{p:Prog α} {f:α→Prog β},ReadsP p→(∀a,ReadsP (f a))→ReadsP (p.bind f)
 | .ret a,f,h,hf=>hf a
 | .ask q k,f,h,hf=>⟨h.1,fun v=>ReadsP.bind (h.2 v) hf⟩
 | .chk k,f,h,hf=>fun b=>ReadsP.bind (h b) hf
 | .stuck p,f,h,hf=>ReadsP.bind (p:=p) h hf
theorem ReadsP.ite {α:Type} {c:Prop} [Decidable c] {p q:Prog α} (h1:ReadsP p) (h2:ReadsP q):ReadsP (if c then p else q):=by split<;>assumption
theorem reads_ret {α:Type} (a:α):ReadsP (.ret a):=trivial
theorem reads_read (a:Int):ReadsP (readP a):=⟨rfl,fun _=>trivial⟩
theorem reads_peek (s:Int):ReadsP (peekP s):=(reads_read s).bind fun w=>ReadsP.ite ((reads_read _).bind fun o=>ReadsP.ite (reads_read _) (reads_read _)) trivial
theorem reads_down (n k d:Int):∀(f:Nat) (i:Int),ReadsP (downGo n k d f i)
 |0,_=>trivial
 |f+1,i=>fun b=>ReadsP.ite ((reads_read _).bind fun q=>ReadsP.ite trivial (reads_down n k d f (i-1))) trivial
theorem reads_up (n k d m:Int):∀(f:Nat) (i:Int),ReadsP (upGo n k d m f i)
 |0,_=>trivial
 |f+1,i=>fun b=>ReadsP.ite ((reads_read _).bind fun q=>ReadsP.ite trivial (reads_up n k d m f (i+1))) trivial
theorem reads_route (n k:Int):ReadsP (routeP n k):=
 (reads_read n).bind fun d=>ReadsP.ite trivial ((reads_read _).bind fun first=>ReadsP.ite trivial (ReadsP.ite trivial ((reads_read _).bind fun last=>ReadsP.ite trivial (fun b=>ReadsP.ite trivial (ReadsP.ite ((reads_read _).bind fun q=>ReadsP.ite (reads_down ..) (reads_up ..)) (reads_up ..))))))
theorem reads_child (n k:Int):ReadsP (childP n k):=(reads_route n k).bind fun _=>trivial
theorem reads_seek (k:Int):∀(f:Nat) (n:Int),ReadsP (seekP k f n)
 |0,_=>trivial
 |f+1,n=>fun b=>ReadsP.ite trivial ((reads_child n k).bind fun s=>(reads_peek s).bind fun w=>ReadsP.ite ((reads_read _).bind fun q=>ReadsP.ite ((reads_read _).bind fun _=>trivial) trivial) (ReadsP.ite (reads_seek k f _) (ReadsP.ite ((reads_read _).bind fun t=>reads_seek k f _) trivial)))
theorem reads_meets (x:WQ) (a:Int) (st:WAcc):ReadsP (meetsP x a st):=(reads_read a).bind fun q=>ReadsP.ite trivial ((ReadsP.ite (reads_read _) (reads_ret _)).bind fun _=>trivial)
theorem reads_walk (x:WQ) (thr:Int→WAcc→Prog (WAcc×Bool)) (ht:∀a st,ReadsP (thr a st)):∀(f:Nat) (n d i:Int) (st:WAcc),ReadsP (walkGo x thr f n d i st)
 |0,_,_,_,_=>trivial
 |f+1,n,d,i,st=>fun b=>ReadsP.ite trivial ((reads_peek _).bind fun w b2=>ReadsP.ite trivial
   ((ReadsP.ite (reads_meets ..) (ReadsP.ite (ht _ _) (ReadsP.ite ((reads_read _).bind fun t=>ht _ _) (reads_ret _)))).bind fun r=>ReadsP.ite trivial
    (ReadsP.ite (ReadsP.ite trivial ((reads_read _).bind fun q=>ReadsP.ite trivial (reads_walk x thr ht f _ _ _ _))) (ReadsP.ite trivial ((reads_read _).bind fun q=>ReadsP.ite trivial (reads_walk x thr ht f _ _ _ _))))))
theorem reads_through (x:WQ):∀(f:Nat) (n:Int) (st:WAcc),ReadsP (throughP x f n st)
 |0,_,_=>trivial
 |f+1,n,st=>(reads_route ..).bind fun r=>reads_walk x _ (fun a st=>reads_through x f a st) _ _ _ _ _
theorem reads_again:∀l:List (Int×Int),ReadsP (againP l)
 |[]=>trivial
 |p::l=>fun b=>ReadsP.ite trivial ((reads_peek _).bind fun w=>ReadsP.ite (reads_again l) trivial)
theorem reads_rounds (f:Nat) (o:Op):∀b,ReadsP (roundsGo f o b)
 |0=>trivial
 |b+1=>fun _=>ReadsP.ite trivial ((reads_through ..).bind fun r _=>ReadsP.ite trivial ((reads_again _).bind fun same=>ReadsP.ite trivial (reads_rounds f o b)))
theorem reads_query (f:Nat) (o:Op) (budget:Int):ReadsP (queryP f o budget):=ReadsP.ite ((reads_seek ..).bind fun r=>ReadsP.ite trivial trivial) (reads_rounds ..)
section
variable {α:Type} {M:Int} {t:Nat} {Q:α→GS→Prop} {R:α→Nat→Prop}
theorem rest_snoc:∀(p:Prog α) (T:List Int) (v:Int),p.rest (T++[v])=(p.rest T).rest [v]
 | .ret a,_,_=>rfl
 | .ask q k,[],v=>rfl
 | .ask q k,x::T,v=>rest_snoc (k x) T v
 | .chk k,T,v=>rest_snoc (k false) T v
 | .stuck p,T,v=>by
  show Prog.stuck (p.rest (T++[v]))=Prog.stuck ((p.rest T).rest [v])
  rw[rest_snoc p T v]
theorem safe_rest0:∀{p:Prog α} {G:GS},Safe M t p Q G→Safe M t (p.rest []) Q G
 | .ret a,_,h=>h
 | .ask q k,_,h=>h
 | .chk k,_,h=>safe_rest0 (p:=k false) h
 | .stuck p,_,_=>trivial
theorem dp_rest:∀{p:Prog α} {n:Nat} (T:List Int),p.Dp n (fun _ _=>True)→T.length<n→(p.rest T).Dp (n-T.length) (fun _ _=>True)
 |_,0,_,_,h=>absurd h (by omega)
 | .ret a,n+1,T,h,_=>dp_ret fun _=>trivial
 | .ask q k,n+1,[],h,_=>h
 | .ask q k,n+1,x::T,h,hl=>by
  have hl:T.length<n:=by simpa using hl
  have:=dp_rest (p:=k x) (n:=n) T (h x) hl
  rw[show n+1-(x::T).length=n-T.length by simp]
  exact this
 | .chk k,n+1,T,h,hl=>dp_rest (p:=k false) (n:=n+1) T h hl
 | .stuck p,n+1,_,h,_=>h.elim
theorem safe_next:∀{p:Prog α} {G:GS} {n:Nat} {q:Ask},Safe M t p Q G→p.Dp n R→0<n→p.next=some q→∀{C:List Int} {G1:GS},Rely t G G1→Rep C G1→(C.length:Int)≤M→
  ∃G2,Rep (exQ M q C).2 G2∧Guar t G1 G2∧Safe M t (p.rest [(exQ M q C).1]) Q G2
 | .ret a,_,_,_,_,_,_,e,_,_,_,_,_=>by cases e
 | .ask q k,G,n,q',h,hd,hn,e,C,G1,hr,hp,hl=>by
  have e:q=q':=by injection e
  subst e
  obtain ⟨G2,h1,h2,h3⟩:=h C G1 hr hp hl
  exact ⟨G2,h1,h2,safe_rest0 h3⟩
 | .chk k,G,n+1,q',h,hd,hn,e,C,G1,hr,hp,hl=>safe_next (p:=k false) (n:=n+1) h hd hn e hr hp hl
 | .stuck p,G,n+1,q',h,hd,hn,e,C,G1,hr,hp,hl=>hd.elim
theorem safe_rely:∀{p:Prog α} {G G1:GS},Safe M t p Q G→Rely t G G1→Safe M t p Q G1
 | .ret a,_,_,h,hr=>fun G' hr'=>h G' (hr.trans hr')
 | .ask q k,_,_,h,hr=>fun C G2 hr'=>h C G2 (hr.trans hr')
 | .chk k,_,_,h,hr=>safe_rely (p:=k false) h hr
 | .stuck p,_,_,_,_=>trivial
end
section
variable {F G:Nat→Prop} {rb:Nat} {w0 w w':World} {s s':RunS}
theorem RAt.here (h:RAt F rb w0 s w):RAt (fun x=>F x∨w0.heap.size≤x) rb w s w:=RAt.refl h.1
theorem RAt.step (h:RAt F rb w0 s w) (h':RAt (fun x=>F x∨w0.heap.size≤x) rb w s' w'):RAt F rb w0 s' w':=
 ⟨h'.1.mono (fun x hx=>hx.elim id (fun e=> .inr (Nat.le_trans h.2.size e))),h.2.trans h'.2⟩
theorem RAt.keepT (h:RAt F rb w0 s w) (c:Chg G w w') (hG:∀x,G x→w0.heap.size≤x∧∃t cs,Blk w x t cs∧t≠145∧t≠2):RAt F rb w0 s w':=by
 obtain ⟨⟨tv,wv,rec,laid,hq⟩,hc⟩:=h
 refine ⟨⟨tv,wv,rec,laid,hq.fb,c.blk hq.blk (fun g=> ?_),c.own hq.tape (fun g hg k=> ?_),c.own hq.ws (fun g hg k=> ?_),hq.ft,hq.fw⟩,hc.grow c (fun x hx=> .inr (hG x hx).1)⟩
 ·obtain ⟨_,t,cs,hb,h1,_⟩:=hG _ g
  exact hb.ne_ hq.blk h1 rfl
 ·obtain ⟨_,t,cs,hb,_,h2⟩:=hG _ k
  obtain ⟨cs',hb'⟩:=own_blk hq.tape hg
  exact hb.ne_ hb' h2 rfl
 ·obtain ⟨_,t,cs,hb,_,h2⟩:=hG _ k
  obtain ⟨cs',hb'⟩:=own_blk hq.ws hg
  exact hb.ne_ hb' h2 rfl
theorem RAt.keepB (h:RAt F rb w0 s w) (c:Chg (fun x=>x=rb) w w') {g:Nat} {t:TypeId} {cs:Array Value} (hb:Blk w g t cs) (ht:t≠145):Blk w' g t cs:=by
 obtain ⟨⟨tv,wv,rec,laid,hq⟩,hc⟩:=h
 exact c.blk hb (fun e=>hb.ne_ hq.blk ht e)
theorem RAt.keepO (h:RAt F rb w0 s w) (c:Chg (fun x=>x=rb) w w') {base n:Nat} {e:TypeId} {size:Nat} {v:Value} {xs:List Value} (hO:w.ownsRow base e size v n xs) (he:e≠145):w'.ownsRow base e size v n xs:=by
 obtain ⟨⟨tv,wv,rec,laid,hq⟩,hc⟩:=h
 exact c.own hO (fun g hg e'=>own_blk_ne hO hq.blk he (e'▸hg))
end
theorem pairs_at {w:World} {B:Nat} {ad:Addr} {L:List (Int×Int)} (h:PairsAt w B (some ad) L) {i:Nat} (hi:i<L.length):w.cell? (ad.add (i*2))=some (.int .i64 (pkey L i))∧w.cell? {block:=(ad.add (i*2)).block,off:=(ad.add (i*2)).off+1}=some (.int .i64 (pval L i)):=by
 obtain ⟨ad',e,_,hc⟩:=PairsAt.both h (by omega)
 injection e with e;subst e
 obtain ⟨k1,v1⟩:=hc _ hi
 rw[←Addr.add_add] at v1
 exact ⟨k1,v1⟩
section
variable (F:Nat→Prop) (rb:Nat) (w0:World)
def RAgain (l:List (Int×Int)) (A:Option Addr) (v:Bool) (s':RunS) (iv:Value) (wr:World):Prop:=∃(j:Nat) (s:RunS),iv= .int .i64 j∧j≤l.length∧RAt F rb w0 s wr∧s.Bd∧PairsAt wr wr.heap.size A l∧(againP (l.drop j)).go s=(v,s')
set_option maxRecDepth 100000 in
set_option maxHeartbeats 2000000 in
theorem againR_any (s0 s':RunS) (v:Bool) (l:List (Int×Int)) (A:Option Addr) (c:Nat) (w:World) (h:RAt F rb w0 s0 w) (d0:s0.Bd) (hg:(againP l).go s0=(v,s')) (hb:LB l) (hq:PairsAt w w.heap.size A l) (hA:∀ad,A=some ad→ad.block≠rb) (hl:l.length≤2000000000):
  Calls Tryz.prog 201 #[.pointer (some ⟨rb,0,none⟩), .slice A l.length c] w fun e w'=>e= .returned (.bool v)∧RAt F rb w0 s' w':=by
 have HG:=LH hg
 have H0:=LH h
 have HLB:=LH hb
 have HQ:=LH hq
 have HA:=LH hA
 clear hg h hb hq hA
 go_enter Tryz.func201,Tryz.ntmps201
 go_wp2_with (fail)
 go_loopw [5] (fun iv wr=>RAgain F rb w0 l A v s' iv wr) (fun iv _=>l.length-(intOf iv).toNat)
 case atStart=>unfold RAgain;exact ⟨0,s0,rfl,by omega,H0.out,d0,HQ.out,HG.out⟩
 case round=>
  obtain ⟨j,s1,rfl,j1,h1,d1,hq1,hg1⟩:=hrel
  clear H0 HG d0 HQ
  have H1:=LH h1
  by_cases hlt:j<l.length
  ·have hlt':(j:Int)<(l.length:Int):=by omega
   rw[List.drop_eq_getElem_cons hlt] at hg1
   have hp1:l[j].1=pkey l j:=by unfold pkey;rw[List.getD_eq_getElem?_getD,List.getElem?_eq_getElem hlt];rfl
   have hp2:l[j].2=pval l j:=by unfold pval;rw[List.getD_eq_getElem?_getD,List.getElem?_eq_getElem hlt];rfl
   unfold againP at hg1
   rw[hp1,hp2] at hg1
   clear hp1 hp2
   have HG:=LH hg1
   clear hg1
   have hg:=HG.out
   clear HG
   rw[go_chk] at hg
   have HG:=LH hg
   clear hg
   cases ho:s1.off with
   |true=>
    have c2:=off_cell H1.out ho
    have hg:=HG.out
    clear HG
    rw[ho] at hg
    have HG:=LH hg
    clear hg
    have hg:=HG.out
    clear HG
    rw[if_pos rfl] at hg
    have HG:=LH hg
    clear hg
    clear ho
    obtain ⟨rfl,rfl⟩:=Prod.mk.inj HG.out
    go_wp2_with (fail)
    go_ret
    exact ⟨rfl,H1.out⟩
   |false=>
    have c2:=off_cell H1.out ho
    have hg:=HG.out
    clear HG
    rw[ho] at hg
    have HG:=LH hg
    clear hg
    have hg:=HG.out
    clear HG
    rw[if_neg Bool.false_ne_true] at hg
    have HG:=LH hg
    clear hg
    clear ho
    obtain ⟨ad,rfl,hab,_⟩:=PairsAt.both hq1 (by omega)
    obtain ⟨k1,k2⟩:=pairs_at hq1 hlt
    have b1:=(HLB.out.at_ j).1
    have HK:=LH (fun (w2:World) (h:PairsAt w2 w2.heap.size (some ad) l)=>pairs_at h hlt)
    generalize pkey l j=sl at HG k1 b1 HK⊢
    generalize pval l j=wd at HG k2 HK⊢
    have HQ1:=LH hq1
    clear hq1
    obtain ⟨v2,s2,g2⟩:=go_ex (peekP sl) s1
    have hg:=HG.out
    clear HG
    rw[go_bind,g2] at hg
    have HG:=LH hg
    clear hg
    obtain ⟨b2,d2⟩:=go_okE g2 (peekP_ok b1) d1
    have G2:=LH g2
    have HD:=LH H1.out.drew
    have HQD:Hid (PairsAt wr.drew wr.drew.heap.size (some ad) l):=LH (HQ1.out.below (drawn_bl (Drawn.of wr 1) _))
    have K0:=LH (HK.out _ HQD.out)
    clear g2
    have tst:wr.drew.cell? (ad.add (j*2))=some (.int .i64 sl):=K0.out.1
    go_wp2_with (fail)
    go_region_held3 (fun w'=>w'.cell? (ad.add (j*2))=some (.int .i64 sl)∧w'.cell? {block:=(ad.add (j*2)).block,off:=(ad.add (j*2)).off+1}=some (.int .i64 wd)) (first|go_keep|exact K0.out|exact K1.out|exact K0.out.1|exact K0.out.2|exact K1.out.1|exact K1.out.2) (first|(go_at_call 194;(with_reducible refine (peekR_any _ rb _ s1 s2 v2 sl _ HD.out.here d1 G2.out b1).mono ?_);rintro e w2 ⟨rfl,h2⟩;have HQ2:=LH ((PairsAt.chg HQD.out h2.2 (Nat.le_refl _) HA.out).more h2.2.size);have H2:=LH (HD.out.step h2);have K1:=LH (HK.out w2 HQ2.out);clear h2))
    all_goals
     by_cases kw:v2=wd
     ·have e2:(v2 !=wd)=false:=by simpa using kw
      have hg:=HG.out
      clear HG
      rw[if_pos kw] at hg
      have HG:=LH hg
      clear hg
      clear kw
      go_wp2_with (fail)
      go_roundw
      case rel=>unfold RAgain;exact ⟨j+1,s2,by go_num,by omega,H2.out,d2,HQ2.out,HG.out⟩
      case measure=>simp[intOf];omega
     ·have e2:(v2 !=wd)=true:=by simpa using kw
      have hg:=HG.out
      clear HG
      rw[if_neg kw] at hg
      have HG:=LH hg
      clear hg
      clear kw
      obtain ⟨rfl,rfl⟩:=Prod.mk.inj HG.out
      go_wp2_with (fail)
      go_ret
      exact ⟨rfl,H2.out⟩
  ·have e:j=l.length:=by omega
   subst e
   rw[List.drop_length] at hg1
   have HG:=LH hg1
   clear hg1
   obtain ⟨rfl,rfl⟩:=Prod.mk.inj HG.out
   go_wp2_with (fail)
   go_ret
   exact ⟨rfl,H1.out⟩
end
structure RWQ (F:Nat→Prop) (rb:Nat) (w0:World) (s:RunS) (wb:Nat) (x:WQ) (st:WAcc) (pv sv:Value) (w:World):Prop where
 run:RAt F rb w0 s w
 nb:w0.heap.size≤wb
 blk:Blk w wb 43 #[.int .i64 x.lo, .int .i64 x.hi, .bool x.back, .int .i64 x.most, .bool x.values,pv,sv]
 prs:w.ownsRow w0.heap.size 52 2 pv st.pairs.length (cellsP st.pairs)
 sps:w.ownsRow w0.heap.size 114 2 sv st.spots.length (cellsP st.spots)
 lp:st.pairs.length+s.left≤2000000000
 ls:st.spots.length+s.left≤2000000000
def RW (F:Nat→Prop) (rb:Nat) (w0:World) (s:RunS) (wb:Nat) (x:WQ) (st:WAcc) (w:World):Prop:=∃pv sv,RWQ F rb w0 s wb x st pv sv w
section
variable {F:Nat→Prop} {rb wb gg cap:Nat} {w0 w w' wd w5:World} {s s':RunS} {x:WQ} {st:WAcc} {pv sv:Value} {k v:Int}
theorem RW.here (h:RW F rb w0 s wb x st w):RAt (fun y=>F y∨w0.heap.size≤y) rb w s w:=by obtain ⟨pv,sv,h⟩:=h;exact h.run.here
theorem RW.run (h:RW F rb w0 s wb x st w):RAt F rb w0 s w:=by obtain ⟨pv,sv,h⟩:=h;exact h.run
theorem RW.run_ (h:RW F rb w0 s wb x st w) (h':RAt (fun y=>F y∨w0.heap.size≤y) rb w s' w') (hl:s'.left≤s.left):RW F rb w0 s' wb x st w':=by
 obtain ⟨pv,sv,h⟩:=h
 exact ⟨pv,sv,h.run.step h',h.nb,h.run.keepB h'.2 h.blk (by decide),h.run.keepO h'.2 h.prs (by decide),h.run.keepO h'.2 h.sps (by decide),by have:=h.lp;omega,by have:=h.ls;omega⟩
theorem RWQ.below (h:RWQ F rb w0 s wb x st pv sv w) (hb:Below w.heap.size w w'):RWQ F rb w0 s wb x st pv sv w':=
 ⟨h.run.below hb,h.nb,h.blk.below hb h.blk.lt,own_below h.prs hb,own_below h.sps hb,h.lp,h.ls⟩
theorem RW.below (h:RW F rb w0 s wb x st w) (hb:Below w.heap.size w w'):RW F rb w0 s wb x st w':=by
 obtain ⟨pv,sv,h⟩:=h;exact ⟨pv,sv,h.below hb⟩
theorem own_types {base base' n n':Nat} {e e':TypeId} {size size':Nat} {v v':Value} {xs xs':List Value} (h:w.ownsRow base e size v n xs) (h':w.ownsRow base' e' size' v' n' xs') (hne:e≠e'):∀g,v.ownBlock=some g→¬v'.ownBlock=some g:=fun g hg hg'=>by
 obtain ⟨cs,hb⟩:=own_blk h hg
 obtain ⟨cs',hb'⟩:=own_blk h' hg'
 exact hb.ne_ hb' hne rfl
theorem RWQ.appp {v':Value} (h:RWQ F rb w0 s wb x st pv sv w) (hb:Below w.heap.size w wd) (hO:w5.ownsRow w0.heap.size 52 2 v' (st.pairs.length+1) (cellsP st.pairs++[.int .i64 k, .int .i64 v])) (hg:wd.grownBy w5 pv.ownBlock) (hl:st.pairs.length+1+s.left≤2000000000):
  Hid (w5.cell? ⟨wb,5,none⟩=some pv∧w5.frozen? ⟨wb,5,none⟩=false∧RWQ F rb w0 s wb x ⟨st.pairs++[(k,v)],st.spots⟩ v' sv (w5.setCell ⟨wb,5,none⟩ v')):=by
 have hc:Chg (fun y=>pv.ownBlock=some y) w w5:=(Chg.of_below hb).trans (Chg.of_grown hg)
 have hbl:=hc.blk h.blk (fun e=>own_blk_ne h.prs h.blk (by decide) e)
 have r5:=h.run.keepT hc (fun y hy=>by
  obtain ⟨cs,hb⟩:=own_blk h.prs hy
  exact ⟨(h.prs.lt y hy).1,_,cs,hb,by decide,by decide⟩)
 have c6:=Chg.of_mv (F:=fun y=>y=wb) (Mv.set1 w5 wb 5 v') rfl
 have hs5:=hc.own h.sps (own_types h.sps h.prs (by decide))
 refine LH ⟨hbl.cell 5,hbl.frozen 5,r5.keepT c6 (fun y hy=>hy▸⟨h.nb,_,_,hbl,by decide,by decide⟩),h.nb,hbl.set_ 5 _, ?_,c6.own hs5 (own_blk_not hs5 hbl (by decide)),by simpa using hl,h.ls⟩
 rw[cellsP_append,List.length_append]
 exact c6.own hO (own_blk_not hO hbl (by decide))
theorem RWQ.apps {v':Value} (h:RWQ F rb w0 s wb x st pv sv w) (hb:Below w.heap.size w wd) (hO:w5.ownsRow w0.heap.size 114 2 v' (st.spots.length+1) (cellsP st.spots++[.int .i64 k, .int .i64 v])) (hg:wd.grownBy w5 sv.ownBlock) (hl:st.spots.length+1+s.left≤2000000000):
  Hid (w5.cell? ⟨wb,6,none⟩=some sv∧w5.frozen? ⟨wb,6,none⟩=false∧RWQ F rb w0 s wb x ⟨st.pairs,st.spots++[(k,v)]⟩ pv v' (w5.setCell ⟨wb,6,none⟩ v')):=by
 have hc:Chg (fun y=>sv.ownBlock=some y) w w5:=(Chg.of_below hb).trans (Chg.of_grown hg)
 have hbl:=hc.blk h.blk (fun e=>own_blk_ne h.sps h.blk (by decide) e)
 have r5:=h.run.keepT hc (fun y hy=>by
  obtain ⟨cs,hb⟩:=own_blk h.sps hy
  exact ⟨(h.sps.lt y hy).1,_,cs,hb,by decide,by decide⟩)
 have c6:=Chg.of_mv (F:=fun y=>y=wb) (Mv.set1 w5 wb 6 v') rfl
 have hs5:=hc.own h.prs (own_types h.prs h.sps (by decide))
 refine LH ⟨hbl.cell 6,hbl.frozen 6,r5.keepT c6 (fun y hy=>hy▸⟨h.nb,_,_,hbl,by decide,by decide⟩),h.nb,hbl.set_ 6 _,c6.own hs5 (own_blk_not hs5 hbl (by decide)), ?_,h.lp,by simpa using hl⟩
 rw[cellsP_append,List.length_append]
 exact c6.own hO (own_blk_not hO hbl (by decide))
end
theorem read_lt {a v:Int} {s s':RunS} (hg:(readP a).go s=(v,s')) (h:s.off=false) (d:s.Bd):s'.left<s.left:=by
 have:=go_lt ⟨1,a,0,0,[],0⟩ Prog.ret h d
 rw[show (Prog.ask ⟨1,a,0,0,[],0⟩ Prog.ret).go s=(v,s') from hg] at this
 exact this
theorem peek_lt {a v:Int} {s s':RunS} (hg:(peekP a).go s=(v,s')) (h:s.off=false) (d:s.Bd):s'.left<s.left:=by
 have:=readP_lt a (fun w=>if wKind w=5 then (readP (wAt w+4)).bind fun o=>if o=1 then readP (wAt w+3) else readP (wAt w+2) else .ret w) h d
 rw[show ((readP a).bind (fun w=>if wKind w=5 then (readP (wAt w+4)).bind fun o=>if o=1 then readP (wAt w+3) else readP (wAt w+2) else .ret w)).go s=(v,s') from hg] at this
 exact this
structure WQ.B (x:WQ):Prop where
 lo:i64B x.lo
 hi:i64B x.hi
 most:i64B x.most
theorem cells2v_any (w:World) (t:TypeId) (a b:Value):∀j u,[a,b][j]? =some u→(w.alloc (.cells #[a,b] t)).cell? ((⟨w.heap.size,0,none⟩:Addr).add j)=some u:=fun j u hu=>by
 have e:(⟨w.heap.size,0,none⟩:Addr).add j=⟨w.heap.size,j,none⟩:=by unfold Addr.add;split<;>simp_all
 rw[e,(Blk.new w t #[a,b]).cell j]
 simpa using hu
section
variable (F:Nat→Prop) (rb wb:Nat) (w0:World)
def MeetsAt (x:WQ) (st':WAcc) (bb:Bool) (s':RunS) (e:Ending) (w':World):Prop:=e= .returned (.bool bb)∧RW F rb w0 s' wb x st' w'
set_option maxRecDepth 100000 in
set_option maxHeartbeats 2000000 in
theorem meets_app (x:WQ) (st:WAcc) (k v:Int) (s:RunS) (w:World) (h:RW F rb w0 s wb x st w) (hl:st.pairs.length+1+s.left≤2000000000):∃A c sv,w.cell? ⟨wb,5,none⟩=some (.slice A st.pairs.length c)∧
  (w.alloc (.cells #[.int .i64 k, .int .i64 v] 52)).ownsRow w0.heap.size 52 2 (.slice A st.pairs.length c) st.pairs.length (cellsP st.pairs)∧
  ∀v' w5,w5.ownsRow w0.heap.size 52 2 v' (st.pairs.length+1) (cellsP st.pairs++[.int .i64 k, .int .i64 v])→(w.alloc (.cells #[.int .i64 k, .int .i64 v] 52)).grownBy w5 (Value.slice A st.pairs.length c).ownBlock→
   Hid (w5.cell? ⟨wb,5,none⟩=some (.slice A st.pairs.length c)∧w5.frozen? ⟨wb,5,none⟩=false∧RWQ F rb w0 s wb x ⟨st.pairs++[(k,v)],st.spots⟩ v' sv (w5.setCell ⟨wb,5,none⟩ v')):=by
 obtain ⟨pv,sv,hq⟩:=h
 obtain ⟨A,c,rfl⟩:=own_shape hq.prs
 have hb:=(Below.refl w.heap.size w).alloc (Nat.le_refl _) (.cells #[.int .i64 k, .int .i64 v] 52)
 exact ⟨A,c,sv,hq.blk.cell 5,own_below hq.prs hb,fun v' w5 hO hg=>hq.appp hb hO hg hl⟩
set_option maxRecDepth 100000 in
set_option maxHeartbeats 2000000 in
theorem meetsR_any (x:WQ) (st st':WAcc) (bb:Bool) (s0 s':RunS) (a:Int) (w:World) (h:RW F rb w0 s0 wb x st w) (d0:s0.Bd) (ho:s0.off=false) (hx:x.B) (a0:0≤a) (a1:a≤65536) (hg:(meetsP x a st).go s0=((st',bb),s')):
  Calls Tryz.prog 262 #[.pointer (some ⟨wb,0,none⟩), .pointer (some ⟨rb,0,none⟩), .int .i64 a] w (MeetsAt F rb wb w0 x st' bb s'):=by
 obtain ⟨i0,hi0,hz0,hz1,hz2⟩:=info_parts info_pair
 unfold meetsP at hg
 obtain ⟨v1,s1,g1⟩:=go_ex (readP a) s0
 have hlt:=read_lt g1 ho d0
 have hls:=snd_left g1
 have hlp:st.pairs.length+1+s1.left≤2000000000:=by obtain ⟨pv,sv,h⟩:=h;have:=h.lp;omega
 rw[go_bind,g1] at hg
 obtain ⟨b1,d1⟩:=go_okE g1 (readP_ok (at_i64' a0 a1)) d0
 have hxl:=hx.lo.lo
 have hxl2:=hx.lo.hi
 have hxh:=hx.hi.lo
 have hxh2:=hx.hi.hi
 have hxm:=hx.most.lo
 have hxm2:=hx.most.hi
 have HG:=LH hg
 have G1:=LH g1
 have H0:=LH h
 have HLS:=LH hls
 clear hg g1 h hls
 clear hlt ho hx
 go_enter Tryz.func262,Tryz.ntmps262
 go_wp2_with (fail)
 with_reducible refine (readR_any _ rb _ s0 s1 v1 a _ H0.out.here d0 G1.out).mono ?_
 rintro e w1 ⟨rfl,h1⟩
 have H1:=LH (H0.out.run_ h1 HLS.out)
 clear h1 H0 G1 HLS
 have cc:∃pv sv,RWQ F rb w0 s1 wb x st pv sv w1:=H1.out
 obtain ⟨pv,sv,hq⟩:=cc
 have c0:w1.cell? ⟨wb,0,none⟩=some (.int .i64 x.lo):=hq.blk.cell 0
 have c1:w1.cell? ⟨wb,1,none⟩=some (.int .i64 x.hi):=hq.blk.cell 1
 have c4:w1.cell? ⟨wb,4,none⟩=some (.bool x.values):=hq.blk.cell 4
 clear hq
 have hb1:=b1.lo
 have hb2:=b1.hi
 by_cases k1:v1<x.lo
 ·have hg:=HG.out
  clear HG
  rw[if_pos (.inl k1)] at hg
  have HG:=LH hg
  clear hg
  obtain ⟨hfin,rfl⟩:=Prod.mk.inj HG.out
  obtain ⟨rfl,rfl⟩:=Prod.mk.inj hfin
  go_wp2_with (fail)
  go_ret
  exact ⟨rfl,H1.out⟩
 ·by_cases k2:x.hi<v1
  ·have hg:=HG.out
   clear HG
   rw[if_pos (.inr k2)] at hg
   have HG:=LH hg
   clear hg
   obtain ⟨hfin,rfl⟩:=Prod.mk.inj HG.out
   obtain ⟨rfl,rfl⟩:=Prod.mk.inj hfin
   go_wp2_with (fail)
   go_ret
   exact ⟨rfl,H1.out⟩
  ·have hg:=HG.out
   clear HG
   rw[if_neg (fun e=>e.elim k1 k2)] at hg
   have HG:=LH hg
   clear hg
   cases hv:x.values with
   |true=>
    rw[hv] at c4
    have hg:=HG.out
    clear HG
    rw[if_pos hv] at hg
    have HG:=LH hg
    clear hg
    clear hv
    go_wp2_with (fail)
    obtain ⟨v2,s2,g2⟩:=go_ex (readP (a+1)) s1
    have HL2:=LH (snd_left g2)
    have HT2:=LH (snd_tape g2)
    have hg:=HG.out
    clear HG
    rw[go_bind,g2] at hg
    have HG:=LH hg
    clear hg
    obtain ⟨b2,d2⟩:=go_okE g2 (readP_ok (at_i64 a0 a1 (by decide) (by decide))) d1
    have G2:=LH g2
    clear g2
    with_reducible refine (readR_any _ rb _ s1 s2 v2 (a+1) _ H1.out.here d1 G2.out).mono ?_
    rintro e w2 ⟨rfl,h2⟩
    have H2:=LH (H1.out.run_ h2 HL2.out)
    clear h2 H1 G2
    have hlp:st.pairs.length+1+s2.left≤2000000000:=by have:=HL2.out;omega
    obtain ⟨hfin,rfl⟩:=Prod.mk.inj HG.out
    obtain ⟨rfl,rfl⟩:=Prod.mk.inj hfin
    obtain ⟨A,c,sv2,c5,hO,hF⟩:=meets_app F rb wb w0 x st v1 v2 s2 w2 H2.out (by omega)
    have hsz:=H2.out.run.2.size
    have hb1:=(Below.refl w2.heap.size w2).alloc (Nat.le_refl _) (.cells #[.int .i64 v1, .int .i64 v2] 52)
    have hzz:w0.heap.size≤(w2.alloc (.cells #[.int .i64 v1, .int .i64 v2] 52)).heap.size:=by have:=hb1.size;omega
    have HN:=LH (cells2v_any w2 52 (.int .i64 v1) (.int .i64 v2))
    have HOA:=LH hO
    have HF:=LH hF
    have hpl:st.pairs.length≤2000000000:=by omega
    have hm3:w2.cell? ⟨wb,3,none⟩=some (.int .i64 x.most):=by obtain ⟨pv,sv,hq⟩:=H2.out;exact hq.blk.cell 3
    clear hO hF hb1
    go_wp2_with (at_builtin;refine wpList_append_own _ rfl _ _ 40 rfl w0.heap.size 52 i0 (.agg #[.int .i64 0, .int .i64 0]) 2 16 Tryz.underlying40 hi0 hz0 hz1 hz2 rfl (by decide) _ _ _ rfl HOA.out ⟨w2.heap.size,0,none⟩ 1 1 [.int .i64 v1, .int .i64 v2] rfl rfl HN.out (by simp[Value.oneCell']) (by unfold maxLen;omega) (by omega) hzz ?_;intro v' w5 hO5 hg5 _;have K5:=HF.out v' w5 hO5 hg5;have c55:=K5.out.1;have f55:=K5.out.2.1;obtain ⟨A5,c5',rfl⟩:=own_shape hO5;clear hO5 hg5)
    have hK6:=K5.out.2.2
    clear K5 c55 f55 HN HOA HF c5 hm3 hsz hzz
    generalize w5.setCell ⟨wb,5,none⟩ (.slice A5 (st.pairs.length+1) c5')=w6 at hK6⊢
    have d3:w6.cell? ⟨wb,3,none⟩=some (.int .i64 x.most):=hK6.blk.cell 3
    have d5:w6.cell? ⟨wb,5,none⟩=some (.slice A5 (st.pairs.length+1) c5'):=hK6.blk.cell 5
    have HK6:Hid (∀k,RW F rb w0 s2 wb x ⟨st.pairs++[(v1,v2)],st.spots⟩ (w6.drewN k)):=LH (fun k=>⟨_,_,hK6.below (drawn_bl ⟨k,rfl⟩ _)⟩)
    clear hK6
    by_cases m1:0<x.most
    ·by_cases m2:x.most≤(st.pairs.length:Int)+1
     ·have em:=LH (show decide (0<x.most∧x.most≤((st.pairs++[(v1,v2)]).length:Int))=true from decide_eq_true ⟨m1,by simp;omega⟩)
      go_quiet (fail)
      go_wp2_with (fail)
      go_ret
      refine ⟨Eq.trans ?_ (congrArg (fun b=>Ending.returned (.bool b)) em.out.symm),HK6.out _⟩
      rfl
     ·have em:=LH (show decide (0<x.most∧x.most≤((st.pairs++[(v1,v2)]).length:Int))=false from decide_eq_false (fun e=>m2 (by have:=e.2;simp at this;omega)))
      have m2':decide (x.most≤(st.pairs.length:Int)+1)=false:=decide_eq_false m2
      clear m2
      go_quiet (fail)
      go_wp2_with (fail)
      go_ret
      refine ⟨Eq.trans ?_ (congrArg (fun b=>Ending.returned (.bool b)) em.out.symm),HK6.out _⟩
      rfl
    ·have em:=LH (show decide (0<x.most∧x.most≤((st.pairs++[(v1,v2)]).length:Int))=false from decide_eq_false (fun e=>m1 e.1))
     have m1':decide (0<x.most)=false:=decide_eq_false m1
     clear m1
     go_quiet (fail)
     go_wp2_with (fail)
     go_ret
     refine ⟨Eq.trans ?_ (congrArg (fun b=>Ending.returned (.bool b)) em.out.symm),HK6.out _⟩
     rfl
   |false=>
    rw[hv] at c4
    have hg:=HG.out
    clear HG
    rw[if_neg (show ¬x.values=true by rw[hv];exact Bool.false_ne_true)] at hg
    have HG:=LH hg
    clear hg
    clear hv
    have hg:=HG.out
    clear HG
    rw[go_bind] at hg
    have HG:=LH hg
    clear hg
    obtain ⟨hfin,rfl⟩:=Prod.mk.inj HG.out
    obtain ⟨rfl,rfl⟩:=Prod.mk.inj hfin
    obtain ⟨A,c,sv2,c5,hO,hF⟩:=meets_app F rb wb w0 x st v1 0 s1 w1 H1.out (by omega)
    have hsz:=H1.out.run.2.size
    have hb1:=(Below.refl w1.heap.size w1).alloc (Nat.le_refl _) (.cells #[.int .i64 v1, .int .i64 0] 52)
    have hzz:w0.heap.size≤(w1.alloc (.cells #[.int .i64 v1, .int .i64 0] 52)).heap.size:=by have:=hb1.size;omega
    have HN:=LH (cells2v_any w1 52 (.int .i64 v1) (.int .i64 0))
    have HOA:=LH hO
    have HF:=LH hF
    have hpl:st.pairs.length≤2000000000:=by omega
    have hm3:w1.cell? ⟨wb,3,none⟩=some (.int .i64 x.most):=by obtain ⟨pv,sv,hq⟩:=H1.out;exact hq.blk.cell 3
    clear hO hF hb1
    go_wp2_with (at_builtin;refine wpList_append_own _ rfl _ _ 40 rfl w0.heap.size 52 i0 (.agg #[.int .i64 0, .int .i64 0]) 2 16 Tryz.underlying40 hi0 hz0 hz1 hz2 rfl (by decide) _ _ _ rfl HOA.out ⟨w1.heap.size,0,none⟩ 1 1 [.int .i64 v1, .int .i64 0] rfl rfl HN.out (by simp[Value.oneCell']) (by unfold maxLen;omega) (by omega) hzz ?_;intro v' w5 hO5 hg5 _;have K5:=HF.out v' w5 hO5 hg5;have c55:=K5.out.1;have f55:=K5.out.2.1;obtain ⟨A5,c5',rfl⟩:=own_shape hO5;clear hO5 hg5)
    have hK6:=K5.out.2.2
    clear K5 c55 f55 HN HOA HF c5 hm3 hsz hzz
    generalize w5.setCell ⟨wb,5,none⟩ (.slice A5 (st.pairs.length+1) c5')=w6 at hK6⊢
    have d3:w6.cell? ⟨wb,3,none⟩=some (.int .i64 x.most):=hK6.blk.cell 3
    have d5:w6.cell? ⟨wb,5,none⟩=some (.slice A5 (st.pairs.length+1) c5'):=hK6.blk.cell 5
    have HK6:Hid (∀k,RW F rb w0 s1 wb x ⟨st.pairs++[(v1,0)],st.spots⟩ (w6.drewN k)):=LH (fun k=>⟨_,_,hK6.below (drawn_bl ⟨k,rfl⟩ _)⟩)
    clear hK6
    by_cases m1:0<x.most
    ·by_cases m2:x.most≤(st.pairs.length:Int)+1
     ·have em:=LH (show decide (0<x.most∧x.most≤((st.pairs++[(v1,0)]).length:Int))=true from decide_eq_true ⟨m1,by simp;omega⟩)
      go_quiet (fail)
      go_wp2_with (fail)
      go_ret
      refine ⟨Eq.trans ?_ (congrArg (fun b=>Ending.returned (.bool b)) em.out.symm),HK6.out _⟩
      rfl
     ·have em:=LH (show decide (0<x.most∧x.most≤((st.pairs++[(v1,0)]).length:Int))=false from decide_eq_false (fun e=>m2 (by have:=e.2;simp at this;omega)))
      have m2':decide (x.most≤(st.pairs.length:Int)+1)=false:=decide_eq_false m2
      clear m2
      go_quiet (fail)
      go_wp2_with (fail)
      go_ret
      refine ⟨Eq.trans ?_ (congrArg (fun b=>Ending.returned (.bool b)) em.out.symm),HK6.out _⟩
      rfl
    ·have em:=LH (show decide (0<x.most∧x.most≤((st.pairs++[(v1,0)]).length:Int))=false from decide_eq_false (fun e=>m1 e.1))
     have m1':decide (0<x.most)=false:=decide_eq_false m1
     clear m1
     go_quiet (fail)
     go_wp2_with (fail)
     go_ret
     refine ⟨Eq.trans ?_ (congrArg (fun b=>Ending.returned (.bool b)) em.out.symm),HK6.out _⟩
     rfl
end
def belowP (x:WQ) (g:Nat) (w:Int) (st:WAcc):Prog (WAcc×Bool):=
 if wKind w=2 then meetsP x (wAt w) st
 else if wKind w=3 then throughP x g (wAt w) st
 else if wKind w=4 then (readP (wAt w)).bind fun t=>throughP x g (wAt t) st
 else .ret (st,false)
theorem belowP_ok {x:WQ} {g:Nat} {w:Int} {st:WAcc} (hs:st.B):(belowP x g w st).Ok (fun r=>r.1.B):=
 ok_ite (fun _=>meetsP_ok (wAt_bd w).1 (wAt_bd w).2 hs) fun _=>ok_ite (fun _=>throughP_ok g _ _ (wAt_bd w).1 (wAt_bd w).2 hs) fun _=>ok_ite (fun _=>ok_bind (readP_ok (wAt_i64' w)) fun t _=>throughP_ok g _ _ (wAt_bd t).1 (wAt_bd t).2 hs) fun _=>hs
theorem walkGo_succ (x:WQ) (g f:Nat) (n d i:Int) (st:WAcc):walkGo x (throughP x g) (f+1) n d i st= .chk fun off=>if off=true then .ret (st,true) else
  (peekP (childAtI n d i)).bind fun w=> .chk fun off2=>if off2=true then .ret (st,true) else
  (belowP x g w ⟨st.pairs,st.spots++[(childAtI n d i,w)]⟩).bind fun r=>
  if r.2=true then .ret (r.1,true) else
  if x.back=true then (if i=0 then .ret (r.1,false) else (readP (keyAtI n i)).bind fun q=>if q≤x.lo then .ret (r.1,false) else walkGo x (throughP x g) f n d (wrap64 (i-1)) r.1)
  else if wrap64 (i+1)=d then .ret (r.1,false) else (readP (keyAtI n (wrap64 (i+1)))).bind fun q=>if x.hi<q then .ret (r.1,false) else walkGo x (throughP x g) f n d (wrap64 (i+1)) r.1:=rfl
theorem walkGo_off {x:WQ} {thr:Int→WAcc→Prog (WAcc×Bool)} {n d i:Int} {st:WAcc} {s:RunS} (h:s.off=true):∀f,(walkGo x thr f n d i st).go s=((st,true),s)
 |0=>rfl
 |f+1=>by unfold walkGo;rw[go_chk,if_pos h];rfl
section
variable (F:Nat→Prop) (rb wb:Nat) (w0:World)
def ThrC (x:WQ) (g:Nat):Prop:=∀(st st':WAcc) (bb:Bool) (s0 s':RunS) (n:Int) (w:World),RW F rb w0 s0 wb x st w→s0.Bd→(s0.off=false→s0.left<g)→0≤n→n≤65536→st.B→(throughP x g n st).go s0=((st',bb),s')→
  Calls Tryz.prog 200 #[.pointer (some ⟨wb,0,none⟩), .pointer (some ⟨rb,0,none⟩), .int .i64 n] w (MeetsAt F rb wb w0 x st' bb s')
theorem ThrC.use {F:Nat→Prop} {rb wb:Nat} {w0:World} {x:WQ} {g:Nat} (h:ThrC F rb wb w0 x g) (st st':WAcc) (bb:Bool) (s0 s':RunS) (n:Int) (w:World) (h0:RW F rb w0 s0 wb x st w) (d0:s0.Bd) (hf:s0.off=false→s0.left<g) (n0:0≤n) (n1:n≤65536) (hs:st.B) (hg:(throughP x g n st).go s0=((st',bb),s')):
  Calls Tryz.prog 200 #[.pointer (some ⟨wb,0,none⟩), .pointer (some ⟨rb,0,none⟩), .int .i64 n] w (MeetsAt F rb wb w0 x st' bb s'):=h st st' bb s0 s' n w h0 d0 hf n0 n1 hs hg
set_option maxRecDepth 100000 in
set_option maxHeartbeats 2000000 in
theorem belowR_any (x:WQ) (g:Nat) (hth:ThrC F rb wb w0 x g) (st st':WAcc) (bb:Bool) (s0 s':RunS) (v:Int) (w:World) (h:RW F rb w0 s0 wb x st w) (d0:s0.Bd) (ho:s0.off=false) (hx:x.B) (hv:i64B v) (hf:s0.left<g) (hs:st.B) (hg:(belowP x g v st).go s0=((st',bb),s')):
  Calls Tryz.prog 234 #[.pointer (some ⟨wb,0,none⟩), .pointer (some ⟨rb,0,none⟩), .int .i64 v] w (MeetsAt F rb wb w0 x st' bb s'):=by
 unfold belowP at hg
 have hv0:=hv.lo
 have hv1:=hv.hi
 obtain ⟨a0,a1⟩:=wAt_bd v
 have HG:=LH hg
 have H0:=LH h
 have HTH:=LH hth
 have HX:=LH hx
 have HF:=LH hf
 have HS:=LH hs
 have HO:=LH ho
 clear hg h hth hx hf hs ho
 go_enter Tryz.func234,Tryz.ntmps234
 go_wp2_with (fail)
 with_reducible refine (refAtw_any v _ hv0 hv1).mono ?_
 rintro e w1 ⟨rfl,rfl⟩
 go_wp2_with (fail)
 with_reducible refine (refKind_any v _ hv0 hv1).mono ?_
 rintro e w1 ⟨rfl,rfl⟩
 by_cases k2:wKind v=2
 ·have hg:=HG.out
  clear HG
  rw[if_pos k2] at hg
  have HG:=LH hg
  clear hg
  have e2:(wKind v==2)=true:=by simpa using k2
  clear k2
  go_wp2_with (fail)
  with_reducible refine (meetsR_any F rb wb w0 x st st' bb s0 s' (wAt v) _ H0.out d0 HO.out HX.out a0 a1 HG.out).mono ?_
  rintro e w2 ⟨rfl,h2⟩
  have H2:=LH h2
  clear h2
  go_wp2_with (fail)
  go_ret
  exact ⟨rfl,H2.out⟩
 ·have hg:=HG.out
  clear HG
  rw[if_neg k2] at hg
  have HG:=LH hg
  clear hg
  have e2:(wKind v==2)=false:=by simpa using k2
  clear k2
  by_cases k3:wKind v=3
  ·have hg:=HG.out
   clear HG
   rw[if_pos k3] at hg
   have HG:=LH hg
   clear hg
   have e3:(wKind v==3)=true:=by simpa using k3
   clear k3
   go_wp2_with (fail)
   with_reducible refine (HTH.out.use st st' bb s0 s' (wAt v) _ H0.out d0 (fun _=>HF.out) a0 a1 HS.out HG.out).mono ?_
   rintro e w2 ⟨rfl,h2⟩
   have H2:=LH h2
   clear h2
   go_wp2_with (fail)
   go_ret
   exact ⟨rfl,H2.out⟩
  ·have hg:=HG.out
   clear HG
   rw[if_neg k3] at hg
   have HG:=LH hg
   clear hg
   have e3:(wKind v==3)=false:=by simpa using k3
   clear k3
   by_cases k4:wKind v=4
   ·have hg:=HG.out
    clear HG
    rw[if_pos k4] at hg
    have HG:=LH hg
    clear hg
    have e4:(wKind v==4)=true:=by simpa using k4
    clear k4
    go_wp2_with (fail)
    obtain ⟨v1,s1,g1⟩:=go_ex (readP (wAt v)) s0
    have HL1:=LH (snd_left g1)
    have HT1:=LH (snd_tape g1)
    have hg:=HG.out
    clear HG
    rw[go_bind,g1] at hg
    have HG:=LH hg
    clear hg
    obtain ⟨b1,d1⟩:=go_okE g1 (readP_ok (wAt_i64' v)) d0
    have G1:=LH g1
    clear g1
    with_reducible refine (readR_any _ rb _ s0 s1 v1 (wAt v) _ H0.out.here d0 G1.out).mono ?_
    rintro e w1 ⟨rfl,h1⟩
    have H1:=LH (H0.out.run_ h1 HL1.out)
    clear h1 H0 G1
    obtain ⟨t0,t1⟩:=wAt_bd v1
    go_wp2_with (fail)
    with_reducible refine (refAtw_any v1 _ b1.lo b1.hi).mono ?_
    rintro e w2 ⟨rfl,rfl⟩
    go_wp2_with (fail)
    with_reducible refine (HTH.out.use st st' bb s1 s' (wAt v1) _ H1.out d1 (fun _=>Nat.lt_of_le_of_lt HL1.out HF.out) t0 t1 HS.out HG.out).mono ?_
    rintro e w2 ⟨rfl,h2⟩
    have H2:=LH h2
    clear h2
    go_wp2_with (fail)
    go_ret
    exact ⟨rfl,H2.out⟩
   ·have hg:=HG.out
    clear HG
    rw[if_neg k4] at hg
    have HG:=LH hg
    clear hg
    have e4:(wKind v==4)=false:=by simpa using k4
    clear k4
    obtain ⟨hfin,rfl⟩:=Prod.mk.inj HG.out
    obtain ⟨rfl,rfl⟩:=Prod.mk.inj hfin
    go_wp2_with (fail)
    go_ret
    exact ⟨rfl,H0.out⟩
theorem spots_app (x:WQ) (st:WAcc) (k v:Int) (s:RunS) (w:World) (h:RW F rb w0 s wb x st w) (hl:st.spots.length+1+s.left≤2000000000):∃A c pv,w.cell? ⟨wb,6,none⟩=some (.slice A st.spots.length c)∧
  (w.alloc (.cells #[.int .i64 k, .int .i64 v] 114)).ownsRow w0.heap.size 114 2 (.slice A st.spots.length c) st.spots.length (cellsP st.spots)∧
  ∀v' w5,w5.ownsRow w0.heap.size 114 2 v' (st.spots.length+1) (cellsP st.spots++[.int .i64 k, .int .i64 v])→(w.alloc (.cells #[.int .i64 k, .int .i64 v] 114)).grownBy w5 (Value.slice A st.spots.length c).ownBlock→
   Hid (w5.cell? ⟨wb,6,none⟩=some (.slice A st.spots.length c)∧w5.frozen? ⟨wb,6,none⟩=false∧RWQ F rb w0 s wb x ⟨st.pairs,st.spots++[(k,v)]⟩ pv v' (w5.setCell ⟨wb,6,none⟩ v')):=by
 obtain ⟨pv,sv,hq⟩:=h
 obtain ⟨A,c,rfl⟩:=own_shape hq.sps
 have hb:=(Below.refl w.heap.size w).alloc (Nat.le_refl _) (.cells #[.int .i64 k, .int .i64 v] 114)
 exact ⟨A,c,pv,hq.blk.cell 6,own_below hq.sps hb,fun v' w5 hO hg=>hq.apps hb hO hg hl⟩
theorem RW.cell {F:Nat→Prop} {rb wb:Nat} {w0 w:World} {s:RunS} {x:WQ} {st:WAcc} (h:RW F rb w0 s wb x st w):w.cell? ⟨wb,0,none⟩=some (.int .i64 x.lo)∧w.cell? ⟨wb,1,none⟩=some (.int .i64 x.hi)∧w.cell? ⟨wb,2,none⟩=some (.bool x.back):=by
 obtain ⟨pv,sv,hq⟩:=h;exact ⟨hq.blk.cell 0,hq.blk.cell 1,hq.blk.cell 2⟩
theorem RW.drew {F:Nat→Prop} {rb wb:Nat} {w0 w:World} {s:RunS} {x:WQ} {st:WAcc} (h:RW F rb w0 s wb x st w):RW F rb w0 s wb x st w.drew:=h.below (drawn_bl (Drawn.of w 1) _)
def RThr (x:WQ) (g:Nat) (n d:Int) (st':WAcc) (bb:Bool) (s':RunS) (T:List Int) (iv:Value) (wr:World):Prop:=∃(i:Int) (f:Nat) (s:RunS) (st:WAcc),iv= .int .i64 i∧i64B i∧(s.off=false→s.left<f)∧(s.off=false→s.left<g+1)∧s.tape=T∧RW F rb w0 s wb x st wr∧s.Bd∧st.B∧(walkGo x (throughP x g) f n d i st).go s=((st',bb),s')
theorem throughP_off {x:WQ} {n:Int} {st:WAcc} {s:RunS} (h:s.off=true):∀g,(throughP x g n st).go s=((st,true),s)
 |0=>rfl
 |g+1=>by
  unfold throughP
  rw[go_bind,go_off _ s h,walkGo_off h]
def RThrO (x:WQ) (st:WAcc) (s:RunS) (iv:Value) (wr:World):Prop:=∃i:Int,iv= .int .i64 i∧RW F rb w0 s wb x st wr∧wr.cell? ⟨rb,2,none⟩=some (.bool true)
set_option maxRecDepth 100000 in
set_option maxHeartbeats 2000000 in
theorem through_off_true (x:WQ) (hx:x.B) (hbk:x.back=true) (st:WAcc) (s0:RunS) (n:Int) (w:World) (h:RW F rb w0 s0 wb x st w) (d0:s0.Bd) (ho:s0.off=true) (hn:i64B n):
  Calls Tryz.prog 200 #[.pointer (some ⟨wb,0,none⟩), .pointer (some ⟨rb,0,none⟩), .int .i64 n] w (MeetsAt F rb wb w0 x st true s0):=by
 obtain ⟨xlo,xhi,xback⟩:=h.cell
 rw[hbk] at xback
 have hk:i64B x.hi:=hx.hi
 obtain ⟨v1,s1,g1⟩:=go_ex (routeP n x.hi) s0
 have hs1:s1=s0:=snd_off g1 ho
 subst hs1
 have hl:=hk.lo
 have hh:=hk.hi
 have H0:=LH h
 have G1:=LH g1
 have HN:=LH hn
 have HK:=LH hk
 clear h g1 hn hk
 go_enter Tryz.func200,Tryz.ntmps200
 go_wp2_with (fail)
 with_reducible refine (routeR_any _ rb _ s1 s1 v1 n x.hi _ H0.out.here d0 G1.out HN.out HK.out).mono ?_
 rintro e w1 ⟨rfl,h1⟩
 have H1:=LH (H0.out.run_ h1 (Nat.le_refl _))
 clear h1 H0 G1
 have c2:=off_cell H1.out.run ho
 clear ho xlo xhi xback
 generalize v1.2=i
 generalize v1.1=d
 go_wp2_with (fail)
 go_loopw [9] (fun iv wr=>RThrO F rb wb w0 x st s1 iv wr) (fun _ _=>0)
 case atStart=>unfold RThrO;exact ⟨i,rfl,H1.out,c2⟩
 case round=>
  obtain ⟨i2,rfl,h2,c2⟩:=hrel
  clear H1
  have H2:=LH h2
  clear h2
  go_wp2_with (fail)
  go_ret
  exact ⟨rfl,H2.out⟩
set_option maxRecDepth 100000 in
set_option maxHeartbeats 2000000 in
theorem through_off_false (x:WQ) (hx:x.B) (hbk:x.back=false) (st:WAcc) (s0:RunS) (n:Int) (w:World) (h:RW F rb w0 s0 wb x st w) (d0:s0.Bd) (ho:s0.off=true) (hn:i64B n):
  Calls Tryz.prog 200 #[.pointer (some ⟨wb,0,none⟩), .pointer (some ⟨rb,0,none⟩), .int .i64 n] w (MeetsAt F rb wb w0 x st true s0):=by
 obtain ⟨xlo,xhi,xback⟩:=h.cell
 rw[hbk] at xback
 have hk:i64B x.lo:=hx.lo
 obtain ⟨v1,s1,g1⟩:=go_ex (routeP n x.lo) s0
 have hs1:s1=s0:=snd_off g1 ho
 subst hs1
 have hl:=hk.lo
 have hh:=hk.hi
 have H0:=LH h
 have G1:=LH g1
 have HN:=LH hn
 have HK:=LH hk
 clear h g1 hn hk
 go_enter Tryz.func200,Tryz.ntmps200
 go_wp2_with (fail)
 with_reducible refine (routeR_any _ rb _ s1 s1 v1 n x.lo _ H0.out.here d0 G1.out HN.out HK.out).mono ?_
 rintro e w1 ⟨rfl,h1⟩
 have H1:=LH (H0.out.run_ h1 (Nat.le_refl _))
 clear h1 H0 G1
 have c2:=off_cell H1.out.run ho
 clear ho xlo xhi xback
 generalize v1.2=i
 generalize v1.1=d
 go_wp2_with (fail)
 go_loopw [9] (fun iv wr=>RThrO F rb wb w0 x st s1 iv wr) (fun _ _=>0)
 case atStart=>unfold RThrO;exact ⟨i,rfl,H1.out,c2⟩
 case round=>
  obtain ⟨i2,rfl,h2,c2⟩:=hrel
  clear H1
  have H2:=LH h2
  clear h2
  go_wp2_with (fail)
  go_ret
  exact ⟨rfl,H2.out⟩
set_option maxRecDepth 100000 in
set_option maxHeartbeats 8000000 in
theorem through_true (x:WQ) (hx:x.B) (hbk:x.back=true) (g:Nat) (hth:ThrC F rb wb w0 x g) (st st':WAcc) (bb:Bool) (s0 s':RunS) (n:Int) (w:World) (h:RW F rb w0 s0 wb x st w) (d0:s0.Bd) (ho0:s0.off=false) (hf:s0.left<g+1) (hn:i64B n) (hs:st.B) (hg:(throughP x (g+1) n st).go s0=((st',bb),s')):
  Calls Tryz.prog 200 #[.pointer (some ⟨wb,0,none⟩), .pointer (some ⟨rb,0,none⟩), .int .i64 n] w (MeetsAt F rb wb w0 x st' bb s'):=by
 obtain ⟨i0,hi0,hz0,hz1,hz2⟩:=info_parts info_spot
 unfold throughP at hg
 obtain ⟨xlo,xhi,xback⟩:=h.cell
 rw[hbk] at xback hg
 have hk:i64B x.hi:=hx.hi
 have ho0b:=hx.lo.lo
 have ho1b:=hx.lo.hi
 have hg:((routeP n x.hi).bind fun r=>walkGo x (throughP x g) (g+1) n r.1 r.2 st).go s0=((st',bb),s'):=hg
 obtain ⟨v1,s1,g1⟩:=go_ex (routeP n x.hi) s0
 have hls:=snd_left g1
 have hts:=snd_tape g1
 rw[go_bind,g1] at hg
 obtain ⟨b1,d1⟩:=go_okE g1 (routeP_ok hn) d0
 have hl:=hk.lo
 have hh:=hk.hi
 have H0:=LH h
 have G1:=LH g1
 have HN:=LH hn
 have HK:=LH hk
 have HG:=LH hg
 have HTH:=LH hth
 have HX:=LH hx
 have HBK:=LH hbk
 have HS0:=LH hs
 have HLS:=LH hls
 clear h g1 hn hk hg hth hx hbk hs hls
 go_enter Tryz.func200,Tryz.ntmps200
 go_wp2_with (fail)
 with_reducible refine (routeR_any _ rb _ s0 s1 v1 n x.hi _ H0.out.here d0 G1.out HN.out HK.out).mono ?_
 rintro e w1 ⟨rfl,h1⟩
 have H1:=LH (H0.out.run_ h1 HLS.out)
 have hf1:s1.left<g+1:=Nat.lt_of_le_of_lt HLS.out hf
 clear h1 H0 G1 HLS d0 hts ho0 hf
 have HD:=LH b1.1
 have hi1:=b1.2
 have hd0:=HD.out.lo
 have hd1:=HD.out.hi
 clear xlo xhi xback b1
 generalize v1.2=ii at HG hi1⊢
 generalize v1.1=d at HG HD hd0 hd1⊢
 go_wp2_with (fail)
 go_loopw [9] (fun iv wr=>RThr F rb wb w0 x g n d st' bb s' s1.tape iv wr) (fun _ wr=>leftW rb s1.tape.length wr)
 case atStart=>unfold RThr;exact ⟨ii,g+1,s1,st,rfl,hi1,fun _=>hf1,fun _=>hf1,rfl,H1.out,d1,HS0.out,HG.out⟩
 case round=>
  obtain ⟨i,f,s2,st2,rfl,hi2,hf2,hfg2,ht2,h2,d2,hs2,hg2⟩:=hrel
  clear H1 HG HS0 d1 hi1 hf1
  have H2:=LH h2
  have HG:=LH hg2
  have HF2:=LH hf2
  have HFG2:=LH hfg2
  have HT2:=LH ht2
  have HS2:=LH hs2
  have HI2:=LH hi2
  have hi0':=hi2.lo
  have hi1':=hi2.hi
  have H2r:=LH h2.run
  clear h2 hg2 hf2 hfg2 ht2 hs2 hi2
  cases ho:s2.off with
  |true=>
   have c2:=off_cell H2.out.run ho
   have hg:=HG.out
   clear HG
   rw[walkGo_off ho] at hg
   have HG:=LH hg
   clear hg
   clear ho
   obtain ⟨hfin,rfl⟩:=Prod.mk.inj HG.out
   obtain ⟨rfl,rfl⟩:=Prod.mk.inj hfin
   go_wp2_with (fail)
   go_ret
   exact ⟨rfl,H2.out⟩
  |false=>
   have c2:=off_cell H2.out.run ho
   have HO:=LH ho
   have hlt:=HF2.out ho
   have hlg:=HFG2.out ho
   obtain ⟨f,rfl⟩:∃k,f=k+1:=⟨f-1,by omega⟩
   have hg:=HG.out
   clear HG
   rw[walkGo_succ] at hg
   have HG:=LH hg
   clear hg
   have hg:=HG.out
   clear HG
   rw[go_chk] at hg
   have HG:=LH hg
   clear hg
   have hg:=HG.out
   clear HG
   rw[ho] at hg
   have HG:=LH hg
   clear hg
   clear ho
   have hg:=HG.out
   clear HG
   rw[if_neg Bool.false_ne_true] at hg
   have HG:=LH hg
   clear hg
   go_wp2_with (fail)
   with_reducible refine (childAt7_any n d i _).mono ?_
   rintro e w3 ⟨rfl,rfl⟩
   obtain ⟨v3,s3,g3⟩:=go_ex (peekP (childAtI n d i)) s2
   have hp3:=peek_lt g3 HO.out d2
   have HT3:=LH (snd_tape g3)
   have hg:=HG.out
   clear HG
   rw[go_bind,g3] at hg
   have HG:=LH hg
   clear hg
   obtain ⟨b3,d3⟩:=go_okE g3 (peekP_ok (childAt_i64 n d i)) d2
   have G3:=LH g3
   clear g3
   have hsl:st2.spots.length+1+s3.left≤2000000000:=by
    obtain ⟨pv,sv,hq⟩:=H2.out
    have:=hq.ls
    omega
   go_wp2_with (fail)
   with_reducible refine (peekR_any _ rb _ s2 s3 v3 (childAtI n d i) _ H2.out.here d2 G3.out (childAt_i64 n d i)).mono ?_
   rintro e w3 ⟨rfl,h3⟩
   have H3:=LH (H2.out.run_ h3 (Nat.le_of_lt hp3))
   clear h3 G3 c2
   have hg:=HG.out
   clear HG
   rw[go_chk] at hg
   have HG:=LH hg
   clear hg
   cases ho3:s3.off with
   |true=>
    have c2:=off_cell H3.out.run ho3
    have hg:=HG.out
    clear HG
    rw[ho3] at hg
    have HG:=LH hg
    clear hg
    clear ho3
    have hg:=HG.out
    clear HG
    rw[if_pos rfl] at hg
    have HG:=LH hg
    clear hg
    obtain ⟨hfin,rfl⟩:=Prod.mk.inj HG.out
    obtain ⟨rfl,rfl⟩:=Prod.mk.inj hfin
    go_wp2_with (fail)
    go_ret
    exact ⟨rfl,H3.out⟩
   |false=>
    have c2:=off_cell H3.out.run ho3
    have hg:=HG.out
    clear HG
    rw[ho3] at hg
    have HG:=LH hg
    clear hg
    have HO3:=LH ho3
    clear ho3
    have hg:=HG.out
    clear HG
    rw[if_neg Bool.false_ne_true] at hg
    have HG:=LH hg
    clear hg
    obtain ⟨A,c,pv2,c6,hO,hF⟩:=spots_app F rb wb w0 x st2 (childAtI n d i) v3 s3 w3 H3.out hsl
    have hsz:=H3.out.run.2.size
    have hb1:=(Below.refl w3.heap.size w3).alloc (Nat.le_refl _) (.cells #[.int .i64 (childAtI n d i), .int .i64 v3] 114)
    have hzz:w0.heap.size≤(w3.alloc (.cells #[.int .i64 (childAtI n d i), .int .i64 v3] 114)).heap.size:=by have:=hb1.size;omega
    have HN6:=LH (cells2v_any w3 114 (.int .i64 (childAtI n d i)) (.int .i64 v3))
    have HOA:=LH hO
    have HF6:=LH hF
    have hpl:st2.spots.length≤2000000000:=by omega
    have HS3:Hid (WAcc.B ⟨st2.pairs,st2.spots++[(childAtI n d i,v3)]⟩):=LH ⟨HS2.out.pairs,HS2.out.spots.snoc (childAt_i64 n d i) b3⟩
    clear hO hF hb1
    go_wp2_with (at_builtin;refine wpList_append_own _ rfl _ _ 41 rfl w0.heap.size 114 i0 (.agg #[.int .i64 0, .int .i64 0]) 2 16 Tryz.underlying41 hi0 hz0 hz1 hz2 rfl (by decide) _ _ _ rfl HOA.out ⟨w3.heap.size,0,none⟩ 1 1 [.int .i64 (childAtI n d i), .int .i64 v3] rfl rfl HN6.out (by simp[Value.oneCell']) (by unfold maxLen;omega) (by omega) hzz ?_;intro v' w5 hO5 hg5 _;have K5:=HF6.out v' w5 hO5 hg5;have c55:=K5.out.1;have f55:=K5.out.2.1;obtain ⟨A5,c5',rfl⟩:=own_shape hO5;clear hO5 hg5)
    have hK6:=K5.out.2.2
    clear K5 c55 f55 HN6 HOA HF6 c6 hsz hzz c2 H3 H2
    generalize w5.setCell ⟨wb,6,none⟩ (.slice A5 (st2.spots.length+1) c5')=w6 at hK6⊢
    have H6:Hid (RW F rb w0 s3 wb x ⟨st2.pairs,st2.spots++[(childAtI n d i,v3)]⟩ w6):=LH ⟨_,_,hK6⟩
    clear hK6
    obtain ⟨⟨st7,b7⟩,s7,g7⟩:=go_ex (belowP x g v3 ⟨st2.pairs,st2.spots++[(childAtI n d i,v3)]⟩) s3
    have HL7:=LH (snd_left g7)
    have HT7:=LH (snd_tape g7)
    have hg:=HG.out
    clear HG
    rw[go_bind,g7] at hg
    have HG:=LH hg
    clear hg
    obtain ⟨hs7,d7⟩:=go_okE g7 (belowP_ok HS3.out) d3
    have HS7:=LH hs7
    have G7:=LH g7
    have HS3b:=HS3
    clear g7 hs7 HS3
    with_reducible refine (belowR_any F rb wb w0 x g HTH.out _ st7 b7 s3 s7 v3 _ H6.out d3 HO3.out HX.out b3 (by omega) HS3b.out G7.out).mono ?_
    rintro e w7 ⟨rfl,h7⟩
    have H7:=LH h7
    clear h7 G7 H6
    cases b7 with
    |true=>
     have hg:=HG.out
     clear HG
     rw[if_pos rfl] at hg
     have HG:=LH hg
     clear hg
     obtain ⟨hfin,rfl⟩:=Prod.mk.inj HG.out
     obtain ⟨rfl,rfl⟩:=Prod.mk.inj hfin
     go_wp2_with (fail)
     go_ret
     exact ⟨rfl,H7.out⟩
    |false=>
     have hg:=HG.out
     clear HG
     rw[if_neg Bool.false_ne_true] at hg
     have HG:=LH hg
     clear hg
     obtain ⟨xlo,xhi,xback⟩:=H7.out.cell
     rw[HBK.out] at xback
     have hg:=HG.out
     clear HG
     rw[if_pos HBK.out] at hg
     have HG:=LH hg
     clear hg
     by_cases z:i=0
     ·have hg:=HG.out
      clear HG
      rw[if_pos z] at hg
      have HG:=LH hg
      clear hg
      have ez:(i==0)=true:=by simpa using z
      clear z
      obtain ⟨hfin,rfl⟩:=Prod.mk.inj HG.out
      obtain ⟨rfl,rfl⟩:=Prod.mk.inj hfin
      go_wp2_with (fail)
      go_quiet (fail)
      go_wp2_with (fail)
      go_ret
      exact ⟨rfl,H7.out.below (drawn_bl ⟨_,rfl⟩ _)⟩
     ·have hg:=HG.out
      clear HG
      rw[if_neg z] at hg
      have HG:=LH hg
      clear hg
      have ez:(i==0)=false:=by simpa using z
      clear z
      obtain ⟨v9,s9,g9⟩:=go_ex (readP (keyAtI n i)) s7
      have HL9:=LH (snd_left g9)
      have HT9:=LH (snd_tape g9)
      have hg:=HG.out
      clear HG
      rw[go_bind,g9] at hg
      have HG:=LH hg
      clear hg
      obtain ⟨b9,d9⟩:=go_okE g9 (readP_ok (keyAt_i64 n i)) d7
      have G9:=LH g9
      have hb90:=b9.lo
      have hb91:=b9.hi
      clear g9
      have HD7:=LH H7.out.drew
      have tst:w7.drew.cell? ⟨wb,0,none⟩=some (.int .i64 x.lo):=xlo
      go_wp2_with (fail)
      go_region_held3 (fun w'=>w'.cell? ⟨wb,0,none⟩=some (.int .i64 x.lo)) (first|go_keep|exact K1.out) (first|(go_at_call 231;(with_reducible refine (keyAt7_any n i _).mono ?_);rintro e w8 ⟨rfl,rfl⟩)|(go_at_call 226;(with_reducible refine (readR_any _ rb _ s7 s9 v9 (keyAtI n i) _ HD7.out.here d7 G9.out).mono ?_);rintro e w9 ⟨rfl,h9⟩;have H9:=LH (HD7.out.run_ h9 HL9.out);have K1:Hid (w9.cell? ⟨wb,0,none⟩=some (.int .i64 x.lo)):=LH (H9.out.cell.1);clear h9))
      all_goals
       by_cases kq:v9≤x.lo
       ·have hg:=HG.out
        clear HG
        rw[if_pos kq] at hg
        have HG:=LH hg
        clear hg
        obtain ⟨hfin,rfl⟩:=Prod.mk.inj HG.out
        obtain ⟨rfl,rfl⟩:=Prod.mk.inj hfin
        go_wp2_with (fail)
        go_ret
        exact ⟨rfl,H9.out⟩
       ·have hg:=HG.out
        clear HG
        rw[if_neg kq] at hg
        have HG:=LH hg
        clear hg
        have kq2:x.lo<v9:=by omega
        go_wp2_with (fail)
        go_roundw
        case rel=>unfold RThr;exact ⟨wrap64 (i-1),f,s9,st7,rfl,wrap_bd _,fun _=>by have:=HL9.out;have:=HL7.out;omega,fun _=>by have:=HL9.out;have:=HL7.out;omega,by rw[HT9.out,HT7.out,HT3.out,HT2.out],H9.out,d9,HS7.out,HG.out⟩
        case measure=>
         have e9:=leftW_eq H9.out.run
         have e2:=leftW_eq (show RAt F rb w0 s2 wr from H2r.out)
         rw[HT9.out,HT7.out,HT3.out,HT2.out] at e9
         rw[HT2.out] at e2
         have:=HL9.out
         have:=HL7.out
         omega
set_option maxRecDepth 100000 in
set_option maxHeartbeats 8000000 in
theorem through_false (x:WQ) (hx:x.B) (hbk:x.back=false) (g:Nat) (hth:ThrC F rb wb w0 x g) (st st':WAcc) (bb:Bool) (s0 s':RunS) (n:Int) (w:World) (h:RW F rb w0 s0 wb x st w) (d0:s0.Bd) (ho0:s0.off=false) (hf:s0.left<g+1) (hn:i64B n) (hs:st.B) (hg:(throughP x (g+1) n st).go s0=((st',bb),s')):
  Calls Tryz.prog 200 #[.pointer (some ⟨wb,0,none⟩), .pointer (some ⟨rb,0,none⟩), .int .i64 n] w (MeetsAt F rb wb w0 x st' bb s'):=by
 obtain ⟨i0,hi0,hz0,hz1,hz2⟩:=info_parts info_spot
 unfold throughP at hg
 obtain ⟨xlo,xhi,xback⟩:=h.cell
 rw[hbk] at xback hg
 have hk:i64B x.lo:=hx.lo
 have ho0b:=hx.hi.lo
 have ho1b:=hx.hi.hi
 have hg:((routeP n x.lo).bind fun r=>walkGo x (throughP x g) (g+1) n r.1 r.2 st).go s0=((st',bb),s'):=hg
 obtain ⟨v1,s1,g1⟩:=go_ex (routeP n x.lo) s0
 have hls:=snd_left g1
 have hts:=snd_tape g1
 rw[go_bind,g1] at hg
 obtain ⟨b1,d1⟩:=go_okE g1 (routeP_ok hn) d0
 have hl:=hk.lo
 have hh:=hk.hi
 have H0:=LH h
 have G1:=LH g1
 have HN:=LH hn
 have HK:=LH hk
 have HG:=LH hg
 have HTH:=LH hth
 have HX:=LH hx
 have HBK:=LH hbk
 have HS0:=LH hs
 have HLS:=LH hls
 clear h g1 hn hk hg hth hx hbk hs hls
 go_enter Tryz.func200,Tryz.ntmps200
 go_wp2_with (fail)
 with_reducible refine (routeR_any _ rb _ s0 s1 v1 n x.lo _ H0.out.here d0 G1.out HN.out HK.out).mono ?_
 rintro e w1 ⟨rfl,h1⟩
 have H1:=LH (H0.out.run_ h1 HLS.out)
 have hf1:s1.left<g+1:=Nat.lt_of_le_of_lt HLS.out hf
 clear h1 H0 G1 HLS d0 hts ho0 hf
 have HD:=LH b1.1
 have hi1:=b1.2
 have hd0:=HD.out.lo
 have hd1:=HD.out.hi
 clear xlo xhi xback b1
 generalize v1.2=ii at HG hi1⊢
 generalize v1.1=d at HG HD hd0 hd1⊢
 go_wp2_with (fail)
 go_loopw [9] (fun iv wr=>RThr F rb wb w0 x g n d st' bb s' s1.tape iv wr) (fun _ wr=>leftW rb s1.tape.length wr)
 case atStart=>unfold RThr;exact ⟨ii,g+1,s1,st,rfl,hi1,fun _=>hf1,fun _=>hf1,rfl,H1.out,d1,HS0.out,HG.out⟩
 case round=>
  obtain ⟨i,f,s2,st2,rfl,hi2,hf2,hfg2,ht2,h2,d2,hs2,hg2⟩:=hrel
  clear H1 HG HS0 d1 hi1 hf1
  have H2:=LH h2
  have HG:=LH hg2
  have HF2:=LH hf2
  have HFG2:=LH hfg2
  have HT2:=LH ht2
  have HS2:=LH hs2
  have HI2:=LH hi2
  have hi0':=hi2.lo
  have hi1':=hi2.hi
  have H2r:=LH h2.run
  clear h2 hg2 hf2 hfg2 ht2 hs2 hi2
  cases ho:s2.off with
  |true=>
   have c2:=off_cell H2.out.run ho
   have hg:=HG.out
   clear HG
   rw[walkGo_off ho] at hg
   have HG:=LH hg
   clear hg
   clear ho
   obtain ⟨hfin,rfl⟩:=Prod.mk.inj HG.out
   obtain ⟨rfl,rfl⟩:=Prod.mk.inj hfin
   go_wp2_with (fail)
   go_ret
   exact ⟨rfl,H2.out⟩
  |false=>
   have c2:=off_cell H2.out.run ho
   have HO:=LH ho
   have hlt:=HF2.out ho
   have hlg:=HFG2.out ho
   obtain ⟨f,rfl⟩:∃k,f=k+1:=⟨f-1,by omega⟩
   have hg:=HG.out
   clear HG
   rw[walkGo_succ] at hg
   have HG:=LH hg
   clear hg
   have hg:=HG.out
   clear HG
   rw[go_chk] at hg
   have HG:=LH hg
   clear hg
   have hg:=HG.out
   clear HG
   rw[ho] at hg
   have HG:=LH hg
   clear hg
   clear ho
   have hg:=HG.out
   clear HG
   rw[if_neg Bool.false_ne_true] at hg
   have HG:=LH hg
   clear hg
   go_wp2_with (fail)
   with_reducible refine (childAt7_any n d i _).mono ?_
   rintro e w3 ⟨rfl,rfl⟩
   obtain ⟨v3,s3,g3⟩:=go_ex (peekP (childAtI n d i)) s2
   have hp3:=peek_lt g3 HO.out d2
   have HT3:=LH (snd_tape g3)
   have hg:=HG.out
   clear HG
   rw[go_bind,g3] at hg
   have HG:=LH hg
   clear hg
   obtain ⟨b3,d3⟩:=go_okE g3 (peekP_ok (childAt_i64 n d i)) d2
   have G3:=LH g3
   clear g3
   have hsl:st2.spots.length+1+s3.left≤2000000000:=by
    obtain ⟨pv,sv,hq⟩:=H2.out
    have:=hq.ls
    omega
   go_wp2_with (fail)
   with_reducible refine (peekR_any _ rb _ s2 s3 v3 (childAtI n d i) _ H2.out.here d2 G3.out (childAt_i64 n d i)).mono ?_
   rintro e w3 ⟨rfl,h3⟩
   have H3:=LH (H2.out.run_ h3 (Nat.le_of_lt hp3))
   clear h3 G3 c2
   have hg:=HG.out
   clear HG
   rw[go_chk] at hg
   have HG:=LH hg
   clear hg
   cases ho3:s3.off with
   |true=>
    have c2:=off_cell H3.out.run ho3
    have hg:=HG.out
    clear HG
    rw[ho3] at hg
    have HG:=LH hg
    clear hg
    clear ho3
    have hg:=HG.out
    clear HG
    rw[if_pos rfl] at hg
    have HG:=LH hg
    clear hg
    obtain ⟨hfin,rfl⟩:=Prod.mk.inj HG.out
    obtain ⟨rfl,rfl⟩:=Prod.mk.inj hfin
    go_wp2_with (fail)
    go_ret
    exact ⟨rfl,H3.out⟩
   |false=>
    have c2:=off_cell H3.out.run ho3
    have hg:=HG.out
    clear HG
    rw[ho3] at hg
    have HG:=LH hg
    clear hg
    have HO3:=LH ho3
    clear ho3
    have hg:=HG.out
    clear HG
    rw[if_neg Bool.false_ne_true] at hg
    have HG:=LH hg
    clear hg
    obtain ⟨A,c,pv2,c6,hO,hF⟩:=spots_app F rb wb w0 x st2 (childAtI n d i) v3 s3 w3 H3.out hsl
    have hsz:=H3.out.run.2.size
    have hb1:=(Below.refl w3.heap.size w3).alloc (Nat.le_refl _) (.cells #[.int .i64 (childAtI n d i), .int .i64 v3] 114)
    have hzz:w0.heap.size≤(w3.alloc (.cells #[.int .i64 (childAtI n d i), .int .i64 v3] 114)).heap.size:=by have:=hb1.size;omega
    have HN6:=LH (cells2v_any w3 114 (.int .i64 (childAtI n d i)) (.int .i64 v3))
    have HOA:=LH hO
    have HF6:=LH hF
    have hpl:st2.spots.length≤2000000000:=by omega
    have HS3:Hid (WAcc.B ⟨st2.pairs,st2.spots++[(childAtI n d i,v3)]⟩):=LH ⟨HS2.out.pairs,HS2.out.spots.snoc (childAt_i64 n d i) b3⟩
    clear hO hF hb1
    go_wp2_with (at_builtin;refine wpList_append_own _ rfl _ _ 41 rfl w0.heap.size 114 i0 (.agg #[.int .i64 0, .int .i64 0]) 2 16 Tryz.underlying41 hi0 hz0 hz1 hz2 rfl (by decide) _ _ _ rfl HOA.out ⟨w3.heap.size,0,none⟩ 1 1 [.int .i64 (childAtI n d i), .int .i64 v3] rfl rfl HN6.out (by simp[Value.oneCell']) (by unfold maxLen;omega) (by omega) hzz ?_;intro v' w5 hO5 hg5 _;have K5:=HF6.out v' w5 hO5 hg5;have c55:=K5.out.1;have f55:=K5.out.2.1;obtain ⟨A5,c5',rfl⟩:=own_shape hO5;clear hO5 hg5)
    have hK6:=K5.out.2.2
    clear K5 c55 f55 HN6 HOA HF6 c6 hsz hzz c2 H3 H2
    generalize w5.setCell ⟨wb,6,none⟩ (.slice A5 (st2.spots.length+1) c5')=w6 at hK6⊢
    have H6:Hid (RW F rb w0 s3 wb x ⟨st2.pairs,st2.spots++[(childAtI n d i,v3)]⟩ w6):=LH ⟨_,_,hK6⟩
    clear hK6
    obtain ⟨⟨st7,b7⟩,s7,g7⟩:=go_ex (belowP x g v3 ⟨st2.pairs,st2.spots++[(childAtI n d i,v3)]⟩) s3
    have HL7:=LH (snd_left g7)
    have HT7:=LH (snd_tape g7)
    have hg:=HG.out
    clear HG
    rw[go_bind,g7] at hg
    have HG:=LH hg
    clear hg
    obtain ⟨hs7,d7⟩:=go_okE g7 (belowP_ok HS3.out) d3
    have HS7:=LH hs7
    have G7:=LH g7
    have HS3b:=HS3
    clear g7 hs7 HS3
    with_reducible refine (belowR_any F rb wb w0 x g HTH.out _ st7 b7 s3 s7 v3 _ H6.out d3 HO3.out HX.out b3 (by omega) HS3b.out G7.out).mono ?_
    rintro e w7 ⟨rfl,h7⟩
    have H7:=LH h7
    clear h7 G7 H6
    cases b7 with
    |true=>
     have hg:=HG.out
     clear HG
     rw[if_pos rfl] at hg
     have HG:=LH hg
     clear hg
     obtain ⟨hfin,rfl⟩:=Prod.mk.inj HG.out
     obtain ⟨rfl,rfl⟩:=Prod.mk.inj hfin
     go_wp2_with (fail)
     go_ret
     exact ⟨rfl,H7.out⟩
    |false=>
     have hg:=HG.out
     clear HG
     rw[if_neg Bool.false_ne_true] at hg
     have HG:=LH hg
     clear hg
     obtain ⟨xlo,xhi,xback⟩:=H7.out.cell
     rw[HBK.out] at xback
     have hg:=HG.out
     clear HG
     rw[if_neg (show ¬x.back=true by rw[HBK.out];exact Bool.false_ne_true)] at hg
     have HG:=LH hg
     clear hg
     go_wp2_with (fail)
     generalize hj:wrap64 (i+1)=j at HG⊢
     have hjb:=wrap_bd (i+1)
     rw[hj] at hjb
     have hj0:=hjb.lo
     have hj1:=hjb.hi
     by_cases z:j=d
     ·have hg:=HG.out
      clear HG
      rw[if_pos z] at hg
      have HG:=LH hg
      clear hg
      have ez:(j==d)=true:=by simpa using z
      clear z
      obtain ⟨hfin,rfl⟩:=Prod.mk.inj HG.out
      obtain ⟨rfl,rfl⟩:=Prod.mk.inj hfin
      go_wp2_with (fail)
      go_quiet (fail)
      go_wp2_with (fail)
      go_ret
      exact ⟨rfl,H7.out.below (drawn_bl ⟨_,rfl⟩ _)⟩
     ·have hg:=HG.out
      clear HG
      rw[if_neg z] at hg
      have HG:=LH hg
      clear hg
      have ez:(j==d)=false:=by simpa using z
      clear z
      obtain ⟨v9,s9,g9⟩:=go_ex (readP (keyAtI n j)) s7
      have HL9:=LH (snd_left g9)
      have HT9:=LH (snd_tape g9)
      have hg:=HG.out
      clear HG
      rw[go_bind,g9] at hg
      have HG:=LH hg
      clear hg
      obtain ⟨b9,d9⟩:=go_okE g9 (readP_ok (keyAt_i64 n j)) d7
      have G9:=LH g9
      have hb90:=b9.lo
      have hb91:=b9.hi
      clear g9
      have HD7:=LH H7.out.drew
      have tst:w7.drew.cell? ⟨wb,1,none⟩=some (.int .i64 x.hi):=xhi
      go_wp2_with (fail)
      go_region_held3 (fun w'=>w'.cell? ⟨wb,1,none⟩=some (.int .i64 x.hi)) (first|go_keep|exact K1.out) (first|(go_at_call 231;(with_reducible refine (keyAt7_any n j _).mono ?_);rintro e w8 ⟨rfl,rfl⟩)|(go_at_call 226;(with_reducible refine (readR_any _ rb _ s7 s9 v9 (keyAtI n j) _ HD7.out.here d7 G9.out).mono ?_);rintro e w9 ⟨rfl,h9⟩;have H9:=LH (HD7.out.run_ h9 HL9.out);have K1:Hid (w9.cell? ⟨wb,1,none⟩=some (.int .i64 x.hi)):=LH (H9.out.cell.2.1);clear h9))
      all_goals
       by_cases kq:x.hi<v9
       ·have hg:=HG.out
        clear HG
        rw[if_pos kq] at hg
        have HG:=LH hg
        clear hg
        obtain ⟨hfin,rfl⟩:=Prod.mk.inj HG.out
        obtain ⟨rfl,rfl⟩:=Prod.mk.inj hfin
        go_wp2_with (fail)
        go_ret
        exact ⟨rfl,H9.out⟩
       ·have hg:=HG.out
        clear HG
        rw[if_neg kq] at hg
        have HG:=LH hg
        clear hg
        have kq2:v9≤x.hi:=by omega
        go_wp2_with (fail)
        go_roundw
        case rel=>unfold RThr;exact ⟨j,f,s9,st7,rfl,hjb,fun _=>by have:=HL9.out;have:=HL7.out;omega,fun _=>by have:=HL9.out;have:=HL7.out;omega,by rw[HT9.out,HT7.out,HT3.out,HT2.out],H9.out,d9,HS7.out,HG.out⟩
        case measure=>
         have e9:=leftW_eq H9.out.run
         have e2:=leftW_eq (show RAt F rb w0 s2 wr from H2r.out)
         rw[HT9.out,HT7.out,HT3.out,HT2.out] at e9
         rw[HT2.out] at e2
         have:=HL9.out
         have:=HL7.out
         omega
theorem throughR_any (x:WQ) (hx:x.B):∀(g:Nat),ThrC F rb wb w0 x g:=by
 intro g
 induction g with
 |zero=>
  intro st st' bb s0 s' n w h d0 hf n0 n1 hs hg
  cases ho:s0.off with
  |false=>exact absurd (hf ho) (by omega)
  |true=>
   rw[throughP_off ho] at hg
   obtain ⟨h1,rfl⟩:=Prod.mk.inj hg
   obtain ⟨rfl,rfl⟩:=Prod.mk.inj h1
   cases hbk:x.back with
   |true=>exact through_off_true F rb wb w0 x hx hbk st s0 n w h d0 ho (at_i64' n0 n1)
   |false=>exact through_off_false F rb wb w0 x hx hbk st s0 n w h d0 ho (at_i64' n0 n1)
 |succ g ih=>
  intro st st' bb s0 s' n w h d0 hf n0 n1 hs hg
  cases ho:s0.off with
  |false=>
   cases hbk:x.back with
   |true=>exact through_true F rb wb w0 x hx hbk g ih st st' bb s0 s' n w h d0 ho (hf ho) (at_i64' n0 n1) hs hg
   |false=>exact through_false F rb wb w0 x hx hbk g ih st st' bb s0 s' n w h d0 ho (hf ho) (at_i64' n0 n1) hs hg
  |true=>
   rw[throughP_off ho] at hg
   obtain ⟨h1,rfl⟩:=Prod.mk.inj hg
   obtain ⟨rfl,rfl⟩:=Prod.mk.inj h1
   cases hbk:x.back with
   |true=>exact through_off_true F rb wb w0 x hx hbk st s0 n w h d0 ho (at_i64' n0 n1)
   |false=>exact through_off_false F rb wb w0 x hx hbk st s0 n w h d0 ho (at_i64' n0 n1)
end
theorem markGo_off {sf:Nat} {mk:Int→Prog Int} {n d i all:Int} {s:RunS} (h:s.off=true):∀f,(markGo sf mk f n d i all).go s=(all,s)
 |0=>rfl
 |f+1=>by
  unfold markGo
  rw[go_chk,if_neg (fun e=>by rw[h] at e;exact Bool.false_ne_true e.2.symm)];rfl
theorem markGo_end {sf:Nat} {mk:Int→Prog Int} {n d i all:Int} {s:RunS} (h:¬i<d):∀f,(markGo sf mk f n d i all).go s=(all,s)
 |0=>rfl
 |f+1=>by
  unfold markGo
  rw[go_chk,if_neg (fun e=>h e.1)];rfl
theorem ask_off {α:Type} {q:Ask} {k:Int→Prog α} {s:RunS} (h:s.off=true):(Prog.ask q k).go s=(k 0).go s:=by rw[go_ask,askS_off h]
theorem read_off {a:Int} {s:RunS} (h:s.off=true):(readP a).go s=(0,s):=by unfold readP;rw[ask_off h];rfl
theorem write_off {a x:Int} {s:RunS} (h:s.off=true):(writeP a x).go s=((),s):=by unfold writeP;rw[ask_off h];rfl
theorem markP_off {n:Int} {s:RunS} (h:s.off=true):∀g,(markP g n).go s=(0,s)
 |0=>rfl
 |g+1=>by
  unfold markP
  rw[go_bind,read_off h]
  show ((if (0:Int)=0 then _ else _:Prog Int)).go s=_
  rw[if_pos rfl,go_bind,write_off h,go_bind,read_off h,go_bind,markGo_off h,go_bind,write_off h]
  rfl
theorem slot_lt {f:Nat} {a v:Int} {s s':RunS} (hg:(slotP f a).go s=(v,s')) (h:s.off=false) (d:s.Bd):s'.left<s.left:=by
 have:=readP_lt a (slotGo a f) h d
 rw[show ((readP a).bind (slotGo a f)).go s=(v,s') from hg] at this
 exact this
section
variable (F:Nat→Prop) (rb:Nat) (w0:World)
def MarkC (g:Nat):Prop:=∀(s0 s':RunS) (v n:Int) (w:World),RAt F rb w0 s0 w→s0.Bd→(s0.off=false→s0.left<g)→0≤n→n≤65536→(markP g n).go s0=(v,s')→
  Calls Tryz.prog 202 #[.pointer (some ⟨rb,0,none⟩), .int .i64 n] w fun e w'=>e= .returned (.int .i64 v)∧RAt F rb w0 s' w'
theorem MarkC.use {F:Nat→Prop} {rb:Nat} {w0:World} {g:Nat} (h:MarkC F rb w0 g) (s0 s':RunS) (v n:Int) (w:World) (h0:RAt F rb w0 s0 w) (d0:s0.Bd) (hf:s0.off=false→s0.left<g) (n0:0≤n) (n1:n≤65536) (hg:(markP g n).go s0=(v,s')):
  Calls Tryz.prog 202 #[.pointer (some ⟨rb,0,none⟩), .int .i64 n] w fun e w'=>e= .returned (.int .i64 v)∧RAt F rb w0 s' w':=h s0 s' v n w h0 d0 hf n0 n1 hg
def RMarkO (s:RunS) (av iv:Value) (wr:World):Prop:=av= .int .i64 0∧iv= .int .i64 0∧RAt F rb w0 s wr
set_option maxRecDepth 100000 in
set_option maxHeartbeats 2000000 in
theorem mark_off_any (s:RunS) (n:Int) (w:World) (h:RAt F rb w0 s w) (d0:s.Bd) (ho:s.off=true) (n0:0≤n) (n1:n≤65536):
  Calls Tryz.prog 202 #[.pointer (some ⟨rb,0,none⟩), .int .i64 n] w fun e w'=>e= .returned (.int .i64 0)∧RAt F rb w0 s w':=by
 have HO:=LH ho
 have H:=LH h
 clear ho h
 go_enter Tryz.func202,Tryz.ntmps202
 go_wp2_with (fail)
 with_reducible refine (readR_any F rb w0 s s 0 (n+4) _ H.out d0 (read_off HO.out)).mono ?_
 rintro e w1 ⟨rfl,h1⟩
 have H1:=LH h1
 clear h1 H
 go_wp2_with (fail)
 with_reducible refine (writeR_any F rb w0 s s () (n+2) 1 _ H1.out d0 (write_off HO.out)).mono ?_
 rintro e w2 ⟨rfl,h2⟩
 have H2:=LH h2
 clear h2 H1
 go_wp2_with (fail)
 with_reducible refine (readR_any F rb w0 s s 0 n _ H2.out d0 (read_off HO.out)).mono ?_
 rintro e w3 ⟨rfl,h3⟩
 have H3:=LH h3
 clear h3 H2
 go_wp2_with (fail)
 go_loopw [7,8] (fun av iv wr=>RMarkO F rb w0 s av iv wr) (fun _ _ _=>0)
 case atStart=>unfold RMarkO;exact ⟨rfl,rfl,H3.out⟩
 case round=>
  obtain ⟨rfl,rfl,h4⟩:=hrel
  clear H3
  have H4:=LH h4
  clear h4
  have c2:=off_cell H4.out HO.out
  go_wp2_with (fail)
  with_reducible refine (writeR_any F rb w0 s s () (n+4) 1 _ H4.out d0 (write_off HO.out)).mono ?_
  rintro e w5 ⟨rfl,h5⟩
  have H5:=LH h5
  clear h5 H4
  go_wp2_with (fail)
  go_ret
  exact ⟨rfl,H5.out⟩
def RMark (g:Nat) (n d vm:Int) (sm:RunS) (T:List Int) (av iv:Value) (wr:World):Prop:=∃(i all:Int) (f:Nat) (s:RunS),av= .int .i64 all∧iv= .int .i64 i∧0≤i∧i≤9223372036854775807∧i64B all∧(s.off=false→s.left<f)∧(s.off=false→s.left<g+1)∧s.tape=T∧RAt F rb w0 s wr∧s.Bd∧(markGo (g+1) (markP g) f n d i all).go s=(vm,sm)
set_option maxRecDepth 100000 in
set_option maxHeartbeats 4000000 in
theorem mark_on_any (g:Nat) (hmk:MarkC F rb w0 g) (s0 s':RunS) (v n:Int) (w:World) (h:RAt F rb w0 s0 w) (d0:s0.Bd) (ho:s0.off=false) (hf:s0.left<g+1) (n0:0≤n) (n1:n≤65536) (hg:(markP (g+1) n).go s0=(v,s')):
  Calls Tryz.prog 202 #[.pointer (some ⟨rb,0,none⟩), .int .i64 n] w fun e w'=>e= .returned (.int .i64 v)∧RAt F rb w0 s' w':=by
 unfold markP at hg
 have hn:=at_i64' n0 n1
 have HG:=LH hg
 have H0:=LH h
 have HMK:=LH hmk
 have HF:=LH hf
 clear hg h hmk hf
 clear ho
 go_enter Tryz.func202,Tryz.ntmps202
 obtain ⟨v1,s1,g1⟩:=go_ex (readP (n+4)) s0
 have HL1:=LH (snd_left g1)
 have HT1:=LH (snd_tape g1)
 have hg:=HG.out
 clear HG
 rw[go_bind,g1] at hg
 have HG:=LH hg
 clear hg
 obtain ⟨b1,d1⟩:=go_okE g1 (readP_ok (at_i64 n0 n1 (by decide) (by decide))) d0
 have G1:=LH g1
 clear g1
 go_wp2_with (fail)
 with_reducible refine (readR_any F rb w0 s0 s1 v1 (n+4) _ H0.out d0 G1.out).mono ?_
 rintro e w1 ⟨rfl,h1⟩
 have H1:=LH h1
 clear h1 H0 G1
 have hb10:=b1.lo
 have hb11:=b1.hi
 by_cases z:v1=0
 ·have hg:=HG.out
  clear HG
  rw[if_pos z] at hg
  have HG:=LH hg
  clear hg
  have ez:(v1 !=0)=false:=by simpa using z
  clear z
  obtain ⟨v2,s2,g2⟩:=go_ex (writeP (n+2) 1) s1
  have HL2:=LH (snd_left g2)
  have HT2:=LH (snd_tape g2)
  have hg:=HG.out
  clear HG
  rw[go_bind,g2] at hg
  have HG:=LH hg
  clear hg
  obtain ⟨b2,d2⟩:=go_okE g2 (writeP_ok (at_i64 n0 n1 (by decide) (by decide)) one_i64) d1
  have G2:=LH g2
  clear g2
  go_wp2_with (fail)
  with_reducible refine (writeR_any F rb w0 s1 s2 v2 (n+2) 1 _ H1.out d1 G2.out).mono ?_
  rintro e w2 ⟨rfl,h2⟩
  have H2:=LH h2
  clear h2 H1 G2
  obtain ⟨v3,s3,g3⟩:=go_ex (readP n) s2
  have HL3:=LH (snd_left g3)
  have HT3:=LH (snd_tape g3)
  have hg:=HG.out
  clear HG
  rw[go_bind,g3] at hg
  have HG:=LH hg
  clear hg
  obtain ⟨b3,d3⟩:=go_okE g3 (readP_ok hn) d2
  have G3:=LH g3
  clear g3
  go_wp2_with (fail)
  with_reducible refine (readR_any F rb w0 s2 s3 v3 n _ H2.out d2 G3.out).mono ?_
  rintro e w3 ⟨rfl,h3⟩
  have H3:=LH h3
  clear h3 H2 G3
  have hd0:=b3.lo
  have hd1:=b3.hi
  have hf3:s3.left<g+1:=by have:=HL1.out;have:=HL2.out;have:=HL3.out;have:=HF.out;omega
  obtain ⟨vm,sm,gm⟩:=go_ex (markGo (g+1) (markP g) (g+1) n v3 0 0) s3
  have hg:=HG.out
  clear HG
  rw[go_bind,gm] at hg
  have HG:=LH hg
  clear hg
  obtain ⟨bm,dm⟩:=go_okE gm (markGo_ok (fun n h0 h1=>markP_ok g n h0 h1) (g+1) n v3 0 0 i64B_zero) d3
  have GM:=LH gm
  have hm0:=bm.lo
  have hm1:=bm.hi
  clear gm b1 b3 HF HL1 HL2 HL3 HT1 HT2 HT3 d1 d2
  go_wp2_with (fail)
  go_loopw [7,8] (fun av iv wr=>RMark F rb w0 g n v3 vm sm s3.tape av iv wr) (fun _ _ wr=>leftW rb s3.tape.length wr)
  case atStart=>unfold RMark;exact ⟨0,0,g+1,s3,rfl,rfl,by omega,by omega,i64B_zero,fun _=>hf3,fun _=>hf3,rfl,H3.out,d3,GM.out⟩
  case round=>
   obtain ⟨i,all,f,s4,rfl,rfl,hi0,hi1,hall,hf4,hfg4,ht4,h4,d4,gm4⟩:=hrel
   clear H3 GM d3 hf3
   have H4:=LH h4
   have HM:=LH gm4
   have HF4:=LH hf4
   have HFG4:=LH hfg4
   have HT4:=LH ht4
   have ha0:=hall.lo
   have ha1:=hall.hi
   have HALL:=LH hall
   clear h4 gm4 hf4 hfg4 ht4 hall
   have done:∀(w5:World),all=vm→s4=sm→RAt F rb w0 s4 w5→True:=fun _ _ _ _=>trivial
   clear done
   by_cases hlt:i<v3
   ·cases ho:s4.off with
    |true=>
     have c2:=off_cell H4.out ho
     obtain ⟨rfl,rfl⟩:=Prod.mk.inj ((markGo_off ho f).symm.trans HM.out)
     clear ho
     go_wp2_with (fail)
     obtain ⟨v5,s5,g5⟩:=go_ex (writeP (n+4) (wrap64 (all+1))) s4
     have hg:=HG.out
     clear HG
     rw[go_bind,g5] at hg
     have HG:=LH hg
     clear hg
     obtain ⟨b5,d5⟩:=go_okE g5 (writeP_ok (at_i64 n0 n1 (by decide) (by decide)) (wrap_bd _)) d4
     have G5:=LH g5
     clear g5
     with_reducible refine (writeR_any F rb w0 s4 s5 v5 (n+4) (wrap64 (all+1)) _ H4.out d4 G5.out).mono ?_
     rintro e w5 ⟨rfl,h5⟩
     have H5:=LH h5
     clear h5 H4 G5
     obtain ⟨rfl,rfl⟩:=Prod.mk.inj HG.out
     go_wp2_with (fail)
     go_ret
     exact ⟨rfl,H5.out⟩
    |false=>
     have c2:=off_cell H4.out ho
     have HO:=LH ho
     have hlt4:=HF4.out ho
     have hlg4:=HFG4.out ho
     obtain ⟨f,rfl⟩:∃k,f=k+1:=⟨f-1,by omega⟩
     have hm:=HM.out
     clear HM
     unfold markGo at hm
     rw[go_chk,ho,if_pos ⟨hlt,rfl⟩] at hm
     clear ho
     obtain ⟨v5,s5,g5⟩:=go_ex (slotP (g+1) (childAtI n v3 i)) s4
     have hp5:=slot_lt g5 HO.out d4
     have HT5:=LH (snd_tape g5)
     rw[go_bind,g5] at hm
     have HM:=LH hm
     clear hm
     obtain ⟨b5,d5⟩:=go_okE g5 (slotP_ok (childAt_i64 n v3 i) (g+1)) d4
     have G5:=LH g5
     clear g5
     go_wp2_with (fail)
     with_reducible refine (childAt7_any n v3 i _).mono ?_
     rintro e w5 ⟨rfl,rfl⟩
     go_wp2_with (fail)
     with_reducible refine (slotR_any F rb w0 s4 s5 v5 (g+1) (childAtI n v3 i) _ H4.out d4 G5.out (childAt_i64 n v3 i) (by omega)).mono ?_
     rintro e w5 ⟨rfl,h5⟩
     have H5:=LH h5
     clear h5 G5
     have H4r:=H4
     clear H4 c2
     go_wp2_with (fail)
     with_reducible refine (refAtw_any v5 _ b5.lo b5.hi).mono ?_
     rintro e w6 ⟨rfl,rfl⟩
     go_wp2_with (fail)
     with_reducible refine (refKind_any v5 _ b5.lo b5.hi).mono ?_
     rintro e w6 ⟨rfl,rfl⟩
     obtain ⟨wa0,wa1⟩:=wAt_bd v5
     by_cases k2:wKind v5=2
     ·have e2:(wKind v5==2)=true:=by simpa using k2
      have hm:=HM.out
      clear HM
      rw[if_pos k2] at hm
      have HM:=LH hm
      clear hm k2
      go_wp2_with (fail)
      go_roundw
      case rel=>unfold RMark;exact ⟨i+1,wrap64 (all+1),f,s5,rfl,by go_num,by omega,by omega,wrap_bd _,fun _=>by omega,fun _=>by omega,by rw[HT5.out,HT4.out],H5.out,d5,HM.out⟩
      case measure=>
       have e5:=leftW_eq H5.out
       have e4:=leftW_eq H4r.out
       rw[HT5.out,HT4.out] at e5
       rw[HT4.out] at e4
       omega
     ·have e2:(wKind v5==2)=false:=by simpa using k2
      by_cases k3:wKind v5=3
      ·have e3:(wKind v5==3)=true:=by simpa using k3
       have hm:=HM.out
       clear HM
       rw[if_neg k2,if_pos k3] at hm
       obtain ⟨v6,s6,g6⟩:=go_ex (markP g (wAt v5)) s5
       have HL6:=LH (snd_left g6)
       have HT6:=LH (snd_tape g6)
       rw[go_bind,go_bind,g6] at hm
       have HM:=LH hm
       clear hm k2 k3
       obtain ⟨b6,d6⟩:=go_okE g6 (markP_ok g _ wa0 wa1) d5
       have hb60:=b6.lo
       have hb61:=b6.hi
       have G6:=LH g6
       clear g6
       go_wp2_with (fail)
       with_reducible refine (HMK.out.use s5 s6 v6 (wAt v5) _ H5.out d5 (fun _=>by omega) wa0 wa1 G6.out).mono ?_
       rintro e w6 ⟨rfl,h6⟩
       have H6:=LH h6
       clear h6 G6 H5
       go_wp2_with (fail)
       go_roundw
       case rel=>unfold RMark;exact ⟨i+1,wrap64 (all+v6),f,s6,rfl,by go_num,by omega,by omega,wrap_bd _,fun _=>by have:=HL6.out;omega,fun _=>by have:=HL6.out;omega,by rw[HT6.out,HT5.out,HT4.out],H6.out,d6,HM.out⟩
       case measure=>
        have e5:=leftW_eq H6.out
        have e4:=leftW_eq H4r.out
        rw[HT6.out,HT5.out,HT4.out] at e5
        rw[HT4.out] at e4
        have:=HL6.out
        omega
      ·have e3:(wKind v5==3)=false:=by simpa using k3
       by_cases k4:wKind v5=4
       ·have e4:(wKind v5==4)=true:=by simpa using k4
        have hm:=HM.out
        clear HM
        rw[if_neg k2,if_neg k3,if_pos k4] at hm
        obtain ⟨v7,s7,g7⟩:=go_ex (readP (wAt v5)) s5
        have HL7:=LH (snd_left g7)
        have HT7:=LH (snd_tape g7)
        obtain ⟨b7,d7⟩:=go_okE g7 (readP_ok (wAt_i64' v5)) d5
        obtain ⟨wb0,wb1⟩:=wAt_bd v7
        obtain ⟨v6,s6,g6⟩:=go_ex (markP g (wAt v7)) s7
        have HL6:=LH (snd_left g6)
        have HT6:=LH (snd_tape g6)
        rw[go_bind,go_bind,g7] at hm
        have hm:(markGo (g+1) (markP g) f n v3 (i+1) (((markP g (wAt v7)).bind fun m=> .ret (wrap64 (all+m))).go s7).1).go (((markP g (wAt v7)).bind fun m=> .ret (wrap64 (all+m))).go s7).2=(vm,sm):=hm
        rw[go_bind,g6] at hm
        have HM:=LH (show (markGo (g+1) (markP g) f n v3 (i+1) (wrap64 (all+v6))).go s6=(vm,sm) from hm)
        clear hm k2 k3 k4
        obtain ⟨b6,d6⟩:=go_okE g6 (markP_ok g _ wb0 wb1) d7
        have hb60:=b6.lo
        have hb61:=b6.hi
        have G6:=LH g6
        have G7:=LH g7
        clear g6 g7
        go_wp2_with (fail)
        with_reducible refine (readR_any F rb w0 s5 s7 v7 (wAt v5) _ H5.out d5 G7.out).mono ?_
        rintro e w7 ⟨rfl,h7⟩
        have H7:=LH h7
        clear h7 G7 H5
        go_wp2_with (fail)
        with_reducible refine (refAtw_any v7 _ b7.lo b7.hi).mono ?_
        rintro e w8 ⟨rfl,rfl⟩
        go_wp2_with (fail)
        with_reducible refine (HMK.out.use s7 s6 v6 (wAt v7) _ H7.out d7 (fun _=>by have:=HL7.out;omega) wb0 wb1 G6.out).mono ?_
        rintro e w6 ⟨rfl,h6⟩
        have H6:=LH h6
        clear h6 G6 H7
        go_wp2_with (fail)
        go_roundw
        case rel=>unfold RMark;exact ⟨i+1,wrap64 (all+v6),f,s6,rfl,by go_num,by omega,by omega,wrap_bd _,fun _=>by have:=HL6.out;have:=HL7.out;omega,fun _=>by have:=HL6.out;have:=HL7.out;omega,by rw[HT6.out,HT7.out,HT5.out,HT4.out],H6.out,d6,HM.out⟩
        case measure=>
         have e5:=leftW_eq H6.out
         have e4:=leftW_eq H4r.out
         rw[HT6.out,HT7.out,HT5.out,HT4.out] at e5
         rw[HT4.out] at e4
         have:=HL6.out
         have:=HL7.out
         omega
       ·have e4:(wKind v5==4)=false:=by simpa using k4
        have hm:=HM.out
        clear HM
        rw[if_neg k2,if_neg k3,if_neg k4] at hm
        have HM:=LH hm
        clear hm k2 k3 k4
        go_wp2_with (fail)
        go_roundw
        case rel=>unfold RMark;exact ⟨i+1,all,f,s5,rfl,by go_num,by omega,by omega,HALL.out,fun _=>by omega,fun _=>by omega,by rw[HT5.out,HT4.out],H5.out,d5,HM.out⟩
        case measure=>
         have e5:=leftW_eq H5.out
         have e4:=leftW_eq H4r.out
         rw[HT5.out,HT4.out] at e5
         rw[HT4.out] at e4
         omega
   ·have hge:v3≤i:=by omega
    have hend:(markGo (g+1) (markP g) f n v3 i all).go s4=(all,s4):=markGo_end hlt f
    obtain ⟨rfl,rfl⟩:=Prod.mk.inj (hend.symm.trans HM.out)
    clear hend
    go_wp2_with (fail)
    obtain ⟨v5,s5,g5⟩:=go_ex (writeP (n+4) (wrap64 (all+1))) s4
    have hg:=HG.out
    clear HG
    rw[go_bind,g5] at hg
    have HG:=LH hg
    clear hg
    obtain ⟨b5,d5⟩:=go_okE g5 (writeP_ok (at_i64 n0 n1 (by decide) (by decide)) (wrap_bd _)) d4
    have G5:=LH g5
    clear g5
    with_reducible refine (writeR_any F rb w0 s4 s5 v5 (n+4) (wrap64 (all+1)) _ H4.out d4 G5.out).mono ?_
    rintro e w5 ⟨rfl,h5⟩
    have H5:=LH h5
    clear h5 H4 G5
    obtain ⟨rfl,rfl⟩:=Prod.mk.inj HG.out
    go_wp2_with (fail)
    go_ret
    exact ⟨rfl,H5.out⟩
 ·have hg:=HG.out
  clear HG
  rw[if_neg z] at hg
  have HG:=LH hg
  clear hg
  have ez:(v1 !=0)=true:=by simpa using z
  clear z
  obtain ⟨rfl,rfl⟩:=Prod.mk.inj HG.out
  go_wp2_with (fail)
  go_ret
  exact ⟨rfl,H1.out⟩
theorem markR_any:∀(g:Nat),MarkC F rb w0 g:=by
 intro g
 induction g with
 |zero=>
  intro s0 s' v n w h d0 hf n0 n1 hg
  cases ho:s0.off with
  |false=>exact absurd (hf ho) (by omega)
  |true=>
   rw[markP_off ho] at hg
   obtain ⟨rfl,rfl⟩:=Prod.mk.inj hg
   exact mark_off_any F rb w0 s0 n w h d0 ho n0 n1
 |succ g ih=>
  intro s0 s' v n w h d0 hf n0 n1 hg
  cases ho:s0.off with
  |false=>exact mark_on_any F rb w0 g ih s0 s' v n w h d0 ho (hf ho) n0 n1 hg
  |true=>
   rw[markP_off ho] at hg
   obtain ⟨rfl,rfl⟩:=Prod.mk.inj hg
   exact mark_off_any F rb w0 s0 n w h d0 ho n0 n1
end
theorem gatherGo_off {gt:Int→Int→Int→List (Int×Int)→Prog (List (Int×Int))} {n d a b i rank:Int} {out:List (Int×Int)} {s:RunS} (h:s.off=true):∀f,(gatherGo gt f n d a b i rank out).go s=(out,s)
 |0=>rfl
 |f+1=>by
  unfold gatherGo
  rw[go_chk,if_neg (fun e=>by rw[h] at e;exact Bool.false_ne_true e.2.symm)];rfl
theorem gatherGo_end {gt:Int→Int→Int→List (Int×Int)→Prog (List (Int×Int))} {n d a b i rank:Int} {out:List (Int×Int)} {s:RunS} (h:¬(i<d∧rank<b)):∀f,(gatherGo gt f n d a b i rank out).go s=(out,s)
 |0=>rfl
 |f+1=>by
  unfold gatherGo
  rw[go_chk,if_neg (fun e=>h e.1)];rfl
theorem gatherP_off {n a b:Int} {out:List (Int×Int)} {s:RunS} (h:s.off=true):∀g,(gatherP g n a b out).go s=(out,s)
 |0=>rfl
 |g+1=>by
  unfold gatherP
  rw[go_bind,read_off h,gatherGo_off h]
structure RG (F:Nat→Prop) (rb:Nat) (w0:World) (s:RunS) (ov:Value) (out:List (Int×Int)) (w:World):Prop where
 run:RAt F rb w0 s w
 own:w.ownsRow w0.heap.size 52 2 ov out.length (cellsP out)
 len:out.length+s.left≤2000000000
section
variable {F:Nat→Prop} {rb:Nat} {w0 w w' wd w5:World} {s s':RunS} {ov v':Value} {out:List (Int×Int)} {k v:Int}
theorem RG.here (h:RG F rb w0 s ov out w):RAt (fun y=>F y∨w0.heap.size≤y) rb w s w:=h.run.here
theorem RG.run_ (h:RG F rb w0 s ov out w) (h':RAt (fun y=>F y∨w0.heap.size≤y) rb w s' w') (hl:s'.left≤s.left):RG F rb w0 s' ov out w':=
 ⟨h.run.step h',h.run.keepO h'.2 h.own (by decide),by have:=h.len;omega⟩
theorem RG.app (h:RG F rb w0 s ov out w) (hb:Below w.heap.size w wd) (hO:w5.ownsRow w0.heap.size 52 2 v' (out.length+1) (cellsP out++[.int .i64 k, .int .i64 v])) (hg:wd.grownBy w5 ov.ownBlock) (hl:out.length+1+s.left≤2000000000):RG F rb w0 s v' (out++[(k,v)]) w5:=by
 have hc:Chg (fun y=>ov.ownBlock=some y) w w5:=(Chg.of_below hb).trans (Chg.of_grown hg)
 refine ⟨h.run.keepT hc (fun y hy=> ?_), ?_,by simpa using hl⟩
 ·obtain ⟨cs,hb⟩:=own_blk h.own hy
  exact ⟨(h.own.lt y hy).1,_,cs,hb,by decide,by decide⟩
 ·rw[cellsP_append,List.length_append];exact hO
end
section
variable (F:Nat→Prop) (rb:Nat) (w0:World)
def GPost (out:List (Int×Int)) (s':RunS) (e:Ending) (w':World):Prop:=∃ov,e= .returned ov∧RG F rb w0 s' ov out w'
def GatherC (g:Nat):Prop:=∀(s0 s':RunS) (out out':List (Int×Int)) (ov:Value) (n a b:Int) (w:World),RG F rb w0 s0 ov out w→s0.Bd→(s0.off=false→s0.left<g)→0≤n→n≤65536→i64B a→i64B b→LB out→(gatherP g n a b out).go s0=(out',s')→
  Calls Tryz.prog 203 #[.pointer (some ⟨rb,0,none⟩), .int .i64 n, .int .i64 a, .int .i64 b,ov] w (GPost F rb w0 out' s')
theorem GatherC.use {F:Nat→Prop} {rb:Nat} {w0:World} {g:Nat} (h:GatherC F rb w0 g) (s0 s':RunS) (out out':List (Int×Int)) (ov:Value) (n a b:Int) (w:World) (h0:RG F rb w0 s0 ov out w) (d0:s0.Bd) (hf:s0.off=false→s0.left<g) (n0:0≤n) (n1:n≤65536) (ha:i64B a) (hb:i64B b) (hl:LB out) (hg:(gatherP g n a b out).go s0=(out',s')):
  Calls Tryz.prog 203 #[.pointer (some ⟨rb,0,none⟩), .int .i64 n, .int .i64 a, .int .i64 b,ov] w (GPost F rb w0 out' s'):=h s0 s' out out' ov n a b w h0 d0 hf n0 n1 ha hb hl hg
def RGatO (s:RunS) (out:List (Int×Int)) (ov rv iv:Value) (wr:World):Prop:=rv= .int .i64 0∧iv= .int .i64 0∧RG F rb w0 s ov out wr
set_option maxRecDepth 100000 in
set_option maxHeartbeats 2000000 in
theorem gather_off_any (s:RunS) (out:List (Int×Int)) (ov:Value) (n a b:Int) (w:World) (h:RG F rb w0 s ov out w) (d0:s.Bd) (ho:s.off=true):
  Calls Tryz.prog 203 #[.pointer (some ⟨rb,0,none⟩), .int .i64 n, .int .i64 a, .int .i64 b,ov] w (GPost F rb w0 out s):=by
 have HO:=LH ho
 have H:=LH h
 clear ho h
 go_enter Tryz.func203,Tryz.ntmps203
 go_wp2_with (fail)
 with_reducible refine (readR_any _ rb _ s s 0 n _ H.out.here d0 (read_off HO.out)).mono ?_
 rintro e w1 ⟨rfl,h1⟩
 have H1:=LH (H.out.run_ h1 (Nat.le_refl _))
 clear h1 H
 go_wp2_with (fail)
 go_loopw [4,12,13] (fun ov rv iv wr=>RGatO F rb w0 s out ov rv iv wr) (fun _ _ _ _=>0)
 case atStart=>unfold RGatO;exact ⟨rfl,rfl,H1.out⟩
 case round=>
  obtain ⟨rfl,rfl,h4⟩:=hrel
  clear H1
  have H4:=LH h4
  clear h4
  go_wp2_with (fail)
  go_ret
  exact ⟨_,rfl,H4.out⟩
def RGat (g:Nat) (n d a b:Int) (vo:List (Int×Int)) (so:RunS) (T:List Int) (ov rv iv:Value) (wr:World):Prop:=∃(i rank:Int) (out:List (Int×Int)) (f:Nat) (s:RunS),rv= .int .i64 rank∧iv= .int .i64 i∧0≤i∧i≤9223372036854775807∧i64B rank∧(s.off=false→s.left<f)∧(s.off=false→s.left<g+1)∧s.tape=T∧RG F rb w0 s ov out wr∧s.Bd∧LB out∧(gatherGo (gatherP g) f n d a b i rank out).go s=(vo,so)
set_option maxRecDepth 100000 in
set_option maxHeartbeats 8000000 in
theorem gather_on_any (g:Nat) (hgc:GatherC F rb w0 g) (s0 s':RunS) (out out':List (Int×Int)) (ov:Value) (n a b:Int) (w:World) (h:RG F rb w0 s0 ov out w) (d0:s0.Bd) (ho:s0.off=false) (hf:s0.left<g+1) (n0:0≤n) (n1:n≤65536) (ha:i64B a) (hb:i64B b) (hl:LB out) (hg:(gatherP (g+1) n a b out).go s0=(out',s')):
  Calls Tryz.prog 203 #[.pointer (some ⟨rb,0,none⟩), .int .i64 n, .int .i64 a, .int .i64 b,ov] w (GPost F rb w0 out' s'):=by
 obtain ⟨i0,hi0,hz0,hz1,hz2⟩:=info_parts info_pair
 unfold gatherP at hg
 have hn:=at_i64' n0 n1
 have ha0:=ha.lo
 have ha1:=ha.hi
 have hb0:=hb.lo
 have hb1:=hb.hi
 have HG:=LH hg
 have H0:=LH h
 have HGC:=LH hgc
 have HF:=LH hf
 have HLB:=LH hl
 clear hg h hgc hf hl
 clear ho
 go_enter Tryz.func203,Tryz.ntmps203
 go_wp2_with (fail)
 obtain ⟨v1,s1,g1⟩:=go_ex (readP n) s0
 have HL1:=LH (snd_left g1)
 have HT1:=LH (snd_tape g1)
 have hg:=HG.out
 clear HG
 rw[go_bind,g1] at hg
 have HG:=LH hg
 clear hg
 obtain ⟨b1,d1⟩:=go_okE g1 (readP_ok hn) d0
 have G1:=LH g1
 clear g1
 with_reducible refine (readR_any _ rb _ s0 s1 v1 n _ H0.out.here d0 G1.out).mono ?_
 rintro e w1 ⟨rfl,h1⟩
 have H1:=LH (H0.out.run_ h1 HL1.out)
 clear h1 H0 G1
 have hd0:=b1.lo
 have hd1:=b1.hi
 have hf1:s1.left<g+1:=by have:=HL1.out;have:=HF.out;omega
 clear b1 HF HL1 HT1
 go_wp2_with (fail)
 go_loopw [4,12,13] (fun ov rv iv wr=>RGat F rb w0 g n v1 a b out' s' s1.tape ov rv iv wr) (fun _ _ _ wr=>leftW rb s1.tape.length wr)
 case atStart=>unfold RGat;exact ⟨0,0,out,g+1,s1,rfl,rfl,by omega,by omega,i64B_zero,fun _=>hf1,fun _=>hf1,rfl,H1.out,d1,HLB.out,HG.out⟩
 case round=>
  clear H1 HG d1 hf1 HLB
  obtain ⟨i,rank,L,f,s4,rfl,rfl,hi0',hi1',hrk,hf4,hfg4,ht4,h4,d4,hl4,gm4⟩:=hrel
  have hrk0:=hrk.lo
  have hrk1:=hrk.hi
  have hlen:=h4.len
  obtain ⟨oA,oc,rfl⟩:=own_shape h4.own
  have H4:=LH h4
  have H4r:=LH h4.run
  have HM:=LH gm4
  have HF4:=LH hf4
  have HFG4:=LH hfg4
  have HT4:=LH ht4
  have HRK:=LH hrk
  have HL4:=LH hl4
  clear h4 gm4 hf4 hfg4 ht4 hrk hl4
  by_cases hlt:i<v1
  ·by_cases hrt:rank<b
   ·cases ho:s4.off with
    |true=>
     have c2:=off_cell H4.out.run ho
     obtain ⟨rfl,rfl⟩:=Prod.mk.inj ((gatherGo_off ho f).symm.trans HM.out)
     clear ho
     go_wp2_with (fail)
     go_ret
     exact ⟨_,rfl,H4.out⟩
    |false=>
     have c2:=off_cell H4.out.run ho
     have HO:=LH ho
     have hlt4:=HF4.out ho
     have hlg4:=HFG4.out ho
     obtain ⟨f,rfl⟩:∃k,f=k+1:=⟨f-1,by omega⟩
     have hm:=HM.out
     clear HM
     unfold gatherGo at hm
     rw[go_chk,ho,if_pos ⟨⟨hlt,hrt⟩,rfl⟩] at hm
     clear ho
     obtain ⟨v5,s5,g5⟩:=go_ex (peekP (childAtI n v1 i)) s4
     have hp5:=peek_lt g5 HO.out d4
     have HT5:=LH (snd_tape g5)
     rw[go_bind,g5] at hm
     have HM:=LH hm
     clear hm
     obtain ⟨b5,d5⟩:=go_okE g5 (peekP_ok (childAt_i64 n v1 i)) d4
     have G5:=LH g5
     clear g5
     go_wp2_with (fail)
     with_reducible refine (childAt7_any n v1 i _).mono ?_
     rintro e w5 ⟨rfl,rfl⟩
     go_wp2_with (fail)
     with_reducible refine (peekR_any _ rb _ s4 s5 v5 (childAtI n v1 i) _ H4.out.here d4 G5.out (childAt_i64 n v1 i)).mono ?_
     rintro e w5 ⟨rfl,h5⟩
     have H5:=LH (H4.out.run_ h5 (Nat.le_of_lt hp5))
     clear h5 G5 H4 c2
     go_wp2_with (fail)
     with_reducible refine (refAtw_any v5 _ b5.lo b5.hi).mono ?_
     rintro e w6 ⟨rfl,rfl⟩
     go_wp2_with (fail)
     with_reducible refine (refKind_any v5 _ b5.lo b5.hi).mono ?_
     rintro e w6 ⟨rfl,rfl⟩
     obtain ⟨wa0,wa1⟩:=wAt_bd v5
     by_cases k2:wKind v5=2
     ·have e2:(wKind v5==2)=true:=by simpa using k2
      have hm:=HM.out
      clear HM
      rw[if_pos k2,go_bind] at hm
      have erk:wrap64 (rank+1)=rank+1:=by unfold wrap64;omega
      by_cases kr:a≤rank
      ·rw[if_pos kr] at hm
       obtain ⟨v6,s6,g6⟩:=go_ex (readP (wAt v5)) s5
       have HL6:=LH (snd_left g6)
       have HT6:=LH (snd_tape g6)
       obtain ⟨b6,d6⟩:=go_okE g6 (readP_ok (wAt_i64' v5)) d5
       obtain ⟨v7,s7,g7⟩:=go_ex (readP (wAt v5+1)) s6
       have HL7:=LH (snd_left g7)
       have HT7:=LH (snd_tape g7)
       obtain ⟨b7,d7⟩:=go_okE g7 (readP_ok wAt_next) d6
       rw[go_bind,g6] at hm
       have hm:(gatherGo (gatherP g) f n v1 a b (i+1) (wrap64 (rank+1)) (((readP (wAt v5+1)).bind fun v=> .ret (L++[(v6,v)])).go s6).1).go (((readP (wAt v5+1)).bind fun v=> .ret (L++[(v6,v)])).go s6).2=(out',s'):=hm
       rw[go_bind,g7] at hm
       have HM:=LH (show (gatherGo (gatherP g) f n v1 a b (i+1) (wrap64 (rank+1)) (L++[(v6,v7)])).go s7=(out',s') from hm)
       have G6:=LH g6
       have G7:=LH g7
       have HLB2:=LH (HL4.out.snoc b6 b7)
       clear hm g6 g7 k2
       go_wp2_with (fail)
       with_reducible refine (readR_any _ rb _ s5 s6 v6 (wAt v5) _ H5.out.here d5 G6.out).mono ?_
       rintro e w6 ⟨rfl,h6⟩
       have H6:=LH (H5.out.run_ h6 HL6.out)
       clear h6 G6 H5
       go_wp2_with (fail)
       with_reducible refine (readR_any _ rb _ s6 s7 v7 (wAt v5+1) _ H6.out.here d6 G7.out).mono ?_
       rintro e w7 ⟨rfl,h7⟩
       have H7:=LH (H6.out.run_ h7 HL7.out)
       clear h7 G7 H6
       have hsl:L.length+1+s7.left≤2000000000:=by have:=HL6.out;have:=HL7.out;omega
       have hsz:=H7.out.run.2.size
       have hb1:=(Below.refl w7.heap.size w7).alloc (Nat.le_refl _) (.cells #[.int .i64 v6, .int .i64 v7] 52)
       have hzz:w0.heap.size≤(w7.alloc (.cells #[.int .i64 v6, .int .i64 v7] 52)).heap.size:=by have:=hb1.size;omega
       have HN6:=LH (cells2v_any w7 52 (.int .i64 v6) (.int .i64 v7))
       have HOA:=LH (own_below H7.out.own hb1)
       have HB1:=LH hb1
       clear hb1
       go_wp2_with (at_builtin;refine wpList_append_own _ rfl _ _ 40 rfl w0.heap.size 52 i0 (.agg #[.int .i64 0, .int .i64 0]) 2 16 Tryz.underlying40 hi0 hz0 hz1 hz2 rfl (by decide) _ _ _ rfl HOA.out ⟨w7.heap.size,0,none⟩ 1 1 [.int .i64 v6, .int .i64 v7] rfl rfl HN6.out (by simp[Value.oneCell']) (by unfold maxLen;omega) (by omega) hzz ?_;intro v' w8 hO5 hg5 _;have H8:=LH (H7.out.app HB1.out hO5 hg5 hsl);clear hO5 hg5)
       go_roundw
       case rel=>unfold RGat;exact ⟨i+1,wrap64 (rank+1),_,f,s7,by rw[erk],by go_num,by omega,by omega,wrap_bd _,fun _=>by have:=HL6.out;have:=HL7.out;omega,fun _=>by have:=HL6.out;have:=HL7.out;omega,by rw[HT7.out,HT6.out,HT5.out,HT4.out],H8.out,d7,HLB2.out,HM.out⟩
       case measure=>
        have e5:=leftW_eq H8.out.run
        have e4:=leftW_eq H4r.out
        rw[HT7.out,HT6.out,HT5.out,HT4.out] at e5
        rw[HT4.out] at e4
        have:=HL6.out
        have:=HL7.out
        omega
      ·rw[if_neg kr] at hm
       have HM:=LH (show (gatherGo (gatherP g) f n v1 a b (i+1) (wrap64 (rank+1)) L).go s5=(out',s') from hm)
       clear hm k2
       go_wp2_with (fail)
       go_roundw
       case rel=>unfold RGat;exact ⟨i+1,wrap64 (rank+1),_,f,s5,by rw[erk],by go_num,by omega,by omega,wrap_bd _,fun _=>by omega,fun _=>by omega,by rw[HT5.out,HT4.out],H5.out,d5,HL4.out,HM.out⟩
       case measure=>
        have e5:=leftW_eq H5.out.run
        have e4:=leftW_eq H4r.out
        rw[HT5.out,HT4.out] at e5
        rw[HT4.out] at e4
        omega
     ·have e2:(wKind v5==2)=false:=by simpa using k2
      by_cases k3:wKind v5=3
      ·have e3:(wKind v5==3)=true:=by simpa using k3
       have e4:(wKind v5==4)=false:=by rw[k3];rfl
       have hm:=HM.out
       clear HM
       rw[if_neg k2,if_pos (.inl k3),go_bind,if_neg (by rw[k3];decide)] at hm
       have hm:((readP (wAt v5+4)).bind fun s=>(if a<wrap64 (rank+wrap64 (s-1)) then gatherP g (wAt v5) (wrap64 (a-rank)) (wrap64 (b-rank)) L else .ret L).bind fun out'=>gatherGo (gatherP g) f n v1 a b (i+1) (wrap64 (rank+wrap64 (s-1))) out').go s5=(out',s'):=hm
       clear k2 k3
       go_wp2_with (fail)
       with_reducible refine (refKind_any v5 _ b5.lo b5.hi).mono ?_
       rintro e w6 ⟨rfl,rfl⟩
       obtain ⟨v8,s8,g8⟩:=go_ex (readP (wAt v5+4)) s5
       have HL8:=LH (snd_left g8)
       have HT8:=LH (snd_tape g8)
       obtain ⟨b8,d8⟩:=go_okE g8 (readP_ok (at_i64 wa0 wa1 (by decide) (by decide))) d5
       have hb80:=b8.lo
       have hb81:=b8.hi
       rw[go_bind,g8] at hm
       have G8:=LH g8
       have HM:=LH hm
       clear g8 hm
       go_wp2_with (fail)
       with_reducible refine (readR_any _ rb _ s5 s8 v8 (wAt v5+4) _ H5.out.here d5 G8.out).mono ?_
       rintro e w8 ⟨rfl,h8⟩
       have H8:=LH (H5.out.run_ h8 HL8.out)
       clear h8 G8 H5
       have hm:=HM.out
       clear HM
       by_cases kc:a<wrap64 (rank+wrap64 (v8-1))
       ·rw[go_bind,if_pos kc] at hm
        obtain ⟨L9,s9,g9⟩:=go_ex (gatherP g (wAt v5) (wrap64 (a-rank)) (wrap64 (b-rank)) L) s8
        have HL9:=LH (snd_left g9)
        have HT9:=LH (snd_tape g9)
        obtain ⟨b9,d9⟩:=go_okE g9 (gatherP_ok g _ _ _ _ wa0 wa1 HL4.out) d8
        rw[g9] at hm
        have G9:=LH g9
        have HM:=LH hm
        have HB9:=LH b9
        clear g9 hm b9
        go_wp2_with (fail)
        with_reducible refine (HGC.out.use s8 s9 L L9 _ (wAt v5) (wrap64 (a-rank)) (wrap64 (b-rank)) _ H8.out d8 (fun _=>by have:=HL8.out;omega) wa0 wa1 (wrap_bd _) (wrap_bd _) HL4.out G9.out).mono ?_
        rintro e w9 ⟨ov9,rfl,h9⟩
        have H9:=LH h9
        clear h9 G9 H8
        go_wp2_with (fail)
        go_roundw
        case rel=>unfold RGat;exact ⟨i+1,wrap64 (rank+wrap64 (v8-1)),_,f,s9,rfl,by go_num,by omega,by omega,wrap_bd _,fun _=>by have:=HL8.out;have:=HL9.out;omega,fun _=>by have:=HL8.out;have:=HL9.out;omega,by rw[HT9.out,HT8.out,HT5.out,HT4.out],H9.out,d9,HB9.out,HM.out⟩
        case measure=>
         have e5:=leftW_eq H9.out.run
         have e4:=leftW_eq H4r.out
         rw[HT9.out,HT8.out,HT5.out,HT4.out] at e5
         rw[HT4.out] at e4
         have:=HL8.out
         have:=HL9.out
         omega
       ·rw[go_bind,if_neg kc] at hm
        have HM:=LH (show (gatherGo (gatherP g) f n v1 a b (i+1) (wrap64 (rank+wrap64 (v8-1))) L).go s8=(out',s') from hm)
        clear hm
        go_wp2_with (fail)
        go_roundw
        case rel=>unfold RGat;exact ⟨i+1,wrap64 (rank+wrap64 (v8-1)),_,f,s8,rfl,by go_num,by omega,by omega,wrap_bd _,fun _=>by have:=HL8.out;omega,fun _=>by have:=HL8.out;omega,by rw[HT8.out,HT5.out,HT4.out],H8.out,d8,HL4.out,HM.out⟩
        case measure=>
         have e5:=leftW_eq H8.out.run
         have e4:=leftW_eq H4r.out
         rw[HT8.out,HT5.out,HT4.out] at e5
         rw[HT4.out] at e4
         have:=HL8.out
         omega
      ·have e3:(wKind v5==3)=false:=by simpa using k3
       by_cases k4:wKind v5=4
       ·have e4:(wKind v5==4)=true:=by simpa using k4
        have hm:=HM.out
        clear HM
        rw[if_neg k2,if_pos (.inr k4),go_bind,if_pos k4] at hm
        obtain ⟨v6,s6,g6⟩:=go_ex (readP (wAt v5)) s5
        have HL6:=LH (snd_left g6)
        have HT6:=LH (snd_tape g6)
        obtain ⟨b6,d6⟩:=go_okE g6 (readP_ok (wAt_i64' v5)) d5
        have eX:((readP (wAt v5)).bind fun t=>Prog.ret (wAt t)).go s5=(wAt v6,s6):=by rw[go_bind,g6];rfl
        rw[eX] at hm
        clear eX
        have hm:((readP (wAt v6+4)).bind fun s=>(if a<wrap64 (rank+wrap64 (s-1)) then gatherP g (wAt v6) (wrap64 (a-rank)) (wrap64 (b-rank)) L else .ret L).bind fun out'=>gatherGo (gatherP g) f n v1 a b (i+1) (wrap64 (rank+wrap64 (s-1))) out').go s6=(out',s'):=hm
        have G6:=LH g6
        clear k2 k3 k4 g6
        go_wp2_with (fail)
        with_reducible refine (refKind_any v5 _ b5.lo b5.hi).mono ?_
        rintro e w6 ⟨rfl,rfl⟩
        go_wp2_with (fail)
        with_reducible refine (readR_any _ rb _ s5 s6 v6 (wAt v5) _ H5.out.here d5 G6.out).mono ?_
        rintro e w6 ⟨rfl,h6⟩
        have H6:=LH (H5.out.run_ h6 HL6.out)
        clear h6 G6 H5
        obtain ⟨wc0,wc1⟩:=wAt_bd v6
        go_wp2_with (fail)
        with_reducible refine (refAtw_any v6 _ b6.lo b6.hi).mono ?_
        rintro e w6b ⟨rfl,rfl⟩
        obtain ⟨v8,s8,g8⟩:=go_ex (readP (wAt v6+4)) s6
        have HL8:=LH (snd_left g8)
        have HT8:=LH (snd_tape g8)
        obtain ⟨b8,d8⟩:=go_okE g8 (readP_ok (at_i64 wc0 wc1 (by decide) (by decide))) d6
        have hb80:=b8.lo
        have hb81:=b8.hi
        rw[go_bind,g8] at hm
        have G8:=LH g8
        have HM:=LH hm
        clear g8 hm
        go_wp2_with (fail)
        with_reducible refine (readR_any _ rb _ s6 s8 v8 (wAt v6+4) _ H6.out.here d6 G8.out).mono ?_
        rintro e w8 ⟨rfl,h8⟩
        have H8:=LH (H6.out.run_ h8 HL8.out)
        clear h8 G8 H6
        have hm:=HM.out
        clear HM
        by_cases kc:a<wrap64 (rank+wrap64 (v8-1))
        ·rw[go_bind,if_pos kc] at hm
         obtain ⟨L9,s9,g9⟩:=go_ex (gatherP g (wAt v6) (wrap64 (a-rank)) (wrap64 (b-rank)) L) s8
         have HL9:=LH (snd_left g9)
         have HT9:=LH (snd_tape g9)
         obtain ⟨b9,d9⟩:=go_okE g9 (gatherP_ok g _ _ _ _ wc0 wc1 HL4.out) d8
         rw[g9] at hm
         have G9:=LH g9
         have HM:=LH hm
         have HB9:=LH b9
         clear g9 hm b9
         go_wp2_with (fail)
         with_reducible refine (HGC.out.use s8 s9 L L9 _ (wAt v6) (wrap64 (a-rank)) (wrap64 (b-rank)) _ H8.out d8 (fun _=>by have:=HL6.out;have:=HL8.out;omega) wc0 wc1 (wrap_bd _) (wrap_bd _) HL4.out G9.out).mono ?_
         rintro e w9 ⟨ov9,rfl,h9⟩
         have H9:=LH h9
         clear h9 G9 H8
         go_wp2_with (fail)
         go_roundw
         case rel=>unfold RGat;exact ⟨i+1,wrap64 (rank+wrap64 (v8-1)),_,f,s9,rfl,by go_num,by omega,by omega,wrap_bd _,fun _=>by have:=HL6.out;have:=HL8.out;have:=HL9.out;omega,fun _=>by have:=HL6.out;have:=HL8.out;have:=HL9.out;omega,by rw[HT9.out,HT8.out,HT6.out,HT5.out,HT4.out],H9.out,d9,HB9.out,HM.out⟩
         case measure=>
          have e5:=leftW_eq H9.out.run
          have e4:=leftW_eq H4r.out
          rw[HT9.out,HT8.out,HT6.out,HT5.out,HT4.out] at e5
          rw[HT4.out] at e4
          have:=HL6.out;have:=HL8.out
          have:=HL9.out
          omega
        ·rw[go_bind,if_neg kc] at hm
         have HM:=LH (show (gatherGo (gatherP g) f n v1 a b (i+1) (wrap64 (rank+wrap64 (v8-1))) L).go s8=(out',s') from hm)
         clear hm
         go_wp2_with (fail)
         go_roundw
         case rel=>unfold RGat;exact ⟨i+1,wrap64 (rank+wrap64 (v8-1)),_,f,s8,rfl,by go_num,by omega,by omega,wrap_bd _,fun _=>by have:=HL6.out;have:=HL8.out;omega,fun _=>by have:=HL6.out;have:=HL8.out;omega,by rw[HT8.out,HT6.out,HT5.out,HT4.out],H8.out,d8,HL4.out,HM.out⟩
         case measure=>
          have e5:=leftW_eq H8.out.run
          have e4:=leftW_eq H4r.out
          rw[HT8.out,HT6.out,HT5.out,HT4.out] at e5
          rw[HT4.out] at e4
          have:=HL6.out;have:=HL8.out
          omega
       ·have e4:(wKind v5==4)=false:=by simpa using k4
        have hm:=HM.out
        clear HM
        rw[if_neg k2,if_neg (fun e=>e.elim k3 k4)] at hm
        have HM:=LH hm
        clear hm k2 k3 k4
        go_wp2_with (fail)
        go_roundw
        case rel=>unfold RGat;exact ⟨i+1,rank,_,f,s5,rfl,by go_num,by omega,by omega,HRK.out,fun _=>by omega,fun _=>by omega,by rw[HT5.out,HT4.out],H5.out,d5,HL4.out,HM.out⟩
        case measure=>
         have e5:=leftW_eq H5.out.run
         have e4:=leftW_eq H4r.out
         rw[HT5.out,HT4.out] at e5
         rw[HT4.out] at e4
         omega
   ·obtain ⟨rfl,rfl⟩:=Prod.mk.inj ((gatherGo_end (fun e=>hrt e.2) f).symm.trans HM.out)
    go_wp2_with (fail)
    go_ret
    exact ⟨_,rfl,H4.out⟩
  ·obtain ⟨rfl,rfl⟩:=Prod.mk.inj ((gatherGo_end (fun e=>hlt e.1) f).symm.trans HM.out)
   go_wp2_with (fail)
   go_ret
   exact ⟨_,rfl,H4.out⟩
theorem gatherR_any:∀(g:Nat),GatherC F rb w0 g:=by
 intro g
 induction g with
 |zero=>
  intro s0 s' out out' ov n a b w h d0 hf n0 n1 ha hb hl hg
  cases ho:s0.off with
  |false=>exact absurd (hf ho) (by omega)
  |true=>
   rw[gatherP_off ho] at hg
   obtain ⟨rfl,rfl⟩:=Prod.mk.inj hg
   exact gather_off_any F rb w0 s0 out ov n a b w h d0 ho
 |succ g ih=>
  intro s0 s' out out' ov n a b w h d0 hf n0 n1 ha hb hl hg
  cases ho:s0.off with
  |false=>exact gather_on_any F rb w0 g ih s0 s' out out' ov n a b w h d0 ho (hf ho) n0 n1 ha hb hl hg
  |true=>
   rw[gatherP_off ho] at hg
   obtain ⟨rfl,rfl⟩:=Prod.mk.inj hg
   exact gather_off_any F rb w0 s0 out ov n a b w h d0 ho
end
attribute [local go_sem] max2_int max_two
theorem RootAt.start32 {n:Int} (h0:0<n) (h1:n≤9223372036854775807):RootAt n 32 0:=by
 refine ⟨⟨0,by simp⟩,by omega, ?_,by decide⟩
 have:((0:Int)+2^32)*(0+2^32)=18446744073709551616:=by decide
 omega
set_option maxHeartbeats 1000000 in
theorem refroot_any (n:Int) (w:World) (h1:n≤9223372036854775807):
  Calls Tryz.prog 263 #[.int .i64 n] w fun e w'=>e= .returned (.int .i64 (rootI n))∧w=w':=by
 by_cases hn:0<n
 ·go_enter Tryz.func263,Tryz.ntmps263
  go_wp2
  go_loop [3,4,5] (fun r t _=>∃(b:Nat) (x:Int),b≤32∧r= .int .i64 x∧t= .int .i64 ((b:Int)-1)∧RootAt n b x) (fun _ t _=>(intOf t+1).toNat)
  case atStart=>exact ⟨32,0,by omega,rfl,rfl,RootAt.start32 hn h1⟩
  case round=>
   obtain ⟨b,r,hb,rfl,rfl,H0⟩:=hrel
   rcases b with _|j
   ·have H:=LH H0.end_
    clear H0
    go_wp2
    go_ret
    exact ⟨ret_int H.out.symm,rfl⟩
   ·have hj:j<32:=by omega
    have p0:=pow_pos' j
    have p1:=pow_le' hj
    have r0:=H0.nonneg
    have r1:r<4294967296:=H0.2.2.2
    have H:=LH H0
    clear H0
    by_cases c:r+2^j≤n/(r+2^j)
    ·go_wp2
     go_round
     case rel=>exact ⟨j,_,by omega,rfl,by go_num,H.out.yes (by omega) h1 c⟩
     case measure=>simp[intOf]
    ·go_wp2
     go_round
     case rel=>exact ⟨j,_,by omega,rfl,by go_num,H.out.no c⟩
     case measure=>simp[intOf]
 ·have H:=LH (rootI_low (n:=n) (by omega))
  go_enter Tryz.func263,Tryz.ntmps263
  go_wp2
  go_ret
  exact ⟨ret_int H.out.symm,rfl⟩
attribute [local go_sem] max2_int max_two min2_int min_two
theorem refdegree_any (n:Int) (w:World) (h0:-9223372036854775808≤n) (h1:n≤9223372036854775807):Calls Tryz.prog 238 #[.int .i64 n] w fun e w'=>e= .returned (.int .i64 (degreeI n))∧w=w':=by
 by_cases h:n<2
 ·have H:=LH (degreeI_none (n:=n) (by omega))
  go_enter Tryz.func238,Tryz.ntmps238
  go_wp2_with (fail)
  go_ret
  exact ⟨ret_int H.out.symm,rfl⟩
 ·by_cases g:16384<n
  ·have H:=LH (degreeI_none (n:=n) (by omega))
   go_enter Tryz.func238,Tryz.ntmps238
   go_wp2_with (fail)
   go_ret
   exact ⟨ret_int H.out.symm,rfl⟩
  ·have H:(if 2<rootI n then rootI n else 2)=degreeI n:=by unfold degreeI;rw[if_neg (show ¬(n<2∨16384<n) by omega)]
   go_enter Tryz.func238,Tryz.ntmps238
   go_wp2_with (go_at_call 263;refine (refroot_any _ _ (by omega)).mono ?_;rintro e w' ⟨rfl,rfl⟩)
   go_ret
   exact ⟨rfl,rfl⟩
theorem reflimit_any (n:Int) (w:World) (h0:-9223372036854775808≤n) (h1:n≤9223372036854775807):Calls Tryz.prog 246 #[.int .i64 n] w fun e w'=>e= .returned (.int .i64 (limitI n))∧w=w':=by
 by_cases h:n<0
 ·have H:=LH (show limitI n=0 from if_pos (.inl h))
  go_enter Tryz.func246,Tryz.ntmps246
  go_wp2_with (fail)
  go_ret
  exact ⟨ret_int H.out.symm,rfl⟩
 ·by_cases g:16384<n
  ·have H:=LH (show limitI n=0 from if_pos (.inr g))
   go_enter Tryz.func246,Tryz.ntmps246
   go_wp2_with (fail)
   go_ret
   exact ⟨ret_int H.out.symm,rfl⟩
  ·have H:=LH (show limitI n=n/4+2 from if_neg (by omega))
   go_enter Tryz.func246,Tryz.ntmps246
   go_wp2_with (fail)
   go_ret
   exact ⟨ret_int H.out.symm,rfl⟩
theorem refsize_any (n i:Int) (w:World) (h0:-9223372036854775808≤n) (h1:n≤9223372036854775807) (i0:-9223372036854775808≤i) (i1:i≤9223372036854775807):Calls Tryz.prog 240 #[.int .i64 n, .int .i64 i] w fun e w'=>e= .returned (.int .i64 (sizeI n i))∧w=w':=by
 by_cases h:i<0
 ·have H:=LH (sizeI_out (n:=n) (i:=i) (.inl h))
  go_enter Tryz.func240,Tryz.ntmps240
  go_wp2_with (go_at_call 238;refine (refdegree_any _ _ (by omega) (by omega)).mono ?_;rintro e w' ⟨rfl,rfl⟩)
  go_ret
  exact ⟨ret_int H.out.symm,rfl⟩
 ·by_cases g:degreeI n≤i
  ·have H:=LH (sizeI_out (n:=n) (i:=i) (.inr g))
   go_enter Tryz.func240,Tryz.ntmps240
   go_wp2_with (go_at_call 238;refine (refdegree_any _ _ (by omega) (by omega)).mono ?_;rintro e w' ⟨rfl,rfl⟩)
   go_ret
   exact ⟨ret_int H.out.symm,rfl⟩
  ·have hd:degreeI n≠0:=by omega
   have hn:¬(n<2∨16384<n):=fun g=>hd (degreeI_none g)
   clear hd
   obtain ⟨s1,s2,s3⟩:=sizeI_in (n:=n) (i:=i) (by omega) (by omega) (by omega) (by omega)
   obtain ⟨p1,p2,p3,p4,p5,p6⟩:=parts (n:=n) (by omega) (by omega)
   obtain ⟨d0,d1,d2⟩:=degreeI_bd (n:=n) (by omega) (by omega)
   have n0:0≤n:=by omega
   clear p1 p6
   by_cases c:i<n%degreeI n
   ·rw[if_pos c] at s1
    have H:=LH s1
    clear s1
    go_enter Tryz.func240,Tryz.ntmps240
    go_wp2_with (go_at_call 238;refine (refdegree_any _ _ (by omega) (by omega)).mono ?_;rintro e w' ⟨rfl,rfl⟩)
    go_ret
    exact ⟨ret_int H.out.symm,rfl⟩
   ·rw[if_neg c] at s1
    have H:=LH s1
    clear s1
    go_enter Tryz.func240,Tryz.ntmps240
    go_wp2_with (go_at_call 238;refine (refdegree_any _ _ (by omega) (by omega)).mono ?_;rintro e w' ⟨rfl,rfl⟩)
    go_ret
    exact ⟨ret_int H.out.symm,rfl⟩
set_option maxHeartbeats 1000000 in
theorem reffrom_any (n i:Int) (w:World) (h0:-9223372036854775808≤n) (h1:n≤9223372036854775807):Calls Tryz.prog 239 #[.int .i64 n, .int .i64 i] w fun e w'=>e= .returned (.int .i64 (fromI n i))∧w=w':=by
 by_cases h:i<0
 ·have H:=LH (show fromI n i=0 from if_pos (.inl h))
  go_enter Tryz.func239,Tryz.ntmps239
  go_wp2_with (go_at_call 238;refine (refdegree_any _ _ (by omega) (by omega)).mono ?_;rintro e w' ⟨rfl,rfl⟩)
  go_ret
  exact ⟨ret_int H.out.symm,rfl⟩
 ·by_cases g:degreeI n≤i
  ·have H:=LH (show fromI n i=0 from if_pos (.inr g))
   go_enter Tryz.func239,Tryz.ntmps239
   go_wp2_with (go_at_call 238;refine (refdegree_any _ _ (by omega) (by omega)).mono ?_;rintro e w' ⟨rfl,rfl⟩)
   go_ret
   exact ⟨ret_int H.out.symm,rfl⟩
  ·have hd:degreeI n≠0:=by omega
   have hn:¬(n<2∨16384<n):=fun g=>hd (degreeI_none g)
   clear hd
   have g0:2≤n:=by omega
   have g1:n≤16384:=by omega
   have i0:0≤i:=by omega
   have i1:i<degreeI n:=by omega
   obtain ⟨d0,d1,d2⟩:=degreeI_bd (n:=n) (by omega) (by omega)
   have H:=LH (fromI_in i0 i1)
   have Z:=LH (rawI_zero g0 g1)
   go_enter Tryz.func239,Tryz.ntmps239
   go_wp2_with (go_at_call 238;refine (refdegree_any _ _ (by omega) (by omega)).mono ?_;rintro e w' ⟨rfl,rfl⟩)
   go_loop [5,6] (fun s t=>∃k:Int,0≤k∧k≤i∧s= .int .i64 (rawI n k)∧t= .int .i64 k) (fun _ t=>(i-intOf t).toNat)
   case atStart=>exact ⟨0,by omega,by omega,by rw[Z.out],rfl⟩
   case round=>
    obtain ⟨k,k0,k1,rfl,rfl⟩:=hrel
    by_cases c:k<i
    ·have S:=LH (rawI_step (i:=k) g0 g1 (by omega) (by omega))
     have b:=rawI_bd (i:=k) g0 g1 (by omega) (by omega)
     have sb:=sizeI_bd n k
     go_wp2_with (go_at_call 240;refine (refsize_any _ _ _ (by omega) (by omega) (by omega) (by omega)).mono ?_;rintro e w' ⟨rfl,rfl⟩)
     go_round
     case rel=>exact ⟨k+1,by omega,by omega,by rw[S.out],rfl⟩
     case measure=>simp[intOf];omega
    ·have:k=i:=by omega
     go_wp2_with (fail)
     go_ret
     exact ⟨ret_int H.out.symm,rfl⟩
set_option maxHeartbeats 1000000 in
theorem refcells_go (k:Nat):∀(n:Int) (w:World),n≤k→-9223372036854775808≤n→n≤9223372036854775807→
  Calls Tryz.prog 251 #[.int .i64 n] w fun e w'=>e= .returned (.int .i64 (cellsI n))∧w=w':=by
 induction k with
 |zero=>
  intro n w hk h0 h1
  by_cases g:n<0
  ·have H:=LH (cellsI_none (n:=n) (by omega))
   go_enter Tryz.func251,Tryz.ntmps251
   go_wp2_with (fail)
   go_ret
   exact ⟨ret_int H.out.symm,rfl⟩
  ·obtain rfl:n=0:=by omega
   go_enter Tryz.func251,Tryz.ntmps251
   go_wp2_with (fail)
   go_ret
   exact ⟨ret_int cellsI_zero.symm,rfl⟩
 |succ k ih=>
  intro n w hk h0 h1
  by_cases g:n<0
  ·have H:=LH (cellsI_none (n:=n) (by omega))
   go_enter Tryz.func251,Tryz.ntmps251
   go_wp2_with (fail)
   go_ret
   exact ⟨ret_int H.out.symm,rfl⟩
  ·by_cases g':16384<n
   ·have H:=LH (cellsI_none (n:=n) (by omega))
    go_enter Tryz.func251,Tryz.ntmps251
    go_wp2_with (fail)
    go_ret
    exact ⟨ret_int H.out.symm,rfl⟩
   ·by_cases u:n<2
    ·have H:cellsI n=n+1:=by
      have:n=0∨n=1:=by omega
      rcases this with rfl|rfl
      ·exact cellsI_zero
      ·exact cellsI_one
     replace H:=LH H
     go_enter Tryz.func251,Tryz.ntmps251
     go_wp2_with (fail)
     go_ret
     exact ⟨ret_int H.out.symm,rfl⟩
    ·have g0:2≤n:=by omega
     have g1:n≤16384:=by omega
     clear g
     obtain ⟨d0,d1,d2⟩:=degreeI_bd (n:=n) (by omega) (by omega)
     have H:=LH (cellsTo_all g0 g1)
     go_enter Tryz.func251,Tryz.ntmps251
     go_wp2_with (go_at_call 238;refine (refdegree_any _ _ (by omega) (by omega)).mono ?_;rintro e w' ⟨rfl,rfl⟩)
     go_loop [3,4] (fun s t=>∃k:Nat,(k:Int)≤degreeI n∧s= .int .i64 (cellsTo n k)∧t= .int .i64 k) (fun _ t=>(degreeI n-intOf t).toNat)
     case atStart=>exact ⟨0,by omega,rfl,rfl⟩
     case round=>
      obtain ⟨i,i1,rfl,rfl⟩:=hrel
      by_cases c:(i:Int)<degreeI n
      ·obtain ⟨s0,s1⟩:=(sizeI_in (n:=n) (i:=i) g0 g1 (by omega) (by omega)).2
       have b:=cellsTo_bd n i
       obtain ⟨a0,a1⟩:=cellsI_abs (sizeI n i)
       go_wp2_with (first|(go_at_call 238;refine (refdegree_any _ _ (by omega) (by omega)).mono ?_;rintro e w' ⟨rfl,rfl⟩)|(go_at_call 240;refine (refsize_any _ _ _ (by omega) (by omega) (by omega) (by omega)).mono ?_;rintro e w' ⟨rfl,rfl⟩)|(go_at_call 251;refine (ih _ _ (by omega) (by omega) (by omega)).mono ?_;rintro e w' ⟨rfl,rfl⟩))
       go_round
       case rel=>exact ⟨i+1,by omega,rfl,by go_num⟩
       case measure=>simp[intOf];omega
      ·have e:i=(degreeI n).toNat:=by omega
       have E:=LH e
       clear e
       go_wp2_with (go_at_call 238;refine (refdegree_any _ _ (by omega) (by omega)).mono ?_;rintro e w' ⟨rfl,rfl⟩)
       go_ret
       exact ⟨ret_int (by rw[E.out,H.out]),rfl⟩
theorem refcells_any (n:Int) (w:World) (h0:-9223372036854775808≤n) (h1:n≤9223372036854775807):
  Calls Tryz.prog 251 #[.int .i64 n] w fun e w'=>e= .returned (.int .i64 (cellsI n))∧w=w':=refcells_go n.toNat n w (by omega) h0 h1
set_option maxRecDepth 100000 in
set_option maxHeartbeats 1000000 in
theorem innerW7_any (n:Int) (A1 A2:Option Addr) (c1 c2:Nat) (q c:List Int) (w:World) (hq:IntsAt w w.heap.size A1 q) (hc:IntsAt w w.heap.size A2 c) (hl1:q.length≤1000) (hl2:c.length≤1000):
  Calls Tryz.prog 241 #[.int .i64 n, .slice A1 q.length c1, .slice A2 c.length c2] w (NewWs (innerWs n q c) w):=by
 obtain ⟨i0,hi0,hz0,hz1,hz2⟩:=info_parts info_int64m
 by_cases e:c.length=q.length+1
 ·have e1:((c.length:Int) !=(q.length:Int)+1)=false:=by simp;omega
  have HE:=LH (show innerWs n q c=innerW n q c from if_pos e)
  have hB:=(Below.refl w.heap.size w).alloc (Nat.le_refl _) (.cells #[.int .i64 c.length, .int .i64 n, .int .i64 0, .int .i64 0, .int .i64 0] 2)
  have hO:(w.alloc (.cells #[.int .i64 c.length, .int .i64 n, .int .i64 0, .int .i64 0, .int .i64 0] 2)).ownsRow w.heap.size 2 1 (.slice (some ⟨w.heap.size,0,none⟩) 5 5) 5 (([(c.length:Int),n,0,0,0]:List Int).map (Value.int .i64)):=World.ownsRow_lit (base:=w.heap.size) (e:=2) (size:=1) w #[.int .i64 c.length, .int .i64 n, .int .i64 0, .int .i64 0, .int .i64 0] 5 (Nat.le_refl _) (by unfold maxLen;decide) (by rfl)
  have hin1:=hq.below hB
  have hin2:=hc.below hB
  have hsz:=hB.size
  have HO:=LH hO
  have HQ:=LH hin1
  have HC:=LH hin2
  have HB:=LH hB
  clear hq hc hO hin1 hin2 hB e
  go_enter Tryz.func241,Tryz.ntmps241
  go_wp2_with (first|(at_builtin;refine wpList_append_any _ rfl _ _ 22 rfl w.heap.size 2 i0 (.int .i64 0) 1 8 Tryz.underlying22 hi0 hz0 hz1 hz2 rfl (by decide) _ 5 _ rfl HO.out w.heap.size A1 q.length c1 (q.map (Value.int .i64)) rfl HQ.out (ints_one q) ?p1 ?p2 ?p3 ?_;(case p1=>(unfold maxLen;omega));(case p2=>omega);(case p3=>exact hsz);intro v' w2 hO2 hg hvb;have HB2:=LH (HB.out.grown hg hsz (fun g h=>(HO.out.lt g h).1));have HO2:=LH hO2;have HC2:=LH ((show IntsAt w2 w.heap.size A2 c from Reads.below HC.out ((Below.refl w.heap.size (w.alloc (.cells #[.int .i64 c.length, .int .i64 n, .int .i64 0, .int .i64 0, .int .i64 0] 2))).grown hg hsz (fun g h=>(HO.out.lt g h).1))));have hsz2:=HB2.out.size;clear hO2 hg hvb HO HQ HC)|(at_builtin;refine wpList_append_any _ rfl _ _ 22 rfl w.heap.size 2 i0 (.int .i64 0) 1 8 Tryz.underlying22 hi0 hz0 hz1 hz2 rfl (by decide) _ _ _ rfl HO2.out w.heap.size A2 c.length c2 (c.map (Value.int .i64)) rfl HC2.out (ints_one c) ?p1 ?p2 ?p3 ?_;(case p1=>(unfold maxLen;omega));(case p2=>omega);(case p3=>exact hsz2);intro v3 w3 hO3 hg hvb;have HB3:=LH (HB2.out.grown hg hsz2 (fun g h=>(HO2.out.lt g h).1));have HO3:=LH hO3;clear hO3 hg hvb HO2 HC2))
  go_wp2_with (fail)
  go_ret
  refine ⟨_,rfl, ?_,HB3.out⟩
  rw[HE.out]
  have h3:=HO3.out
  unfold innerW
  simpa[Nat.add_comm,Nat.add_left_comm,Nat.add_assoc] using h3
 ·have e1:((c.length:Int) !=(q.length:Int)+1)=true:=by simp;omega
  have HE:=LH (show innerWs n q c=[] from if_neg e)
  clear hq hc e
  go_enter Tryz.func241,Tryz.ntmps241
  go_wp2_with (fail)
  go_ret
  refine ⟨_,rfl, ?_,Below.refl _ _⟩
  rw[HE.out]
  exact World.ownsRow_nil _ _ _ _
theorem Chg.cell_ {F:Nat→Prop} {w w':World} (m:Chg F w w') {p:Addr} (hp:p.block<w.heap.size) (hn:¬F p.block):w'.cell? p=w.cell? p:=
 World.cell?_of_block (m.block _ hp hn)
structure GRQ (F F1:Nat→Prop) (rb:Nat) (w0:World) (s:RunS) (qv:Value) (q:List Int) (cv:Value) (c:List Int) (w:World):Prop where
 sub:∀x,F1 x→F x∨w0.heap.size≤x
 run:RunP F1 rb s w
 chg:Chg (fun x=>x=rb) w0 w
 qo:w.ownsRow w0.heap.size 2 1 qv q.length (q.map (Value.int .i64))
 co:w.ownsRow w0.heap.size 2 1 cv c.length (c.map (Value.int .i64))
 qd:∀g,qv.ownBlock=some g→¬F1 g∧cv.ownBlock≠some g
 cd:∀g,cv.ownBlock=some g→¬F1 g
section
variable {F F1:Nat→Prop} {rb:Nat} {w0 w w' w5:World} {s s':RunS} {qv cv v':Value} {q c:List Int} {k:Int}
theorem RunP.within (h:RunP F rb s w):RunP (fun y=>F y∧y<w.heap.size) rb s w:=by
 obtain ⟨tv,wv,rec,laid,h⟩:=h
 exact ⟨tv,wv,rec,laid,⟨h.fb,h.blk.lt⟩,h.blk,h.tape,h.ws,fun g hg=>⟨h.ft g hg,own_lt h.tape g hg⟩,fun g hg=>⟨h.fw g hg,own_lt h.ws g hg⟩⟩
theorem GRQ.rat (h:GRQ F F1 rb w0 s qv q cv c w):RAt F rb w0 s w:=⟨h.run.mono h.sub,h.chg⟩
theorem GRQ.step (h:GRQ F F1 rb w0 s qv q cv c w) (h':RAt F1 rb w s' w'):GRQ F (fun x=>F1 x∨w.heap.size≤x) rb w0 s' qv q cv c w':=
 ⟨fun x hx=>hx.elim (h.sub x) (fun e=> .inr (Nat.le_trans h.chg.size e)),h'.1,h.chg.trans h'.2,h.rat.keepO h'.2 h.qo (by decide),h.rat.keepO h'.2 h.co (by decide),
  fun g hg=>⟨fun e=>e.elim (h.qd g hg).1 (fun e=>by have:=own_lt h.qo g hg;omega),(h.qd g hg).2⟩,fun g hg e=>e.elim (h.cd g hg) (fun e=>by have:=own_lt h.co g hg;omega)⟩
theorem GRQ.below (h:GRQ F F1 rb w0 s qv q cv c w) (hb:Below w.heap.size w w'):GRQ F F1 rb w0 s qv q cv c w':=
 ⟨h.sub,h.run.below hb,h.chg.trans (Chg.of_below hb),own_below h.qo hb,own_below h.co hb,h.qd,h.cd⟩
theorem GRQ.appq (h:GRQ F F1 rb w0 s qv q cv c w) (hO:w5.ownsRow w0.heap.size 2 1 v' (q.length+1) (q.map (Value.int .i64)++[.int .i64 k])) (hg:w.grownBy w5 qv.ownBlock) (hv:v'.ownBlock=qv.ownBlock∨v'.ownBlock=some w.heap.size):GRQ F (fun x=>F1 x∧x<w.heap.size) rb w0 s v' (q++[k]) cv c w5:=by
 have hc:Chg (fun y=>qv.ownBlock=some y) w w5:=(Chg.of_grown hg).mono (fun _ e=>e)
 refine ⟨fun x hx=>h.sub x hx.1,h.run.within.chg hc (fun x hx e=>(h.qd x e).1 hx.1),h.chg.grow hc (fun x e=> .inr (h.qo.lt x e).1),by rw[List.length_append,List.map_append];exact hO,hc.own h.co (fun g hg e=>(h.qd g e).2 hg),fun g hg'=> ?_,fun g hg' e=>h.cd g hg' e.1⟩
 rcases hv with e|e
 ·rw[e] at hg';exact ⟨fun e=>(h.qd g hg').1 e.1,(h.qd g hg').2⟩
 ·rw[e] at hg'
  injection hg' with hg'
  exact ⟨fun e=>by have:=e.2;omega,fun e=>by have:=own_lt h.co g e;omega⟩
theorem GRQ.appc (h:GRQ F F1 rb w0 s qv q cv c w) (hO:w5.ownsRow w0.heap.size 2 1 v' (c.length+1) (c.map (Value.int .i64)++[.int .i64 k])) (hg:w.grownBy w5 cv.ownBlock) (hv:v'.ownBlock=cv.ownBlock∨v'.ownBlock=some w.heap.size):GRQ F (fun x=>F1 x∧x<w.heap.size) rb w0 s qv q v' (c++[k]) w5:=by
 have hc:Chg (fun y=>cv.ownBlock=some y) w w5:=(Chg.of_grown hg).mono (fun _ e=>e)
 refine ⟨fun x hx=>h.sub x hx.1,h.run.within.chg hc (fun x hx e=>h.cd x e hx.1),h.chg.grow hc (fun x e=> .inr (h.co.lt x e).1),hc.own h.qo (fun g hg e=>(h.qd g hg).2 e),by rw[List.length_append,List.map_append];exact hO,fun g hg'=>⟨fun e=>(h.qd g hg').1 e.1,fun e=> ?_⟩,fun g hg' e=> ?_⟩
 ·rcases hv with e'|e'
  ·rw[e'] at e;exact (h.qd g hg').2 e
  ·rw[e'] at e
   injection e with e
   have:=own_lt h.qo g hg'
   omega
 ·rcases hv with e'|e'
  ·rw[e'] at hg';exact h.cd g hg' e.1
  ·rw[e'] at hg'
   injection hg' with hg'
   have:=e.2
   omega
end
def GR (F:Nat→Prop) (rb:Nat) (w0:World) (s:RunS) (qv:Value) (q:List Int) (cv:Value) (c:List Int) (w:World):Prop:=∃F1,GRQ F F1 rb w0 s qv q cv c w
def GrowPost (F:Nat→Prop) (rb:Nat) (w0:World) (v:Int×Bool) (s':RunS) (e:Ending) (w':World):Prop:=e= .returned (.tuple #[.int .i64 v.1, .bool v.2])∧RAt F rb w0 s' w'
def GrowC (f:Nat):Prop:=∀(F:Nat→Prop) (rb:Nat) (s0 s':RunS) (v:Int×Bool) (l:List (Int×Int)) (A:Option Addr) (c N:Nat) (w:World),N=l.length→RunP F rb s0 w→s0.Bd→PairsAt w w.heap.size A l→(∀ad,A=some ad→ad.block≠rb)→l.length≤c→l.length<f→l.length≤2000000000→LB l→(growP f l).go s0=(v,s')→
  Calls Tryz.prog 205 #[.pointer (some ⟨rb,0,none⟩), .slice A N c] w (GrowPost F rb w v s')
theorem GrowC.use {f:Nat} (h:GrowC f) (F:Nat→Prop) (rb:Nat) (s0 s':RunS) (v:Int×Bool) (l:List (Int×Int)) (A:Option Addr) (c N:Nat) (w:World) (hN:N=l.length) (h0:RunP F rb s0 w) (d0:s0.Bd) (hq:PairsAt w w.heap.size A l) (hA:∀ad,A=some ad→ad.block≠rb) (hc:l.length≤c) (hf:l.length<f) (hl:l.length≤2000000000) (hb:LB l) (hg:(growP f l).go s0=(v,s')):
  Calls Tryz.prog 205 #[.pointer (some ⟨rb,0,none⟩), .slice A N c] w (GrowPost F rb w v s'):=h F rb s0 s' v l A c N w hN h0 d0 hq hA hc hf hl hb hg
set_option maxRecDepth 100000 in
set_option maxHeartbeats 2000000 in
theorem grow0_any (f:Nat) (F:Nat→Prop) (rb:Nat) (s0 s':RunS) (v:Int×Bool) (A:Option Addr) (c:Nat) (w:World) (h:RunP F rb s0 w) (d0:s0.Bd) (hg:(growP (f+1) []).go s0=(v,s')):
  Calls Tryz.prog 205 #[.pointer (some ⟨rb,0,none⟩), .slice A 0 c] w (GrowPost F rb w v s'):=by
 have hg:((makeP [0] 0).bind fun a=> .ret (wOf 1 a,decide (0<a))).go s0=(v,s'):=hg
 have H0:Hid (RAt F rb w s0 w):=LH (RAt.refl h)
 have HG:=LH hg
 clear hg
 clear h
 go_enter Tryz.func205,Tryz.ntmps205
 go_wp2_with (fail)
 with_reducible refine (emptyW7_any _).mono ?_
 rintro e wa ⟨qv,rfl,hq,hqb⟩
 have HQ:=LH (own_mono hq (Nat.zero_le _))
 have HN:=LH (fun g (hg:qv.ownBlock=some g)=>(hq.lt g hg).1)
 have H0a:=LH (H0.out.below hqb)
 clear hq hqb H0
 obtain ⟨v1,s1,g1⟩:=go_ex (makeP [0] 0) s0
 have hg:=HG.out
 clear HG
 rw[go_bind,g1] at hg
 have HG:=LH hg
 clear hg
 obtain ⟨b1,d1⟩:=go_okE g1 (makeP_ok (one_ok i64B_zero) (by decide)) d0
 have G1:=LH g1
 clear g1
 have b10:=b1.lo
 have b11:=b1.hi
 go_wp2_with (fail)
 with_reducible refine (makeR_any F rb w s0 s1 v1 [0] 0 qv _ H0a.out d0 HQ.out HN.out G1.out).mono ?_
 rintro e w1 ⟨rfl,h1⟩
 have H1:=LH h1
 clear h1 H0a HQ HN G1
 go_wp2_with (fail)
 with_reducible refine (refOf_any 1 v1 _).mono ?_
 rintro e w2 ⟨rfl,rfl⟩
 obtain ⟨rfl,rfl⟩:=Prod.mk.inj HG.out
 go_wp2_with (fail)
 go_ret2
 exact ⟨rfl,H1.out⟩
set_option maxRecDepth 100000 in
set_option maxHeartbeats 4000000 in
theorem grow1_any (f:Nat) (F:Nat→Prop) (rb:Nat) (s0 s':RunS) (v:Int×Bool) (l:List (Int×Int)) (A:Option Addr) (c:Nat) (w:World) (h:RunP F rb s0 w) (d0:s0.Bd) (h1l:l.length=1) (hq:PairsAt w w.heap.size A l) (hA:∀ad,A=some ad→ad.block≠rb) (hb:LB l) (hg:(growP (f+1) l).go s0=(v,s')):
  Calls Tryz.prog 205 #[.pointer (some ⟨rb,0,none⟩), .slice A 1 c] w (GrowPost F rb w v s'):=by
 unfold growP at hg
 rw[if_neg (by omega),if_pos h1l] at hg
 obtain ⟨ad,rfl,hab,_⟩:=PairsAt.both hq (by omega)
 obtain ⟨k1,k2⟩:=pairs_at hq (i:=0) (by omega)
 obtain ⟨bk,bx⟩:=hb.at_ 0
 rw[show 0*2=0 from rfl,add_zero'] at k1 k2
 have hz:=hA ad rfl
 clear hA hb hq
 generalize pkey l 0=kk at hg k1 bk
 generalize pval l 0=xx at hg k2 bx
 clear h1l
 have H0:Hid (RAt F rb w s0 w.drew):=LH ((RAt.refl h).drew)
 have K0:Hid (w.drew.cell? ad=some (.int .i64 kk)∧w.drew.cell? {block:=ad.block,off:=ad.off+1}=some (.int .i64 xx)):=LH ⟨k1,k2⟩
 obtain ⟨v1,s1,g1⟩:=go_ex (makeP [kk,xx] 0) s0
 rw[go_bind,g1] at hg
 obtain ⟨b1,d1⟩:=go_okE g1 (makeP_ok (two_ok bk bx) (by simp)) d0
 have G1:=LH g1
 have HG:=LH hg
 have b10:=b1.lo
 have b11:=b1.hi
 have hlt:ad.block<w.drew.heap.size:=hab
 have tst1:w.drew.cell? ad=some (.int .i64 kk):=K0.out.1
 have tst2:w.drew.cell? {block:=ad.block,off:=ad.off+1}=some (.int .i64 xx):=K0.out.2
 clear g1 hg h
 have hsz:w.drew.heap.size=w.heap.size:=rfl
 go_enter Tryz.func205,Tryz.ntmps205
 go_wp2_with (fail)
 go_region_held3 (fun w'=>w'.cell? ad=some (.int .i64 kk)∧w'.cell? {block:=ad.block,off:=ad.off+1}=some (.int .i64 xx)) (first|go_keep|exact ⟨K0.out.1,K0.out.2⟩|exact ⟨K1.out.1,K1.out.2⟩|exact ⟨K2.out.1,K2.out.2⟩) (first|(go_at_call 237;(with_reducible refine (leafW7_any kk xx _).mono ?_);rintro e w2 ⟨qv,rfl,hq,hb⟩;have HQ:=LH (own_mono hq (Nat.zero_le _));have HN:=LH (fun g (hg:qv.ownBlock=some g)=>(show w.heap.size≤g from (hq.lt g hg).1));have H2:=LH (H0.out.below hb);have K1:=LH (show w2.cell? ad=some (.int .i64 kk)∧w2.cell? {block:=ad.block,off:=ad.off+1}=some (.int .i64 xx) from ⟨(hb.cell hlt).trans K0.out.1,(hb.cell (p:={block:=ad.block,off:=ad.off+1}) hlt).trans K0.out.2⟩);clear hq hb)|(go_at_call 229;(with_reducible refine (makeR_any F rb w s0 s1 v1 [kk,xx] 0 qv _ H2.out d0 HQ.out HN.out G1.out).mono ?_);rintro e w3 ⟨rfl,h3⟩;have H3:=LH h3;have K2:=LH (show w3.cell? ad=some (.int .i64 kk)∧w3.cell? {block:=ad.block,off:=ad.off+1}=some (.int .i64 xx) from ⟨(h3.2.cell_ hab hz).trans K0.out.1,(h3.2.cell_ (p:={block:=ad.block,off:=ad.off+1}) hab hz).trans K0.out.2⟩);clear h3))
 all_goals
  go_wp2_with (fail)
  with_reducible refine (refOf_any 2 v1 _).mono ?_
  rintro e w4 ⟨rfl,rfl⟩
  obtain ⟨rfl,rfl⟩:=Prod.mk.inj HG.out
  go_wp2_with (fail)
  go_ret2
  exact ⟨rfl,H3.out⟩
theorem sub_pairs {w:World} {B:Nat} {ad:Addr} {l:List (Int×Int)} {F Z:Nat} (h:PairsAt w B (some ad) l) (hz:F+Z≤l.length):PairsAt w B (some (ad.add (F*2))) ((l.drop F).take Z)∧((l.drop F).take Z).length=Z:=by
 have h1:=h.cut (n:=F) (by omega)
 have h2:PairsAt w B (some (ad.add (F*2))) (l.drop F):=by unfold PairsAt;rw[List.length_drop];exact h1
 have h3:=h2.take (n:=Z) (by rw[List.length_drop];omega)
 have e:((l.drop F).take Z).length=Z:=by rw[List.length_take,List.length_drop];omega
 refine ⟨?_,e⟩
 unfold PairsAt
 rw[e]
 exact h3
theorem LB.part {l:List (Int×Int)} (h:LB l) (a b:Nat):LB ((l.drop a).take b):=fun p hp=>h p (List.mem_of_mem_drop (List.mem_of_mem_take hp))
theorem reads_lit1 (w:World) (t:TypeId) (a:Value):Reads (w.alloc (.cells #[a] t)) (w.heap.size+1) 1 (some ⟨w.heap.size,0,none⟩) 1 [a]:=by
 refine ⟨rfl,fun _=>⟨_,rfl,Nat.lt_succ_self _,fun j u hu=> ?_⟩⟩
 rcases j with _|j
 ·simp at hu;subst hu;rw[add_zero',World.cell?_alloc_at _ _ _ _ rfl]<;>rfl
 ·simp at hu
def RGrow (F:Nat→Prop) (rb:Nat) (w0:World) (f:Nat) (l:List (Int×Int)) (D:Int) (v:Int×Bool) (s':RunS) (qv cv iv:Value) (wr:World):Prop:=∃(i m:Nat) (q c:List Int) (s:RunS),iv= .int .i64 i∧(m:Int)+i=D∧c.length=i∧q.length≤i∧VB q∧VB c∧GR F rb w0 s qv q cv c wr∧s.Bd∧(growGo (growP f) l m i q c).go s=(v,s')
set_option maxRecDepth 100000 in
set_option maxHeartbeats 8000000 in
theorem growN_any (f:Nat) (ih:GrowC f) (F:Nat→Prop) (rb:Nat) (s0 s':RunS) (v:Int×Bool) (l:List (Int×Int)) (A:Option Addr) (c:Nat) (w:World) (h:RunP F rb s0 w) (d0:s0.Bd) (hn:2≤l.length) (hq:PairsAt w w.heap.size A l) (hA:∀ad,A=some ad→ad.block≠rb) (hc:l.length≤c) (hf:l.length<f+1) (hl:l.length≤2000000000) (hb:LB l) (hg:(growP (f+1) l).go s0=(v,s')):
  Calls Tryz.prog 205 #[.pointer (some ⟨rb,0,none⟩), .slice A l.length c] w (GrowPost F rb w v s'):=by
 obtain ⟨i0,hi0',hz0,hz1,hz2⟩:=info_parts info_int64m
 unfold growP at hg
 rw[if_neg (by omega),if_neg (by omega)] at hg
 have hdl:=degreeI_le l.length
 have hd0:=degreeI_nonneg l.length
 have hpl:∀i:Nat,(i:Int)<degreeI l.length→2≤l.length∧l.length≤16384:=fun i hi=>by
  by_cases h2:(l.length:Int)<2∨16384<(l.length:Int)
  ·rw[degreeI_none h2] at hi;omega
  ·omega
 have hparts:∀i:Nat,(i:Int)<degreeI l.length→∃Fi Zi:Nat,fromI l.length i=Fi∧sizeI l.length i=Zi∧Fi+Zi≤l.length∧1≤Zi∧Zi<l.length:=fun i hi=>by
  obtain ⟨h2,h3⟩:=hpl i hi
  obtain ⟨-,p1,p2,p3,p4⟩:=part_len h2 h3 hi
  exact ⟨(fromI l.length i).toNat,(sizeI l.length i).toNat,by omega,by omega,by omega,by omega,by omega⟩
 obtain ⟨ad,rfl,hab,_⟩:=PairsAt.both hq (by omega)
 have hz:=hA ad rfl
 have e0:((l.length:Int)==0)=false:=beq_false_of_ne (by omega)
 have e1:((l.length:Int)==1)=false:=beq_false_of_ne (by omega)
 obtain ⟨D,hD⟩:∃D,degreeI l.length=D:=⟨_,rfl⟩
 rw[hD] at hdl hd0 hg hparts
 have H0:Hid (RunP F rb s0 w):=LH h
 have HPA:=LH hparts
 have HG:=LH hg
 have HDE:=LH hD
 have HQ:=LH hq
 have HLB:=LH hb
 have HIH:=LH ih
 have HA:=LH hA
 clear hg hD hq hb ih hA
 clear hpl hparts h
 go_enter Tryz.func205,Tryz.ntmps205
 go_wp2_with (fail)
 go_loopw [11,12,13] (fun qv cv iv wr=>RGrow F rb w f l D v s' qv cv iv wr) (fun _ _ iv _=>(D-intOf iv).toNat)
 case atStart=>unfold RGrow;exact ⟨0,D.toNat,[],[],s0,rfl,by omega,rfl,Nat.le_refl _,fun x hx=>(by cases hx),fun x hx=>(by cases hx),⟨F,fun x hx=> .inl hx,H0.out,Chg.refl _ _,World.ownsRow_nil _ _ _ _,World.ownsRow_nil _ _ _ _,fun g hg=>by simp[Value.ownBlock] at hg,fun g hg=>by simp[Value.ownBlock] at hg⟩,d0,HG.out⟩
 case round=>
  clear HG H0 d0
  obtain ⟨i,m,q,ch,s1,rfl,hm,hcl,hql,hvq,hvc,⟨F1,hgr⟩,d1,hg1⟩:=hrel
  obtain ⟨qA,qc,rfl⟩:=own_shape hgr.qo
  obtain ⟨cA,cc,rfl⟩:=own_shape hgr.co
  have hcl2:ch.length≤200:=by omega
  have hql2:q.length≤200:=by omega
  have HCL:=LH hcl
  clear hcl
  have HGR:=LH hgr
  have HG:=LH hg1
  have HVQ:=LH hvq
  have HVC:=LH hvc
  have HQL:=LH hql
  clear hgr hg1 hvq hvc hql
  have hi128:(i:Int)≤128:=by omega
  go_wp2_with (fail)
  with_reducible refine (refdegree_any l.length _ (by omega) (by omega)).mono ?_
  rintro e w1 ⟨rfl,rfl⟩
  rw[HDE.out]
  by_cases hlt:(i:Int)<D
  ·obtain ⟨Fi,Zi,hF,hZ,hFZ,hZ1,hZl⟩:=HPA.out i hlt
   obtain ⟨m,rfl⟩:∃k,m=k+1:=⟨m-1,by omega⟩
   unfold growGo at HG
   have hg2:=HG.out
   clear HG
   rw[hF,hZ] at hg2
   have hg2:((growP f ((l.drop Fi).take Zi)).bind fun r=>if r.2=false then .ret (0,false) else growGo (growP f) l m ((i:Int)+1) (if 0<(i:Int) then q++[pkey l Fi] else q) (ch++[r.1])).go s1=(v,s'):=hg2
   have HFE:=LH hF
   have HZE:=LH hZ
   clear hF hZ
   obtain ⟨r,s2,g2⟩:=go_ex (growP f ((l.drop Fi).take Zi)) s1
   obtain ⟨b2,d2⟩:=go_okE g2 (growP_ok f _ (HLB.out.part _ _)) d1
   rw[go_bind,g2] at hg2
   have G2:=LH g2
   have HG:=LH hg2
   have HB2:=LH b2
   clear g2 hg2 b2
   have hFi:(Fi:Int)<(l.length:Int):=by omega
   have hFc:(Fi:Int)+(Zi:Int)≤(c:Int):=by omega
   have hqw:PairsAt wr wr.heap.size (some ad) l:=(HQ.out.chg HGR.out.chg (Nat.le_refl _) (fun a ha=>by injection ha with ha;subst ha;exact hz)).more HGR.out.chg.size
   obtain ⟨k1,-⟩:=pairs_at hqw (i:=Fi) (by omega)
   clear hqw
   go_wp2_with (fail)
   with_reducible refine (reffrom_any l.length i _ (by omega) (by omega)).mono ?_
   rintro e w1 ⟨rfl,rfl⟩
   rw[HFE.out]
   by_cases hi0:i=0
   ·subst hi0
    have HZE2:Hid (sizeI l.length 0=Zi):=HZE
    have HGN:Hid ((growGo (growP f) l m (((0:Nat):Int)+1) (if 0<((0:Nat):Int) then q++[pkey l Fi] else q) (ch++[r.1])).go s2=(v,s')→(growGo (growP f) l m ((1:Nat):Int) q (ch++[r.1])).go s2=(v,s')):=LH (fun e=>by rw[if_neg (by omega)] at e;exact e)
    have HS:=LH (sub_pairs ((HQ.out.chg HGR.out.chg (Nat.le_refl _) (fun a ha=>by injection ha with ha;subst ha;exact hz)).more HGR.out.chg.size) hFZ)
    go_wp2_with (fail)
    with_reducible refine (refsize_any l.length 0 _ (by omega) (by omega) (by omega) (by omega)).mono ?_
    rintro e wz ⟨rfl,rfl⟩
    rw[HZE2.out]
    have hZc:(Fi:Int)≤(Fi:Int)+(Zi:Int):=by omega
    go_wp2_with (fail)
    with_reducible refine (HIH.out.use _ rb s1 s2 r ((l.drop Fi).take Zi) (some (ad.add (Fi*2))) (c-Fi) Zi _ HS.out.2.symm HGR.out.run d1 HS.out.1 (fun a ha=>by injection ha with ha;subst ha;rw[block_of_add];exact hz) (by have:=HS.out.2;omega) (by have:=HS.out.2;omega) (by have:=HS.out.2;omega) (HLB.out.part _ _) G2.out).mono ?_
    rintro e w7 ⟨rfl,h7⟩
    have H7:=LH (HGR.out.step h7)
    clear h7 G2 HS HGR
    obtain ⟨r1,r2⟩:=r
    cases r2 with
    |false=>
     have hg:=HG.out
     clear HG
     rw[if_pos rfl] at hg
     have HG:=LH hg
     clear hg
     obtain ⟨rfl,rfl⟩:=Prod.mk.inj HG.out
     go_wp2_with (fail)
     go_ret2
     exact ⟨rfl,H7.out.rat⟩
    |true=>
     have hg:=HG.out
     clear HG
     rw[if_neg (fun e=>Bool.noConfusion e)] at hg
     have HG:=LH hg
     clear hg
     have HR1:=LH (reads_lit1 w7 2 (.int .i64 r1))
     have hb8:=(Below.refl w7.heap.size w7).alloc (Nat.le_refl _) (.cells #[.int .i64 r1] 2)
     have hzz:=hb8.size
     have hsz:=H7.out.chg.size
     have H8:=LH (H7.out.below hb8)
     clear hb8
     go_wp2_with (at_builtin;refine wpList_append_any _ rfl _ _ 22 rfl w.heap.size 2 i0 (.int .i64 0) 1 8 Tryz.underlying22 hi0' hz0 hz1 hz2 rfl (by decide) _ _ _ rfl H8.out.co _ _ 1 1 [.int .i64 r1] rfl HR1.out (by simp[Value.oneCell']) ?p1 ?p2 ?p3 ?_;(case p1=>(unfold maxLen;omega));(case p2=>omega);(case p3=>omega);intro v9 w9 hO9 hg9 hv9;have H9:=LH (H8.out.appc hO9 hg9 hv9);clear hO9 hg9 hv9)
     go_roundw
     case rel=>unfold RGrow;exact ⟨1,m,q,ch++[r1],s2,by go_num,by omega,by rw[List.length_append];have:=HCL.out;simp only[List.length_cons,List.length_nil];omega,by have:=HQL.out;(try rw[List.length_append]);(try simp only[List.length_cons,List.length_nil]);omega,HVQ.out,HVC.out.snoc HB2.out,⟨_,H9.out⟩,d2,HGN.out HG.out⟩
     case measure=>simp[intOf];omega
   ·have hip:0<(i:Int):=by omega
    have HZE2:=HZE
    have HGN:Hid ((growGo (growP f) l m ((i:Int)+1) (if 0<(i:Int) then q++[pkey l Fi] else q) (ch++[r.1])).go s2=(v,s')→(growGo (growP f) l m ((i+1:Nat):Int) (q++[pkey l Fi]) (ch++[r.1])).go s2=(v,s')):=LH (fun e=>by rw[if_pos hip] at e;exact e)
    have HQ1:=LH (reads_lit1 wr 2 (.int .i64 (pkey l Fi)))
    have hb4:=(Below.refl wr.heap.size wr).alloc (Nat.le_refl _) (.cells #[.int .i64 (pkey l Fi)] 2)
    have hzz4:=hb4.size
    have hsz4:=HGR.out.chg.size
    have H4:=LH (HGR.out.below hb4)
    clear hb4
    go_wp2_with (at_builtin;refine wpList_append_any _ rfl _ _ 22 rfl w.heap.size 2 i0 (.int .i64 0) 1 8 Tryz.underlying22 hi0' hz0 hz1 hz2 rfl (by decide) _ _ _ rfl H4.out.qo _ _ 1 1 [.int .i64 (pkey l Fi)] rfl HQ1.out (by simp[Value.oneCell']) ?p1 ?p2 ?p3 ?_;(case p1=>(unfold maxLen;omega));(case p2=>omega);(case p3=>omega);intro v5 w5 hO5 hg5 hv5;have H5:=LH (H4.out.appq hO5 hg5 hv5);obtain ⟨A5,c5,rfl⟩:=own_shape hO5;clear hO5 hg5 hv5)
    clear HGR H4 HQ1
    have HS:=LH (sub_pairs ((HQ.out.chg H5.out.chg (Nat.le_refl _) (fun a ha=>by injection ha with ha;subst ha;exact hz)).more H5.out.chg.size) hFZ)
    go_wp2_with (fail)
    with_reducible refine (refsize_any l.length i _ (by omega) (by omega) (by omega) (by omega)).mono ?_
    rintro e wz ⟨rfl,rfl⟩
    rw[HZE2.out]
    have hZc:(Fi:Int)≤(Fi:Int)+(Zi:Int):=by omega
    go_wp2_with (fail)
    with_reducible refine (HIH.out.use _ rb s1 s2 r ((l.drop Fi).take Zi) (some (ad.add (Fi*2))) (c-Fi) Zi _ HS.out.2.symm H5.out.run d1 HS.out.1 (fun a ha=>by injection ha with ha;subst ha;rw[block_of_add];exact hz) (by have:=HS.out.2;omega) (by have:=HS.out.2;omega) (by have:=HS.out.2;omega) (HLB.out.part _ _) G2.out).mono ?_
    rintro e w7 ⟨rfl,h7⟩
    have H7:=LH (H5.out.step h7)
    clear h7 G2 HS H5
    obtain ⟨r1,r2⟩:=r
    cases r2 with
    |false=>
     have hg:=HG.out
     clear HG
     rw[if_pos rfl] at hg
     have HG:=LH hg
     clear hg
     obtain ⟨rfl,rfl⟩:=Prod.mk.inj HG.out
     go_wp2_with (fail)
     go_ret2
     exact ⟨rfl,H7.out.rat⟩
    |true=>
     have hg:=HG.out
     clear HG
     rw[if_neg (fun e=>Bool.noConfusion e)] at hg
     have HG:=LH hg
     clear hg
     have HR1:=LH (reads_lit1 w7 2 (.int .i64 r1))
     have hb8:=(Below.refl w7.heap.size w7).alloc (Nat.le_refl _) (.cells #[.int .i64 r1] 2)
     have hzz:=hb8.size
     have hsz:=H7.out.chg.size
     have H8:=LH (H7.out.below hb8)
     clear hb8
     go_wp2_with (at_builtin;refine wpList_append_any _ rfl _ _ 22 rfl w.heap.size 2 i0 (.int .i64 0) 1 8 Tryz.underlying22 hi0' hz0 hz1 hz2 rfl (by decide) _ _ _ rfl H8.out.co _ _ 1 1 [.int .i64 r1] rfl HR1.out (by simp[Value.oneCell']) ?p1 ?p2 ?p3 ?_;(case p1=>(unfold maxLen;omega));(case p2=>omega);(case p3=>omega);intro v9 w9 hO9 hg9 hv9;have H9:=LH (H8.out.appc hO9 hg9 hv9);clear hO9 hg9 hv9)
     go_roundw
     case rel=>unfold RGrow;exact ⟨i+1,m,q++[pkey l Fi],ch++[r1],s2,by go_num,by omega,by rw[List.length_append];have:=HCL.out;simp only[List.length_cons,List.length_nil];omega,by have:=HQL.out;(try rw[List.length_append]);(try simp only[List.length_cons,List.length_nil]);omega,HVQ.out.snoc (HLB.out.at_ Fi).1,HVC.out.snoc HB2.out,⟨_,H9.out⟩,d2,HGN.out HG.out⟩
     case measure=>simp[intOf];omega
  ·have hm0:m=0:=by omega
   subst hm0
   have hbd:i64B (l.length:Int):=by unfold i64B;omega
   have hw:=innerWs_ok (n:=(l.length:Int)) (q:=q) (c:=ch) (fun _=>hbd) HVQ.out HVC.out (by omega)
   have hg2:((makeP (innerWs l.length q ch) 0).bind fun a=> .ret (wOf 3 a,decide (0<a))).go s1=(v,s'):=HG.out
   clear HG
   obtain ⟨v1,s2,g2⟩:=go_ex (makeP (innerWs l.length q ch) 0) s1
   rw[go_bind,g2] at hg2
   have HG:=LH hg2
   obtain ⟨b2,d2⟩:=go_okE g2 (makeP_ok hw.1 hw.2) d1
   have b20:=b2.lo
   have b21:=b2.hi
   have G2:=LH g2
   have HQI:=LH (IntsAt.of_own HGR.out.qo).2
   have HCI:=LH (IntsAt.of_own HGR.out.co).2
   clear g2 hg2 hw
   go_wp2_with (fail)
   with_reducible refine (innerW7_any l.length qA cA qc cc q ch _ HQI.out HCI.out (by omega) (by omega)).mono ?_
   rintro e w3 ⟨qv,rfl,hq,hqb⟩
   have HQ3:=LH (own_mono hq (Nat.zero_le _))
   have HN3:=LH (fun g (hg:qv.ownBlock=some g)=>Nat.le_trans HGR.out.chg.size (hq.lt g hg).1)
   have HR3:=LH (HGR.out.rat.below hqb)
   clear hq hqb HQI HCI HGR
   go_wp2_with (fail)
   with_reducible refine (makeR_any F rb w s1 s2 v1 (innerWs l.length q ch) 0 qv _ HR3.out d1 HQ3.out HN3.out G2.out).mono ?_
   rintro e w4 ⟨rfl,h4⟩
   have H4:=LH h4
   clear h4 HR3 HQ3 HN3 G2
   go_wp2_with (fail)
   with_reducible refine (refOf_any 3 v1 _).mono ?_
   rintro e w5 ⟨rfl,rfl⟩
   obtain ⟨rfl,rfl⟩:=Prod.mk.inj HG.out
   go_wp2_with (fail)
   go_ret2
   exact ⟨rfl,H4.out⟩
theorem growR_any:∀f,GrowC f:=by
 intro f
 induction f with
 |zero=>intro F rb s0 s' v l A c N w hN h d0 hq hA hc hf;exact absurd hf (by omega)
 |succ f ih=>
  intro F rb s0 s' v l A c N w hN h d0 hq hA hc hf hl hb hg
  subst hN
  by_cases h0:l.length=0
  ·have e:l=[]:=List.eq_nil_of_length_eq_zero h0
   subst e
   exact grow0_any f F rb s0 s' v A c w h d0 hg
  ·by_cases h1:l.length=1
   ·have:=grow1_any f F rb s0 s' v l A c w h d0 h1 hq hA hb hg
    rw[h1];exact this
   ·exact growN_any f ih F rb s0 s' v l A c w h d0 (by omega) hq hA hc hf hl hb hg
theorem layTo_ext {lay:List Int→List (Int×Int)→List Int×Int} (hl:∀C l,∃X,(lay C l).1=C++X) (C:List Int) (l:List (Int×Int)) (i:Nat):∀k:Nat,∃X,(layTo lay C l (i+k)).1=(layTo lay C l i).1++X
 |0=>⟨[],by simp⟩
 |k+1=>by
  obtain ⟨X,hX⟩:=layTo_ext hl C l i k
  obtain ⟨Y,hY⟩:=hl (layTo lay C l (i+k)).1 ((l.drop (fromI l.length ((i+k:Nat):Int)).toNat).take (sizeI l.length ((i+k:Nat):Int)).toNat)
  refine ⟨X++Y, ?_⟩
  exact hY.trans (by rw[hX,List.append_assoc])
theorem layF_ext:∀(f:Nat) (C:List Int) (l:List (Int×Int)),∃X,(layF f C l).1=C++X
 |0,C,l=>⟨[],by simp[layF]⟩
 |f+1,C,l=>by
  unfold layF
  split
  ·exact ⟨_,rfl⟩
  ·split
   ·exact ⟨_,rfl⟩
   ·obtain ⟨X,hX⟩:=layTo_ext (lay:=layF f) (layF_ext f) C l 0 (degreeI l.length).toNat
    rw[Nat.zero_add] at hX
    rw[hX]
    exact ⟨_,List.append_assoc _ _ _⟩
def DoPost (F:Nat→Prop) (bm:Nat) (C:List Int) (max:Int) (q:Ask) (w:World) (e:Ending) (w':World):Prop:=e= .returned (.int .i64 (exQ max q C).1)∧M7 (fun x=>F x∨w.heap.size≤x) bm (exQ max q C).2 max w'∧Chg F w w'
theorem DoPost.mk {F:Nat→Prop} {bm:Nat} {C C':List Int} {max r:Int} {q:Ask} {w w1 w':World} (he:exQ max q C=(r,C')) (hb:Below w.heap.size w w1) (hm:M7 F bm C' max w') (hc:Chg F w1 w'):DoPost F bm C max q w (.returned (.int .i64 r)) w':=by
 unfold DoPost
 rw[he]
 exact ⟨rfl,hm.mono (fun _=> .inl),(Chg.of_below hb).trans hc⟩
section
variable (F:Nat→Prop) (bm:Nat) (C:List Int) (max:Int)
set_option maxRecDepth 100000 in
set_option maxHeartbeats 1000000 in
theorem do1_any (a x y t:Int) (ws:List Int) (A:Option Addr) (c:Nat) (w:World) (h:M7 F bm C max w) (hC:C.length≤1000000) (hm0:(C.length:Int)≤max) (hm:max≤65536) (hq:w.ownsRow 0 2 1 (.slice A ws.length c) ws.length (ws.map (Value.int .i64))) (hql:ws.length≤1000000):
  Calls Tryz.prog 96 #[.pointer (some ⟨bm,0,none⟩), .agg #[.int .i64 1, .int .i64 a, .int .i64 x, .int .i64 y, .slice A ws.length c]] w (DoPost F bm C max ⟨1,a,x,y,ws,t⟩ w):=by
 have hx:=Blk.new w 143 #[.int .i64 1, .int .i64 a, .int .i64 x, .int .i64 y, .slice A ws.length c]
 have hb:=(Below.refl w.heap.size w).alloc (Nat.le_refl _) (.cells #[.int .i64 1, .int .i64 a, .int .i64 x, .int .i64 y, .slice A ws.length c] 143)
 have H1:=LH (h.below hb)
 have HQ1:=LH (own_below hq hb)
 have HB:=LH hb
 have HX:=LH hx
 clear hx hb hq h
 go_enter Tryz.func96,Tryz.ntmps96
 go_wp2_with (fail)
 generalize w.alloc (.cells #[.int .i64 1, .int .i64 a, .int .i64 x, .int .i64 y, .slice A ws.length c] 143)=w1 at H1 HQ1 HB HX⊢
 with_reducible refine (read7_any F bm C max a w1 H1.out hC).mono ?_
 rintro e w2 ⟨rfl,hm2,hc2⟩
 have fb:F bm:=by obtain ⟨_,_,_,_,h⟩:=H1.out;exact h.fb
 have HP:Hid (DoPost F bm C max ⟨1,a,x,y,ws,t⟩ w (.returned (.int .i64 (rdC C a))) w2):=LH (DoPost.mk (exQ_read rfl) HB.out hm2 (hc2.mono (fun z hz=>hz▸fb)))
 clear hm2 hc2 H1 HQ1 HB HX
 go_wp2_with (fail)
 go_ret
 exact HP.out
set_option maxRecDepth 100000 in
set_option maxHeartbeats 1000000 in
theorem do2_any (a x y t:Int) (ws:List Int) (A:Option Addr) (c:Nat) (w:World) (h:M7 F bm C max w) (hC:C.length≤1000000) (hm0:(C.length:Int)≤max) (hm:max≤65536) (hq:w.ownsRow 0 2 1 (.slice A ws.length c) ws.length (ws.map (Value.int .i64))) (hql:ws.length≤1000000):
  Calls Tryz.prog 96 #[.pointer (some ⟨bm,0,none⟩), .agg #[.int .i64 2, .int .i64 a, .int .i64 x, .int .i64 y, .slice A ws.length c]] w (DoPost F bm C max ⟨2,a,x,y,ws,t⟩ w):=by
 have hx:=Blk.new w 143 #[.int .i64 2, .int .i64 a, .int .i64 x, .int .i64 y, .slice A ws.length c]
 have hb:=(Below.refl w.heap.size w).alloc (Nat.le_refl _) (.cells #[.int .i64 2, .int .i64 a, .int .i64 x, .int .i64 y, .slice A ws.length c] 143)
 have H1:=LH (h.below hb)
 have HQ1:=LH (own_below hq hb)
 have HB:=LH hb
 have HX:=LH hx
 clear hx hb hq h
 go_enter Tryz.func96,Tryz.ntmps96
 go_wp2_with (fail)
 generalize w.alloc (.cells #[.int .i64 2, .int .i64 a, .int .i64 x, .int .i64 y, .slice A ws.length c] 143)=w1 at H1 HQ1 HB HX⊢
 with_reducible refine (write7_any F bm C max a x w1 H1.out hC).mono ?_
 rintro e w2 ⟨rfl,hm2,hc2⟩
 have HP:Hid (DoPost F bm C max ⟨2,a,x,y,ws,t⟩ w (.returned (.int .i64 0)) w2):=LH (DoPost.mk (exQ_write rfl) HB.out hm2 hc2)
 clear hm2 hc2 H1 HQ1 HB HX
 go_wp2_with (fail)
 go_ret
 exact HP.out
set_option maxRecDepth 100000 in
set_option maxHeartbeats 1000000 in
theorem do3_any (a x y t:Int) (ws:List Int) (A:Option Addr) (c:Nat) (w:World) (h:M7 F bm C max w) (hC:C.length≤1000000) (hm0:(C.length:Int)≤max) (hm:max≤65536) (hq:w.ownsRow 0 2 1 (.slice A ws.length c) ws.length (ws.map (Value.int .i64))) (hql:ws.length≤1000000):
  Calls Tryz.prog 96 #[.pointer (some ⟨bm,0,none⟩), .agg #[.int .i64 3, .int .i64 a, .int .i64 x, .int .i64 y, .slice A ws.length c]] w (DoPost F bm C max ⟨3,a,x,y,ws,t⟩ w):=by
 have hx:=Blk.new w 143 #[.int .i64 3, .int .i64 a, .int .i64 x, .int .i64 y, .slice A ws.length c]
 have hb:=(Below.refl w.heap.size w).alloc (Nat.le_refl _) (.cells #[.int .i64 3, .int .i64 a, .int .i64 x, .int .i64 y, .slice A ws.length c] 143)
 have H1:=LH (h.below hb)
 have HQ1:=LH (own_below hq hb)
 have HB:=LH hb
 have HX:=LH hx
 clear hx hb hq h
 go_enter Tryz.func96,Tryz.ntmps96
 go_wp2_with (fail)
 generalize w.alloc (.cells #[.int .i64 3, .int .i64 a, .int .i64 x, .int .i64 y, .slice A ws.length c] 143)=w1 at H1 HQ1 HB HX⊢
 with_reducible refine (cas7_any F bm C max a x y w1 H1.out hC).mono ?_
 rintro e w2 ⟨rfl,hm2,hc2⟩
 have HP:Hid (DoPost F bm C max ⟨3,a,x,y,ws,t⟩ w (.returned (.int .i64 (if (casC C a x y).1=true then 1 else 0))) w2):=LH (DoPost.mk (exQ_cas rfl) HB.out hm2 hc2)
 clear hm2 hc2 H1 HQ1 HB HX
 generalize (casC C a x y).1=z at HP⊢
 cases z with
 |true=>
  go_wp2_with (fail)
  go_ret
  exact HP.out
 |false=>
  go_wp2_with (fail)
  go_ret
  exact HP.out
set_option maxRecDepth 100000 in
set_option maxHeartbeats 1000000 in
theorem do4_any (a x y t:Int) (ws:List Int) (A:Option Addr) (c:Nat) (w:World) (h:M7 F bm C max w) (hC:C.length≤1000000) (hm0:(C.length:Int)≤max) (hm:max≤65536) (hq:w.ownsRow 0 2 1 (.slice A ws.length c) ws.length (ws.map (Value.int .i64))) (hql:ws.length≤1000000):
  Calls Tryz.prog 96 #[.pointer (some ⟨bm,0,none⟩), .agg #[.int .i64 4, .int .i64 a, .int .i64 x, .int .i64 y, .slice A ws.length c]] w (DoPost F bm C max ⟨4,a,x,y,ws,t⟩ w):=by
 have hx:=Blk.new w 143 #[.int .i64 4, .int .i64 a, .int .i64 x, .int .i64 y, .slice A ws.length c]
 have hb:=(Below.refl w.heap.size w).alloc (Nat.le_refl _) (.cells #[.int .i64 4, .int .i64 a, .int .i64 x, .int .i64 y, .slice A ws.length c] 143)
 have H1:=LH (h.below hb)
 have HQ1:=LH (own_below hq hb)
 have HB:=LH hb
 have HX:=LH hx
 clear hx hb hq h
 go_enter Tryz.func96,Tryz.ntmps96
 go_wp2_with (fail)
 generalize w.alloc (.cells #[.int .i64 4, .int .i64 a, .int .i64 x, .int .i64 y, .slice A ws.length c] 143)=w1 at H1 HQ1 HB HX⊢
 with_reducible refine (add7_any F bm C max a x w1 H1.out hC).mono ?_
 rintro e w2 ⟨rfl,hm2,hc2⟩
 have HP:Hid (DoPost F bm C max ⟨4,a,x,y,ws,t⟩ w (.returned (.int .i64 (rdC C a))) w2):=LH (DoPost.mk (exQ_add rfl) HB.out hm2 hc2)
 clear hm2 hc2 H1 HQ1 HB HX
 go_wp2_with (fail)
 go_ret
 exact HP.out
set_option maxRecDepth 100000 in
set_option maxHeartbeats 1000000 in
theorem do5_any (a x y t:Int) (ws:List Int) (A:Option Addr) (c:Nat) (w:World) (h:M7 F bm C max w) (hC:C.length≤1000000) (hm0:(C.length:Int)≤max) (hm:max≤65536) (hq:w.ownsRow 0 2 1 (.slice A ws.length c) ws.length (ws.map (Value.int .i64))) (hql:ws.length≤1000000):
  Calls Tryz.prog 96 #[.pointer (some ⟨bm,0,none⟩), .agg #[.int .i64 5, .int .i64 a, .int .i64 x, .int .i64 y, .slice A ws.length c]] w (DoPost F bm C max ⟨5,a,x,y,ws,t⟩ w):=by
 have hx:=Blk.new w 143 #[.int .i64 5, .int .i64 a, .int .i64 x, .int .i64 y, .slice A ws.length c]
 have hb:=(Below.refl w.heap.size w).alloc (Nat.le_refl _) (.cells #[.int .i64 5, .int .i64 a, .int .i64 x, .int .i64 y, .slice A ws.length c] 143)
 have H1:=LH (h.below hb)
 have HQ1:=LH (own_below hq hb)
 have HB:=LH hb
 have HX:=LH hx
 clear hx hb hq h
 go_enter Tryz.func96,Tryz.ntmps96
 go_wp2_with (fail)
 generalize w.alloc (.cells #[.int .i64 5, .int .i64 a, .int .i64 x, .int .i64 y, .slice A ws.length c] 143)=w1 at H1 HQ1 HB HX⊢
 with_reducible refine (make7_any F bm C max A c _ ws w1 rfl H1.out hC hm0 hm HQ1.out hql).mono ?_
 rintro e w2 ⟨rfl,hm2,hc2⟩
 have HP:Hid (DoPost F bm C max ⟨5,a,x,y,ws,t⟩ w (.returned (.int .i64 (mkC C max ws).1)) w2):=LH (by
  unfold DoPost
  rw[exQ_make rfl]
  exact ⟨rfl,hm2.mono (fun z hz=>hz.imp id (fun hz=>Nat.le_trans HB.out.size hz)),(Chg.of_below HB.out).trans hc2⟩)
 clear hm2 hc2 H1 HQ1 HB HX
 generalize (mkC C max ws).1=z at HP⊢
 go_wp2_with (fail)
 go_ret
 exact HP.out
theorem do_any (q:Ask) (qv:Value) (w:World) (h:M7 F bm C max w) (hC:C.length≤1000000) (hm0:(C.length:Int)≤max) (hm:max≤65536) (hq:w.ownsRow 0 2 1 qv q.ws.length (q.ws.map (Value.int .i64))) (hk:q.Ok):
  Calls Tryz.prog 96 #[.pointer (some ⟨bm,0,none⟩), .agg #[.int .i64 q.kind, .int .i64 q.a, .int .i64 q.x, .int .i64 q.y,qv]] w (DoPost F bm C max q w):=by
 obtain ⟨A,c,rfl⟩:=own_shape hq
 obtain ⟨k,a,x,y,ws,t⟩:=q
 have k0:1≤k:=hk.k0
 have k1:k≤5:=hk.k1
 have hl:ws.length≤1000000:=hk.len
 have:k=1∨k=2∨k=3∨k=4∨k=5:=by omega
 rcases this with rfl|rfl|rfl|rfl|rfl
 ·exact do1_any F bm C max a x y t ws A c w h hC hm0 hm hq hl
 ·exact do2_any F bm C max a x y t ws A c w h hC hm0 hm hq hl
 ·exact do3_any F bm C max a x y t ws A c w h hC hm0 hm hq hl
 ·exact do4_any F bm C max a x y t ws A c w h hC hm0 hm hq hl
 ·exact do5_any F bm C max a x y t ws A c w h hC hm0 hm hq hl
end
structure FX where
 proc:Int
 a:Int
 b:Int
 p:Int
 w:WQ
 spots:List (Int×Int)
 op:Op
structure FOut where
 word:Int
 ok:Bool
 n:Int
 m:Int
 value:Int
 pairs:List (Int×Int)
 spots:List (Int×Int)
 res:Res
def FOut.zero:FOut:=⟨0,false,0,0,0,[],[],Res.none⟩
instance:Inhabited FOut:=⟨FOut.zero⟩
def ask0:Ask:=⟨0,0,0,0,[],0⟩
def FX.tree (x:FX) (N:Nat):Prog FOut:=
 if x.proc=15 then (routeP x.a x.p).bind fun r=> .ret {FOut.zero with n:=r.1,m:=r.2}
 else if x.proc=16 then (seekP x.p N 1).bind fun r=> .ret {FOut.zero with value:=r.1,ok:=r.2}
 else if x.proc=17 then (throughP x.w N 1 ⟨[],[]⟩).bind fun r=> .ret {FOut.zero with pairs:=r.1.pairs,spots:=r.1.spots}
 else if x.proc=18 then (againP x.spots).bind fun b=> .ret {FOut.zero with ok:=b}
 else if x.proc=24 then (changeP x.op (N+1)).bind fun r=> .ret {FOut.zero with res:=r}
 else if x.op.kind<4∨10<x.op.kind then .ret {FOut.zero with res:=Res.err 5}
 else if x.b<1∨64<x.b then .ret {FOut.zero with res:=Res.err 2}
 else (queryP N x.op x.b).bind fun r=> .ret {FOut.zero with res:=r}
def outV (o:FOut) (pv sv lv:Value):Value:= .agg #[.int .i64 o.word, .bool o.ok, .int .i64 o.n, .int .i64 o.m, .int .i64 o.value,pv,sv, .int .i64 o.res.why, .bool o.res.found, .int .i64 o.res.key, .int .i64 o.res.val, .int .i64 o.res.n,lv]
structure OutRows (F:Nat→Prop) (o:FOut) (pv sv lv:Value) (w:World):Prop where
 prs:PrP F 52 pv o.pairs w
 sps:PrP F 114 sv o.spots w
 lst:PrP F 52 lv o.res.list w
structure FrQ (F:Nat→Prop) (fb:Nat) (x:FX) (T:List Int) (done:Bool) (o:FOut) (xv tv pv sv lv:Value) (rec laid:Int) (w:World):Prop where
 ff:F fb
 blk:Blk w fb 58 #[.int .i64 x.proc, .int .i64 x.a, .int .i64 x.b, .int .i64 0, .int .i64 x.p, .int .i64 0, .int .i64 x.w.lo, .int .i64 x.w.hi, .bool x.w.back, .int .i64 x.w.most, .bool x.w.values, .slice none 0 0, .slice none 0 0,xv, .slice none 0 0, .slice none 0 0, .int .i64 0, .int .i64 0, .int .i64 0, .int .i64 x.op.kind, .int .i64 x.op.key, .int .i64 x.op.val,tv, .bool done, .int .i64 o.word, .bool o.ok, .int .i64 o.n, .int .i64 o.m, .int .i64 o.value,pv,sv, .int .i64 o.res.why, .bool o.res.found, .int .i64 o.res.key, .int .i64 o.res.val, .int .i64 o.res.n,lv, .int .i64 rec, .int .i64 laid]
 tape:w.ownsRow 0 2 1 tv T.length (T.map (Value.int .i64))
 ft:∀g,tv.ownBlock=some g→F g
 spots:PrP F 114 xv x.spots w
 rows:OutRows F o pv sv lv w
def FrP (F:Nat→Prop) (fb:Nat) (x:FX) (T:List Int) (done:Bool) (o:FOut) (w:World):Prop:=∃xv tv pv sv lv rec laid,FrQ F fb x T done o xv tv pv sv lv rec laid w
section
variable {F G:Nat→Prop} {fb:Nat} {x:FX} {T:List Int} {done:Bool} {o:FOut} {xv tv pv sv lv:Value} {rec laid:Int} {w w':World}
theorem OutRows.mono (h:OutRows F o pv sv lv w) (hs:∀x,F x→G x):OutRows G o pv sv lv w:=⟨h.prs.mono hs,h.sps.mono hs,h.lst.mono hs⟩
theorem OutRows.chg (h:OutRows F o pv sv lv w) (m:Chg G w w') (hd:∀x,F x→G x→False):OutRows F o pv sv lv w':=⟨h.prs.chg m hd,h.sps.chg m hd,h.lst.chg m hd⟩
theorem OutRows.keep (h:OutRows F o pv sv lv w) (m:Chg G w w') (hG:∀x,G x→∃t cs,Blk w x t cs∧t≠52∧t≠114):OutRows F o pv sv lv w':=
 ⟨h.prs.keep m (fun x hx=>by obtain ⟨t,cs,a,b,c⟩:=hG x hx;exact ⟨t,cs,a,b⟩),h.sps.keep m (fun x hx=>by obtain ⟨t,cs,a,b,c⟩:=hG x hx;exact ⟨t,cs,a,c⟩),h.lst.keep m (fun x hx=>by obtain ⟨t,cs,a,b,c⟩:=hG x hx;exact ⟨t,cs,a,b⟩)⟩
theorem OutRows.nil {r:FOut} (h1:r.pairs=[]) (h2:r.spots=[]) (h3:r.res.list=[]):OutRows F r (.slice none 0 0) (.slice none 0 0) (.slice none 0 0) w:=⟨by rw[h1];exact PrP.nil',by rw[h2];exact PrP.nil',by rw[h3];exact PrP.nil'⟩
theorem FrQ.mono (h:FrQ F fb x T done o xv tv pv sv lv rec laid w) (hs:∀x,F x→G x):FrQ G fb x T done o xv tv pv sv lv rec laid w:=⟨hs _ h.ff,h.blk,h.tape,fun g hg=>hs _ (h.ft g hg),h.spots.mono hs,h.rows.mono hs⟩
theorem FrQ.chg (h:FrQ F fb x T done o xv tv pv sv lv rec laid w) (m:Chg G w w') (hd:∀x,F x→G x→False):FrQ F fb x T done o xv tv pv sv lv rec laid w':=
 ⟨h.ff,m.blk h.blk (fun e=>hd _ h.ff e),m.own h.tape (fun g hg e=>hd _ (h.ft g hg) e),h.ft,h.spots.chg m hd,h.rows.chg m hd⟩
theorem FrQ.below (h:FrQ F fb x T done o xv tv pv sv lv rec laid w) (hb:Below w.heap.size w w'):FrQ F fb x T done o xv tv pv sv lv rec laid w':=h.chg (G:=fun _=>False) (Chg.of_below hb) (fun _ _ hg=>hg)
theorem FrP.mono (h:FrP F fb x T done o w) (hs:∀x,F x→G x):FrP G fb x T done o w:=by obtain ⟨a,b,c,d,e,f,g,h⟩:=h;exact ⟨a,b,c,d,e,f,g,h.mono hs⟩
theorem FrP.chg (h:FrP F fb x T done o w) (m:Chg G w w') (hd:∀x,F x→G x→False):FrP F fb x T done o w':=by obtain ⟨a,b,c,d,e,f,g,h⟩:=h;exact ⟨a,b,c,d,e,f,g,h.chg m hd⟩
theorem FrP.below (h:FrP F fb x T done o w) (hb:Below w.heap.size w w'):FrP F fb x T done o w':=h.chg (G:=fun _=>False) (Chg.of_below hb) (fun _ _ hg=>hg)
theorem FrP.lt (h:FrP F fb x T done o w):fb<w.heap.size:=by obtain ⟨a,b,c,d,e,f,g,h⟩:=h;exact h.blk.lt
end
theorem RunP.keep {F G:Nat→Prop} {rb:Nat} {s:RunS} {w w':World} (h:RunP F rb s w) (m:Chg G w w') (hG:∀x,G x→∃t cs,Blk w x t cs∧t≠145∧t≠2):RunP F rb s w':=by
 obtain ⟨tv,wv,rec,laid,h⟩:=h
 refine ⟨tv,wv,rec,laid,h.fb,m.blk h.blk (fun hg=> ?_),m.own h.tape (fun g hg hx=> ?_),m.own h.ws (fun g hg hx=> ?_),h.ft,h.fw⟩
 ·obtain ⟨t,cs,hb,h1,h2⟩:=hG _ hg;exact hb.ne_ h.blk h1 rfl
 ·obtain ⟨t,cs,hb,h1,h2⟩:=hG _ hx;exact own_blk_ne h.tape hb (fun e=>h2 e.symm) hg
 ·obtain ⟨t,cs,hb,h1,h2⟩:=hG _ hx;exact own_blk_ne h.ws hb (fun e=>h2 e.symm) hg
def LowPost (Fr:Nat→Prop) (rb:Nat) (o:FOut) (s':RunS) (w:World) (e:Ending) (w':World):Prop:=∃pv sv lv,e= .returned (outV o pv sv lv)∧OutRows (fun x=>w.heap.size≤x) o pv sv lv w'∧RAt Fr rb w s' w'
theorem Blk.setRow {w:World} {g:Nat} {t:TypeId} {old:Array Value} (h:Blk w g t old) (cs:Array Value):Blk (w.setRow g cs) g t cs:=setRow_heap w g old cs t (0,0) h
theorem Chg.setRow (w:World) (g:Nat) (cs:Array Value):Chg (fun x=>x=g) w (w.setRow g cs):=⟨rfl,rfl,rfl,by simp,fun k _ hk=>setRow_other w g k cs hk⟩
section
set_option maxRecDepth 100000 in
set_option maxHeartbeats 4000000 in
theorem low16_any (F Fr:Nat→Prop) (fb rb:Nat) (x:FX) (N:Nat) (T:List Int) (done:Bool) (o o':FOut) (s s':RunS) (w:World) (h:FrP F fb x T done o w) (hr:RunP Fr rb s w) (d0:s.Bd) (hp:x.proc=16) (ha:i64B x.a) (hk:i64B x.p) (hf:s.left<N) (hg:(x.tree N).go s=(o',s')):
  Calls Tryz.prog 153 #[.pointer (some ⟨fb,0,none⟩), .pointer (some ⟨rb,0,none⟩)] w (LowPost Fr rb o' s' w):=by
 obtain ⟨xv,tv,pv,sv,lv,rec,laid,h⟩:=h
 obtain ⟨xA,xc,rfl⟩:=own_shape h.spots.1
 have hg:((seekP x.p N 1).bind fun r=>Prog.ret {FOut.zero with value:=r.1,ok:=r.2}).go s=(o',s'):=by unfold FX.tree at hg;rw[if_neg (by omega),if_pos hp] at hg;exact hg
 obtain ⟨v1,s1,g1⟩:=go_ex (seekP x.p N 1) s
 rw[go_bind,g1] at hg
 obtain ⟨rfl,rfl⟩:=Prod.mk.inj hg
 have hrlt:=hr.lt
 have hflt:=h.blk.lt
 obtain ⟨AR,hAR⟩:∃AR:List Value,AR=[.int .i64 x.a, .int .i64 x.b, .int .i64 0, .int .i64 x.p, .int .i64 0, .int .i64 x.w.lo, .int .i64 x.w.hi, .bool x.w.back, .int .i64 x.w.most, .bool x.w.values, .slice none 0 0, .slice none 0 0, .slice xA x.spots.length xc, .slice none 0 0, .slice none 0 0, .int .i64 0, .int .i64 0, .int .i64 0, .int .i64 x.op.kind, .int .i64 x.op.key, .int .i64 x.op.val]:=⟨_,rfl⟩
 have har0:AR.toArray[0]? =some (.int .i64 x.a):=by rw[hAR];rfl
 have har3:AR.toArray[3]? =some (.int .i64 x.p):=by rw[hAR];rfl
 have harl:AR.length=21:=by rw[hAR];rfl
 have haro:AR.toArray.all (·.oneCell')=true:=by rw[hAR];simp[Value.oneCell']
 have CP:Hid (∀w',Below w.heap.size w w'→w'.cell? ⟨fb,0,none⟩=some (.int .i64 16)):=LH (fun w' hb=>by rw[←hp];exact (h.blk.below hb h.blk.lt).cell 0)
 have hz1:(w.alloc (.cells oZ 56)).heap.size=w.heap.size+1:=by simp
 have hz1b:((w.alloc (.cells oZ 56)).alloc (.cells aZ 50)).heap.size=w.heap.size+1+1:=by simp
 have hz2:(((w.alloc (.cells oZ 56)).alloc (.cells aZ 50)).setRow (w.heap.size+1) AR.toArray).heap.size=w.heap.size+1+1:=by simp
 have hz3:(((((w.alloc (.cells oZ 56)).alloc (.cells aZ 50)).setRow (w.heap.size+1) AR.toArray).alloc (.cells oZ 56)).setRow (w.heap.size+1+1) oZ).heap.size=w.heap.size+3:=by simp
 have b1:Below w.heap.size w (w.alloc (.cells oZ 56)):=(Below.refl w.heap.size w).alloc (Nat.le_refl _) _
 have b1b:Below w.heap.size w ((w.alloc (.cells oZ 56)).alloc (.cells aZ 50)):=b1.alloc b1.size _
 have b2:Below w.heap.size w (((w.alloc (.cells oZ 56)).alloc (.cells aZ 50)).setRow (w.heap.size+1) AR.toArray):=b1b.trans ((Chg.setRow _ _ _).below (fun y hy=>by omega) (by omega))
 have b2b:Below w.heap.size w ((((w.alloc (.cells oZ 56)).alloc (.cells aZ 50)).setRow (w.heap.size+1) AR.toArray).alloc (.cells oZ 56)):=b2.alloc b2.size _
 have b3:Below w.heap.size w (((((w.alloc (.cells oZ 56)).alloc (.cells aZ 50)).setRow (w.heap.size+1) AR.toArray).alloc (.cells oZ 56)).setRow (w.heap.size+1+1) oZ):=b2b.trans ((Chg.setRow _ _ _).below (fun y hy=>by omega) b2b.size)
 have t5b:Blk ((w.alloc (.cells oZ 56)).alloc (.cells aZ 50)) (w.heap.size+1) 50 aZ:=by
  have:=Blk.new (w.alloc (.cells oZ 56)) 50 aZ
  rw[hz1] at this
  exact this
 have t5c:Blk (((w.alloc (.cells oZ 56)).alloc (.cells aZ 50)).setRow (w.heap.size+1) AR.toArray) (w.heap.size+1) 50 AR.toArray:=t5b.setRow _
 have t6b:Blk ((((w.alloc (.cells oZ 56)).alloc (.cells aZ 50)).setRow (w.heap.size+1) AR.toArray).alloc (.cells oZ 56)) (w.heap.size+1+1) 56 oZ:=by
  have:=Blk.new (((w.alloc (.cells oZ 56)).alloc (.cells aZ 50)).setRow (w.heap.size+1) AR.toArray) 56 oZ
  rw[hz2] at this
  exact this
 have t6:Blk (((((w.alloc (.cells oZ 56)).alloc (.cells aZ 50)).setRow (w.heap.size+1) AR.toArray).alloc (.cells oZ 56)).setRow (w.heap.size+1+1) oZ) (w.heap.size+1+1) 56 oZ:=t6b.setRow _
 have t5:Blk (((((w.alloc (.cells oZ 56)).alloc (.cells aZ 50)).setRow (w.heap.size+1) AR.toArray).alloc (.cells oZ 56)).setRow (w.heap.size+1+1) oZ) (w.heap.size+1) 50 AR.toArray:=(Chg.setRow ((((w.alloc (.cells oZ 56)).alloc (.cells aZ 50)).setRow (w.heap.size+1) AR.toArray).alloc (.cells oZ 56)) (w.heap.size+1+1) oZ).blk (t5c.below ((Below.refl (((w.alloc (.cells oZ 56)).alloc (.cells aZ 50)).setRow (w.heap.size+1) AR.toArray).heap.size (((w.alloc (.cells oZ 56)).alloc (.cells aZ 50)).setRow (w.heap.size+1) AR.toArray)).alloc (Nat.le_refl _) (.cells oZ 56)) t5c.lt) (by omega)
 have t4:Blk (((((w.alloc (.cells oZ 56)).alloc (.cells aZ 50)).setRow (w.heap.size+1) AR.toArray).alloc (.cells oZ 56)).setRow (w.heap.size+1+1) oZ) w.heap.size 56 oZ:=by
  have h1:=Blk.new w 56 oZ
  have h2:=h1.below ((Below.refl (w.alloc (.cells oZ 56)).heap.size (w.alloc (.cells oZ 56))).alloc (Nat.le_refl _) (.cells aZ 50)) h1.lt
  have h3:=(Chg.setRow ((w.alloc (.cells oZ 56)).alloc (.cells aZ 50)) (w.heap.size+1) AR.toArray).blk h2 (by omega)
  have h4:=h3.below ((Below.refl (((w.alloc (.cells oZ 56)).alloc (.cells aZ 50)).setRow (w.heap.size+1) AR.toArray).heap.size (((w.alloc (.cells oZ 56)).alloc (.cells aZ 50)).setRow (w.heap.size+1) AR.toArray)).alloc (Nat.le_refl _) (.cells oZ 56)) h3.lt
  exact (Chg.setRow ((((w.alloc (.cells oZ 56)).alloc (.cells aZ 50)).setRow (w.heap.size+1) AR.toArray).alloc (.cells oZ 56)) (w.heap.size+1+1) oZ).blk h4 (by omega)
 have hra:(w.alloc (.cells oZ 56)).rangeAt fb 1 AR:=fun j u hu=>by
  rw[hAR] at hu
  have:=(h.blk.below (b1.mono (Nat.le_refl _)) h.blk.lt).cell (1+j)
  rw[this]
  have e:(1+j)=j+1:=by omega
  rw[e]
  have hj:j<21:=by
   rcases Nat.lt_or_ge j 21 with g|g
   ·exact g
   ·rw[List.getElem?_eq_none (by simpa using g)] at hu;cases hu
  match j,hj,hu with
  |0,_,hu=>exact hu
  |1,_,hu=>exact hu
  |2,_,hu=>exact hu
  |3,_,hu=>exact hu
  |4,_,hu=>exact hu
  |5,_,hu=>exact hu
  |6,_,hu=>exact hu
  |7,_,hu=>exact hu
  |8,_,hu=>exact hu
  |9,_,hu=>exact hu
  |10,_,hu=>exact hu
  |11,_,hu=>exact hu
  |12,_,hu=>exact hu
  |13,_,hu=>exact hu
  |14,_,hu=>exact hu
  |15,_,hu=>exact hu
  |16,_,hu=>exact hu
  |17,_,hu=>exact hu
  |18,_,hu=>exact hu
  |19,_,hu=>exact hu
  |20,_,hu=>exact hu
 have RA:=LH hra
 have HF:=LH hf
 have HIA:Hid ((Tryz.prog.info? 50).map (·.size)=some AR.length):=LH (by rw[harl];kernel_rfl)
 have HIB:Hid ((Tryz.prog.info? 50).map (·.size)=some AR.toArray.size):=LH (by rw[List.size_toArray,harl];kernel_rfl)
 have HIC:Hid ((aZ:Array Value).size=AR.toArray.size):=LH (by show 21=AR.toArray.size;rw[List.size_toArray,harl])
 have HID:=LH haro
 have a0:(((((w.alloc (.cells oZ 56)).alloc (.cells aZ 50)).setRow (w.heap.size+1) AR.toArray).alloc (.cells oZ 56)).setRow (w.heap.size+1+1) oZ).cell? ⟨w.heap.size+1,0,none⟩=some (.int .i64 x.a):=(t5.cell 0).trans har0
 have a3:(((((w.alloc (.cells oZ 56)).alloc (.cells aZ 50)).setRow (w.heap.size+1) AR.toArray).alloc (.cells oZ 56)).setRow (w.heap.size+1+1) oZ).cell? ⟨w.heap.size+1,3,none⟩=some (.int .i64 x.p):=(t5.cell 3).trans har3
 clear har0 har3 harl haro hAR
 have HT5:=LH t5b
 have HT6:=LH t6b
 clear hra t5b t5c t6b b1 b1b b2 b2b hz1 hz1b hz2
 have c03:(((((w.alloc (.cells oZ 56)).alloc (.cells aZ 50)).setRow (w.heap.size+1) AR.toArray).alloc (.cells oZ 56)).setRow (w.heap.size+1+1) oZ).cell? ⟨fb,0,none⟩=some (.int .i64 16):=CP.out _ b3
 have HR:=LH (hr.below b3)
 have HB3:=LH b3
 have HZ3:=LH hz3
 have H:=LH h
 have G1:=LH g1
 have T4:=LH t4
 have T5:=LH t5
 have T6:=LH t6
 clear t4 t5 t6
 clear hr b3 hz3 h g1 hg hf hp
 go_enter Tryz.func153,Tryz.ntmps153
 go_wp2_with (first|((with_reducible refine (show wpList _ _ _ ((Oper.mk (some 10) (.load _ _) _ _ _ _)::_) _ _ from ?_));refine wpList_load_mid rfl 50 (.tmp 9) rfl fb 1 rfl AR _ RA.out Tryz.underlying50 rfl (HIA.out) ?_)|((with_reducible refine (show wpList _ _ _ ((Oper.mk none (.store _ (.tmp 5) _) _ _ _ _)::_) _ _ from ?_));refine wpList_store_row rfl 50 (.tmp 5) (.tmp 10) rfl (w.heap.size+1) AR.toArray rfl rfl _ _ HT5.out (HIB.out) HIC.out HID.out ?_)|((with_reducible refine (show wpList _ _ _ ((Oper.mk none (.store _ (.tmp 6) _) _ _ _ _)::_) _ _ from ?_));refine wpList_store_row rfl 56 (.tmp 6) (.tmp 11) rfl (w.heap.size+1+1) oZ rfl rfl _ _ HT6.out (by kernel_rfl) rfl (by simp[Value.oneCell']) ?_))
 generalize (((((w.alloc (.cells oZ 56)).alloc (.cells aZ 50)).setRow (w.heap.size+1) AR.toArray).alloc (.cells oZ 56)).setRow (w.heap.size+1+1) oZ)=w3 at HR HB3 HZ3 T4 T5 T6 c03 a0 a3⊢
 clear HT5 HT6 RA HIA HIB HIC HID
 with_reducible refine (seekR_any Fr rb w3 s s1 v1 N x.p w3 (RAt.refl HR.out) d0 G1.out hk HF.out).mono ?_
 rintro e w4 ⟨rfl,h4⟩
 have H4:=LH h4
 have hne4:¬(w.heap.size=rb):=by omega
 have hne6:¬(w.heap.size+1+1=rb):=by omega
 have T44:=LH (h4.2.blk T4.out hne4)
 have T66:=LH (h4.2.blk T6.out hne6)
 clear h4 HR T4 T5 T6 a0 a3 c03
 have q4:w4.cell? ⟨w.heap.size+1+1,4,none⟩=some (.int .i64 0):=T66.out.cell 4
 have r4:=T66.out.frozen 4
 have t6a:=T66.out.set_ 4 (.int .i64 v1.1)
 have q1:(w4.setCell ⟨w.heap.size+1+1,4,none⟩ (.int .i64 v1.1)).cell? ⟨w.heap.size+1+1,1,none⟩=some (.bool false):=t6a.cell 1
 have r1:=t6a.frozen 1
 have t6b:=t6a.set_ 1 (.bool v1.2)
 have hn46:w.heap.size≠w.heap.size+1+1:=by omega
 have t4b:=(T44.out.far (p:=⟨w.heap.size+1+1,4,none⟩) hn46 (.int .i64 v1.1)).far (p:=⟨w.heap.size+1+1,1,none⟩) hn46 (.bool v1.2)
 have hc5:Chg (fun y=>y=w.heap.size+1+1) w4 ((w4.setCell ⟨w.heap.size+1+1,4,none⟩ (.int .i64 v1.1)).setCell ⟨w.heap.size+1+1,1,none⟩ (.bool v1.2)):=(Chg.set1 w4 (w.heap.size+1+1) 4 (.int .i64 v1.1)).trans (Chg.set1 _ (w.heap.size+1+1) 1 (.bool v1.2))
 have HC5:=LH hc5
 have T4B:=LH t4b
 have T6B:=LH t6b
 clear t6a t6b t4b hc5
 go_wp2_with (first|((with_reducible refine (show wpList _ _ _ ((Oper.mk (some 73) (.load _ _) _ _ _ _)::_) _ _ from ?_));refine wpList_load_row rfl 56 (.tmp 6) rfl (w.heap.size+1+1) rfl _ _ (0,0) _ T6B.out Tryz.underlying56 rfl (by kernel_rfl) ?_)|((with_reducible refine (show wpList _ _ _ ((Oper.mk none (.store _ (.tmp 4) _) _ _ _ _)::_) _ _ from ?_));refine wpList_store_row rfl 56 (.tmp 4) (.tmp 73) rfl w.heap.size #[.int .i64 0, .bool v1.2, .int .i64 0, .int .i64 0, .int .i64 v1.1, .slice none 0 0, .slice none 0 0, .int .i64 0, .bool false, .int .i64 0, .int .i64 0, .int .i64 0, .slice none 0 0] rfl rfl _ _ T4B.out (by kernel_rfl) rfl (by simp[Value.oneCell']) ?_))
 refine bodyPost_ret (v:= .agg #[.int .i64 0, .bool v1.2, .int .i64 0, .int .i64 0, .int .i64 v1.1, .slice none 0 0, .slice none 0 0, .int .i64 0, .bool false, .int .i64 0, .int .i64 0, .int .i64 0, .slice none 0 0]) (results_cell_row rfl _ _ w.heap.size _ _ (0,0) _ rfl (T4B.out.setRow _) Tryz.underlying56 rfl (by kernel_rfl)) rfl ?_
 have hc6:Chg (fun y=>y=w.heap.size) ((w4.setCell ⟨w.heap.size+1+1,4,none⟩ (.int .i64 v1.1)).setCell ⟨w.heap.size+1+1,1,none⟩ (.bool v1.2)) (((w4.setCell ⟨w.heap.size+1+1,4,none⟩ (.int .i64 v1.1)).setCell ⟨w.heap.size+1+1,1,none⟩ (.bool v1.2)).setRow w.heap.size #[.int .i64 0, .bool v1.2, .int .i64 0, .int .i64 0, .int .i64 v1.1, .slice none 0 0, .slice none 0 0, .int .i64 0, .bool false, .int .i64 0, .int .i64 0, .int .i64 0, .slice none 0 0]):=Chg.setRow _ _ _
 have hcc:Chg (fun y=>y=w.heap.size∨y=w.heap.size+1+1) w4 (((w4.setCell ⟨w.heap.size+1+1,4,none⟩ (.int .i64 v1.1)).setCell ⟨w.heap.size+1+1,1,none⟩ (.bool v1.2)).setRow w.heap.size #[.int .i64 0, .bool v1.2, .int .i64 0, .int .i64 0, .int .i64 v1.1, .slice none 0 0, .slice none 0 0, .int .i64 0, .bool false, .int .i64 0, .int .i64 0, .int .i64 0, .slice none 0 0]):=(HC5.out.mono (fun y hy=> .inr hy)).trans (hc6.mono (fun y hy=> .inl hy))
 have hz3:=HZ3.out
 refine ⟨.slice none 0 0, .slice none 0 0, .slice none 0 0,rfl,OutRows.nil rfl rfl rfl, ?_, ?_⟩
 ·refine (H4.out.1.keep hcc (fun y hy=> ?_)).mono (fun y hy=>hy.imp id (fun h=>by omega))
  rcases hy with rfl|rfl
  ·exact ⟨_,_,T44.out,by decide,by decide⟩
  ·exact ⟨_,_,T66.out,by decide,by decide⟩
 ·exact ((Chg.of_below HB3.out).trans H4.out.2).grow hcc (fun y hy=>by rcases hy with rfl|rfl<;>exact .inr (by omega))
end
theorem results_tmp_cell {P:Program} {fn:Func} {p1 p2:Tmp} {ty:TypeId} (h:fn.results=#[.tmp p1, .cell p2 ty]) (tmps:Array Value) (w:World) (v:Value) (g:Nat) (t:TypeId) (cs:Array Value) (fr:Nat×Nat) (d:TypeDesc)
  (hv:tmps.getD p1 undef=v) (hp:tmps.getD p2 undef= .pointer (some ⟨g,0,none⟩)) (hg:w.heap[g]? =some (.cells cs t fr))
  (hu:P.underlying ty=some d) (hd:(match d with| .struct _| .array _ _=>true|_=>false)=true) (hi:(P.info? ty).map (·.size)=some cs.size):
  (results fn tmps).run P w= .ok (.tuple #[v, .agg cs]) w:=by
 have hp':tmps[p2]?.getD undef= .pointer (some ⟨g,0,none⟩):=by simpa using hp
 have hv':tmps[p1]?.getD undef=v:=by simpa using hv
 simp[results,h,hp',hv',asAddr,run_loadVar_row w g t ty cs fr d hg hu hd hi]
def PlayPost (F:Nat→Prop) (o:FOut) (s':RunS) (w:World) (e:Ending) (w':World):Prop:=∃rb pv sv lv,e= .returned (.tuple #[.pointer (some ⟨rb,0,none⟩),outV o pv sv lv])∧OutRows (fun x=>w.heap.size≤x) o pv sv lv w'∧RunP (fun y=>F y∨w.heap.size≤y) rb s' w'∧w.heap.size≤rb∧Below w.heap.size w w'
set_option maxRecDepth 100000 in
set_option maxHeartbeats 4000000 in
theorem play16_any (F:Nat→Prop) (fb:Nat) (x:FX) (N:Nat) (T:List Int) (done:Bool) (o o':FOut) (s':RunS) (w:World) (h:FrP F fb x T done o w) (d0:(RunS.mk T 0 false ask0).Bd) (hp:x.proc=16) (ha:i64B x.a) (hk:i64B x.p) (hf:T.length+1<N) (hg:(x.tree N).go ⟨T,0,false,ask0⟩=(o',s')):
  Calls Tryz.prog 95 #[.pointer (some ⟨fb,0,none⟩)] w (PlayPost F o' s' w):=by
 have hfull:=h
 obtain ⟨xv,tv,pv,sv,lv,rec,laid,h⟩:=h
 obtain ⟨tA,tc,rfl⟩:=own_shape h.tape
 have hflt:=h.blk.lt
 have hz1:(w.alloc (.cells oZ 56)).heap.size=w.heap.size+1:=by simp
 have hz2:((w.alloc (.cells oZ 56)).alloc (.cells #[.slice tA T.length tc, .int .i64 0, .bool false, .int .i64 0, .int .i64 0, .int .i64 0, .int .i64 0, .slice none 0 0, .int .i64 0, .int .i64 0] 145)).heap.size=w.heap.size+2:=by simp
 have b1:Below w.heap.size w (w.alloc (.cells oZ 56)):=(Below.refl w.heap.size w).alloc (Nat.le_refl _) _
 have b2:Below w.heap.size w ((w.alloc (.cells oZ 56)).alloc (.cells #[.slice tA T.length tc, .int .i64 0, .bool false, .int .i64 0, .int .i64 0, .int .i64 0, .int .i64 0, .slice none 0 0, .int .i64 0, .int .i64 0] 145)):=b1.alloc b1.size _
 have t3:Blk ((w.alloc (.cells oZ 56)).alloc (.cells #[.slice tA T.length tc, .int .i64 0, .bool false, .int .i64 0, .int .i64 0, .int .i64 0, .int .i64 0, .slice none 0 0, .int .i64 0, .int .i64 0] 145)) w.heap.size 56 oZ:=(Blk.new w 56 oZ).below ((Below.refl (w.alloc (.cells oZ 56)).heap.size (w.alloc (.cells oZ 56))).alloc (Nat.le_refl _) (.cells #[.slice tA T.length tc, .int .i64 0, .bool false, .int .i64 0, .int .i64 0, .int .i64 0, .int .i64 0, .slice none 0 0, .int .i64 0, .int .i64 0] 145)) (Blk.new w 56 oZ).lt
 have tr:Blk ((w.alloc (.cells oZ 56)).alloc (.cells #[.slice tA T.length tc, .int .i64 0, .bool false, .int .i64 0, .int .i64 0, .int .i64 0, .int .i64 0, .slice none 0 0, .int .i64 0, .int .i64 0] 145)) (w.heap.size+1) 145 #[.slice tA T.length tc, .int .i64 0, .bool false, .int .i64 0, .int .i64 0, .int .i64 0, .int .i64 0, .slice none 0 0, .int .i64 0, .int .i64 0]:=by
  have:=Blk.new (w.alloc (.cells oZ 56)) 145 #[.slice tA T.length tc, .int .i64 0, .bool false, .int .i64 0, .int .i64 0, .int .i64 0, .int .i64 0, .slice none 0 0, .int .i64 0, .int .i64 0]
  rw[hz1] at this
  exact this
 have hr:RunP (fun y=>F y∨w.heap.size≤y) (w.heap.size+1) ⟨T,0,false,ask0⟩ ((w.alloc (.cells oZ 56)).alloc (.cells #[.slice tA T.length tc, .int .i64 0, .bool false, .int .i64 0, .int .i64 0, .int .i64 0, .int .i64 0, .slice none 0 0, .int .i64 0, .int .i64 0] 145)):=⟨.slice tA T.length tc, .slice none 0 0,0,0, .inr (by omega),tr,own_below h.tape b2,World.ownsRow_nil _ _ _ _,fun g hg=> .inl (h.ft g hg),fun g hg=>absurd hg (by simp[Value.ownBlock])⟩
 have c22:(w.alloc (.cells oZ 56)).cell? ⟨fb,22,none⟩=some (.slice tA T.length tc):=(h.blk.below b1 h.blk.lt).cell 22
 have c0:((w.alloc (.cells oZ 56)).alloc (.cells #[.slice tA T.length tc, .int .i64 0, .bool false, .int .i64 0, .int .i64 0, .int .i64 0, .int .i64 0, .slice none 0 0, .int .i64 0, .int .i64 0] 145)).cell? ⟨fb,0,none⟩=some (.int .i64 16):=by rw[←hp];exact (h.blk.below b2 h.blk.lt).cell 0
 have HF:=LH (hfull.below b2)
 have HR:=LH hr
 have HB2:=LH b2
 have HG:=LH hg
 have HNN:=LH (show (RunS.mk T 0 false ask0).left<N by unfold RunS.left;simp;omega)
 have T3:=LH t3
 have HP:=LH hp
 have HZ2:=LH hz2
 clear t3 hp hz2
 clear tr hr hfull h b1 b2 hz1 hg hf
 go_enter Tryz.func95,Tryz.ntmps95
 go_wp2_with (fail)
 generalize ((w.alloc (.cells oZ 56)).alloc (.cells #[.slice tA T.length tc, .int .i64 0, .bool false, .int .i64 0, .int .i64 0, .int .i64 0, .int .i64 0, .slice none 0 0, .int .i64 0, .int .i64 0] 145))=w2 at HF HR HB2 T3 HZ2 c0⊢
 clear c22
 with_reducible refine (low16_any F _ fb (w.heap.size+1) x N T done o o' ⟨T,0,false,ask0⟩ s' w2 HF.out HR.out d0 HP.out ha hk HNN.out HG.out).mono ?_
 rintro e w3 ⟨pv3,sv3,lv3,rfl,hrows,hra⟩
 have HROW:=LH hrows
 have HRA:=LH hra
 have hne:¬w.heap.size=w.heap.size+1:=by omega
 have T33:=LH (hra.2.blk T3.out hne)
 have hone:(#[.int .i64 o'.word, .bool o'.ok, .int .i64 o'.n, .int .i64 o'.m, .int .i64 o'.value,pv3,sv3, .int .i64 o'.res.why, .bool o'.res.found, .int .i64 o'.res.key, .int .i64 o'.res.val, .int .i64 o'.res.n,lv3]:Array Value).all (·.oneCell')=true:=by
  obtain ⟨_,_,rfl⟩:=own_shape hrows.prs.1
  obtain ⟨_,_,rfl⟩:=own_shape hrows.sps.1
  obtain ⟨_,_,rfl⟩:=own_shape hrows.lst.1
  simp[Value.oneCell']
 have HONE:=LH hone
 clear hrows hra HR HF T3 hone c0 HG HP HNN
 unfold outV
 go_wp2_with (first|((with_reducible refine (show wpList _ _ _ ((Oper.mk none (.store _ (.tmp 3) _) _ _ _ _)::_) _ _ from ?_));refine wpList_store_row rfl 56 (.tmp 3) (.tmp 20) rfl w.heap.size #[.int .i64 o'.word, .bool o'.ok, .int .i64 o'.n, .int .i64 o'.m, .int .i64 o'.value,pv3,sv3, .int .i64 o'.res.why, .bool o'.res.found, .int .i64 o'.res.key, .int .i64 o'.res.val, .int .i64 o'.res.n,lv3] rfl rfl _ _ T33.out (by kernel_rfl) rfl HONE.out ?_))
 refine bodyPost_ret (v:= .tuple #[.pointer (some ⟨w.heap.size+1,0,none⟩), .agg #[.int .i64 o'.word, .bool o'.ok, .int .i64 o'.n, .int .i64 o'.m, .int .i64 o'.value,pv3,sv3, .int .i64 o'.res.why, .bool o'.res.found, .int .i64 o'.res.key, .int .i64 o'.res.val, .int .i64 o'.res.n,lv3]]) (results_tmp_cell rfl _ _ _ w.heap.size _ _ (0,0) _ rfl rfl (T33.out.setRow _) Tryz.underlying56 rfl (by kernel_rfl)) rfl ?_
 have hz2:=HZ2.out
 have hc6:Chg (fun y=>y=w.heap.size) w3 (w3.setRow w.heap.size #[.int .i64 o'.word, .bool o'.ok, .int .i64 o'.n, .int .i64 o'.m, .int .i64 o'.value,pv3,sv3, .int .i64 o'.res.why, .bool o'.res.found, .int .i64 o'.res.key, .int .i64 o'.res.val, .int .i64 o'.res.n,lv3]):=Chg.setRow _ _ _
 have hk6:∀y,y=w.heap.size→∃t cs,Blk w3 y t cs∧t=56:=fun y hy=>⟨_,_,hy▸T33.out,rfl⟩
 refine ⟨w.heap.size+1,pv3,sv3,lv3,rfl, ?_, ?_,by omega, ?_⟩
 ·exact (HROW.out.keep hc6 (fun y hy=>by obtain ⟨t,cs,h1,rfl⟩:=hk6 y hy;exact ⟨_,_,h1,by decide,by decide⟩)).mono (fun y hy=>by omega)
 ·exact (HRA.out.1.keep hc6 (fun y hy=>by obtain ⟨t,cs,h1,rfl⟩:=hk6 y hy;exact ⟨_,_,h1,by decide,by decide⟩)).mono (fun y hy=>hy.elim id (fun h=> .inr (by omega)))
 ·exact (HB2.out.trans (HRA.out.2.below (fun y hy=>by omega) (by omega))).trans (hc6.below (fun y hy=>by omega) (by have:=HRA.out.2.size;omega))
def setArr (cs:Array Value):Nat→List Value→Array Value
 |_,[]=>cs
 |o,v::r=>setArr (cs.setIfInBounds o v) (o+1) r
theorem Blk.setCells {g:Nat} {t:TypeId}:∀(vs:List Value) (o:Nat) (cs:Array Value) (w:World),Blk w g t cs→Blk (w.setCells g o vs) g t (setArr cs o vs)
 |[],o,cs,w,h=>h
 |v::r,o,cs,w,h=>Blk.setCells r (o+1) _ _ (h.set_ o v)
theorem Chg.setCells (g:Nat):∀(vs:List Value) (o:Nat) (w:World),Chg (fun y=>y=g) w (w.setCells g o vs)
 |[],o,w=>Chg.refl _ _
 |v::r,o,w=>(Chg.set1 w g o v).trans (Chg.setCells g r (o+1) _)
theorem Blk.out {w:World} {fb:Nat} {x:FX} {xv tv pv sv lv pv3 sv3 lv3:Value} {done:Bool} {o o':FOut} {rec laid:Int} (h:Blk w fb 58 #[.int .i64 x.proc, .int .i64 x.a, .int .i64 x.b, .int .i64 0, .int .i64 x.p, .int .i64 0, .int .i64 x.w.lo, .int .i64 x.w.hi, .bool x.w.back, .int .i64 x.w.most, .bool x.w.values, .slice none 0 0, .slice none 0 0,xv, .slice none 0 0, .slice none 0 0, .int .i64 0, .int .i64 0, .int .i64 0, .int .i64 x.op.kind, .int .i64 x.op.key, .int .i64 x.op.val,tv, .bool done, .int .i64 o.word, .bool o.ok, .int .i64 o.n, .int .i64 o.m, .int .i64 o.value,pv,sv, .int .i64 o.res.why, .bool o.res.found, .int .i64 o.res.key, .int .i64 o.res.val, .int .i64 o.res.n,lv, .int .i64 rec, .int .i64 laid]):Blk (w.setCells fb 24 [.int .i64 o'.word, .bool o'.ok, .int .i64 o'.n, .int .i64 o'.m, .int .i64 o'.value,pv3,sv3, .int .i64 o'.res.why, .bool o'.res.found, .int .i64 o'.res.key, .int .i64 o'.res.val, .int .i64 o'.res.n,lv3]) fb 58 #[.int .i64 x.proc, .int .i64 x.a, .int .i64 x.b, .int .i64 0, .int .i64 x.p, .int .i64 0, .int .i64 x.w.lo, .int .i64 x.w.hi, .bool x.w.back, .int .i64 x.w.most, .bool x.w.values, .slice none 0 0, .slice none 0 0,xv, .slice none 0 0, .slice none 0 0, .int .i64 0, .int .i64 0, .int .i64 0, .int .i64 x.op.kind, .int .i64 x.op.key, .int .i64 x.op.val,tv, .bool done, .int .i64 o'.word, .bool o'.ok, .int .i64 o'.n, .int .i64 o'.m, .int .i64 o'.value,pv3,sv3, .int .i64 o'.res.why, .bool o'.res.found, .int .i64 o'.res.key, .int .i64 o'.res.val, .int .i64 o'.res.n,lv3, .int .i64 rec, .int .i64 laid]:=by
 have:=Blk.setCells [.int .i64 o'.word, .bool o'.ok, .int .i64 o'.n, .int .i64 o'.m, .int .i64 o'.value,pv3,sv3, .int .i64 o'.res.why, .bool o'.res.found, .int .i64 o'.res.key, .int .i64 o'.res.val, .int .i64 o'.res.n,lv3] 24 _ w h
 have e:setArr #[.int .i64 x.proc, .int .i64 x.a, .int .i64 x.b, .int .i64 0, .int .i64 x.p, .int .i64 0, .int .i64 x.w.lo, .int .i64 x.w.hi, .bool x.w.back, .int .i64 x.w.most, .bool x.w.values, .slice none 0 0, .slice none 0 0,xv, .slice none 0 0, .slice none 0 0, .int .i64 0, .int .i64 0, .int .i64 0, .int .i64 x.op.kind, .int .i64 x.op.key, .int .i64 x.op.val,tv, .bool done, .int .i64 o.word, .bool o.ok, .int .i64 o.n, .int .i64 o.m, .int .i64 o.value,pv,sv, .int .i64 o.res.why, .bool o.res.found, .int .i64 o.res.key, .int .i64 o.res.val, .int .i64 o.res.n,lv, .int .i64 rec, .int .i64 laid] 24 [.int .i64 o'.word, .bool o'.ok, .int .i64 o'.n, .int .i64 o'.m, .int .i64 o'.value,pv3,sv3, .int .i64 o'.res.why, .bool o'.res.found, .int .i64 o'.res.key, .int .i64 o'.res.val, .int .i64 o'.res.n,lv3]=#[.int .i64 x.proc, .int .i64 x.a, .int .i64 x.b, .int .i64 0, .int .i64 x.p, .int .i64 0, .int .i64 x.w.lo, .int .i64 x.w.hi, .bool x.w.back, .int .i64 x.w.most, .bool x.w.values, .slice none 0 0, .slice none 0 0,xv, .slice none 0 0, .slice none 0 0, .int .i64 0, .int .i64 0, .int .i64 0, .int .i64 x.op.kind, .int .i64 x.op.key, .int .i64 x.op.val,tv, .bool done, .int .i64 o'.word, .bool o'.ok, .int .i64 o'.n, .int .i64 o'.m, .int .i64 o'.value,pv3,sv3, .int .i64 o'.res.why, .bool o'.res.found, .int .i64 o'.res.key, .int .i64 o'.res.val, .int .i64 o'.res.n,lv3, .int .i64 rec, .int .i64 laid]:=by kernel_rfl
 rw[e] at this
 exact this
section
variable {F:Nat→Prop} {fb:Nat} {x:FX} {T:List Int} {done done':Bool} {o o':FOut} {xv tv pv sv lv pv3 sv3 lv3:Value} {rec laid rec' laid':Int} {w w':World}
theorem FrQ.own (h:FrQ F fb x T done o xv tv pv sv lv rec laid w) (m:Chg (fun y=>y=fb) w w') (hb:Blk w' fb 58 #[.int .i64 x.proc, .int .i64 x.a, .int .i64 x.b, .int .i64 0, .int .i64 x.p, .int .i64 0, .int .i64 x.w.lo, .int .i64 x.w.hi, .bool x.w.back, .int .i64 x.w.most, .bool x.w.values, .slice none 0 0, .slice none 0 0,xv, .slice none 0 0, .slice none 0 0, .int .i64 0, .int .i64 0, .int .i64 0, .int .i64 x.op.kind, .int .i64 x.op.key, .int .i64 x.op.val,tv, .bool done', .int .i64 o.word, .bool o.ok, .int .i64 o.n, .int .i64 o.m, .int .i64 o.value,pv,sv, .int .i64 o.res.why, .bool o.res.found, .int .i64 o.res.key, .int .i64 o.res.val, .int .i64 o.res.n,lv, .int .i64 rec', .int .i64 laid']):FrQ F fb x T done' o xv tv pv sv lv rec' laid' w':=
 ⟨h.ff,hb,m.own h.tape (own_blk_not h.tape h.blk (by decide)),h.ft,h.spots.keep m (fun y hy=>⟨_,_,hy▸h.blk,by decide⟩),h.rows.keep m (fun y hy=>⟨_,_,hy▸h.blk,by decide,by decide⟩)⟩
end
theorem there_blk {w:World} {g:Nat} {t:TypeId} {cs:Array Value} (h:Blk w g t cs) (o n:Nat) (hn:o+n≤cs.size):w.there g o n:=fun j hj=>⟨by rw[h.cell];rw[Array.getElem?_eq_getElem (by omega)];rfl,h.frozen _⟩
def PlayC (N:Nat) (x:FX):Prop:=∀(F:Nat→Prop) (fb:Nat) (T:List Int) (done:Bool) (o o':FOut) (s':RunS) (w:World),FrP F fb x T done o w→(RunS.mk T 0 false ask0).Bd→T.length+1<N→(x.tree N).go ⟨T,0,false,ask0⟩=(o',s')→
 Calls Tryz.prog 95 #[.pointer (some ⟨fb,0,none⟩)] w (PlayPost F o' s' w)
theorem playC16 {N:Nat} {x:FX} (hp:x.proc=16) (ha:i64B x.a) (hk:i64B x.p):PlayC N x:=fun F fb T done o o' s' w h d0 hf hg=>play16_any F fb x N T done o o' s' w h d0 hp ha hk hf hg
def SettlePost (F:Nat→Prop) (fb:Nat) (x:FX) (T:List Int) (done:Bool) (o o':FOut) (off:Bool) (w:World) (e:Ending) (w':World):Prop:=e= .returned (.tuple #[])∧FrP (fun y=>F y∨w.heap.size≤y) fb x T (done|| !off) (if off=true then o else o') w'∧Chg (fun y=>y=fb) w w'
set_option maxRecDepth 100000 in
set_option maxHeartbeats 4000000 in
theorem settle_any (N:Nat) (x:FX) (hP:PlayC N x) (F:Nat→Prop) (fb:Nat) (T:List Int) (done:Bool) (o o':FOut) (s':RunS) (w:World) (h:FrP F fb x T done o w) (d0:(RunS.mk T 0 false ask0).Bd) (hf:T.length+1<N) (hg:(x.tree N).go ⟨T,0,false,ask0⟩=(o',s')):
  Calls Tryz.prog 90 #[.pointer (some ⟨fb,0,none⟩)] w (SettlePost F fb x T done o o' s'.off w):=by
 have HC:=LH (hP F fb T done o o' s' w h d0 hf hg)
 have hflt:=h.lt
 have H:=LH h
 obtain ⟨off,hoff⟩:∃b,s'.off=b:=⟨_,rfl⟩
 rw[hoff]
 have HOFF:=LH hoff
 clear hP h hg hoff
 cases off with
 |true=>
  go_enter Tryz.func90,Tryz.ntmps90
  go_wp2_with (fail)
  with_reducible refine (HC.out).mono ?_
  rintro e w1 ⟨rb,pv3,sv3,lv3,rfl,hrows,hrun,hrb,hb1⟩
  have H1:=LH (H.out.below hb1)
  have hz1:=hb1.size
  have hone:(#[.int .i64 o'.word, .bool o'.ok, .int .i64 o'.n, .int .i64 o'.m, .int .i64 o'.value,pv3,sv3, .int .i64 o'.res.why, .bool o'.res.found, .int .i64 o'.res.key, .int .i64 o'.res.val, .int .i64 o'.res.n,lv3]:Array Value).all (·.oneCell')=true:=by
   obtain ⟨_,_,rfl⟩:=own_shape hrows.prs.1
   obtain ⟨_,_,rfl⟩:=own_shape hrows.sps.1
   obtain ⟨_,_,rfl⟩:=own_shape hrows.lst.1
   simp[Value.oneCell']
  have hbn:=Blk.new w1 56 oZ
  have hba:=(Below.refl w1.heap.size w1).alloc (Nat.le_refl _) (.cells oZ 56)
  have hcs:Chg (fun y=>y=w1.heap.size) (w1.alloc (.cells oZ 56)) ((w1.alloc (.cells oZ 56)).setRow w1.heap.size #[.int .i64 o'.word, .bool o'.ok, .int .i64 o'.n, .int .i64 o'.m, .int .i64 o'.value,pv3,sv3, .int .i64 o'.res.why, .bool o'.res.found, .int .i64 o'.res.key, .int .i64 o'.res.val, .int .i64 o'.res.n,lv3]):=Chg.setRow _ _ _
  have hbb:Below w1.heap.size w1 ((w1.alloc (.cells oZ 56)).setRow w1.heap.size #[.int .i64 o'.word, .bool o'.ok, .int .i64 o'.n, .int .i64 o'.m, .int .i64 o'.value,pv3,sv3, .int .i64 o'.res.why, .bool o'.res.found, .int .i64 o'.res.key, .int .i64 o'.res.val, .int .i64 o'.res.n,lv3]):=hba.trans (hcs.below (fun y hy=>by omega) hba.size)
  have HT:=LH hbn
  have HT2:=LH (hbn.setRow #[.int .i64 o'.word, .bool o'.ok, .int .i64 o'.n, .int .i64 o'.m, .int .i64 o'.value,pv3,sv3, .int .i64 o'.res.why, .bool o'.res.found, .int .i64 o'.res.key, .int .i64 o'.res.val, .int .i64 o'.res.n,lv3])
  have HONE:=LH hone
  have HR2:=LH (hrun.below hbb)
  have HROW2:=LH (hrows.chg (G:=fun _=>False) (Chg.of_below hbb) (fun _ _ g=>g))
  have HF2:=LH (H1.out.below hbb)
  have HB2:=LH (hb1.trans (hbb.mono hz1))
  clear hbn hba hcs hbb hone hrun hrows hb1 H1 HC
  unfold outV
  go_wp2_with (first|((with_reducible refine (show wpList _ _ _ ((Oper.mk none (.store _ (.tmp 3) _) _ _ _ _)::_) _ _ from ?_));refine wpList_store_row rfl 56 (.tmp 3) (.tmp 8) rfl w1.heap.size #[.int .i64 o'.word, .bool o'.ok, .int .i64 o'.n, .int .i64 o'.m, .int .i64 o'.value,pv3,sv3, .int .i64 o'.res.why, .bool o'.res.found, .int .i64 o'.res.key, .int .i64 o'.res.val, .int .i64 o'.res.n,lv3] rfl rfl _ _ HT.out (by kernel_rfl) rfl HONE.out ?_;generalize (w1.alloc (.cells oZ 56)).setRow w1.heap.size #[.int .i64 o'.word, .bool o'.ok, .int .i64 o'.n, .int .i64 o'.m, .int .i64 o'.value,pv3,sv3, .int .i64 o'.res.why, .bool o'.res.found, .int .i64 o'.res.key, .int .i64 o'.res.val, .int .i64 o'.res.n,lv3]=W at HT2 HR2 HROW2 HF2 HB2⊢;clear HT;obtain ⟨xv,tv,pv,sv,lv,rec,laid,hq⟩:=HF2.out;obtain ⟨rtv,rwv,rrec,rlaid,hr⟩:=HR2.out;have hnb:rb≠fb:=hr.blk.ne_ hq.blk (by decide);have hnt:w1.heap.size≠fb:=HT2.out.ne_ hq.blk (by decide);have q2:=(HOFF.out▸hr.blk.cell 2:W.cell? ⟨rb,2,none⟩=some (.bool true));have q8:W.cell? ⟨rb,8,none⟩=some (.int .i64 rrec):=hr.blk.cell 8;have q9:W.cell? ⟨rb,9,none⟩=some (.int .i64 rlaid):=hr.blk.cell 9;have c37:W.cell? ⟨fb,37,none⟩=some (.int .i64 rec):=hq.blk.cell 37;have f37:=hq.blk.frozen 37;have b1:=hq.blk.set_ 37 (.int .i64 rrec);have m1:=Chg.set1 W fb 37 (.int .i64 rrec);have r1:Blk (W.setCell ⟨fb,37,none⟩ (.int .i64 rrec)) rb _ _:=m1.blk hr.blk hnb;have q91:(W.setCell ⟨fb,37,none⟩ (.int .i64 rrec)).cell? ⟨rb,9,none⟩=some (.int .i64 rlaid):=r1.cell 9;have c38:(W.setCell ⟨fb,37,none⟩ (.int .i64 rrec)).cell? ⟨fb,38,none⟩=some (.int .i64 laid):=b1.cell 38;have f38:=b1.frozen 38;have b2:=b1.set_ 38 (.int .i64 rlaid);have m2:=m1.trans (Chg.set1 (W.setCell ⟨fb,37,none⟩ (.int .i64 rrec)) fb 38 (.int .i64 rlaid));have r2:Blk ((W.setCell ⟨fb,37,none⟩ (.int .i64 rrec)).setCell ⟨fb,38,none⟩ (.int .i64 rlaid)) rb _ _:=m2.blk hr.blk hnb;have q22:=(HOFF.out▸r2.cell 2:((W.setCell ⟨fb,37,none⟩ (.int .i64 rrec)).setCell ⟨fb,38,none⟩ (.int .i64 rlaid)).cell? ⟨rb,2,none⟩=some (.bool true));skip;have HQ:=LH hq;have HB1:=LH b2;have HM2:=LH m2;clear hq hr b1 m1 r1 b2 m2 r2 HF2 HR2))
  go_end0
  have hm:=HM2.out
  refine ⟨rfl,⟨xv,tv,pv,sv,lv,rrec,rlaid, ?_⟩,(Chg.of_below HB2.out).grow hm (fun y hy=> .inl hy)⟩
  rw[if_pos rfl,show (done|| !true)=done from by cases done<;>rfl]
  exact (HQ.out.own hm HB1.out).mono (fun _=> .inl)
 |false=>
  go_enter Tryz.func90,Tryz.ntmps90
  go_wp2_with (fail)
  with_reducible refine (HC.out).mono ?_
  rintro e w1 ⟨rb,pv3,sv3,lv3,rfl,hrows,hrun,hrb,hb1⟩
  have H1:=LH (H.out.below hb1)
  have hz1:=hb1.size
  have hone:(#[.int .i64 o'.word, .bool o'.ok, .int .i64 o'.n, .int .i64 o'.m, .int .i64 o'.value,pv3,sv3, .int .i64 o'.res.why, .bool o'.res.found, .int .i64 o'.res.key, .int .i64 o'.res.val, .int .i64 o'.res.n,lv3]:Array Value).all (·.oneCell')=true:=by
   obtain ⟨_,_,rfl⟩:=own_shape hrows.prs.1
   obtain ⟨_,_,rfl⟩:=own_shape hrows.sps.1
   obtain ⟨_,_,rfl⟩:=own_shape hrows.lst.1
   simp[Value.oneCell']
  have hbn:=Blk.new w1 56 oZ
  have hba:=(Below.refl w1.heap.size w1).alloc (Nat.le_refl _) (.cells oZ 56)
  have hcs:Chg (fun y=>y=w1.heap.size) (w1.alloc (.cells oZ 56)) ((w1.alloc (.cells oZ 56)).setRow w1.heap.size #[.int .i64 o'.word, .bool o'.ok, .int .i64 o'.n, .int .i64 o'.m, .int .i64 o'.value,pv3,sv3, .int .i64 o'.res.why, .bool o'.res.found, .int .i64 o'.res.key, .int .i64 o'.res.val, .int .i64 o'.res.n,lv3]):=Chg.setRow _ _ _
  have hbb:Below w1.heap.size w1 ((w1.alloc (.cells oZ 56)).setRow w1.heap.size #[.int .i64 o'.word, .bool o'.ok, .int .i64 o'.n, .int .i64 o'.m, .int .i64 o'.value,pv3,sv3, .int .i64 o'.res.why, .bool o'.res.found, .int .i64 o'.res.key, .int .i64 o'.res.val, .int .i64 o'.res.n,lv3]):=hba.trans (hcs.below (fun y hy=>by omega) hba.size)
  have HT:=LH hbn
  have HT2:=LH (hbn.setRow #[.int .i64 o'.word, .bool o'.ok, .int .i64 o'.n, .int .i64 o'.m, .int .i64 o'.value,pv3,sv3, .int .i64 o'.res.why, .bool o'.res.found, .int .i64 o'.res.key, .int .i64 o'.res.val, .int .i64 o'.res.n,lv3])
  have HONE:=LH hone
  have HR2:=LH (hrun.below hbb)
  have HROW2:=LH (hrows.chg (G:=fun _=>False) (Chg.of_below hbb) (fun _ _ g=>g))
  have HF2:=LH (H1.out.below hbb)
  have HB2:=LH (hb1.trans (hbb.mono hz1))
  clear hbn hba hcs hbb hone hrun hrows hb1 H1 HC
  unfold outV
  go_wp2_with (first|((with_reducible refine (show wpList _ _ _ ((Oper.mk none (.store _ (.tmp 3) _) _ _ _ _)::_) _ _ from ?_));refine wpList_store_row rfl 56 (.tmp 3) (.tmp 8) rfl w1.heap.size #[.int .i64 o'.word, .bool o'.ok, .int .i64 o'.n, .int .i64 o'.m, .int .i64 o'.value,pv3,sv3, .int .i64 o'.res.why, .bool o'.res.found, .int .i64 o'.res.key, .int .i64 o'.res.val, .int .i64 o'.res.n,lv3] rfl rfl _ _ HT.out (by kernel_rfl) rfl HONE.out ?_;generalize (w1.alloc (.cells oZ 56)).setRow w1.heap.size #[.int .i64 o'.word, .bool o'.ok, .int .i64 o'.n, .int .i64 o'.m, .int .i64 o'.value,pv3,sv3, .int .i64 o'.res.why, .bool o'.res.found, .int .i64 o'.res.key, .int .i64 o'.res.val, .int .i64 o'.res.n,lv3]=W at HT2 HR2 HROW2 HF2 HB2⊢;clear HT;obtain ⟨xv,tv,pv,sv,lv,rec,laid,hq⟩:=HF2.out;obtain ⟨rtv,rwv,rrec,rlaid,hr⟩:=HR2.out;have hnb:rb≠fb:=hr.blk.ne_ hq.blk (by decide);have hnt:w1.heap.size≠fb:=HT2.out.ne_ hq.blk (by decide);have q2:=(HOFF.out▸hr.blk.cell 2:W.cell? ⟨rb,2,none⟩=some (.bool false));have q8:W.cell? ⟨rb,8,none⟩=some (.int .i64 rrec):=hr.blk.cell 8;have q9:W.cell? ⟨rb,9,none⟩=some (.int .i64 rlaid):=hr.blk.cell 9;have c37:W.cell? ⟨fb,37,none⟩=some (.int .i64 rec):=hq.blk.cell 37;have f37:=hq.blk.frozen 37;have b1:=hq.blk.set_ 37 (.int .i64 rrec);have m1:=Chg.set1 W fb 37 (.int .i64 rrec);have r1:Blk (W.setCell ⟨fb,37,none⟩ (.int .i64 rrec)) rb _ _:=m1.blk hr.blk hnb;have q91:(W.setCell ⟨fb,37,none⟩ (.int .i64 rrec)).cell? ⟨rb,9,none⟩=some (.int .i64 rlaid):=r1.cell 9;have c38:(W.setCell ⟨fb,37,none⟩ (.int .i64 rrec)).cell? ⟨fb,38,none⟩=some (.int .i64 laid):=b1.cell 38;have f38:=b1.frozen 38;have b2:=b1.set_ 38 (.int .i64 rlaid);have m2:=m1.trans (Chg.set1 (W.setCell ⟨fb,37,none⟩ (.int .i64 rrec)) fb 38 (.int .i64 rlaid));have r2:Blk ((W.setCell ⟨fb,37,none⟩ (.int .i64 rrec)).setCell ⟨fb,38,none⟩ (.int .i64 rlaid)) rb _ _:=m2.blk hr.blk hnb;have q22:=(HOFF.out▸r2.cell 2:((W.setCell ⟨fb,37,none⟩ (.int .i64 rrec)).setCell ⟨fb,38,none⟩ (.int .i64 rlaid)).cell? ⟨rb,2,none⟩=some (.bool false));have c23:((W.setCell ⟨fb,37,none⟩ (.int .i64 rrec)).setCell ⟨fb,38,none⟩ (.int .i64 rlaid)).cell? ⟨fb,23,none⟩=some (.bool done):=b2.cell 23;have f23:=b2.frozen 23;have b3:=b2.set_ 23 (.bool true);have m3:=m2.trans (Chg.set1 ((W.setCell ⟨fb,37,none⟩ (.int .i64 rrec)).setCell ⟨fb,38,none⟩ (.int .i64 rlaid)) fb 23 (.bool true));have HT3:=LH (m3.blk HT2.out hnt);have HTH:=LH (there_blk b3 24 13 (by simp));have HB3:=LH b3;have HM3:=LH m3;clear b3 m3;have HQ:=LH hq;have HB1:=LH b2;have HM2:=LH m2;clear hq hr b1 m1 r1 b2 m2 r2 HF2 HR2)|((with_reducible refine (show wpList _ _ _ ((Oper.mk (some 32) (.load _ _) _ _ _ _)::_) _ _ from ?_));refine wpList_load_row rfl 56 (.tmp 3) rfl w1.heap.size rfl _ _ (0,0) _ HT3.out Tryz.underlying56 rfl (by kernel_rfl) ?_)|((with_reducible refine (show wpList _ _ _ ((Oper.mk none (.store _ (.tmp 34) _) _ _ _ _)::_) _ _ from ?_));refine wpList_store_mid rfl 56 (.tmp 34) (.tmp 32) rfl fb 24 #[.int .i64 o'.word, .bool o'.ok, .int .i64 o'.n, .int .i64 o'.m, .int .i64 o'.value,pv3,sv3, .int .i64 o'.res.why, .bool o'.res.found, .int .i64 o'.res.key, .int .i64 o'.res.val, .int .i64 o'.res.n,lv3] rfl rfl HTH.out (by kernel_rfl) HONE.out ?_))
  go_end0
  have hm:=HM3.out.trans (Chg.setCells fb [.int .i64 o'.word, .bool o'.ok, .int .i64 o'.n, .int .i64 o'.m, .int .i64 o'.value,pv3,sv3, .int .i64 o'.res.why, .bool o'.res.found, .int .i64 o'.res.key, .int .i64 o'.res.val, .int .i64 o'.res.n,lv3] 24 _)
  refine ⟨rfl,⟨xv,tv,pv3,sv3,lv3,rrec,rlaid, ?_⟩,(Chg.of_below HB2.out).grow hm (fun y hy=> .inl hy)⟩
  rw[if_neg Bool.false_ne_true,show (done|| !false)=true from by cases done<;>rfl]
  have h1:=HQ.out.own HM3.out HB3.out
  have hk:∀y,y=fb→∃t cs,Blk W y t cs∧t≠52∧t≠114:=fun y hy=>⟨_,_,hy▸HQ.out.blk,by decide,by decide⟩
  exact ⟨.inl h1.ff,Blk.out h1.blk,hm.own HQ.out.tape (own_blk_not HQ.out.tape HQ.out.blk (by decide)),fun g hg=> .inl (HQ.out.ft g hg),(HQ.out.spots.keep hm (fun y hy=>by obtain ⟨t,cs,a,b,c⟩:=hk y hy;exact ⟨t,cs,a,c⟩)).mono (fun _=> .inl),(HROW2.out.keep hm hk).mono (fun y hy=> .inr (by omega))⟩
section
variable {F G:Nat→Prop} {fb bm:Nat} {x:FX} {T C:List Int} {done:Bool} {o:FOut} {xv tv pv sv lv:Value} {rec laid max:Int} {w w':World}
theorem FrP.within (h:FrP F fb x T done o w):FrP (fun y=>F y∧y<w.heap.size) fb x T done o w:=by
 obtain ⟨a,b,c,d,e,f,g,h⟩:=h
 exact ⟨a,b,c,d,e,f,g,⟨h.ff,h.blk.lt⟩,h.blk,h.tape,fun y hy=>⟨h.ft y hy,own_lt h.tape y hy⟩,h.spots.within,h.rows.prs.within,h.rows.sps.within,h.rows.lst.within⟩
theorem M7.within (h:M7 F bm C max w):M7 (fun y=>F y∧y<w.heap.size) bm C max w:=by
 obtain ⟨v,a,b,c,h⟩:=h
 exact ⟨v,a,b,c,⟨h.fb,h.blk.lt⟩,h.blk,h.row,fun y hy=>⟨h.fr y hy,own_lt h.row y hy⟩⟩
theorem FrQ.app {v:Int} {wd w5:World} {gg cap:Nat} (h:FrQ F fb x T done o xv tv pv sv lv rec laid w) (hb:Below w.heap.size w wd) (hO:w5.ownsRow 0 2 1 (.slice (some ⟨gg,0,none⟩) (T.length+1) cap) (T.length+1) (T.map (Value.int .i64)++[.int .i64 v])) (hg:wd.grownBy w5 tv.ownBlock) (hat:tv.ownBlock=some gg∨w.heap.size≤gg):
  Hid (w5.cell? ⟨fb,22,none⟩=some tv∧w5.frozen? ⟨fb,22,none⟩=false∧FrQ (fun y=>F y∨w.heap.size≤y) fb x (T++[v]) done o xv (.slice (some ⟨gg,0,none⟩) (T.length+1) cap) pv sv lv rec laid (w5.setCell ⟨fb,22,none⟩ (.slice (some ⟨gg,0,none⟩) (T.length+1) cap))∧Chg (fun y=>F y) w (w5.setCell ⟨fb,22,none⟩ (.slice (some ⟨gg,0,none⟩) (T.length+1) cap))):=by
 have hc:=(Chg.of_below (F:=fun y=>tv.ownBlock=some y) hb).trans (Chg.of_grown hg)
 have hbl:=hc.blk h.blk (fun e=>own_blk_ne h.tape h.blk (by decide) e)
 have hc6:Chg (fun y=>y=fb∨tv.ownBlock=some y) w (w5.setCell ⟨fb,22,none⟩ (.slice (some ⟨gg,0,none⟩) (T.length+1) cap)):=(hc.mono (fun _=> .inr)).trans ((Chg.set1 w5 fb 22 _).mono (fun _=> .inl))
 have k:∀y,(y=fb∨tv.ownBlock=some y)→∃t cs,Blk w y t cs∧t≠52∧t≠114:=fun y hy=>by
  rcases hy with rfl|hy
  ·exact ⟨_,_,h.blk,by decide,by decide⟩
  ·obtain ⟨cs,hb⟩:=own_blk h.tape hy
   exact ⟨_,cs,hb,by decide,by decide⟩
 refine LH ⟨hbl.cell 22,hbl.frozen 22,⟨.inl h.ff,hbl.set_ 22 _, ?_,fun g hg=> ?_,(h.spots.keep hc6 (fun y hy=>by obtain ⟨t,cs,a,b,c⟩:=k y hy;exact ⟨t,cs,a,c⟩)).mono (fun _=> .inl),(h.rows.keep hc6 k).mono (fun _=> .inl)⟩,hc6.mono (fun y hy=> ?_)⟩
 ·rw[List.map_append,List.length_append]
  exact (Chg.set1 w5 fb 22 _).own hO (own_blk_not hO hbl (by decide))
 ·have hgg:gg=g:=by simpa[Value.ownBlock] using hg
  subst hgg
  rcases hat with e|e
  ·exact .inl (h.ft gg e)
  ·exact .inr e
 ·rcases hy with rfl|e
  ·exact h.ff
  ·exact h.ft y e
end
theorem range_blk {w:World} {g:Nat} {t:TypeId} {cs:Array Value} (h:Blk w g t cs) (o:Nat) (l:List Value) (hl:∀j v,l[j]? =some v→cs[o+j]? =some v):w.rangeAt g o l:=fun j v hv=>(h.cell (o+j)).trans (hl j v hv)
def StepFPost (F Fm:Nat→Prop) (fb bm:Nat) (x:FX) (T:List Int) (done:Bool) (o:FOut) (C:List Int) (max:Int) (w:World) (e:Ending) (w':World):Prop:=e= .returned (.bool done)∧∃F' Fm':Nat→Prop,FrP F' fb x T done o w'∧M7 Fm' bm C max w'∧(∀y,F' y→Fm' y→False)∧(∀y,F' y→F y∨w.heap.size≤y)∧(∀y,Fm' y→Fm y∨w.heap.size≤y)∧Chg (fun y=>F y∨Fm y) w w'
set_option maxRecDepth 100000 in
set_option maxHeartbeats 400000 in
theorem stepF_done (F Fm:Nat→Prop) (fb bm:Nat) (x:FX) (T:List Int) (o:FOut) (C:List Int) (max:Int) (w:World) (h:FrP F fb x T true o w) (hm:M7 Fm bm C max w) (hd:∀y,F y→Fm y→False):
  Calls Tryz.prog 31 #[.pointer (some ⟨fb,0,none⟩), .pointer (some ⟨bm,0,none⟩)] w (StepFPost F Fm fb bm x T true o C max w):=by
 have c23:w.cell? ⟨fb,23,none⟩=some (.bool true):=by obtain ⟨_,_,_,_,_,_,_,h⟩:=h;exact h.blk.cell 23
 have H:Hid (FrP F fb x T true o w∧M7 Fm bm C max w):=LH ⟨h,hm⟩
 clear h hm
 go_enter Tryz.func31,Tryz.ntmps31
 go_wp2_with (fail)
 go_ret
 exact ⟨rfl,F,Fm,H.out.1,H.out.2,hd,fun y hy=> .inl hy,fun y hy=> .inl hy,Chg.refl _ _⟩
set_option maxRecDepth 100000 in
set_option maxHeartbeats 4000000 in
theorem stepF_any (N:Nat) (F Fm:Nat→Prop) (fb bm:Nat) (x:FX) (T:List Int) (o o1 o2:FOut) (s1 s2:RunS) (C:List Int) (max:Int) (w:World) (hP:PlayC N x) (h:FrP F fb x T false o w) (hm:M7 Fm bm C max w) (hd:∀y,F y→Fm y→False)
  (d0:(RunS.mk T 0 false ask0).Bd) (hf:T.length+2<N) (hC:C.length≤1000000) (hm0:(C.length:Int)≤max) (hmx:max≤65536) (v:Int) (C':List Int) (dn:Bool) (oo:FOut) (hex:exQ max s1.next C=(v,C')) (hv:i64B v) (hq:s1.next.Ok) (hT:T.length≤1000000)
  (hg1:(x.tree N).go ⟨T,0,false,ask0⟩=(o1,s1)) (hoff:s1.off=true) (hg2:(x.tree N).go ⟨T++[v],0,false,ask0⟩=(o2,s2)) (hdn:(!s2.off)=dn) (hoo:(if s2.off=true then o else o2)=oo):
  Calls Tryz.prog 31 #[.pointer (some ⟨fb,0,none⟩), .pointer (some ⟨bm,0,none⟩)] w (StepFPost F Fm fb bm x (T++[v]) dn oo C' max w):=by
 obtain ⟨i0,hi0,hz0,hz1,hz2⟩:=info_parts info_int64m
 have h:=h.within
 have hm:=hm.within
 have c23:w.cell? ⟨fb,23,none⟩=some (.bool false):=by obtain ⟨_,_,_,_,_,_,_,h⟩:=h;exact h.blk.cell 23
 have HPC:=LH hP
 have HPL:=LH (hP _ fb T false o o1 s1 w h d0 (by omega) hg1)
 have H:=LH h
 have HM:=LH hm
 have HD:=LH hd
 have HQ:=LH hq
 have HOFF:=LH hoff
 have HG2:=LH hg2
 have HD2:=LH (show (RunS.mk (T++[v]) 0 false ask0).Bd from ⟨fun y hy=>(List.mem_append.1 hy).elim (fun hy=>d0.vals y hy) (fun hy=>by rw[List.mem_singleton] at hy;rw[hy];exact hv),by simp;omega,Nat.zero_le _⟩)
 have HEX:=LH hex
 have HDN:=LH hdn
 have HOO:=LH hoo
 clear hP h hm hd hq hoff hg2 hg1 hv hex hdn hoo
 go_enter Tryz.func31,Tryz.ntmps31
 go_wp2_with (fail)
 with_reducible refine (HPL.out).mono ?_
 rintro e w1 ⟨rb,pv3,sv3,lv3,rfl,hrows,hrun,hrb,hb1⟩
 have hzb:=hb1.size
 have hone:(#[.int .i64 o1.word, .bool o1.ok, .int .i64 o1.n, .int .i64 o1.m, .int .i64 o1.value,pv3,sv3, .int .i64 o1.res.why, .bool o1.res.found, .int .i64 o1.res.key, .int .i64 o1.res.val, .int .i64 o1.res.n,lv3]:Array Value).all (·.oneCell')=true:=by
  obtain ⟨_,_,rfl⟩:=own_shape hrows.prs.1
  obtain ⟨_,_,rfl⟩:=own_shape hrows.sps.1
  obtain ⟨_,_,rfl⟩:=own_shape hrows.lst.1
  simp[Value.oneCell']
 have hbn:=Blk.new w1 56 oZ
 have hba:=(Below.refl w1.heap.size w1).alloc (Nat.le_refl _) (.cells oZ 56)
 have hcs:Chg (fun y=>y=w1.heap.size) (w1.alloc (.cells oZ 56)) ((w1.alloc (.cells oZ 56)).setRow w1.heap.size #[.int .i64 o1.word, .bool o1.ok, .int .i64 o1.n, .int .i64 o1.m, .int .i64 o1.value,pv3,sv3, .int .i64 o1.res.why, .bool o1.res.found, .int .i64 o1.res.key, .int .i64 o1.res.val, .int .i64 o1.res.n,lv3]):=Chg.setRow _ _ _
 have hbb:Below w1.heap.size w1 ((w1.alloc (.cells oZ 56)).setRow w1.heap.size #[.int .i64 o1.word, .bool o1.ok, .int .i64 o1.n, .int .i64 o1.m, .int .i64 o1.value,pv3,sv3, .int .i64 o1.res.why, .bool o1.res.found, .int .i64 o1.res.key, .int .i64 o1.res.val, .int .i64 o1.res.n,lv3]):=hba.trans (hcs.below (fun y hy=>by omega) hba.size)
 have HT:=LH hbn
 have HONE:=LH hone
 have HR2:=LH (hrun.below hbb)
 have HB2:=LH (hb1.trans (hbb.mono hzb))
 have HF2:=LH (H.out.below HB2.out)
 have HM2:=LH (HM.out.below HB2.out)
 clear hbn hba hcs hbb hone hrun hrows hb1 HPL
 unfold outV
 go_wp2_with (first|((with_reducible refine (show wpList _ _ _ ((Oper.mk none (.store _ (.tmp 6) _) _ _ _ _)::_) _ _ from ?_));refine wpList_store_row rfl 56 (.tmp 6) (.tmp 15) rfl w1.heap.size #[.int .i64 o1.word, .bool o1.ok, .int .i64 o1.n, .int .i64 o1.m, .int .i64 o1.value,pv3,sv3, .int .i64 o1.res.why, .bool o1.res.found, .int .i64 o1.res.key, .int .i64 o1.res.val, .int .i64 o1.res.n,lv3] rfl rfl _ _ HT.out (by kernel_rfl) rfl HONE.out ?_;generalize (w1.alloc (.cells oZ 56)).setRow w1.heap.size #[.int .i64 o1.word, .bool o1.ok, .int .i64 o1.n, .int .i64 o1.m, .int .i64 o1.value,pv3,sv3, .int .i64 o1.res.why, .bool o1.res.found, .int .i64 o1.res.key, .int .i64 o1.res.val, .int .i64 o1.res.n,lv3]=W at HR2 HF2 HM2 HB2⊢;clear HT HONE))
 obtain ⟨xv,tv,pv,sv,lv,rec,laid,hq⟩:=HF2.out
 obtain ⟨rtv,rwv,rrec,rlaid,hr⟩:=HR2.out
 obtain ⟨tA,tc,rfl⟩:=own_shape hq.tape
 obtain ⟨qA,qc,rfl⟩:=own_shape hr.ws
 have c22:W.cell? ⟨fb,22,none⟩=some (.slice tA T.length tc):=hq.blk.cell 22
 have r3:W.cell? ⟨rb,3,none⟩=some (.int .i64 s1.next.kind):=hr.blk.cell 3
 have r4:W.cell? ⟨rb,4,none⟩=some (.int .i64 s1.next.a):=hr.blk.cell 4
 have r5:W.cell? ⟨rb,5,none⟩=some (.int .i64 s1.next.x):=hr.blk.cell 5
 have r6:W.cell? ⟨rb,6,none⟩=some (.int .i64 s1.next.y):=hr.blk.cell 6
 have r7:W.cell? ⟨rb,7,none⟩=some (.slice qA s1.next.ws.length qc):=hr.blk.cell 7
 have hqd:=hq.below (drawn_bl (Drawn.of W 1) _)
 have DOC:Hid (Calls Tryz.prog 96 #[.pointer (some ⟨bm,0,none⟩), .agg #[.int .i64 s1.next.kind, .int .i64 s1.next.a, .int .i64 s1.next.x, .int .i64 s1.next.y, .slice qA s1.next.ws.length qc]] W.drew fun e w'=>e= .returned (.int .i64 v)∧M7 (fun y=>(Fm y∧y<w.heap.size)∨W.heap.size≤y) bm C' max w'∧Chg (fun y=>Fm y∧y<w.heap.size) W.drew w'):=LH ((do_any (fun y=>Fm y∧y<w.heap.size) bm C max s1.next _ W.drew (HM2.out.below (drawn_bl (Drawn.of W 1) _)) hC hm0 hmx (own_below hr.ws (drawn_bl (Drawn.of W 1) _)) HQ.out).mono fun e w' hp=>by
  unfold DoPost at hp
  rw[HEX.out] at hp
  exact hp)
 have hWz:w.heap.size≤W.heap.size:=HB2.out.size
 have HWZ:=LH hWz
 have SLOT:Hid (∀w2,Chg (fun y=>Fm y∧y<w.heap.size) W.drew w2→w2.cell? ⟨fb,22,none⟩=some (.slice tA T.length tc)∧(w2.alloc (.cells #[.int .i64 v] 2)).ownsRow 0 2 1 (.slice tA T.length tc) T.length (T.map (Value.int .i64))∧(∀(j:Nat) (u:Value),([.int .i64 v]:List Value)[j]? =some u→(w2.alloc (.cells #[.int .i64 v] 2)).cell? ((⟨w2.heap.size,0,none⟩:Addr).add j)=some u)∧FrQ (fun y=>F y∧y<w.heap.size) fb x T false o xv (.slice tA T.length tc) pv sv lv rec laid w2∧W.heap.size≤w2.heap.size):=LH (fun w2 hc2=>by
  have hq2:=hqd.chg hc2 (fun y h1 h2=>HD.out y h1.1 h2.1)
  refine ⟨hq2.blk.cell 22,own_below hq2.tape ((Below.refl _ _).alloc (Nat.le_refl _) _),fun j u hu=> ?_,hq2,hc2.size⟩
  have e:(⟨w2.heap.size,0,none⟩:Addr).add j=⟨w2.heap.size,j,none⟩:=by unfold Addr.add;split<;>simp_all
  rw[e]
  have:=(Blk.new w2 2 #[.int .i64 v]).cell j
  exact this.trans (by simpa using hu))
 have n1:=World.new_ne W ⟨fb,22,none⟩ c22
 clear hq hr hqd hWz HR2 HF2
 go_region_law (first|(refine step_append_lies _ (by rfl) _ _ _ (by rfl) 0 2 i0 _ 1 8 Tryz.underlying22 hi0 hz0 hz1 hz2 rfl (by omega) (.slice tA T.length tc) T.length (T.map (Value.int .i64)) (by rfl) SF.out.2.1 ⟨w2.heap.size,0,none⟩ 1 1 [.int .i64 v] (by rfl) (by rfl) SF.out.2.2.1 (by simp[Value.oneCell']) (by omega) (by unfold maxLen;omega) (by omega) (by omega) (w2.heap.size+1) (by simp) ?_;intro gg cap w5 hO5 hg5 hat hlt5;have K5:=SF.out.2.2.2.1.app ((Below.refl _ _).alloc (Nat.le_refl _) _) hO5 hg5 (hat.imp id (fun e=>by omega));have c5:=K5.out.1;have f5:=K5.out.2.1;clear hO5 hg5 hat hlt5)|(go_simp;go_at_call 96;(with_reducible refine (DOC.out).mono ?_);rintro e w2 ⟨rfl,hm2,hc2⟩;have SF:=LH (SLOT.out w2 hc2);have MF:=LH hm2;have CF:=LH hc2;have c22b:=SF.out.1;have n2:=World.new_ne w2 ⟨fb,22,none⟩ c22b;have hbl2:fb<w2.heap.size:=World.block_lt_of_cell? w2 _ c22b;clear hm2 hc2))
 all_goals
  have hP:=K5.out.2.2
  have HSZ:=LH SF.out.2.2.2.2
  clear K5 c5 f5 SF c22b n2 hbl2 n1 c22 r3 r4 r5 r6 r7 SLOT DOC
  revert hP
  generalize w5.setCell ⟨fb,22,none⟩ (.slice (some ⟨gg,0,none⟩) (T.length+1) cap)=w6
  rintro ⟨hq6,hc6⟩
  have HW6:Hid (FrP (fun y=>(F y∧y<w.heap.size)∨w2.heap.size≤y) fb x (T++[v]) false o w6):=LH ⟨_,_,_,_,_,_,_,hq6⟩
  have HC6:=LH hc6
  have HM6:Hid (M7 (fun y=>((Fm y∧y<w.heap.size)∨W.heap.size≤y)∧y<w2.heap.size) bm C' max w6):=LH (MF.out.within.chg hc6 (fun y h1 h2=>by
   rcases h1.1 with h3|h3
   ·exact HD.out y h2.1 h3.1
   ·have:=HWZ.out;omega))
  clear hq6 hc6 MF
  go_wp2_with (fail)
  with_reducible refine (settle_any N x HPC.out _ fb (T++[v]) false o o2 s2 w6 HW6.out HD2.out (by simp;omega) HG2.out).mono ?_
  rintro e w7 ⟨rfl,hf7,hc7⟩
  have hff:F fb:=by obtain ⟨_,_,_,_,_,_,_,h⟩:=H.out;exact h.ff.1
  have HM7:=LH (HM6.out.chg hc7 (fun y h1 h2=>by
   have:y=fb:=h2
   subst this
   rcases h1.1 with h3|h3
   ·exact HD.out y hff h3.1
   ·have:=H.out.lt;have:=HWZ.out;omega))
  rw[HOO.out,show (false|| !s2.off)=dn from by rw[←HDN.out];rfl] at hf7
  have d23:w7.cell? ⟨fb,23,none⟩=some (.bool dn):=by obtain ⟨_,_,_,_,_,_,_,h⟩:=hf7;exact h.blk.cell 23
  have HF7:=LH hf7
  have HC7:=LH hc7
  have HFF:=LH hff
  clear hf7 hc7 hff
  go_wp2_with (fail)
  go_ret
  have z1:=HWZ.out
  have z2:=HSZ.out
  have z6:=HC6.out.size
  refine ⟨rfl,_,_,HF7.out,HM7.out,fun y h1 h2=> ?_,fun y h1=> ?_,fun y h1=> ?_, ?_⟩
  ·rcases h1 with (h1|h1)|h1
   ·rcases h2.1 with h3|h3
    ·exact HD.out y h1.1 h3.1
    ·omega
   ·omega
   ·omega
  ·rcases h1 with (h1|h1)|h1
   ·exact .inl h1.1
   ·exact .inr (by omega)
   ·exact .inr (by omega)
  ·rcases h1.1 with h3|h3
   ·exact .inl h3.1
   ·exact .inr (by omega)
  ·exact (((Chg.of_below HB2.out).trans (Chg.of_below (drawn_bl (Drawn.of W 1) _))).trans (CF.out.mono (fun y hy=> .inr hy.1))).trans ((HC6.out.mono (fun y hy=> .inl hy.1)).trans (HC7.out.mono (fun y hy=> .inl (hy▸HFF.out))))
def NewFPost (G:Nat→Prop) (x:FX) (o':FOut) (off:Bool) (w:World) (e:Ending) (w':World):Prop:=∃fb,e= .returned (.pointer (some ⟨fb,0,none⟩))∧FrP (fun y=>G y∨w.heap.size≤y) fb x [] (!off) (if off=true then FOut.zero else o') w'∧w.heap.size≤fb∧Below w.heap.size w w'
set_option maxRecDepth 100000 in
set_option maxHeartbeats 4000000 in
theorem newF_any (N:Nat) (G:Nat→Prop) (x:FX) (xv:Value) (o':FOut) (s':RunS) (w:World) (hP:PlayC N x) (hsp:PrP G 114 xv x.spots w) (hf:1<N) (hg:(x.tree N).go ⟨[],0,false,ask0⟩=(o',s')):
  Calls Tryz.prog 29 #[.int .i64 x.proc, .agg #[.int .i64 x.a, .int .i64 x.b, .int .i64 0, .int .i64 x.p, .int .i64 0, .int .i64 x.w.lo, .int .i64 x.w.hi, .bool x.w.back, .int .i64 x.w.most, .bool x.w.values, .slice none 0 0, .slice none 0 0,xv, .slice none 0 0, .slice none 0 0, .int .i64 0, .int .i64 0, .int .i64 0, .int .i64 x.op.kind, .int .i64 x.op.key, .int .i64 x.op.val]] w (NewFPost G x o' s'.off w):=by
 obtain ⟨xA,xc,rfl⟩:=own_shape hsp.1
 have hba:=(Below.refl w.heap.size w).alloc (Nat.le_refl _) (.cells #[.int .i64 x.a, .int .i64 x.b, .int .i64 0, .int .i64 x.p, .int .i64 0, .int .i64 x.w.lo, .int .i64 x.w.hi, .bool x.w.back, .int .i64 x.w.most, .bool x.w.values, .slice none 0 0, .slice none 0 0, .slice xA x.spots.length xc, .slice none 0 0, .slice none 0 0, .int .i64 0, .int .i64 0, .int .i64 0, .int .i64 x.op.kind, .int .i64 x.op.key, .int .i64 x.op.val] 50)
 have hza:(w.alloc (.cells #[.int .i64 x.a, .int .i64 x.b, .int .i64 0, .int .i64 x.p, .int .i64 0, .int .i64 x.w.lo, .int .i64 x.w.hi, .bool x.w.back, .int .i64 x.w.most, .bool x.w.values, .slice none 0 0, .slice none 0 0, .slice xA x.spots.length xc, .slice none 0 0, .slice none 0 0, .int .i64 0, .int .i64 0, .int .i64 0, .int .i64 x.op.kind, .int .i64 x.op.key, .int .i64 x.op.val] 50)).heap.size=w.heap.size+1:=by simp
 have hbb:=hba.alloc hba.size (.cells #[.int .i64 x.proc, .int .i64 x.a, .int .i64 x.b, .int .i64 0, .int .i64 x.p, .int .i64 0, .int .i64 x.w.lo, .int .i64 x.w.hi, .bool x.w.back, .int .i64 x.w.most, .bool x.w.values, .slice none 0 0, .slice none 0 0, .slice xA x.spots.length xc, .slice none 0 0, .slice none 0 0, .int .i64 0, .int .i64 0, .int .i64 0, .int .i64 x.op.kind, .int .i64 x.op.key, .int .i64 x.op.val, .slice none 0 0, .bool false, .int .i64 0, .bool false, .int .i64 0, .int .i64 0, .int .i64 0, .slice none 0 0, .slice none 0 0, .int .i64 0, .bool false, .int .i64 0, .int .i64 0, .int .i64 0, .slice none 0 0, .int .i64 0, .int .i64 0] 58)
 have hfr:FrP (fun y=>G y∨w.heap.size≤y) (w.heap.size+1) x [] false FOut.zero ((w.alloc (.cells #[.int .i64 x.a, .int .i64 x.b, .int .i64 0, .int .i64 x.p, .int .i64 0, .int .i64 x.w.lo, .int .i64 x.w.hi, .bool x.w.back, .int .i64 x.w.most, .bool x.w.values, .slice none 0 0, .slice none 0 0, .slice xA x.spots.length xc, .slice none 0 0, .slice none 0 0, .int .i64 0, .int .i64 0, .int .i64 0, .int .i64 x.op.kind, .int .i64 x.op.key, .int .i64 x.op.val] 50)).alloc (.cells #[.int .i64 x.proc, .int .i64 x.a, .int .i64 x.b, .int .i64 0, .int .i64 x.p, .int .i64 0, .int .i64 x.w.lo, .int .i64 x.w.hi, .bool x.w.back, .int .i64 x.w.most, .bool x.w.values, .slice none 0 0, .slice none 0 0, .slice xA x.spots.length xc, .slice none 0 0, .slice none 0 0, .int .i64 0, .int .i64 0, .int .i64 0, .int .i64 x.op.kind, .int .i64 x.op.key, .int .i64 x.op.val, .slice none 0 0, .bool false, .int .i64 0, .bool false, .int .i64 0, .int .i64 0, .int .i64 0, .slice none 0 0, .slice none 0 0, .int .i64 0, .bool false, .int .i64 0, .int .i64 0, .int .i64 0, .slice none 0 0, .int .i64 0, .int .i64 0] 58)):=by
  have hb:=Blk.new (w.alloc (.cells #[.int .i64 x.a, .int .i64 x.b, .int .i64 0, .int .i64 x.p, .int .i64 0, .int .i64 x.w.lo, .int .i64 x.w.hi, .bool x.w.back, .int .i64 x.w.most, .bool x.w.values, .slice none 0 0, .slice none 0 0, .slice xA x.spots.length xc, .slice none 0 0, .slice none 0 0, .int .i64 0, .int .i64 0, .int .i64 0, .int .i64 x.op.kind, .int .i64 x.op.key, .int .i64 x.op.val] 50)) 58 #[.int .i64 x.proc, .int .i64 x.a, .int .i64 x.b, .int .i64 0, .int .i64 x.p, .int .i64 0, .int .i64 x.w.lo, .int .i64 x.w.hi, .bool x.w.back, .int .i64 x.w.most, .bool x.w.values, .slice none 0 0, .slice none 0 0, .slice xA x.spots.length xc, .slice none 0 0, .slice none 0 0, .int .i64 0, .int .i64 0, .int .i64 0, .int .i64 x.op.kind, .int .i64 x.op.key, .int .i64 x.op.val, .slice none 0 0, .bool false, .int .i64 0, .bool false, .int .i64 0, .int .i64 0, .int .i64 0, .slice none 0 0, .slice none 0 0, .int .i64 0, .bool false, .int .i64 0, .int .i64 0, .int .i64 0, .slice none 0 0, .int .i64 0, .int .i64 0]
  rw[hza] at hb
  exact ⟨_, .slice none 0 0, .slice none 0 0, .slice none 0 0, .slice none 0 0,0,0, .inr (by omega),hb,World.ownsRow_nil _ _ _ _,fun g hg=>absurd hg (by simp[Value.ownBlock]),(hsp.chg (G:=fun _=>False) (Chg.of_below (hbb.mono (Nat.le_refl _))) (fun _ _ g=>g)).mono (fun _=> .inl),OutRows.nil rfl rfl rfl⟩
 have hd0:(RunS.mk [] 0 false ask0).Bd:=⟨fun y hy=>(List.not_mem_nil hy).elim,by simp,Nat.zero_le _⟩
 have HP:=LH hP
 have HFR:=LH hfr
 have HBB:=LH hbb
 have HD0:=LH hd0
 have HG:=LH hg
 have hbt:=Blk.new w 50 #[.int .i64 x.a, .int .i64 x.b, .int .i64 0, .int .i64 x.p, .int .i64 0, .int .i64 x.w.lo, .int .i64 x.w.hi, .bool x.w.back, .int .i64 x.w.most, .bool x.w.values, .slice none 0 0, .slice none 0 0, .slice xA x.spots.length xc, .slice none 0 0, .slice none 0 0, .int .i64 0, .int .i64 0, .int .i64 0, .int .i64 x.op.kind, .int .i64 x.op.key, .int .i64 x.op.val]
 have HBT:=LH hbt
 have RA:=LH (range_blk hbt 0 [.int .i64 x.a, .int .i64 x.b, .int .i64 0, .int .i64 x.p, .int .i64 0, .int .i64 x.w.lo, .int .i64 x.w.hi, .bool x.w.back, .int .i64 x.w.most, .bool x.w.values, .slice none 0 0, .slice none 0 0, .slice xA x.spots.length xc, .slice none 0 0, .slice none 0 0, .int .i64 0, .int .i64 0, .int .i64 0, .int .i64 x.op.kind, .int .i64 x.op.key, .int .i64 x.op.val] (fun j v hv=>by simpa using hv))
 clear hP hfr hbb hba hd0 hg hza hsp hbt
 go_enter Tryz.func29,Tryz.ntmps29
 go_wp2_with (first|((with_reducible refine (show wpList _ _ _ ((Oper.mk (some 7) (.load _ _) _ _ _ _)::_) _ _ from ?_));refine wpList_load_row rfl 50 (.tmp 3) rfl w.heap.size rfl _ _ (0,0) _ HBT.out Tryz.underlying50 rfl (by kernel_rfl) ?_))
 generalize (w.alloc (.cells #[.int .i64 x.a, .int .i64 x.b, .int .i64 0, .int .i64 x.p, .int .i64 0, .int .i64 x.w.lo, .int .i64 x.w.hi, .bool x.w.back, .int .i64 x.w.most, .bool x.w.values, .slice none 0 0, .slice none 0 0, .slice xA x.spots.length xc, .slice none 0 0, .slice none 0 0, .int .i64 0, .int .i64 0, .int .i64 0, .int .i64 x.op.kind, .int .i64 x.op.key, .int .i64 x.op.val] 50)).alloc (.cells #[.int .i64 x.proc, .int .i64 x.a, .int .i64 x.b, .int .i64 0, .int .i64 x.p, .int .i64 0, .int .i64 x.w.lo, .int .i64 x.w.hi, .bool x.w.back, .int .i64 x.w.most, .bool x.w.values, .slice none 0 0, .slice none 0 0, .slice xA x.spots.length xc, .slice none 0 0, .slice none 0 0, .int .i64 0, .int .i64 0, .int .i64 0, .int .i64 x.op.kind, .int .i64 x.op.key, .int .i64 x.op.val, .slice none 0 0, .bool false, .int .i64 0, .bool false, .int .i64 0, .int .i64 0, .int .i64 0, .slice none 0 0, .slice none 0 0, .int .i64 0, .bool false, .int .i64 0, .int .i64 0, .int .i64 0, .slice none 0 0, .int .i64 0, .int .i64 0] 58)=W at HFR HBB⊢
 with_reducible refine (settle_any N x HP.out _ (w.heap.size+1) [] false FOut.zero o' s' W HFR.out HD0.out (by simpa using hf) HG.out).mono ?_
 rintro e w2 ⟨rfl,hf2,hc2⟩
 have HF2:=LH hf2
 have HC2:=LH hc2
 clear hf2 hc2
 go_wp2_with (fail)
 go_ret
 have hz:=HBB.out.size
 refine ⟨w.heap.size+1,rfl, ?_,by omega,HBB.out.trans (HC2.out.below (fun y hy=>by omega) hz)⟩
 have:=HF2.out.mono (G:=fun y=>G y∨w.heap.size≤y) (fun y hy=>hy.elim id (fun h=> .inr (by omega)))
 simpa using this
theorem mkC_room {C q:List Int} {max:Int} (h0:0<q.length) (h:(C.length:Int)+q.length≤max):mkC C max q=((C.length:Int)+1,C++q):=by
 unfold mkC
 rw[if_neg (by omega)]
theorem layTo_le (f:Nat) (C:List Int) (l:List (Int×Int)) (i k:Nat):(layTo (layF f) C l i).1.length≤(layTo (layF f) C l (i+k)).1.length:=by
 obtain ⟨X,e⟩:=layTo_ext (fun C l=>layF_ext f C l) C l i k
 rw[e];simp
structure MGQ (F F1:Nat→Prop) (bm:Nat) (max:Int) (w0:World) (C:List Int) (qv:Value) (q:List Int) (cv:Value) (c:List Int) (w:World):Prop where
 sub:∀x,F1 x→F x∨w0.heap.size≤x
 mem:M7 F1 bm C max w
 chg:Chg F w0 w
 qo:w.ownsRow w0.heap.size 2 1 qv q.length (q.map (Value.int .i64))
 co:w.ownsRow w0.heap.size 2 1 cv c.length (c.map (Value.int .i64))
 qd:∀g,qv.ownBlock=some g→¬F1 g∧cv.ownBlock≠some g
 cd:∀g,cv.ownBlock=some g→¬F1 g
section
variable {F F1:Nat→Prop} {bm:Nat} {max:Int} {w0 w w' w5:World} {C C':List Int} {qv cv v':Value} {q c:List Int} {k:Int}
theorem MGQ.step (h:MGQ F F1 bm max w0 C qv q cv c w) (hm:M7 (fun x=>F1 x∨w.heap.size≤x) bm C' max w') (hc:Chg F1 w w'):MGQ F (fun x=>F1 x∨w.heap.size≤x) bm max w0 C' qv q cv c w':=
 ⟨fun x hx=>hx.elim (h.sub x) (fun e=> .inr (Nat.le_trans h.chg.size e)),hm,h.chg.grow hc h.sub,hc.own h.qo (fun g hg=>(h.qd g hg).1),hc.own h.co h.cd,
  fun g hg=>⟨fun e=>e.elim (h.qd g hg).1 (fun e=>by have:=own_lt h.qo g hg;omega),(h.qd g hg).2⟩,fun g hg e=>e.elim (h.cd g hg) (fun e=>by have:=own_lt h.co g hg;omega)⟩
theorem MGQ.below (h:MGQ F F1 bm max w0 C qv q cv c w) (hb:Below w.heap.size w w'):MGQ F F1 bm max w0 C qv q cv c w':=
 ⟨h.sub,h.mem.below hb,h.chg.trans (Chg.of_below hb),own_below h.qo hb,own_below h.co hb,h.qd,h.cd⟩
theorem MGQ.appq (h:MGQ F F1 bm max w0 C qv q cv c w) (hO:w5.ownsRow w0.heap.size 2 1 v' (q.length+1) (q.map (Value.int .i64)++[.int .i64 k])) (hg:w.grownBy w5 qv.ownBlock) (hv:v'.ownBlock=qv.ownBlock∨v'.ownBlock=some w.heap.size):MGQ F (fun x=>F1 x∧x<w.heap.size) bm max w0 C v' (q++[k]) cv c w5:=by
 have hc:Chg (fun y=>qv.ownBlock=some y) w w5:=(Chg.of_grown hg).mono (fun _ e=>e)
 refine ⟨fun x hx=>h.sub x hx.1,h.mem.within.chg hc (fun x hx e=>(h.qd x e).1 hx.1),h.chg.grow hc (fun x e=> .inr (h.qo.lt x e).1),by rw[List.length_append,List.map_append];exact hO,hc.own h.co (fun g hg e=>(h.qd g e).2 hg),fun g hg'=> ?_,fun g hg' e=>h.cd g hg' e.1⟩
 rcases hv with e|e
 ·rw[e] at hg';exact ⟨fun e=>(h.qd g hg').1 e.1,(h.qd g hg').2⟩
 ·rw[e] at hg'
  injection hg' with hg'
  exact ⟨fun e=>by have:=e.2;omega,fun e=>by have:=own_lt h.co g e;omega⟩
theorem MGQ.appc (h:MGQ F F1 bm max w0 C qv q cv c w) (hO:w5.ownsRow w0.heap.size 2 1 v' (c.length+1) (c.map (Value.int .i64)++[.int .i64 k])) (hg:w.grownBy w5 cv.ownBlock) (hv:v'.ownBlock=cv.ownBlock∨v'.ownBlock=some w.heap.size):MGQ F (fun x=>F1 x∧x<w.heap.size) bm max w0 C qv q v' (c++[k]) w5:=by
 have hc:Chg (fun y=>cv.ownBlock=some y) w w5:=(Chg.of_grown hg).mono (fun _ e=>e)
 refine ⟨fun x hx=>h.sub x hx.1,h.mem.within.chg hc (fun x hx e=>h.cd x e hx.1),h.chg.grow hc (fun x e=> .inr (h.co.lt x e).1),hc.own h.qo (fun g hg e=>(h.qd g hg).2 e),by rw[List.length_append,List.map_append];exact hO,fun g hg'=>⟨fun e=>(h.qd g hg').1 e.1,fun e=> ?_⟩,fun g hg' e=> ?_⟩
 ·rcases hv with e'|e'
  ·rw[e'] at e;exact (h.qd g hg').2 e
  ·rw[e'] at e
   injection e with e
   have:=own_lt h.qo g hg'
   omega
 ·rcases hv with e'|e'
  ·rw[e'] at hg';exact h.cd g hg' e.1
  ·rw[e'] at hg'
   injection hg' with hg'
   have:=e.2
   omega
end
def BldPost (F:Nat→Prop) (bm:Nat) (C:List Int) (max v:Int) (w0:World) (e:Ending) (w':World):Prop:=e= .returned (.int .i64 v)∧M7 (fun x=>F x∨w0.heap.size≤x) bm C max w'∧Chg F w0 w'
def BldC (f:Nat):Prop:=∀(F:Nat→Prop) (bm:Nat) (C:List Int) (max:Int) (l:List (Int×Int)) (A:Option Addr) (c N:Nat) (w:World),N=l.length→M7 F bm C max w→max≤65536→PairsAt w w.heap.size A l→(∀ad,A=some ad→¬F ad.block)→l.length≤c→l.length<f→l.length≤16384→((layF f C l).1.length:Int)≤max→
  Calls Tryz.prog 252 #[.pointer (some ⟨bm,0,none⟩), .slice A N c] w (BldPost F bm (layF f C l).1 max (layF f C l).2 w)
theorem BldC.use {f:Nat} (h:BldC f) (F:Nat→Prop) (bm:Nat) (C:List Int) (max:Int) (l:List (Int×Int)) (A:Option Addr) (c N:Nat) (w:World) (hN:N=l.length) (hm:M7 F bm C max w) (hx:max≤65536) (hq:PairsAt w w.heap.size A l) (hA:∀ad,A=some ad→¬F ad.block) (hc:l.length≤c) (hf:l.length<f) (hl:l.length≤16384) (hr:((layF f C l).1.length:Int)≤max):
  Calls Tryz.prog 252 #[.pointer (some ⟨bm,0,none⟩), .slice A N c] w (BldPost F bm (layF f C l).1 max (layF f C l).2 w):=h F bm C max l A c N w hN hm hx hq hA hc hf hl hr
set_option maxRecDepth 100000 in
set_option maxHeartbeats 2000000 in
theorem bld0_any (f:Nat) (F:Nat→Prop) (bm:Nat) (C:List Int) (max:Int) (A:Option Addr) (c:Nat) (w:World) (h:M7 F bm C max w) (hx:max≤65536) (hr:((layF (f+1) C []).1.length:Int)≤max):
  Calls Tryz.prog 252 #[.pointer (some ⟨bm,0,none⟩), .slice A 0 c] w (BldPost F bm (layF (f+1) C []).1 max (layF (f+1) C []).2 w):=by
 have hr:((C++[0]).length:Int)≤max:=hr
 rw[List.length_append] at hr
 simp only[List.length_cons,List.length_nil] at hr
 have H0:=LH h
 clear h
 go_enter Tryz.func252,Tryz.ntmps252
 go_wp2_with (fail)
 with_reducible refine (emptyW7_any _).mono ?_
 rintro e wa ⟨qv,rfl,hq,hqb⟩
 have HQ:=LH (own_mono hq (Nat.zero_le _))
 have H1:=LH (H0.out.below hqb)
 have HB:=LH hqb
 obtain ⟨qA,qc,rfl⟩:=own_shape hq
 clear hq hqb
 go_wp2_with (fail)
 with_reducible refine (make7_any F bm C max qA qc 1 [0] _ rfl H1.out (by omega) (by omega) hx HQ.out (by decide)).mono ?_
 rintro e w1 ⟨rfl,hm,hc⟩
 rw[mkC_room (C:=C) (q:=[0]) (by decide) (by simp only[List.length_cons,List.length_nil];omega)] at hm⊢
 have HM:=LH (hm.mono (G:=fun x=>F x∨w.heap.size≤x) (fun x hx=>hx.imp id (fun e=>Nat.le_trans HB.out.size e)))
 have HC:=LH ((Chg.of_below (F:=F) HB.out).trans hc)
 clear hm hc
 go_wp2_with (fail)
 with_reducible refine (refOf_any 1 ((C.length:Int)+1) _).mono ?_
 rintro e w2 ⟨rfl,rfl⟩
 go_wp2_with (fail)
 go_ret
 exact ⟨rfl,HM.out,HC.out⟩
set_option maxRecDepth 100000 in
set_option maxHeartbeats 4000000 in
theorem bld1_any (f:Nat) (F:Nat→Prop) (bm:Nat) (C:List Int) (max:Int) (l:List (Int×Int)) (A:Option Addr) (c:Nat) (w:World) (h:M7 F bm C max w) (hx:max≤65536) (h1l:l.length=1) (hq:PairsAt w w.heap.size A l) (hA:∀ad,A=some ad→¬F ad.block) (hr:((layF (f+1) C l).1.length:Int)≤max):
  Calls Tryz.prog 252 #[.pointer (some ⟨bm,0,none⟩), .slice A 1 c] w (BldPost F bm (layF (f+1) C l).1 max (layF (f+1) C l).2 w):=by
 have e1:layF (f+1) C l=(C++[pkey l 0,pval l 0],wOf 2 ((C.length:Int)+1)):=by unfold layF;rw[if_neg (by omega),if_pos h1l]
 rw[e1] at hr⊢
 obtain ⟨ad,rfl,hab,_⟩:=PairsAt.both hq (by omega)
 obtain ⟨k1,k2⟩:=pairs_at hq (i:=0) (by omega)
 rw[show 0*2=0 from rfl,add_zero'] at k1 k2
 have hz:=hA ad rfl
 clear hA hq e1
 simp only[List.length_append,List.length_cons,List.length_nil] at hr
 generalize pkey l 0=kk at k1 hr⊢
 generalize pval l 0=xx at k2 hr⊢
 clear h1l
 have hbd:Below w.heap.size w w.drew:=drawn_bl (Drawn.of w 1) _
 have H0:Hid (M7 F bm C max w.drew):=LH (h.below hbd)
 have HBD:=LH hbd
 have K0:Hid (w.drew.cell? ad=some (.int .i64 kk)∧w.drew.cell? {block:=ad.block,off:=ad.off+1}=some (.int .i64 xx)):=LH ⟨k1,k2⟩
 have hlt:ad.block<w.drew.heap.size:=hab
 have tst1:w.drew.cell? ad=some (.int .i64 kk):=K0.out.1
 have tst2:w.drew.cell? {block:=ad.block,off:=ad.off+1}=some (.int .i64 xx):=K0.out.2
 clear h hbd
 have hsz:w.drew.heap.size=w.heap.size:=rfl
 have hr2:(C.length:Int)+(([kk,xx]:List Int).length:Int)≤max:=by simp only[List.length_cons,List.length_nil];omega
 have HMK:=LH (mkC_room (C:=C) (q:=[kk,xx]) (by simp) hr2)
 go_enter Tryz.func252,Tryz.ntmps252
 go_wp2_with (fail)
 go_region_held3 (fun w'=>w'.cell? ad=some (.int .i64 kk)∧w'.cell? {block:=ad.block,off:=ad.off+1}=some (.int .i64 xx)) (first|go_keep|exact ⟨K0.out.1,K0.out.2⟩|exact ⟨K1.out.1,K1.out.2⟩|exact ⟨K2.out.1,K2.out.2⟩) (first|(go_at_call 237;(with_reducible refine (leafW7_any kk xx _).mono ?_);rintro e w2 ⟨qv,rfl,hq,hb⟩;have HQ:=LH (own_mono hq (Nat.zero_le _));have H2:=LH (H0.out.below hb);have HB2:=LH hb;have K1:=LH (show w2.cell? ad=some (.int .i64 kk)∧w2.cell? {block:=ad.block,off:=ad.off+1}=some (.int .i64 xx) from ⟨(hb.cell hlt).trans K0.out.1,(hb.cell (p:={block:=ad.block,off:=ad.off+1}) hlt).trans K0.out.2⟩);obtain ⟨qA,qc,rfl⟩:=own_shape hq;clear hq hb)|(go_at_call 26;(with_reducible refine (make7_any F bm C max qA qc 2 [kk,xx] _ rfl H2.out (by omega) (by omega) hx HQ.out (by simp)).mono ?_);rintro e w3 ⟨rfl,hm3,hc3⟩;rw[HMK.out] at hm3⊢;have HM:=LH (hm3.mono (G:=fun x=>F x∨w.heap.size≤x) (fun x hx=>hx.imp id (fun e=>Nat.le_trans HB2.out.size e)));have HC:=LH (((Chg.of_below (F:=F) HBD.out).trans (Chg.of_below (F:=F) HB2.out)).trans hc3);have K2:=LH (show w3.cell? ad=some (.int .i64 kk)∧w3.cell? {block:=ad.block,off:=ad.off+1}=some (.int .i64 xx) from ⟨(HC.out.cell_ hab hz).trans k1,(HC.out.cell_ (p:={block:=ad.block,off:=ad.off+1}) hab hz).trans k2⟩);clear hm3 hc3))
 all_goals
  go_wp2_with (fail)
  with_reducible refine (refOf_any 2 ((C.length:Int)+1) _).mono ?_
  rintro e w4 ⟨rfl,rfl⟩
  go_wp2_with (fail)
  go_ret
  exact ⟨rfl,HM.out,HC.out⟩
def RBld (F:Nat→Prop) (bm:Nat) (max:Int) (w0:World) (C:List Int) (f:Nat) (l:List (Int×Int)) (D:Int) (qv cv av iv:Value) (wr:World):Prop:=∃i:Nat,iv= .int .i64 i∧av= .int .i64 (rawI l.length i)∧(i:Int)≤D∧∃F1,MGQ F F1 bm max w0 (layTo (layF f) C l i).1 qv (keysTo l i) cv (layTo (layF f) C l i).2 wr
theorem keysTo_max (l:List (Int×Int)) (i:Nat):(keysTo l i).length≤i:=by
 cases i with
 |zero=>exact Nat.le_refl _
 |succ i=>rw[keysTo_len];omega
set_option maxRecDepth 100000 in
set_option maxHeartbeats 8000000 in
theorem bldN_any (f:Nat) (ih:BldC f) (F:Nat→Prop) (bm:Nat) (C:List Int) (max:Int) (l:List (Int×Int)) (A:Option Addr) (c:Nat) (w:World) (h:M7 F bm C max w) (hx:max≤65536) (hn:2≤l.length) (hq:PairsAt w w.heap.size A l) (hA:∀ad,A=some ad→¬F ad.block) (hc:l.length≤c) (hf:l.length<f+1) (hl:l.length≤16384) (hr:((layF (f+1) C l).1.length:Int)≤max):
  Calls Tryz.prog 252 #[.pointer (some ⟨bm,0,none⟩), .slice A l.length c] w (BldPost F bm (layF (f+1) C l).1 max (layF (f+1) C l).2 w):=by
 obtain ⟨i0,hi0',hz0,hz1,hz2⟩:=info_parts info_int64m
 have e1:layF (f+1) C l=((layTo (layF f) C l (degreeI l.length).toNat).1++innerW l.length (keysTo l (degreeI l.length).toNat) (layTo (layF f) C l (degreeI l.length).toNat).2,wOf 3 (((layTo (layF f) C l (degreeI l.length).toNat).1.length:Int)+1)):=by
  show (if l.length=0 then _ else if l.length=1 then _ else _)=_
  rw[if_neg (by omega),if_neg (by omega)]
 rw[e1] at hr⊢
 have hn2:(2:Int)≤l.length:=by omega
 have hl2:(l.length:Int)≤16384:=by omega
 obtain ⟨hd2,hdl,-⟩:=degreeI_bd hn2 hl2
 have hparts:∀i:Nat,(i:Int)<degreeI l.length→∃Fi Zi:Nat,fromI l.length i=Fi∧rawI l.length i=Fi∧sizeI l.length i=Zi∧rawI l.length ((i+1:Nat):Int)=Fi+Zi∧Fi+Zi≤l.length∧1≤Zi∧Zi<l.length:=fun i hi=>by
  obtain ⟨-,p1,p2,p3,p4⟩:=part_len hn hl hi
  have hst:=rawI_step hn2 hl2 (i:=(i:Int)) (by omega) hi
  have hfi:=fromI_in (n:=(l.length:Int)) (i:=(i:Int)) (by omega) hi
  exact ⟨(fromI l.length i).toNat,(sizeI l.length i).toNat,by omega,by omega,by omega,by rw[show ((i+1:Nat):Int)=(i:Int)+1 by omega];omega,by omega,by omega,by omega⟩
 have hroom:∀i:Nat,(i:Int)≤degreeI l.length→((layTo (layF f) C l i).1.length:Int)≤max:=fun i hi=>by
  have:=layTo_le f C l i ((degreeI l.length).toNat-i)
  rw[show i+((degreeI (l.length:Int)).toNat-i)=(degreeI (l.length:Int)).toNat by omega] at this
  rw[List.length_append] at hr
  omega
 obtain ⟨ad,rfl,hab,_⟩:=PairsAt.both hq (by omega)
 have hz:=hA ad rfl
 have e0:((l.length:Int)==0)=false:=beq_false_of_ne (by omega)
 have e1:((l.length:Int)==1)=false:=beq_false_of_ne (by omega)
 obtain ⟨D,hD⟩:∃D,degreeI l.length=D:=⟨_,rfl⟩
 rw[hD] at hdl hd2 hparts hroom hr⊢
 have hraw0:=rawI_zero hn2 hl2
 have HRW:=LH hraw0
 have H0:=LH h
 have HPA:=LH hparts
 have HRM:=LH hroom
 have HR:=LH hr
 have HDE:=LH hD
 have HQ:=LH hq
 have HIH:=LH ih
 have HA:=LH hA
 clear hD hq ih hA
 clear hparts hroom h hr hraw0
 go_enter Tryz.func252,Tryz.ntmps252
 go_wp2_with (fail)
 go_loopw [10,11,12,13] (fun qv cv av iv wr=>RBld F bm max w C f l D qv cv av iv wr) (fun _ _ _ iv _=>(D-intOf iv).toNat)
 case atStart=>unfold RBld;exact ⟨0,rfl,(by rw[show rawI l.length ((0:Nat):Int)=0 from HRW.out]),by omega,F,fun x hx=> .inl hx,H0.out,Chg.refl _ _,World.ownsRow_nil _ _ _ _,World.ownsRow_nil _ _ _ _,fun g hg=>by simp[Value.ownBlock] at hg,fun g hg=>by simp[Value.ownBlock] at hg⟩
 case round=>
  clear H0
  obtain ⟨i,rfl,rfl,hiD,F1,hgr⟩:=hrel
  have hcl:(layTo (layF f) C l i).2.length=i:=layTo_words i
  have hql:=keysTo_max l i
  have hrm:=HRM.out i hiD
  have HCL:=LH hcl
  clear hcl
  have HGR:=LH hgr
  clear hgr
  go_wp2_with (fail)
  with_reducible refine (refdegree_any l.length _ (by omega) (by omega)).mono ?_
  rintro e w1 ⟨rfl,rfl⟩
  rw[HDE.out]
  by_cases hlt:(i:Int)<D
  ·obtain ⟨Fi,Zi,hF,hRF,hZ,hRN,hFZ,hZ1,hZl⟩:=HPA.out i hlt
   have hrm1:=HRM.out (i+1) (by omega)
   have hlay:layTo (layF f) C l (i+1)=((layF f (layTo (layF f) C l i).1 ((l.drop Fi).take Zi)).1,(layTo (layF f) C l i).2++[(layF f (layTo (layF f) C l i).1 ((l.drop Fi).take Zi)).2]):=by
    show ((layF f (layTo (layF f) C l i).1 ((l.drop (fromI l.length i).toNat).take (sizeI l.length i).toNat)).1,_)=_
    rw[hF,hZ];rfl
   have hkey:0<i→keysTo l (i+1)=keysTo l i++[pkey l Fi]:=fun h0=>by
    obtain ⟨j,rfl⟩:∃j,i=j+1:=⟨i-1,by omega⟩
    show keysTo l (j+1)++[pkey l (fromI l.length ((j+1:Nat):Int)).toNat]=_
    rw[hF];rfl
   have HLAY:=LH hlay
   have HKEY:=LH hkey
   have HRN:=LH hRN
   rw[hlay] at hrm1
   generalize (layTo (layF f) C l i).1=Ci at HGR hrm hrm1 HLAY
   generalize (layTo (layF f) C l i).2=ci at HGR HCL HLAY
   rw[hRF]
   have HFE:=LH hF
   have HZE:=LH hZ
   clear hF hZ hlay hkey hRN hRF
   obtain ⟨qA,qc,rfl⟩:=own_shape HGR.out.qo
   obtain ⟨cA,cc,rfl⟩:=own_shape HGR.out.co
   have hFi:(Fi:Int)<(l.length:Int):=by omega
   have hFc:(Fi:Int)+(Zi:Int)≤(c:Int):=by omega
   have hZc:(Fi:Int)≤(Fi:Int)+(Zi:Int):=by omega
   have NOF:Hid (∀{F2:Nat→Prop} {C2 qv2 q2 cv2 c2 w2},MGQ F F2 bm max w C2 qv2 q2 cv2 c2 w2→¬F2 ad.block):=LH (fun hg h2=>by
    rcases hg.sub _ h2 with h3|h3
    ·exact hz h3
    ·omega)
   have RM1:=LH hrm1
   have hcl200:ci.length≤200:=by have:=HCL.out;omega
   have hql200:(keysTo l i).length≤200:=by omega
   go_wp2_with (fail)
   with_reducible refine (refsize_any l.length i _ (by omega) (by omega) (by omega) (by omega)).mono ?_
   rintro e wz ⟨rfl,rfl⟩
   rw[HZE.out]
   by_cases hi0:i=0
   ·subst hi0
    have HS:=LH (sub_pairs ((HQ.out.chg HGR.out.chg (Nat.le_refl _) (fun a ha=>by injection ha with ha;subst ha;exact hz)).more HGR.out.chg.size) hFZ)
    have hRN2:=HRN.out
    have HLAY2:=HLAY
    go_wp2_with (fail)
    with_reducible refine (HIH.out.use _ bm Ci max ((l.drop Fi).take Zi) (some (ad.add (Fi*2))) (c-Fi) Zi _ HS.out.2.symm HGR.out.mem hx HS.out.1 (fun a ha=>by injection ha with ha;subst ha;rw[block_of_add];exact NOF.out HGR.out) (by have:=HS.out.2;omega) (by have:=HS.out.2;omega) (by have:=HS.out.2;omega) RM1.out).mono ?_
    rintro e w7 ⟨rfl,h7,c7⟩
    have H7:=LH (HGR.out.step h7 c7)
    clear h7 c7 HS HGR
    have HR1:=LH (reads_lit1 w7 2 (.int .i64 (layF f Ci ((l.drop Fi).take Zi)).2))
    have hb8:=(Below.refl w7.heap.size w7).alloc (Nat.le_refl _) (.cells #[.int .i64 (layF f Ci ((l.drop Fi).take Zi)).2] 2)
    have hzz:=hb8.size
    have hsz:=H7.out.chg.size
    have H8:=LH (H7.out.below hb8)
    clear hb8
    go_wp2_with (at_builtin;refine wpList_append_any _ rfl _ _ 22 rfl w.heap.size 2 i0 (.int .i64 0) 1 8 Tryz.underlying22 hi0' hz0 hz1 hz2 rfl (by decide) _ _ _ rfl H8.out.co _ _ 1 1 [.int .i64 (layF f Ci ((l.drop Fi).take Zi)).2] rfl HR1.out (by simp[Value.oneCell']) ?p1 ?p2 ?p3 ?_;(case p1=>(unfold maxLen;omega));(case p2=>omega);(case p3=>omega);intro v9 w9 hO9 hg9 hv9;have H9:=LH (H8.out.appc hO9 hg9 hv9);clear hO9 hg9 hv9)
    go_roundw
    case rel=>unfold RBld;exact ⟨1,by go_num,by rw[HRN.out],by omega,_,by rw[HLAY.out];exact H9.out⟩
    case measure=>simp[intOf];omega
   ·have hip:0<(i:Int):=by omega
    have hqw:PairsAt wr wr.heap.size (some ad) l:=(HQ.out.chg HGR.out.chg (Nat.le_refl _) (fun a ha=>by injection ha with ha;subst ha;exact hz)).more HGR.out.chg.size
    obtain ⟨k1,-⟩:=pairs_at hqw (i:=Fi) (by omega)
    clear hqw
    have HQ1:=LH (reads_lit1 wr 2 (.int .i64 (pkey l Fi)))
    have hb4:=(Below.refl wr.heap.size wr).alloc (Nat.le_refl _) (.cells #[.int .i64 (pkey l Fi)] 2)
    have hzz4:=hb4.size
    have hsz4:=HGR.out.chg.size
    have H4:=LH (HGR.out.below hb4)
    clear hb4
    go_wp2_with (at_builtin;refine wpList_append_any _ rfl _ _ 22 rfl w.heap.size 2 i0 (.int .i64 0) 1 8 Tryz.underlying22 hi0' hz0 hz1 hz2 rfl (by decide) _ _ _ rfl H4.out.qo _ _ 1 1 [.int .i64 (pkey l Fi)] rfl HQ1.out (by simp[Value.oneCell']) ?p1 ?p2 ?p3 ?_;(case p1=>(unfold maxLen;omega));(case p2=>omega);(case p3=>omega);intro v5 w5 hO5 hg5 hv5;have H5:=LH (H4.out.appq hO5 hg5 hv5);obtain ⟨A5,c5,rfl⟩:=own_shape hO5;clear hO5 hg5 hv5)
    clear HGR H4 HQ1
    have HS:=LH (sub_pairs ((HQ.out.chg H5.out.chg (Nat.le_refl _) (fun a ha=>by injection ha with ha;subst ha;exact hz)).more H5.out.chg.size) hFZ)
    go_wp2_with (fail)
    with_reducible refine (HIH.out.use _ bm Ci max ((l.drop Fi).take Zi) (some (ad.add (Fi*2))) (c-Fi) Zi _ HS.out.2.symm H5.out.mem hx HS.out.1 (fun a ha=>by injection ha with ha;subst ha;rw[block_of_add];exact NOF.out H5.out) (by have:=HS.out.2;omega) (by have:=HS.out.2;omega) (by have:=HS.out.2;omega) RM1.out).mono ?_
    rintro e w7 ⟨rfl,h7,c7⟩
    have H7:=LH (H5.out.step h7 c7)
    clear h7 c7 HS H5
    have HR1:=LH (reads_lit1 w7 2 (.int .i64 (layF f Ci ((l.drop Fi).take Zi)).2))
    have hb8:=(Below.refl w7.heap.size w7).alloc (Nat.le_refl _) (.cells #[.int .i64 (layF f Ci ((l.drop Fi).take Zi)).2] 2)
    have hzz:=hb8.size
    have hsz:=H7.out.chg.size
    have H8:=LH (H7.out.below hb8)
    clear hb8
    go_wp2_with (at_builtin;refine wpList_append_any _ rfl _ _ 22 rfl w.heap.size 2 i0 (.int .i64 0) 1 8 Tryz.underlying22 hi0' hz0 hz1 hz2 rfl (by decide) _ _ _ rfl H8.out.co _ _ 1 1 [.int .i64 (layF f Ci ((l.drop Fi).take Zi)).2] rfl HR1.out (by simp[Value.oneCell']) ?p1 ?p2 ?p3 ?_;(case p1=>(unfold maxLen;omega));(case p2=>omega);(case p3=>omega);intro v9 w9 hO9 hg9 hv9;have H9:=LH (H8.out.appc hO9 hg9 hv9);clear hO9 hg9 hv9)
    go_roundw
    case rel=>unfold RBld;exact ⟨i+1,by go_num,by rw[HRN.out],by omega,_,by rw[HLAY.out,HKEY.out (by omega)];exact H9.out⟩
    case measure=>simp[intOf];omega
  ·have hm0:(i:Int)=D:=by omega
   have hDi:D.toNat=i:=by omega
   rw[hDi] at HR
   have HDI:=LH hDi
   clear hDi
   obtain ⟨qA,qc,rfl⟩:=own_shape HGR.out.qo
   obtain ⟨cA,cc,rfl⟩:=own_shape HGR.out.co
   have HQI:=LH (IntsAt.of_own HGR.out.qo).2
   have HCI:=LH (IntsAt.of_own HGR.out.co).2
   have hc200:(layTo (layF f) C l i).2.length≤200:=by have:=HCL.out;omega
   have hwl:(innerW l.length (keysTo l i) (layTo (layF f) C l i).2).length=5+(keysTo l i).length+(layTo (layF f) C l i).2.length:=by unfold innerW;simp;omega
   have hiw:innerWs l.length (keysTo l i) (layTo (layF f) C l i).2=innerW l.length (keysTo l i) (layTo (layF f) C l i).2:=by
    refine if_pos ?_
    rw[HCL.out]
    obtain ⟨j,rfl⟩:∃j,i=j+1:=⟨i-1,by omega⟩
    rw[keysTo_len]
   have hr3:=HR.out
   rw[List.length_append] at hr3
   have HMK:=LH (mkC_room (C:=(layTo (layF f) C l i).1) (q:=innerW l.length (keysTo l i) (layTo (layF f) C l i).2) (max:=max) (by omega) (by omega))
   have HIW:=LH hiw
   clear hiw hr3
   go_wp2_with (fail)
   with_reducible refine (innerW7_any l.length qA cA qc cc (keysTo l i) (layTo (layF f) C l i).2 _ HQI.out HCI.out (by omega) (by omega)).mono ?_
   rintro e w3 ⟨qv,rfl,hq,hqb⟩
   rw[HIW.out] at hq
   have HQ3:=LH (own_mono hq (Nat.zero_le _))
   have H3:=LH (HGR.out.below hqb)
   obtain ⟨xA,xc,rfl⟩:=own_shape hq
   clear hq hqb HQI HCI HGR
   go_wp2_with (fail)
   with_reducible refine (make7_any F1 bm (layTo (layF f) C l i).1 max xA xc _ (innerW l.length (keysTo l i) (layTo (layF f) C l i).2) _ hwl.symm H3.out.mem (by omega) (by omega) hx HQ3.out (by omega)).mono ?_
   rintro e w4 ⟨rfl,hm4,hc4⟩
   rw[HMK.out] at hm4⊢
   have HM:=LH (hm4.mono (G:=fun x=>F x∨w.heap.size≤x) (fun x hx=>hx.elim (H3.out.sub x) (fun e=> .inr (Nat.le_trans H3.out.chg.size e))))
   have HC:=LH (H3.out.chg.grow hc4 H3.out.sub)
   clear hm4 hc4 H3 HQ3 HMK
   go_wp2_with (fail)
   with_reducible refine (refOf_any 3 (((layTo (layF f) C l i).1.length:Int)+1) _).mono ?_
   rintro e w5 ⟨rfl,rfl⟩
   go_wp2_with (fail)
   go_ret
   rw[HDI.out]
   exact ⟨rfl,HM.out,HC.out⟩
theorem bld_any:∀f,BldC f:=by
 intro f
 induction f with
 |zero=>intro F bm C max l A c N w hN h hx hq hA hc hf;exact absurd hf (by omega)
 |succ f ih=>
  intro F bm C max l A c N w hN h hx hq hA hc hf hl hr
  subst hN
  by_cases h0:l.length=0
  ·have e:l=[]:=List.eq_nil_of_length_eq_zero h0
   subst e
   exact bld0_any f F bm C max A c w h hx hr
  ·by_cases h1:l.length=1
   ·rw[h1];exact bld1_any f F bm C max l A c w h hx h1 hq hA hr
   ·exact bldN_any f ih F bm C max l A c w h hx (by omega) hq hA hc hf hl hr
theorem made_zeros (n:Nat):madeCells #[Value.int .i64 0] n=Array.replicate n (.int .i64 0):=by
 apply Array.ext
 ·simp[madeCells]
 ·intro i h1 h2
  simp[madeCells,Nat.mod_one]
theorem make_zeros (n:Nat) (d:Int) (hd:d=n) (h1:n≤1000):∀u:World,(Instr.makeSlice 22 (.int .i64 d) (.int .i64 d)).run Tryz.prog u= .ok (.slice (some ⟨u.heap.size,0,none⟩) n n) (u.alloc (.cells (Array.replicate n (.int .i64 0)) 2)):=by
 intro u
 subst hd
 obtain ⟨i0,hi0,hz0,hz1,hz2⟩:=info_parts info_int64m
 have:=run_make (P:=Tryz.prog) u 22 2 i0 (.int .i64 0) Tryz.underlying22 hi0 hz0 .i64 .i64 (n:Int) (n:Int) (by omega) (Int.le_refl _) (by rw[hz2];omega) (by omega)
 rw[hz1,Nat.mul_one,Int.toNat_natCast] at this
 have e2:(Value.int .i64 0).cells=#[Value.int .i64 0]:=rfl
 rw[e2,made_zeros] at this
 exact this
theorem zeros_row (u:World) (a:Nat):IntsAt (u.alloc (.cells (Array.replicate a (.int .i64 0)) 2)) (u.heap.size+1) (some ⟨u.heap.size,0,none⟩) (List.replicate a 0):=by
 have:=ints_row u 2 (List.replicate a 0)
 rw[show ((List.replicate a (0:Int)).map (Value.int .i64)).toArray=Array.replicate a (.int .i64 0) by simp] at this
 exact this
theorem zeros2 (u:World) (a b:Nat):IntsAt ((u.alloc (.cells (Array.replicate a (.int .i64 0)) 2)).alloc (.cells (Array.replicate b (.int .i64 0)) 2)).drew ((u.alloc (.cells (Array.replicate a (.int .i64 0)) 2)).alloc (.cells (Array.replicate b (.int .i64 0)) 2)).drew.heap.size (some ⟨u.heap.size,0,none⟩) (List.replicate a 0)∧
  IntsAt ((u.alloc (.cells (Array.replicate a (.int .i64 0)) 2)).alloc (.cells (Array.replicate b (.int .i64 0)) 2)).drew ((u.alloc (.cells (Array.replicate a (.int .i64 0)) 2)).alloc (.cells (Array.replicate b (.int .i64 0)) 2)).drew.heap.size (some ⟨u.heap.size+1,0,none⟩) (List.replicate b 0)∧
  Below u.heap.size u ((u.alloc (.cells (Array.replicate a (.int .i64 0)) 2)).alloc (.cells (Array.replicate b (.int .i64 0)) 2)).drew:=by
 have h1:=zeros_row u a
 have b1:=(Below.refl u.heap.size u).alloc (Nat.le_refl _) (.cells (Array.replicate a (.int .i64 0)) 2)
 have h2:=zeros_row (u.alloc (.cells (Array.replicate a (.int .i64 0)) 2)) b
 have b2:=b1.alloc b1.size (.cells (Array.replicate b (.int .i64 0)) 2)
 have e:(u.alloc (.cells (Array.replicate a (.int .i64 0)) 2)).heap.size=u.heap.size+1:=by simp
 rw[e] at h2
 exact ⟨((Reads.alloc h1 (by simp) _).more (by simp)).drew,(h2.more (by simp)).drew,b2.trans (drawn_bl (Drawn.of _ 1) _)⟩
theorem innerZ_any (n:Int) (x y a b a' b':Nat) (w:World) (hq:IntsAt w w.heap.size (some ⟨x,0,none⟩) (List.replicate a 0)) (hc:IntsAt w w.heap.size (some ⟨y,0,none⟩) (List.replicate b 0)) (ha:a=a') (hb:b=b') (hl1:a≤1000) (hl2:b≤1000):
  Calls Tryz.prog 241 #[.int .i64 n, .slice (some ⟨x,0,none⟩) a' a', .slice (some ⟨y,0,none⟩) b' b'] w (NewWs (innerWs n (List.replicate a 0) (List.replicate b 0)) w):=by
 subst ha
 subst hb
 have:=innerW7_any n (some ⟨x,0,none⟩) (some ⟨y,0,none⟩) a b (List.replicate a 0) (List.replicate b 0) w hq hc (by simpa using hl1) (by simpa using hl2)
 simpa using this
section
variable (F:Nat→Prop) (rb:Nat) (w0:World)
def TopRPost (v:Int×Bool) (s':RunS) (e:Ending) (w':World):Prop:=e= .returned (.tuple #[.int .i64 v.1, .bool v.2])∧RAt F rb w0 s' w'
attribute [local go_sem] max_two
set_option maxRecDepth 100000 in
set_option maxHeartbeats 4000000 in
theorem top2_any (f:Nat) (t n:Int) (s0 s':RunS) (v:Int×Bool) (w:World) (h:RAt F rb w0 s0 w) (d0:s0.Bd) (hn:i64B n) (h2:2≤n) (hg:(topP f t n).go s0=(v,s')):
  Calls Tryz.prog 242 #[.pointer (some ⟨rb,0,none⟩), .int .i64 t, .int .i64 n] w (TopRPost F rb w0 v s'):=by
 unfold topP at hg
 rw[if_pos h2] at hg
 have hn0:=hn.lo
 have hn1:=hn.hi
 have hd:=degreeI_le n
 have hd0:=degreeI_nonneg n
 have hmb:0≤maxI (degreeI n) 1∧1≤maxI (degreeI n) 1∧maxI (degreeI n) 1≤128:=by unfold maxI;split<;>omega
 obtain ⟨N,hN⟩:∃N:Nat,maxI (degreeI n) 1=N:=⟨(maxI (degreeI n) 1).toNat,by omega⟩
 have hmx:Builtin.max2 (.int .i64 (degreeI n)) (.int .i64 1)=pure (.int .i64 (N:Int)):=by rw[max2_int,←hN];rfl
 rw[hN,Int.toNat_natCast,show ((N:Int)-1).toNat=N-1 by omega] at hg
 have hN1:1≤N:=by omega
 have hN2:N≤128:=by omega
 have hmk1:=make_zeros N (N:Int) rfl (by omega)
 have hmk3:=make_zeros (N-1) (IntKind.i64.wrap ((N:Int)-1)) (by rw[IntWalk.i64_in _ (by omega)];omega) (by omega)
 have hw:=innerWs_ok (n:=n) (q:=List.replicate (N-1) 0) (c:=List.replicate N 0) (fun _=>hn) (rep_ok _) (rep_ok _) (by simp;omega)
 obtain ⟨v1,s1,g1⟩:=go_ex (makeP (innerWs n (List.replicate (N-1) 0) (List.replicate N 0)) 0) s0
 rw[go_bind,g1] at hg
 obtain ⟨b1,d1⟩:=go_okE g1 (makeP_ok hw.1 hw.2) d0
 have b10:=b1.lo
 have b11:=b1.hi
 have G1:=LH g1
 have HG:=LH hg
 have H0:=LH h
 clear g1 hg hw h hN hd hd0 hmb
 go_enter Tryz.func242,Tryz.ntmps242
 go_wp2_with (fail)
 with_reducible refine (refdegree_any n _ hn0 hn1).mono ?_
 rintro e w1 ⟨rfl,rfl⟩
 have HZ1:=LH (zeros2 w (N-1) N)
 have HZ2:=LH (zeros2 w N (N-1))
 go_wp2_with (fail)
 go_region_held3 (fun w'=>True) (first|go_keep|trivial) (first|(go_at_call 241;(first|((with_reducible refine (innerZ_any n _ _ (N-1) N _ _ _ HZ1.out.1 HZ1.out.2.1 rfl rfl (by omega) (by omega)).mono ?_);(rintro e w3 ⟨qv,rfl,hq,hqb⟩;have HQ3:=LH (own_mono hq (Nat.zero_le _));have HN3:=LH (fun g (hg:qv.ownBlock=some g)=>Nat.le_trans (Nat.le_trans H0.out.2.size HZ1.out.2.2.size) (hq.lt g hg).1);have HR3:=LH ((H0.out.below HZ1.out.2.2).below hqb);clear hq hqb))|((with_reducible refine (innerZ_any n _ _ (N-1) N _ _ _ HZ2.out.2.1 HZ2.out.1 rfl rfl (by omega) (by omega)).mono ?_);(rintro e w3 ⟨qv,rfl,hq,hqb⟩;have HQ3:=LH (own_mono hq (Nat.zero_le _));have HN3:=LH (fun g (hg:qv.ownBlock=some g)=>Nat.le_trans (Nat.le_trans H0.out.2.size HZ2.out.2.2.size) (hq.lt g hg).1);have HR3:=LH ((H0.out.below HZ2.out.2.2).below hqb);clear hq hqb))))|(go_at_call 229;(with_reducible refine (makeR_any F rb w0 s0 s1 v1 (innerWs n (List.replicate (N-1) 0) (List.replicate N 0)) 0 qv _ HR3.out d0 HQ3.out HN3.out G1.out).mono ?_);rintro e w4 ⟨rfl,h4⟩;have H4:=LH h4;clear h4))
 all_goals
  go_wp2_with (fail)
  with_reducible refine (refOf_any 3 v1 _).mono ?_
  rintro e w5 ⟨rfl,rfl⟩
  obtain ⟨rfl,rfl⟩:=Prod.mk.inj HG.out
  go_wp2_with (fail)
  go_ret2
  exact ⟨rfl,H4.out⟩
end
theorem left_le {s:RunS} (h:s.Bd):s.left≤1000000001:=by
 have:=h.len
 unfold RunS.left
 split<;>omega
theorem RAt.runp {F:Nat→Prop} {rb:Nat} {w0 w:World} {s:RunS} (h:RAt F rb w0 s w):RunP (fun x=>F x∨w0.heap.size≤x) rb s w:=h.1
theorem RG.list {F:Nat→Prop} {rb:Nat} {w0 w:World} {s:RunS} {ov:Value} {out:List (Int×Int)} (h:RG F rb w0 s ov out w):∃A c,ov= .slice A out.length c∧PairsAt w w.heap.size A out∧(∀ad,A=some ad→ad.block≠rb)∧out.length≤c∧out.length≤2000000000:=by
 have hl:=h.len
 have ho:=h.own
 obtain ⟨⟨tv,wv,rec,laid,hq⟩,hc⟩:=h.run
 rcases ho.2 with ⟨rfl,h0⟩|⟨g,cap,cur,rfl,_,hg,hle,_⟩
 ·have:out=[]:=List.eq_nil_of_length_eq_zero h0
  subst this
  exact ⟨none,0,rfl,Reads.none_,fun ad ha=>(by cases ha),Nat.le_refl _,by omega⟩
 ·exact ⟨_,cap,rfl,Reads.of_own ho,fun ad ha=>by injection ha with ha;subst ha;exact fun e=>own_blk_ne ho hq.blk (by decide) (by rw[←e];rfl),hle,by omega⟩
theorem growT_any (F:Nat→Prop) (rb:Nat) (s0 s':RunS) (v:Int×Bool) (l:List (Int×Int)) (A:Option Addr) (c N:Nat) (w:World) (hN:N=l.length) (h0:RunP F rb s0 w) (d0:s0.Bd) (hq:PairsAt w w.heap.size A l) (hA:∀ad,A=some ad→ad.block≠rb) (hc:l.length≤c) (hl:l.length≤2000000000) (hb:LB l) (hg:(growT l).go s0=(v,s')):
  Calls Tryz.prog 205 #[.pointer (some ⟨rb,0,none⟩), .slice A N c] w (GrowPost F rb w v s'):=growR_any (l.length+1) F rb s0 s' v l A c N w hN h0 d0 hq hA hc (Nat.lt_succ_self _) hl hb hg
theorem fromI_bd (n i:Int):0≤fromI n i∧fromI n i≤16384:=by
 by_cases h:i<0∨degreeI n≤i
 ·rw[show fromI n i=0 from if_pos h];omega
 ·have h2:¬(n<2∨16384<n):=fun e=>by have:=degreeI_none e;omega
  rw[fromI_in (by omega) (by omega)]
  have:=rawI_bd (n:=n) (i:=i) (by omega) (by omega) (by omega) (by omega)
  omega
section
variable (F:Nat→Prop) (rb:Nat) (w0:World)
set_option maxRecDepth 100000 in
set_option maxHeartbeats 4000000 in
theorem topR_any (f:Nat) (t n:Int) (s0 s':RunS) (v:Int×Bool) (w:World) (h:RAt F rb w0 s0 w) (d0:s0.Bd) (hn:i64B n) (t0:0≤t) (t1:t≤65536) (hf:s0.off=false→s0.left<f) (hg:(topP f t n).go s0=(v,s')):
  Calls Tryz.prog 242 #[.pointer (some ⟨rb,0,none⟩), .int .i64 t, .int .i64 n] w (TopRPost F rb w0 v s'):=by
 by_cases h2:2≤n
 ·exact top2_any F rb w0 f t n s0 s' v w h d0 hn h2 hg
 ·unfold topP at hg
  rw[if_neg h2] at hg
  have hn0:=hn.lo
  have hn1:=hn.hi
  have hll:=left_le d0
  by_cases k1:n=1
  ·rw[if_pos k1] at hg
   have e1:(n==1)=true:=by simpa using k1
   obtain ⟨p,s1,g1⟩:=go_ex (gatherP f t 0 1 []) s0
   rw[go_bind,g1] at hg
   obtain ⟨b1,d1⟩:=go_okE g1 (gatherP_ok f t 0 1 [] t0 t1 LB.nil) d0
   have G1:=LH g1
   have HG:=LH hg
   have H0:Hid (RG F rb w0 s0 (.slice none 0 0) [] w):=LH ⟨h,World.ownsRow_nil _ _ _ _,by simp;omega⟩
   have HF:=LH hf
   have HB:=LH b1
   clear g1 hg h hf b1 k1
   go_enter Tryz.func242,Tryz.ntmps242
   go_wp2_with (fail)
   with_reducible refine ((gatherR_any F rb w0 f).use s0 s1 [] p (.slice none 0 0) t 0 1 _ H0.out d0 HF.out t0 t1 i64B_zero one_i64 LB.nil G1.out).mono ?_
   rintro e w1 ⟨ov,rfl,h1⟩
   have H1:=LH h1
   clear h1 H0 G1
   obtain ⟨A,c,rfl,hq,hA,hc,hpl⟩:=H1.out.list
   have HQ:=LH hq
   have HA:=LH hA
   clear hq hA
   have hg:=HG.out
   clear HG
   rw[go_chk] at hg
   have HG:=LH hg
   clear hg
   cases ho:s1.off with
   |true=>
    have c2:=off_cell H1.out.run ho
    have hg:=HG.out
    clear HG
    rw[ho] at hg
    have HG:=LH hg
    clear hg
    have hg:=HG.out
    clear HG
    rw[if_pos rfl] at hg
    have HG:=LH hg
    clear hg
    clear ho
    obtain ⟨rfl,rfl⟩:=Prod.mk.inj HG.out
    go_wp2_with (fail)
    go_ret2
    exact ⟨rfl,H1.out.run⟩
   |false=>
    have c2:=off_cell H1.out.run ho
    have hg:=HG.out
    clear HG
    rw[ho] at hg
    have HG:=LH hg
    clear hg
    have hg:=HG.out
    clear HG
    rw[if_neg Bool.false_ne_true] at hg
    have HG:=LH hg
    clear hg
    clear ho
    go_wp2_with (fail)
    with_reducible refine (growT_any _ rb s1 s' v p A c p.length _ rfl H1.out.run.runp d1 HQ.out HA.out hc hpl HB.out HG.out).mono ?_
    rintro e w2 ⟨rfl,h2⟩
    have H2:=LH (H1.out.run.step h2)
    clear h2
    go_wp2_with (fail)
    go_ret2
    exact ⟨rfl,H2.out⟩
  ·rw[if_neg k1] at hg
   have e1:(n==1)=false:=by simpa using k1
   have HG:=LH hg
   have H1:=LH h
   clear hg h k1
   go_enter Tryz.func242,Tryz.ntmps242
   have hg:=HG.out
   clear HG
   rw[go_bind] at hg
   have HG:=LH hg
   clear hg
   have hg:=HG.out
   clear HG
   rw[go_chk] at hg
   have HG:=LH hg
   clear hg
   cases ho:s0.off with
   |true=>
    have c2:=off_cell H1.out ho
    have hg:=HG.out
    clear HG
    rw[show ((Prog.ret []).go s0:List (Int×Int)×RunS).2.off=s0.off from rfl,ho,if_pos rfl] at hg
    have HG:=LH (show (Prog.ret ((0:Int),false)).go s0=(v,s') from hg)
    clear hg ho
    obtain ⟨rfl,rfl⟩:=Prod.mk.inj HG.out
    go_wp2_with (fail)
    go_ret2
    exact ⟨rfl,H1.out⟩
   |false=>
    have c2:=off_cell H1.out ho
    have hg:=HG.out
    clear HG
    rw[show ((Prog.ret []).go s0:List (Int×Int)×RunS).2.off=s0.off from rfl,ho,if_neg Bool.false_ne_true] at hg
    have HG:=LH (show (growT []).go s0=(v,s') from hg)
    clear hg ho
    go_wp2_with (fail)
    with_reducible refine (growT_any _ rb s0 s' v [] none 0 0 _ rfl H1.out.runp d0 (PairsAt.nil _ _) (fun ad ha=>by cases ha) (Nat.le_refl _) (by simp) LB.nil HG.out).mono ?_
    rintro e w2 ⟨rfl,h2⟩
    have H2:=LH (H1.out.step h2)
    clear h2
    go_wp2_with (fail)
    go_ret2
    exact ⟨rfl,H2.out⟩
def PartPost (v:Bool) (s':RunS) (e:Ending) (w':World):Prop:=e= .returned (.bool v)∧RAt F rb w0 s' w'
set_option maxRecDepth 100000 in
set_option maxHeartbeats 4000000 in
theorem partR_any (f:Nat) (t n x d i:Int) (s0 s':RunS) (v:Bool) (w:World) (h:RAt F rb w0 s0 w) (d0:s0.Bd) (hn:i64B n) (hi:i64B i) (t0:0≤t) (t1:t≤65536) (hf:s0.off=false→s0.left<f) (hg:(partP f t n x d i).go s0=(v,s')):
  Calls Tryz.prog 264 #[.pointer (some ⟨rb,0,none⟩), .int .i64 t, .int .i64 n, .int .i64 x, .int .i64 d, .int .i64 i] w (PartPost F rb w0 v s'):=by
 unfold partP at hg
 have hn0:=hn.lo
 have hn1:=hn.hi
 have hi0:=hi.lo
 have hi1:=hi.hi
 have hll:=left_le d0
 obtain ⟨f0,f1⟩:=fromI_bd n i
 obtain ⟨z0,z1⟩:=sizeI_bd n i
 have hfb:i64B (fromI n i):=⟨by omega,by omega⟩
 have hzb:i64B (fromI n i+sizeI n i):=⟨by omega,by omega⟩
 obtain ⟨p,s1,g1⟩:=go_ex (gatherP f t (fromI n i) (fromI n i+sizeI n i) []) s0
 rw[go_bind,g1] at hg
 obtain ⟨b1,d1⟩:=go_okE g1 (gatherP_ok f t _ _ [] t0 t1 LB.nil) d0
 have G1:=LH g1
 have HG:=LH hg
 have H0:Hid (RG F rb w0 s0 (.slice none 0 0) [] w):=LH ⟨h,World.ownsRow_nil _ _ _ _,by simp;omega⟩
 have HF:=LH hf
 have HB:=LH b1
 have HFB:=LH hfb
 have HZB:=LH hzb
 clear g1 hg h hf b1 hfb hzb
 go_enter Tryz.func264,Tryz.ntmps264
 go_wp2_with (fail)
 with_reducible refine (reffrom_any n i _ hn0 hn1).mono ?_
 rintro e w1 ⟨rfl,rfl⟩
 go_wp2_with (fail)
 with_reducible refine (refsize_any n i _ hn0 hn1 hi0 hi1).mono ?_
 rintro e w1 ⟨rfl,rfl⟩
 generalize fromI n i=fr at*
 generalize sizeI n i=sz at*
 go_wp2_with (fail)
 with_reducible refine ((gatherR_any F rb w0 f).use s0 s1 [] p (.slice none 0 0) t fr (fr+sz) _ H0.out d0 HF.out t0 t1 HFB.out HZB.out LB.nil G1.out).mono ?_
 rintro e w1 ⟨ov,rfl,h1⟩
 have H1:=LH h1
 clear h1 H0 G1 HF HFB HZB
 obtain ⟨A,c,rfl,hq,hA,hc,hpl⟩:=H1.out.list
 have HQ:=LH hq
 have HA:=LH hA
 clear hq hA
 have hg:=HG.out
 clear HG
 rw[go_chk] at hg
 have HG:=LH hg
 clear hg
 cases ho:s1.off with
 |true=>
  have c2:=off_cell H1.out.run ho
  have hg:=HG.out
  clear HG
  rw[ho] at hg
  have HG:=LH hg
  clear hg
  have hg:=HG.out
  clear HG
  rw[if_pos rfl] at hg
  have HG:=LH hg
  clear hg
  clear ho
  obtain ⟨rfl,rfl⟩:=Prod.mk.inj HG.out
  go_wp2_with (fail)
  go_ret
  exact ⟨rfl,H1.out.run⟩
 |false=>
  have c2:=off_cell H1.out.run ho
  have hg:=HG.out
  clear HG
  rw[ho] at hg
  have HG:=LH hg
  clear hg
  have hg:=HG.out
  clear HG
  rw[if_neg Bool.false_ne_true] at hg
  have HG:=LH hg
  clear hg
  clear ho
  obtain ⟨⟨r1,r2⟩,s2,g2⟩:=go_ex (growT p) s1
  have hg:=HG.out
  clear HG
  rw[go_bind,g2] at hg
  have HG:=LH hg
  clear hg
  obtain ⟨b2,d2⟩:=go_okE g2 (growT_ok HB.out) d1
  have HB2:=LH b2
  have G2:=LH g2
  clear g2 b2
  go_wp2_with (fail)
  with_reducible refine (growT_any _ rb s1 s2 (r1,r2) p A c p.length _ rfl H1.out.run.runp d1 HQ.out HA.out hc hpl HB.out G2.out).mono ?_
  rintro e w2 ⟨rfl,h2⟩
  have HQ2:=LH ((HQ.out.chg h2.2 (Nat.le_refl _) HA.out).more h2.2.size)
  have H2:=LH (H1.out.run.step h2)
  clear h2 H1 HQ G2 c2
  cases r2 with
  |false=>
   have hg:=HG.out
   clear HG
   rw[if_pos rfl] at hg
   have HG:=LH hg
   clear hg
   obtain ⟨rfl,rfl⟩:=Prod.mk.inj HG.out
   go_wp2_with (fail)
   go_ret
   exact ⟨rfl,H2.out⟩
  |true=>
   have hg:=HG.out
   clear HG
   rw[if_neg (fun e=>Bool.noConfusion e)] at hg
   have HG:=LH hg
   clear hg
   by_cases ki:0<i
   ·by_cases kp:p=[]
    ·subst kp
     have HG3:=LH (show ((casP (childAtI x d i) 0 r1).bind fun _=> .ret true).go s2=(v,s') by
      have hg:=HG.out
      rw[go_bind,if_neg (fun e=>e.2 rfl)] at hg
      exact hg)
     clear HG
     go_wp2_with (fail)
     with_reducible refine (childAt7_any x d i _).mono ?_
     rintro e w5 ⟨rfl,rfl⟩
     obtain ⟨v6,s6,g6⟩:=go_ex (casP (childAtI x d i) 0 r1) s2
     have hg:=HG3.out
     clear HG3
     rw[go_bind,g6] at hg
     have HG:=LH hg
     clear hg
     obtain ⟨b6,d6⟩:=go_okE g6 (casP_ok (childAt_i64 x d i) i64B_zero HB2.out) d2
     have G6:=LH g6
     clear g6
     go_wp2_with (fail)
     with_reducible refine (casR_any F rb w0 s2 s6 v6 (childAtI x d i) 0 r1 _ H2.out d2 G6.out).mono ?_
     rintro e w6 ⟨rfl,h6⟩
     have H6:=LH h6
     clear h6 H2 G6
     obtain ⟨rfl,rfl⟩:=Prod.mk.inj HG.out
     go_wp2_with (fail)
     go_ret
     exact ⟨rfl,H6.out⟩
    ·have hp0:0<p.length:=List.length_pos_iff.2 kp
     have hp1:(0:Int)<(p.length:Int):=by omega
     obtain ⟨v4,s4,g4⟩:=go_ex (writeP (keyAtI x i) (pkey p 0)) s2
     have HG3:=LH (show ((casP (childAtI x d i) 0 r1).bind fun _=> .ret true).go s4=(v,s') by
      have hg:=HG.out
      rw[go_bind,if_pos ⟨ki,kp⟩,g4] at hg
      exact hg)
     clear HG kp
     obtain ⟨b4,d4⟩:=go_okE g4 (writeP_ok (keyAt_i64 x i) (HB.out.at_ 0).1) d2
     have G4:=LH g4
     clear g4
     obtain ⟨ad,rfl,hab,_⟩:=PairsAt.both HQ2.out hp0
     obtain ⟨k1,-⟩:=pairs_at HQ2.out (i:=0) hp0
     rw[show 0*2=0 from rfl,add_zero'] at k1
     have hz:=HA.out ad rfl
     have HD:=LH H2.out.drew
     have tst:w2.drew.cell? ad=some (.int .i64 (pkey p 0)):=k1
     go_wp2_with (fail)
     go_region_held3 (fun w'=>w'.cell? ad=some (.int .i64 (pkey p 0))) (first|go_keep|exact K1.out) (first|(go_at_call 231;(with_reducible refine (keyAt7_any x i _).mono ?_);rintro e w3 ⟨rfl,rfl⟩)|(go_at_call 235;(with_reducible refine (writeR_any _ rb _ s2 s4 v4 (keyAtI x i) (pkey p 0) _ HD.out.here d2 G4.out).mono ?_);rintro e w4 ⟨rfl,h4⟩;have K1:=LH ((h4.2.cell_ hab hz).trans tst);have H4:=LH (HD.out.step h4);clear h4))
     all_goals
      go_wp2_with (fail)
      with_reducible refine (childAt7_any x d i _).mono ?_
      rintro e w5 ⟨rfl,rfl⟩
      obtain ⟨v6,s6,g6⟩:=go_ex (casP (childAtI x d i) 0 r1) s4
      have hg:=HG3.out
      clear HG3
      rw[go_bind,g6] at hg
      have HG:=LH hg
      clear hg
      obtain ⟨b6,d6⟩:=go_okE g6 (casP_ok (childAt_i64 x d i) i64B_zero HB2.out) d4
      have G6:=LH g6
      clear g6
      go_wp2_with (fail)
      with_reducible refine (casR_any F rb w0 s4 s6 v6 (childAtI x d i) 0 r1 _ H4.out d4 G6.out).mono ?_
      rintro e w6 ⟨rfl,h6⟩
      have H6:=LH h6
      clear h6 H4 G6
      obtain ⟨rfl,rfl⟩:=Prod.mk.inj HG.out
      go_wp2_with (fail)
      go_ret
      exact ⟨rfl,H6.out⟩
   ·have HG3:=LH (show ((casP (childAtI x d i) 0 r1).bind fun _=> .ret true).go s2=(v,s') by
     have hg:=HG.out
     rw[go_bind,if_neg (fun e=>ki e.1)] at hg
     exact hg)
    clear HG
    go_wp2_with (fail)
    with_reducible refine (childAt7_any x d i _).mono ?_
    rintro e w5 ⟨rfl,rfl⟩
    obtain ⟨v6,s6,g6⟩:=go_ex (casP (childAtI x d i) 0 r1) s2
    have hg:=HG3.out
    clear HG3
    rw[go_bind,g6] at hg
    have HG:=LH hg
    clear hg
    obtain ⟨b6,d6⟩:=go_okE g6 (casP_ok (childAt_i64 x d i) i64B_zero HB2.out) d2
    have G6:=LH g6
    clear g6
    go_wp2_with (fail)
    with_reducible refine (casR_any F rb w0 s2 s6 v6 (childAtI x d i) 0 r1 _ H2.out d2 G6.out).mono ?_
    rintro e w6 ⟨rfl,h6⟩
    have H6:=LH h6
    clear h6 H2 G6
    obtain ⟨rfl,rfl⟩:=Prod.mk.inj HG.out
    go_wp2_with (fail)
    go_ret
    exact ⟨rfl,H6.out⟩
end
end Go.Proofs.YtblajeildolloaaGreat
