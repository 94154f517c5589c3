/- Part 6 of what the statement of SeekPlays needs. No condition. -/
import Derived.Test.YtblajeildolloaaGreatSeekPlaysB5
namespace Go.Proofs.YtblajeildolloaaGreat
set_option linter.unusedVariables false
set_option linter.unusedSimpArgs false
open Go.RowKit
theorem rest0_rest {α:Type} (t:List Int):∀p:Prog α,(p.rest []).rest t=p.rest t
 | .ret a=>rfl
 | .ask q k=>rfl
 | .chk k=>rest0_rest t (k false)
 | .stuck p=>by
  show Prog.stuck ((p.rest []).rest t)=Prog.stuck (p.rest t)
  rw[rest0_rest t p]
theorem rest0_nx {α:Type}:∀p:Prog α,(p.rest []).next=p.next
 | .ret a=>rfl
 | .ask q k=>rfl
 | .chk k=>rest0_nx (k false)
 | .stuck p=>rest0_nx p
theorem rest0_val {α:Type} [Inhabited α]:∀p:Prog α,(p.rest []).val=p.val
 | .ret a=>rfl
 | .ask q k=>rfl
 | .chk k=>rest0_val (k false)
 | .stuck p=>rest0_val p
structure FL (P:(Nat→Prop)→World→Prop):Prop where
 mono:∀{G G':Nat→Prop} {w:World},P G w→(∀z,G z→G' z)→P G' w
 chg:∀{G H:Nat→Prop} {w w':World},P G w→Chg H w w'→(∀z,G z→H z→False)→P G w'
 within:∀{G:Nat→Prop} {w:World},P G w→P (fun z=>G z∧z<w.heap.size) w
structure BothP (N m B y b:Nat) (P:(Nat→Prop)→World→Prop) (ff:Nat) (x:FX) (T:List Int) (dn:Bool) (o:FOut) (xb bm:Nat) (tbs:List Nat) (s:IX) (k:Nat) (W:World) (G F:Nat→Prop) (v:Value) (own:Nat→Nat) (w:World):Prop where
 yd:YardP N m B y b v own xb bm tbs s k w
 pf:P G w
 rf:FrP F ff x T dn o w
 dj:∀z,F z→G z→False
 fo:∀z,F z∨G z→own z=0∧z≠b∧v.ownBlock≠some z∧z≠y∧B≤z∧z<w.heap.size
 ow:∀z,own z≠0→B≤z
 bw:B≤w.heap.size
 bl:Below B W w
def Both (N m B y b:Nat) (P:(Nat→Prop)→World→Prop) (ff:Nat) (x:FX) (T:List Int) (dn:Bool) (o:FOut) (xb bm:Nat) (tbs:List Nat) (s:IX) (k:Nat) (W w:World):Prop:=∃G F v own,BothP N m B y b P ff x T dn o xb bm tbs s k W G F v own w
section
variable {N m m' B y b:Nat} {P P':(Nat→Prop)→World→Prop} {ff:Nat} {x:FX} {T:List Int} {dn:Bool} {o:FOut} {xb bm:Nat} {tbs:List Nat} {s:IX} {k k':Nat} {W:World} {G F:Nat→Prop} {v:Value} {own:Nat→Nat} {w w':World}
theorem YardP.le (h:YardP N m B y b v own xb bm tbs s k w) (hm:m≤m') (hk:k≤k'):YardP N m' B y b v own xb bm tbs s k' w:=⟨h.blk,h.mem,h.ix.le hk,h.ok.le hm,h.oy,h.yb,h.yv,h.ob,h.ov,h.c1,h.t0,h.t1⟩
theorem YardP.chg {H:Nat→Prop} (h:YardP N m B y b v own xb bm tbs s k w) (c:Chg H w w') (ho:∀z,own z≠0→H z→False) (hb:¬H b) (hv:∀g,v.ownBlock=some g→¬H g) (hy:¬H y):YardP N m B y b v own xb bm tbs s k w':=by
 obtain ⟨cn,od,rf,hm⟩:=h.mem
 exact ⟨c.blk h.blk hy,⟨cn,od,rf,hm.chg c hb hv⟩,h.ix.chg c ho,h.ok,h.oy,h.yb,h.yv,h.ob,h.ov,h.c1,h.t0,h.t1⟩
theorem YardP.below (h:YardP N m B y b v own xb bm tbs s k w) (hb:Below w.heap.size w w'):YardP N m B y b v own xb bm tbs s k w':=h.chg (H:=fun _=>False) (Chg.of_below hb) (fun _ _ e=>e) id (fun _ _ e=>e) id
theorem YardP.vlt (h:YardP N m B y b v own xb bm tbs s k w) {z:Nat} (e:v.ownBlock=some z):z<w.heap.size∧B≤z:=by
 obtain ⟨cn,od,rf,hm⟩:=h.mem
 exact ⟨own_lt hm.own z e,(hm.own.lt z e).1⟩
theorem YardP.blt (h:YardP N m B y b v own xb bm tbs s k w):b<w.heap.size∧B≤b:=by
 obtain ⟨cn,od,rf,hm⟩:=h.mem
 exact ⟨hm.blk.lt,hm.base⟩
theorem YardP.zero (h:YardP N m B y b v own xb bm tbs s k w):YardP N m B y b v (fun z=>if z<w.heap.size then own z else 0) xb bm tbs s k w:=
 ⟨h.blk,h.mem,h.ix.zero,h.ok,(if_pos h.blk.lt).trans h.oy,h.yb,h.yv,(if_pos h.blt.1).trans h.ob,fun g hg=>(if_pos (h.vlt hg).1).trans (h.ov g hg),h.c1,h.t0,h.t1⟩
theorem BothP.below (h:BothP N m B y b P ff x T dn o xb bm tbs s k W G F v own w) (fl:FL P) (hb:Below w.heap.size w w'):BothP N m B y b P ff x T dn o xb bm tbs s k W G F v own w':=
 ⟨h.yd.below hb,fl.chg (H:=fun _=>False) h.pf (Chg.of_below hb) (fun _ _ e=>e),h.rf.below hb,h.dj,fun z hz=>by have:=h.fo z hz;have:=hb.size;exact ⟨by omega,by omega,(h.fo z hz).2.2.1,by omega,by omega,by omega⟩,h.ow,Nat.le_trans h.bw hb.size,h.bl.trans (hb.mono h.bw)⟩
theorem Both.below (h:Both N m B y b P ff x T dn o xb bm tbs s k W w) (fl:FL P) (hb:Below w.heap.size w w'):Both N m B y b P ff x T dn o xb bm tbs s k W w':=by
 obtain ⟨G,F,v,own,h⟩:=h;exact ⟨G,F,v,own,h.below fl hb⟩
theorem Both.le (h:Both N m B y b P ff x T dn o xb bm tbs s k W w) (hm:m≤m') (hk:k≤k'):Both N m' B y b P ff x T dn o xb bm tbs s k' W w:=by
 obtain ⟨G,F,v,own,h⟩:=h;exact ⟨G,F,v,own,h.yd.le hm hk,h.pf,h.rf,h.dj,h.fo,h.ow,h.bw,h.bl⟩
theorem both_pick (fl:FL P) (n:Int) (h:Both N m B y b P ff x T dn o xb bm tbs s k W w) (n0:-9223372036854775808≤n) (n1:n≤9223372036854775807) (hmN:m+2<N) (hm9:m≤1000000) (hk:k≤800000000):
  Calls Tryz.prog 52 #[.pointer (some ⟨y,0,none⟩), .int .i64 n] w fun e w'=>e= .returned (.tuple #[])∧Both N (m+1) B y b P ff x T dn o xb bm tbs (yardS N s n) (k+200) W w':=by
 obtain ⟨G,F,v,own,h⟩:=h
 refine (yardPick_any N m B y b v own xb bm tbs s k n w h.yd n0 n1 hmN hm9 hk).mono fun e w' hp=> ?_
 obtain ⟨he,v',own',hy,hc,ho,hg⟩:=hp
 have hd:∀z,F z∨G z→(own z≠0∨z=b∨v.ownBlock=some z)→False:=fun z hz e=>by
  obtain ⟨a1,a2,a3,_⟩:=h.fo z hz
  rcases e with e|e|e
  ·exact e a1
  ·exact a2 e
  ·exact a3 e
 refine ⟨he,G,F,v',own',hy,fl.chg h.pf hc (fun z h1 h2=>hd z (.inr h1) h2),h.rf.chg hc (fun z h1 h2=>hd z (.inl h1) h2),h.dj,fun z hz=> ?_,fun z hz=> ?_,Nat.le_trans h.bw hc.size,h.bl.trans (hc.below (fun z hz=> ?_) h.bw)⟩
 ·obtain ⟨a1,a2,a3,a4,a5,a6⟩:=h.fo z hz
  refine ⟨?_,a2,fun e=> ?_,a4,a5,Nat.lt_of_lt_of_le a6 hc.size⟩
  ·rcases Nat.eq_zero_or_pos (own' z) with e|e
   ·exact e
   ·rcases ho z (by omega) with e|e
    ·exact absurd a1 e
    ·omega
  ·rcases hg z e with e|e
   ·exact a3 e
   ·omega
 ·rcases ho z hz with e|e
  ·exact h.ow z e
  ·exact Nat.le_trans h.bw e
 ·rcases hz with e|e|e
  ·exact h.ow z e
  ·rw[e];exact h.yd.blt.2
  ·exact (h.yd.vlt e).2
theorem BothP.prog (h:BothP N m B y b P ff x T dn o xb bm tbs s k W G F v own w) (fl':FL P') (h1:P' (fun z=>G z∨w.heap.size≤z) w') (h2:∃cn od rf,MemP B b v s.C s.max cn od rf w') (h3:Chg (fun z=>G z∨z=b) w w'):
  Both N m B y b P' ff x T dn o xb bm tbs s k W w':=by
 have hb:=h.yd.blt
 have hyl:=h.yd.blk.lt
 have hz:∀z,F z∨G z→(if z<w.heap.size then own z else 0)=0:=fun z hz=>by rw[if_pos (h.fo z hz).2.2.2.2.2];exact (h.fo z hz).1
 have hn:∀z,(F z∨(G z∨w.heap.size≤z)∧z<w'.heap.size)→(if z<w.heap.size then own z else 0)=0∧z≠b∧v.ownBlock≠some z∧z≠y∧B≤z∧z<w'.heap.size:=fun z hz2=>by
  have hs:=h3.size
  by_cases c:z<w.heap.size
  ·have hfg:F z∨G z:=by
    rcases hz2 with e|⟨e|e,_⟩
    ·exact .inl e
    ·exact .inr e
    ·omega
   obtain ⟨a1,a2,a3,a4,a5,a6⟩:=h.fo z hfg
   exact ⟨hz z hfg,a2,a3,a4,a5,by omega⟩
  ·refine ⟨if_neg c,by omega,fun e=> ?_,by omega,by have:=h.bw;omega, ?_⟩
   ·have:=(h.yd.vlt e).1;omega
   ·rcases hz2 with e|e
    ·have:=(h.fo z (.inl e)).2.2.2.2.2;omega
    ·exact e.2
 refine ⟨fun z=>(G z∨w.heap.size≤z)∧z<w'.heap.size,F,v,fun z=>if z<w.heap.size then own z else 0,⟨?_,fl'.within h1,h.rf.chg h3 (fun z e1 e2=> ?_),fun z e1 e2=> ?_,hn,fun z hz2=> ?_,Nat.le_trans h.bw h3.size,h.bl.trans (h3.below (fun z hz2=> ?_) h.bw)⟩⟩
 ·have hy:=h.yd.zero
  refine ⟨h3.blk hy.blk (fun e=> ?_),h2,hy.ix.chg h3 (fun z e1 e2=> ?_),hy.ok,hy.oy,hy.yb,hy.yv,hy.ob,hy.ov,hy.c1,hy.t0,hy.t1⟩
  ·rcases e with e|e
   ·exact (h.fo y (.inr e)).2.2.2.1 rfl
   ·exact h.yd.yb e
  ·rcases e2 with e2|e2
   ·exact e1 (hz z (.inr e2))
   ·rw[e2] at e1;exact e1 hy.ob
 ·rcases e2 with e2|e2
  ·exact h.dj z e1 e2
  ·exact (h.fo z (.inl e1)).2.1 e2
 ·rcases e2.1 with e2|e2
  ·exact h.dj z e1 e2
  ·have:=(h.fo z (.inl e1)).2.2.2.2.2;omega
 ·have hz2:(if z<w.heap.size then own z else 0)≠0:=hz2
  by_cases c:z<w.heap.size
  ·rw[if_pos c] at hz2;exact h.ow z hz2
  ·rw[if_neg c] at hz2;exact absurd rfl hz2
 ·rcases hz2 with e|e
  ·exact (h.fo z (.inr e)).2.2.2.2.1
  ·rw[e];exact hb.2
theorem IxQ.memq {a0 a1 a2 inv picks:Int} {tv lv:Value} {ln:Nat} {lxs:List Value} {Fm:Nat→Prop} (h:IxQ own xb bm tbs s a0 a1 a2 tv lv ln lxs inv picks w) (hm:M7 Fm bm s.C s.max w') (hF:∀z,Fm z→own z=2∨w.heap.size≤z) (hc:Chg (fun z=>F z∨own z=2) w w') (hz:∀z,F z→own z=0):
  IxQ (fun z=>if z<w.heap.size then own z else open Classical in if Fm z then 2 else 0) xb bm tbs s a0 a1 a2 tv lv ln lxs inv picks w':=by
 classical
 have hlt:∀z,z<w.heap.size→(if z<w.heap.size then own z else if Fm z then 2 else 0)=own z:=fun z e=>if_pos e
 have hne:∀z n,own z=n→n≠0→n≠2→¬(F z∨own z=2):=fun z n e h0 h2 hh=>by
  rcases hh with hh|hh
  ·have:=hz z hh;omega
  ·omega
 refine ⟨(if_pos h.blk.lt).trans h.ox,hc.blk h.blk (hne xb 1 h.ox (by decide) (by decide)),hm.mono (fun z e=> ?_),h.len,hc.own h.row (fun g hg=>hne g 1 (h.rowo g hg) (by decide) (by decide)),fun g hg=>(if_pos (own_lt h.row g hg)).trans (h.rowo g hg),hc.own h.log (fun g hg=>hne g 1 (h.logo g hg) (by decide) (by decide)),fun g hg=>(if_pos (own_lt h.log g hg)).trans (h.logo g hg),fun i hi=>((h.th i hi).within.chg hc (fun z h1 h2=>hne z (3+i) h1.1 (by omega) (by omega) h2)).mono (fun z hz=>(if_pos hz.2).trans hz.1)⟩
 show (if z<w.heap.size then own z else if Fm z then 2 else 0)=2
 rcases hF z e with e2|e2
 ·by_cases c:z<w.heap.size
  ·rw[if_pos c];exact e2
  ·rw[if_neg c,if_pos e]
 ·rw[if_neg (by omega),if_pos e]
theorem both_doc (fl:FL P) (q q':Prog FOut) (a:Int) (h:Both N m B y b P ff x T false o xb bm tbs s k W w) (hP:PlayC N x) (hT:∀t∈T,i64B t) (hf:T.length+2<N) (hl:T.length≤1000000) (hL:((x.tree N).rest T).rest []=q.rest []) (hq:(q.rest []).next=some ⟨1,a,0,0,[],0⟩) (hq':q.rest [rdC s.C a]=q'.rest []) (ha:i64B a):
  Calls Tryz.prog 31 #[.pointer (some ⟨ff,0,none⟩), .pointer (some ⟨bm,0,none⟩)] w fun e w'=>e= .returned (.bool q'.next.isNone)∧Both N m B y b P ff x (T++[rdC s.C a]) q'.next.isNone (if q'.next.isNone=true then q'.val else o) xb bm tbs s k W w':=by
 obtain ⟨G,F,v,own,h⟩:=h
 obtain ⟨a0,a1,a2,tv,lv,ln,lxs,inv,picks,hx,hk⟩:=h.yd.ix
 have hfit:=h.yd.ok.fit
 have hmax:=h.yd.ok.max
 have hv:i64B (rdC s.C a):=rdC_bd (bd_of h.yd.ok.cb) a
 obtain ⟨o1,s1,hg1⟩:∃o u,(x.tree N).go ⟨T,0,false,ask0⟩=(o,u):=⟨_,_,rfl⟩
 obtain ⟨o2,s2,hg2⟩:∃o u,(x.tree N).go ⟨T++[rdC s.C a],0,false,ask0⟩=(o,u):=⟨_,_,rfl⟩
 have r1:=go_rest (x.tree N) ⟨T,0,false,ask0⟩ rfl (Nat.zero_le _)
 have r2:=go_rest (x.tree N) ⟨T++[rdC s.C a],0,false,ask0⟩ rfl (Nat.zero_le _)
 simp only[List.drop_zero] at r1 r2
 have n1:((x.tree N).rest T).next=some ⟨1,a,0,0,[],0⟩:=by rw[←rest0_nx,hL];exact hq
 have n2:(x.tree N).rest (T++[rdC s.C a])=q'.rest []:=by rw[rest_snoc,←rest0_rest [rdC s.C a] ((x.tree N).rest T),hL,rest0_rest,hq']
 rw[n1,hg1] at r1
 rw[n2,hg2,rest0_nx,rest0_val] at r2
 have r11:s1.off=true:=r1.1
 have r12:s1.next=⟨1,a,0,0,[],0⟩:=r1.2
 have hdn:(!s2.off)=q'.next.isNone∧(if s2.off=true then o else o2)=if q'.next.isNone=true then q'.val else o:=by
  cases hh:q'.next with
  |none=>
   rw[hh] at r2
   have e1:o2=q'.val:=r2.1
   have e2:s2.off=false:=r2.2
   rw[e2,e1];exact ⟨rfl,rfl⟩
  |some qq=>
   rw[hh] at r2
   have e2:s2.off=true:=r2.1
   rw[e2];exact ⟨rfl,rfl⟩
 have hFm:∀z,F z→own z=2→False:=fun z e1 e2=>by have:=(h.fo z (.inl e1)).1;omega
 refine (stepF_any N F (fun z=>own z=2) ff bm x T o o1 o2 s1 s2 s.C s.max w hP h.rf hx.mem hFm ⟨hT,by show T.length≤_;omega,Nat.zero_le _⟩ hf (by omega) hfit hmax (rdC s.C a) s.C _ _ (by rw[r12];rfl) hv (by rw[r12];exact ⟨(by decide:(1:Int)≤1),(by decide:(1:Int)≤5),ha,i64B_zero,i64B_zero,by simp,by simp⟩) hl hg1 r11 hg2 hdn.1 hdn.2).mono fun e w' hp=> ?_
 obtain ⟨he,F',Fm',g1,g2,g3,g4,g5,g6⟩:=hp
 have hb:=h.yd.blt
 have hyl:=h.yd.blk.lt
 have hix:=hx.memq g2 g5 g6 (fun z e=>(h.fo z (.inl e)).1)
 have ho0:∀z,z<w.heap.size→own z=0→(if z<w.heap.size then own z else open Classical in if Fm' z then 2 else 0)=0:=fun z h1 h2=>(if_pos h1).trans h2
 refine ⟨he,G,fun z=>F' z∧z<w'.heap.size,v,fun z=>if z<w.heap.size then own z else open Classical in if Fm' z then 2 else 0,⟨?_,fl.chg h.pf g6 (fun z e1 e2=> ?_),g1.within,fun z e1 e2=> ?_,fun z hz2=> ?_,fun z hz2=> ?_,Nat.le_trans h.bw g6.size,h.bl.trans (g6.below (fun z hz2=> ?_) h.bw)⟩⟩
 ·obtain ⟨cn,od,rf,hm⟩:=h.yd.mem
  refine ⟨g6.blk h.yd.blk (fun e=> ?_),⟨cn,od,rf,hm.chg g6 (fun e=> ?_) (fun g hg e=> ?_)⟩,⟨_,_,_,_,_,_,_,_,_,hix,hk⟩,h.yd.ok,ho0 y hyl h.yd.oy,h.yd.yb,h.yd.yv,ho0 b hb.1 h.yd.ob,fun g hg=>ho0 g (h.yd.vlt hg).1 (h.yd.ov g hg),h.yd.c1,h.yd.t0,h.yd.t1⟩
  ·rcases e with e|e
   ·exact (h.fo y (.inl e)).2.2.2.1 rfl
   ·have:=h.yd.oy;omega
  ·rcases e with e|e
   ·exact (h.fo b (.inl e)).2.1 rfl
   ·have:=h.yd.ob;omega
  ·rcases e with e|e
   ·exact (h.fo g (.inl e)).2.2.1 hg
   ·have:=h.yd.ov g hg;omega
 ·rcases e2 with e2|e2
  ·exact h.dj z e2 e1
  ·have:=(h.fo z (.inr e1)).1;omega
 ·rcases g4 z e1.1 with e|e
  ·exact h.dj z e e2
  ·have:=(h.fo z (.inr e2)).2.2.2.2.2;omega
 ·have hs:=g6.size
  by_cases c:z<w.heap.size
  ·have hfg:F z∨G z:=by
    rcases hz2 with e|e
    ·rcases g4 z e.1 with e|e
     ·exact .inl e
     ·omega
    ·exact .inr e
   obtain ⟨a1,a2,a3,a4,a5,a6⟩:=h.fo z hfg
   exact ⟨ho0 z c a1,a2,a3,a4,a5,by omega⟩
  ·rcases hz2 with e|e
   ·refine ⟨?_,by omega,fun e2=> ?_,by omega,by have:=h.bw;omega,e.2⟩
    ·show (if z<w.heap.size then own z else open Classical in if Fm' z then 2 else 0)=0
     rw[if_neg c,if_neg (fun e2=>g3 z e.1 e2)]
    ·have:=(h.yd.vlt e2).1;omega
   ·have:=(h.fo z (.inr e)).2.2.2.2.2;omega
 ·by_cases c:z<w.heap.size
  ·have hz2:(if z<w.heap.size then own z else open Classical in if Fm' z then 2 else 0)≠0:=hz2
   rw[if_pos c] at hz2
   exact h.ow z hz2
  ·have:=h.bw;omega
 ·rcases hz2 with e|e
  ·exact (h.fo z (.inl e)).2.2.2.2.1
  ·exact h.ow z (by omega)
theorem sameY_any (h:YardP N m B y b v own xb bm tbs s k w):Calls Tryz.prog 51 #[.pointer (some ⟨y,0,none⟩)] w fun e w'=>e= .returned (.bool true)∧Below w.heap.size w w':=by
 obtain ⟨a0,a1,a2,tv,lv,ln,lxs,inv,picks,hx,hk⟩:=h.ix
 obtain ⟨cn,od,rf,hm⟩:=h.mem
 have y0:w.cell? ⟨y,0,none⟩=some (.pointer (some ⟨b,0,none⟩)):=h.blk.cell 0
 have y1:w.cell? ⟨y,1,none⟩=some (.pointer (some ⟨xb,0,none⟩)):=h.blk.cell 1
 have e3:w.cell? ⟨xb,3,none⟩=some (.pointer (some ⟨bm,0,none⟩)):=hx.blk.cell 3
 have hfit:=h.ok.fit
 have hmax:=h.ok.max
 have hD:Below w.heap.size w w.drew:=drawn_bl (Drawn.of w 1) _
 have HLK:Hid (Calls Tryz.prog 35 #[.pointer (some ⟨b,0,none⟩), .pointer (some ⟨bm,0,none⟩)] w.drew fun e w'=>e= .returned (.bool true)∧Below w.heap.size w w'∧w'.cell? ⟨y,0,none⟩=some (.pointer (some ⟨b,0,none⟩))∧w'.cell? ⟨y,1,none⟩=some (.pointer (some ⟨xb,0,none⟩))∧w'.cell? ⟨xb,3,none⟩=some (.pointer (some ⟨bm,0,none⟩))):=LH ((like_any _ bm B b v s.C s.max cn od rf w.drew (hm.below hD) (hx.mem.below hD) (by omega)).mono fun e w' hp=>by
  have hb:=belowDrew hp.2
  exact ⟨hp.1,hb,(h.blk.below hb h.blk.lt).cell 0,(h.blk.below hb h.blk.lt).cell 1,(hx.blk.below hb hx.blk.lt).cell 3⟩)
 clear hx hm h hD
 go_enter Tryz.func51,Tryz.ntmps51
 go_wp2_with (fail)
 go_region_held3 (fun w'=>w'.cell? ⟨y,0,none⟩=some (.pointer (some ⟨b,0,none⟩))∧w'.cell? ⟨y,1,none⟩=some (.pointer (some ⟨xb,0,none⟩))∧w'.cell? ⟨xb,3,none⟩=some (.pointer (some ⟨bm,0,none⟩))) (first|go_keep|exact K1.out) (first|(go_at_call 35;(with_reducible refine HLK.out.mono ?_);rintro e w1 ⟨rfl,hb,hk⟩;have HB:=LH hb;have K1:=LH hk;clear hb hk))
 all_goals
  go_wp2_with (fail)
  go_ret
  exact ⟨rfl,HB.out⟩
theorem both_same (fl:FL P) (h:Both N m B y b P ff x T dn o xb bm tbs s k W w):Calls Tryz.prog 51 #[.pointer (some ⟨y,0,none⟩)] w fun e w'=>e= .returned (.bool true)∧Both N m B y b P ff x T dn o xb bm tbs s k W w':=by
 obtain ⟨G,F,v,own,h⟩:=h
 exact (sameY_any h.yd).mono fun e w' hp=>⟨hp.1,G,F,v,own,h.below fl hp.2⟩
theorem Both.start {w0:World} (fl:FL P) (hy:YardP N m B y b v own xb bm tbs s k w0) (ow:∀z,own z≠0→B≤z) (bw:B≤w0.heap.size) (bl:Below B W w0) (hb:Below w0.heap.size w0 w) (hG:P G w) (hF:FrP F ff x T dn o w) (h1:∀z,F z∨G z→w0.heap.size≤z) (h2:∀z,F z→G z→False):
  Both N m B y b P ff x T dn o xb bm tbs s k W w:=by
 have hb1:=hy.blt
 have hyl:=hy.blk.lt
 have key:∀z,w0.heap.size≤z→z<w.heap.size→(if z<w0.heap.size then own z else 0)=0∧z≠b∧v.ownBlock≠some z∧z≠y∧B≤z∧z<w.heap.size:=fun z h1 h2=>⟨if_neg (by omega),by omega,fun e=>by have:=(hy.vlt e).1;omega,by omega,by omega,h2⟩
 refine ⟨fun z=>G z∧z<w.heap.size,fun z=>F z∧z<w.heap.size,v,fun z=>if z<w0.heap.size then own z else 0,hy.zero.below hb,fl.within hG,hF.within,fun z e1 e2=>h2 z e1.1 e2.1,fun z hz=> ?_,fun z hz=> ?_,Nat.le_trans bw hb.size,bl.trans (hb.mono bw)⟩
 ·rcases hz with e|e
  ·exact key z (h1 z (.inl e.1)) e.2
  ·exact key z (h1 z (.inr e.1)) e.2
 ·have hz:(if z<w0.heap.size then own z else 0)≠0:=hz
  by_cases c:z<w0.heap.size
  ·rw[if_pos c] at hz;exact ow z hz
  ·rw[if_neg c] at hz;exact absurd rfl hz
end
structure Mach (N:Nat) (x:FX) (σ:Type) (P:σ→(Nat→Prop)→World→Prop) (don:σ→Bool) (out:σ→FOut) (J:GS→Nat→Nat→σ→Prog FOut→Prop) (step:(Int→Int)→σ→σ) (fn fdn:FuncId) (fb:Nat):Prop where
 pl:PlayC N x
 fl:∀st,FL (P st)
 ext:∀{G G':GS} {i f:Nat} {st:σ} {q:Prog FOut},J G i f st q→Ext G G'→J G' i f st q
 go1:∀{G:GS} {i f:Nat} {st:σ} {q:Prog FOut} {C:List Int},J G i f st q→Inv G→Rep C G→(∀x∈C,i64B x)→don st=false→2≤f→i≤100000→∃f' a q',f≤f'+1∧i64B a∧(q.rest []).next=some ⟨1,a,0,0,[],0⟩∧q.rest [rdC C a]=q'.rest []∧J G (i+1) f' (step (rdC C) st) q'
 nx:∀{G:GS} {i f:Nat} {st:σ} {q:Prog FOut},J G i f st q→2≤f→q.next.isNone=don st
 val:∀{G:GS} {i f:Nat} {st:σ} {q:Prog FOut},J G i f st q→don st=true→q.val=out st
 call:∀{G:GS} {i f:Nat} {st:σ} {q:Prog FOut} {B b:Nat} {v:Value} {C:List Int} {size cn od rf:Int} {F:Nat→Prop} {w:World},J G i f st q→Inv G→Rep C G→don st=false→i≤100000→P st F w→MemP B b v C size cn od rf w→(∀z,F z→z≠b∧v.ownBlock≠some z)→C.length≤1000000→(∀x∈C,i64B x)→
  Calls Tryz.prog fn #[.pointer (some ⟨fb,0,none⟩), .pointer (some ⟨b,0,none⟩)] w fun e w'=>e= .returned (.bool (don (step (rdC C) st)))∧P (step (rdC C) st) (fun z=>F z∨w.heap.size≤z) w'∧(∃cn od rf,MemP B b v C size cn od rf w')∧Chg (fun z=>F z∨z=b) w w'
 done:∀{G:GS} {i f:Nat} {st:σ} {q:Prog FOut} {F:Nat→Prop} {w:World},J G i f st q→P st F w→Calls Tryz.prog fdn #[.pointer (some ⟨fb,0,none⟩)] w fun e w'=>e= .returned (.bool (don st))∧w=w'
structure MS (N:Nat) (x:FX) {σ:Type} (J:GS→Nat→Nat→σ→Prog FOut→Prop) (i:Nat) (s:IX) (G:GS) (st:σ) (f:Nat) (T:List Int):Prop where
 sys:SysI N s G
 lft:∃q,J G i f st q∧((x.tree N).rest T).rest []=q.rest []
 fl:N≤f+i+10
 len:T.length=i
 tb:∀t∈T,i64B t
section
variable (N B y b ff:Nat) (x:FX) {σ:Type} (P:σ→(Nat→Prop)→World→Prop) (don:σ→Bool) (out:σ→FOut) (J:GS→Nat→Nat→σ→Prog FOut→Prop) (step:(Int→Int)→σ→σ) (xb bm:Nat) (tbs:List Nat) (W:World)
def RelD (d:Bool) (c i:Nat) (w:World):Prop:=∃s G st f T,Both N (1680+c) B y b (P st) ff x T d (if d=true then out st else FOut.zero) xb bm tbs s (200000+200*c) W w∧MS N x J i s G st f T∧don st=d
def MidD (d:Bool) (c i:Nat) (w:World):Prop:=∃s G st f T,Both N (1680+c) B y b (P (step (rdC s.C) st)) ff x T false FOut.zero xb bm tbs s (200000+200*c) W w∧MS N x J i s G st f T∧don st=false∧don (step (rdC s.C) st)=d
end
section
variable {N B y b ff:Nat} {x:FX} {σ:Type} {P:σ→(Nat→Prop)→World→Prop} {don:σ→Bool} {out:σ→FOut} {J:GS→Nat→Nat→σ→Prog FOut→Prop} {step:(Int→Int)→σ→σ} {fn fdn:FuncId} {fb xb bm:Nat} {tbs:List Nat} {W w w':World} {d:Bool} {c i:Nat}
theorem RelD.below (M:Mach N x σ P don out J step fn fdn fb) (h:RelD N B y b ff x P don out J xb bm tbs W d c i w) (hb:Below w.heap.size w w'):RelD N B y b ff x P don out J xb bm tbs W d c i w':=by
 obtain ⟨s,G,st,f,T,h1,h2,h3⟩:=h;exact ⟨s,G,st,f,T,h1.below (M.fl st) hb,h2,h3⟩
theorem Both.cells {m k:Nat} {Q:(Nat→Prop)→World→Prop} {T:List Int} {o:FOut} {s:IX} (h:Both N m B y b Q ff x T d o xb bm tbs s k W w):w.cell? ⟨y,0,none⟩=some (.pointer (some ⟨b,0,none⟩))∧w.cell? ⟨y,1,none⟩=some (.pointer (some ⟨xb,0,none⟩))∧w.cell? ⟨xb,3,none⟩=some (.pointer (some ⟨bm,0,none⟩))∧w.cell? ⟨ff,23,none⟩=some (.bool d)∧w.cell? ⟨ff,28,none⟩=some (.int .i64 o.value)∧w.cell? ⟨ff,25,none⟩=some (.bool o.ok):=by
 obtain ⟨G,F,v,own,h⟩:=h
 obtain ⟨a0,a1,a2,tv,lv,ln,lxs,inv,picks,hx,hk⟩:=h.yd.ix
 obtain ⟨_,_,_,_,_,_,_,hf⟩:=h.rf
 exact ⟨h.yd.blk.cell 0,h.yd.blk.cell 1,hx.blk.cell 3,hf.blk.cell 23,hf.blk.cell 28,hf.blk.cell 25⟩
theorem Both.lt {m k:Nat} {Q:(Nat→Prop)→World→Prop} {T:List Int} {o:FOut} {s:IX} (h:Both N m B y b Q ff x T d o xb bm tbs s k W w):Below B W w:=by
 obtain ⟨G,F,v,own,h⟩:=h;exact h.bl
theorem RelD.cells (h:RelD N B y b ff x P don out J xb bm tbs W d c i w):w.cell? ⟨y,0,none⟩=some (.pointer (some ⟨b,0,none⟩))∧w.cell? ⟨y,1,none⟩=some (.pointer (some ⟨xb,0,none⟩))∧w.cell? ⟨xb,3,none⟩=some (.pointer (some ⟨bm,0,none⟩))∧w.cell? ⟨ff,23,none⟩=some (.bool d):=by
 obtain ⟨s,G,st,f,T,h1,h2,h3⟩:=h
 obtain ⟨a1,a2,a3,a4,_⟩:=h1.cells;exact ⟨a1,a2,a3,a4⟩
theorem MidD.cells (h:MidD N B y b ff x P don J step xb bm tbs W d c i w):w.cell? ⟨y,0,none⟩=some (.pointer (some ⟨b,0,none⟩))∧w.cell? ⟨y,1,none⟩=some (.pointer (some ⟨xb,0,none⟩))∧w.cell? ⟨xb,3,none⟩=some (.pointer (some ⟨bm,0,none⟩)):=by
 obtain ⟨s,G,st,f,T,h1,h2,h3⟩:=h
 obtain ⟨a1,a2,a3,_⟩:=h1.cells;exact ⟨a1,a2,a3⟩
theorem RelD.done (M:Mach N x σ P don out J step fn fdn fb) (h:RelD N B y b ff x P don out J xb bm tbs W d c i w):Calls Tryz.prog fdn #[.pointer (some ⟨fb,0,none⟩)] w fun e w'=>e= .returned (.bool d)∧w=w':=by
 obtain ⟨s,G,st,f,T,⟨G1,F,v,own,h1⟩,h2,h3⟩:=h
 obtain ⟨q,hj,_⟩:=h2.lft
 have:=M.done hj h1.pf
 rw[h3] at this;exact this
theorem RelD.pick (M:Mach N x σ P don out J step fn fdn fb) (n:Int) (h:RelD N B y b ff x P don out J xb bm tbs W d c i w) (n0:-9223372036854775808≤n) (n1:n≤9223372036854775807) (hN:3000<N) (hc:c≤1000):
  Calls Tryz.prog 52 #[.pointer (some ⟨y,0,none⟩), .int .i64 n] w fun e w'=>e= .returned (.tuple #[])∧RelD N B y b ff x P don out J xb bm tbs W d (c+1) i w':=by
 obtain ⟨s,G,st,f,T,h1,h2,h3⟩:=h
 have hok:s.Ok N (1680+c)∧0<s.T.length:=by
  obtain ⟨G1,F,v,own,h1⟩:=h1
  obtain ⟨a0,a1,a2,tv,lv,ln,lxs,inv,picks,hx,hk⟩:=h1.yd.ix
  exact ⟨h1.yd.ok,by rw[←hx.len];exact h1.yd.t0⟩
 obtain ⟨G',hs',hx'⟩:=h2.sys.yardS hok.1 (by omega) hok.2 n
 exact (both_pick (M.fl st) n h1 n0 n1 (by omega) (by omega) (by omega)).mono fun e w' hp=>⟨hp.1,_,G',st,f,T,hp.2.le (by omega) (by omega),⟨hs',h2.lft.imp fun q hq=>⟨M.ext hq.1 hx',hq.2⟩,h2.fl,h2.len,h2.tb⟩,h3⟩
theorem RelD.prog (M:Mach N x σ P don out J step fn fdn fb) (h:RelD N B y b ff x P don out J xb bm tbs W false c i w) (hi:i≤1000):
  Calls Tryz.prog fn #[.pointer (some ⟨fb,0,none⟩), .pointer (some ⟨b,0,none⟩)] w fun e w'=>∃d',e= .returned (.bool d')∧MidD N B y b ff x P don J step xb bm tbs W d' c i w':=by
 obtain ⟨s,G,st,f,T,⟨G1,F,v,own,h1⟩,h2,h3⟩:=h
 obtain ⟨cn,od,rf,hm⟩:=h1.yd.mem
 have hfit:=h1.yd.ok.fit
 have hmax:=h1.yd.ok.max
 obtain ⟨q,hj,_⟩:=h2.lft
 refine (M.call hj h2.sys.inv h2.sys.rep h3 (by omega) h1.pf hm (fun z hz=>⟨(h1.fo z (.inr hz)).2.1,(h1.fo z (.inr hz)).2.2.1⟩) (by omega) h1.yd.ok.cb).mono fun e w' hp=> ?_
 exact ⟨_,hp.1,s,G,st,f,T,h1.prog (M.fl _) hp.2.1 hp.2.2.1 hp.2.2.2,h2,h3,rfl⟩
theorem MidD.doc (M:Mach N x σ P don out J step fn fdn fb) (h:MidD N B y b ff x P don J step xb bm tbs W d c i w) (hi:i≤1000) (hN:3000<N):
  Calls Tryz.prog 31 #[.pointer (some ⟨ff,0,none⟩), .pointer (some ⟨bm,0,none⟩)] w fun e w'=>e= .returned (.bool d)∧RelD N B y b ff x P don out J xb bm tbs W d c (i+1) w':=by
 obtain ⟨s,G,st,f,T,h1,h2,h3,h4⟩:=h
 have hcb:∀x∈s.C,i64B x:=by obtain ⟨G1,F,v,own,h1⟩:=h1;exact h1.yd.ok.cb
 have hfl:=h2.fl
 have hln:=h2.len
 obtain ⟨q,hj,hq⟩:=h2.lft
 obtain ⟨f',a,q',g1,g2,g3,g4,g5⟩:=M.go1 hj h2.sys.inv h2.sys.rep hcb h3 (by omega) (by omega)
 have hnx:=M.nx g5 (by omega)
 refine (both_doc (M.fl _) q q' a h1 M.pl h2.tb (by omega) (by omega) hq g3 g4 g2).mono fun e w' hp=> ?_
 rw[hnx,h4] at hp
 refine ⟨hp.1,s,G,_,f',T++[rdC s.C a], ?_,⟨h2.sys,⟨q',g5, ?_⟩,by omega,by simp;omega,fun t ht=> ?_⟩,h4⟩
 ·cases d with
  |false=>exact hp.2
  |true=>
   have hv:=M.val g5 h4
   have h5:=hp.2
   rw[if_pos rfl,hv] at h5
   rw[if_pos rfl];exact h5
 ·rw[rest_snoc,←rest0_rest [rdC s.C a] ((x.tree N).rest T),hq,rest0_rest,g4,rest0_rest]
 ·rcases List.mem_append.1 ht with e|e
  ·exact h2.tb t e
  ·rw[List.mem_singleton.1 e];exact rdC_bd (bd_of hcb) a
theorem RelD.start (M:Mach N x σ P don out J step fn fdn fb) {w0:World} {s:IX} {v:Value} {own:Nat→Nat} {st0:σ} {G0:GS} {f0:Nat} {q0:Prog FOut} {F G:Nat→Prop} (hy:YardP N 1680 B y b v own xb bm tbs s 200000 w0) (ow:∀z,own z≠0→B≤z) (bw:B≤w0.heap.size) (bl:Below B W w0) (hsys:SysI N s G0) (hb:Below w0.heap.size w0 w)
  (hG:P st0 G w) (hF:FrP F ff x [] (don st0) (if don st0=true then out st0 else FOut.zero) w) (h1:∀z,F z∨G z→w0.heap.size≤z) (h2:∀z,F z→G z→False) (hj:J G0 0 f0 st0 q0) (hq:((x.tree N).rest []).rest []=q0.rest []) (hf:N≤f0+10):
  RelD N B y b ff x P don out J xb bm tbs W (don st0) 0 0 w:=
 ⟨s,G0,st0,f0,[],Both.start (M.fl st0) hy ow bw bl hb hG hF h1 h2,⟨hsys,⟨q0,hj,hq⟩,by omega,rfl,by simp⟩,rfl⟩
theorem Mach.new (M:Mach N x σ P don out J step fn fdn fb) {st0:σ} {G0:GS} {f0:Nat} {q0:Prog FOut} {Gs:Nat→Prop} {xv:Value} (hsp:PrP Gs 114 xv x.spots w) (hN:3000<N) (hj:J G0 0 f0 st0 q0) (hq:((x.tree N).rest []).rest []=q0.rest []) (hf:N≤f0+10):
  Calls Tryz.prog 29 #[.int .i64 x.proc, .agg #[.int .i64 x.a, .int .i64 x.b, .int .i64 0, .int .i64 x.p, .int .i64 0, .int .i64 x.w.lo, .int .i64 x.w.hi, .bool x.w.back, .int .i64 x.w.most, .bool x.w.values, .slice none 0 0, .slice none 0 0,xv, .slice none 0 0, .slice none 0 0, .int .i64 0, .int .i64 0, .int .i64 0, .int .i64 x.op.kind, .int .i64 x.op.key, .int .i64 x.op.val]] w fun e w'=>∃ff,e= .returned (.pointer (some ⟨ff,0,none⟩))∧FrP (fun z=>Gs z∨w.heap.size≤z) ff x [] (don st0) (if don st0=true then out st0 else FOut.zero) w'∧w.heap.size≤ff∧Below w.heap.size w w':=by
 obtain ⟨o1,s1,hg1⟩:∃o s,(x.tree N).go ⟨[],0,false,ask0⟩=(o,s):=⟨_,_,rfl⟩
 have r1:=go_rest (x.tree N) ⟨[],0,false,ask0⟩ rfl (Nat.zero_le _)
 simp only[List.drop_zero] at r1
 have hn:((x.tree N).rest []).next=q0.next:=by rw[←rest0_nx ((x.tree N).rest []),hq,rest0_nx]
 have hv:((x.tree N).rest []).val=q0.val:=by rw[←rest0_val ((x.tree N).rest []),hq,rest0_val]
 rw[hn,hv,hg1] at r1
 have hnx:=M.nx hj (by omega)
 refine (newF_any N Gs x xv o1 s1 w M.pl hsp (by omega) hg1).mono fun e w' ⟨ff,he,h1,h2,h3⟩=>⟨ff,he, ?_,h2,h3⟩
 have hd:(!s1.off)=don st0∧(if s1.off=true then FOut.zero else o1)=if don st0=true then out st0 else FOut.zero:=by
  rw[←hnx]
  cases hh:q0.next with
  |none=>
   rw[hh] at r1
   have e1:o1=q0.val:=r1.1
   have e2:s1.off=false:=r1.2
   have hd:don st0=true:=by rw[←hnx,hh];rfl
   rw[e2,e1,M.val hj hd];exact ⟨rfl,rfl⟩
  |some qq=>
   rw[hh] at r1
   have e2:s1.off=true:=r1.1
   rw[e2];exact ⟨rfl,rfl⟩
 rw[hd.1,hd.2] at h1
 exact h1
end
def LoopR (N B y b ff:Nat) (x:FX) {σ:Type} (P:σ→(Nat→Prop)→World→Prop) (don:σ→Bool) (out:σ→FOut) (J:GS→Nat→Nat→σ→Prog FOut→Prop) (xb bm:Nat) (tbs:List Nat) (W:World) (bound:Nat) (iv:Value) (w:World):Prop:=∃(d:Bool) (c i:Nat),iv= .int .i64 i∧c≤i∧i≤bound∧RelD N B y b ff x P don out J xb bm tbs W d c i w
def YardB (B:Nat) (w:World) (e:Ending) (w':World):Prop:=∃y b xb bm tbs s G v own,e= .returned (.pointer (some ⟨y,0,none⟩))∧YardP 100000 1680 B y b v own xb bm tbs s 200000 w'∧SysI 100000 s G∧(∀z,own z≠0→B≤z)∧Below B w w'
theorem yardB_any (cells:Int) (A:Option Addr) (c:Nat) (keys:List Int) (A2:Option Addr) (c2:Nat) (l:List Int) (w:World)
  (hc0:keys.length≤c) (hc02:l.length≤c2) (h0:-9223372036854775808≤cells) (h1:cells≤9223372036854775807)
  (hq:IntsAt w w.heap.size A keys) (hl:keys.length*8≤140737488351232) (hw:∀i,i<keys.length→-9223372036854775808≤keyAt keys i∧keyAt keys i≤9223372036854775807)
  (hq2:IntsAt w w.heap.size A2 l) (hl2:l.length*8≤140737488351232) (hw2:∀i,i<l.length→-9223372036854775808≤keyAt l i∧keyAt l i≤9223372036854775807):
  Calls Tryz.prog 48 #[.int .i64 cells, .slice A keys.length c, .slice A2 l.length c2] w (YardB w.heap.size w):=by
 refine (yardNew_any 100000 cells A c _ keys A2 c2 _ l w (by decide) rfl rfl hc0 hc02 h0 h1 hq (by omega) hw hq2 (by omega) hw2).mono fun e w' hp=> ?_
 obtain ⟨y,b,v,cn,od,rf,own,xb,bm,tbs,k,he,hy,hm,htl,hk,hix,hok,hown,hyB,hoy,hyb,hob,hov,hb⟩:=hp
 obtain ⟨G,hs⟩:=worldW_sys 100000 cells 3 (by decide) keys l (by decide)
 have hg:=worldW_grow 100000 cells 3 (by decide) keys l
 exact ⟨y,b,xb,bm,tbs,_,G,v,own,he,⟨hy,⟨cn,od,rf,hm⟩,hix.le hk,hok,hoy,hyb,fun e=>(hov y e).2.2 rfl,hob,fun g hg=>(hov g hg).2.1,by omega,by omega,by omega⟩,hs,hown,hb⟩
def RS.tree (s:RS):Prog (Int×Int):=
 if s.next=0 then routeP s.n s.k
 else if s.next=1 then (readP (keyAtI s.n 1)).bind fun first=>if s.k<first then .ret (s.degree,0) else if wrap64 (s.degree-1)=1 then .ret (s.degree,1) else
  (readP (keyAtI s.n (wrap64 (s.degree-1)))).bind fun last=>if last≤s.k then .ret (s.degree,wrap64 (s.degree-1)) else guessP s.n s.k s.degree (wrap64 (s.degree-1)) first last
 else if s.next=2 then (readP (keyAtI s.n (wrap64 (s.degree-1)))).bind fun last=>if last≤s.k then .ret (s.degree,wrap64 (s.degree-1)) else guessP s.n s.k s.degree (wrap64 (s.degree-1)) s.first last
 else if s.next=3 then (readP (keyAtI s.n s.i)).bind fun q=>if s.k<q then downGo s.n s.k s.degree s.i.toNat (s.i-1) else upGo s.n s.k s.degree (wrap64 (s.degree-1)) (wrap64 (s.degree-1)-s.i).toNat (s.i+1)
 else if s.next=4 then upGo s.n s.k s.degree (wrap64 (s.degree-1)) (wrap64 (s.degree-1)-s.i+1).toNat s.i
 else if s.next=5 then downGo s.n s.k s.degree (s.i.toNat+1) s.i
 else .ret (s.degree,s.child)
structure RS.Doc (s:RS):Prop where
 d0:s.next≠0→s.next≠6→2≤s.degree∧s.degree≤65537
 i1:s.next=1→s.i=1
 i2:s.next=2→s.i=s.degree-1∧3≤s.degree∧s.first≤s.k
 i3:s.next=3→2≤s.i∧s.i≤s.degree-2
 i4:s.next=4→1≤s.i∧s.i<s.degree-1
 i5:s.next=5→1<s.i∧s.i≤s.degree-1
theorem wrap_deg {d:Int} (h0:2≤d) (h1:d≤65537):wrap64 (d-1)=d-1:=by unfold wrap64;omega
theorem upGo_rest (n k d m:Int) (f:Nat) (i:Int) (T:List Int):(upGo n k d m (f+1) i).rest T=Prog.rest (if i<m∧false=false then (readP (keyAtI n i)).bind fun q=>if k<q then .ret (d,i-1) else upGo n k d m f (i+1) else .ret (d,m-1)) T:=rfl
theorem downGo_rest (n k d:Int) (f:Nat) (i:Int) (T:List Int):(downGo n k d (f+1) i).rest T=Prog.rest (if 1<i∧false=false then (readP (keyAtI n i)).bind fun q=>if q≤k then .ret (d,i) else downGo n k d f (i-1) else .ret (d,1)) T:=rfl
theorem guessP_rest (n k d m first last:Int) (T:List Int):(guessP n k d m first last).rest T=Prog.rest (if false=true∨guessI first last k m<1 then .ret (d,0) else
 if 1<guessI first last k m then (readP (keyAtI n (guessI first last k m))).bind fun q=>if k<q then downGo n k d (guessI first last k m).toNat (guessI first last k m-1) else upGo n k d m (m-guessI first last k m).toNat (guessI first last k m+1)
 else upGo n k d m (m-guessI first last k m).toNat (guessI first last k m+1)) T:=rfl
theorem up_doc (s:RS) (i:Int) (h0:2≤s.degree) (h1:s.degree≤65537) (hi:1≤i):(s.up i).Doc∧(s.up i).tree.rest []=(upGo s.n s.k s.degree (wrap64 (s.degree-1)) (wrap64 (s.degree-1)-i+1).toNat i).rest []:=by
 have hw:=wrap_deg h0 h1
 unfold RS.up
 by_cases c:s.degree-1≤i
 ·rw[if_pos c]
  refine ⟨⟨fun _ h=>absurd rfl h,fun h=> ?_,fun h=> ?_,fun h=> ?_,fun h=> ?_,fun h=> ?_⟩, ?_⟩<;>try (simp at h;done)
  rw[hw]
  generalize (s.degree-1-i+1).toNat=f
  cases f with
  |zero=>rfl
  |succ f=>
   rw[upGo_rest,if_neg (by omega)];rfl
 ·rw[if_neg c]
  exact ⟨⟨fun _ _=>⟨h0,h1⟩,fun h=>by simp at h,fun h=>by simp at h,fun h=>by simp at h,fun _=>⟨hi,by simp;omega⟩,fun h=>by simp at h⟩,rfl⟩
theorem down_doc (s:RS) (i:Int) (h0:2≤s.degree) (h1:s.degree≤65537) (hi:i≤s.degree-1):(s.down i).Doc∧(s.down i).tree.rest []=(downGo s.n s.k s.degree (i.toNat+1) i).rest []:=by
 unfold RS.down
 by_cases c:i≤1
 ·rw[if_pos c]
  refine ⟨⟨fun _ h=>absurd rfl h,fun h=> ?_,fun h=> ?_,fun h=> ?_,fun h=> ?_,fun h=> ?_⟩, ?_⟩<;>try (simp at h;done)
  rw[downGo_rest,if_neg (by omega)];rfl
 ·rw[if_neg c]
  exact ⟨⟨fun _ _=>⟨h0,h1⟩,fun h=>by simp at h,fun h=>by simp at h,fun h=>by simp at h,fun h=>by simp at h,fun _=>⟨by simp;omega,hi⟩⟩,rfl⟩
theorem doc6 (s:RS) (h:s.next=6):s.Doc∧s.tree= .ret (s.degree,s.child):=by
 refine ⟨⟨fun _ h'=>absurd h h',fun h'=>by omega,fun h'=>by omega,fun h'=>by omega,fun h'=>by omega,fun h'=>by omega⟩, ?_⟩
 unfold RS.tree;rw[if_neg (by omega),if_neg (by omega),if_neg (by omega),if_neg (by omega),if_neg (by omega),if_neg (by omega)]
theorem ende_doc (s:RS) (c:Int):(s.ende c).Doc∧(s.ende c).tree.rest []= .ret (s.degree,c):=by
 obtain ⟨h1,h2⟩:=doc6 (s.ende c) rfl
 exact ⟨h1,by rw[h2];rfl⟩
theorem guess_doc (s:RS) (last:Int) (h0:3≤s.degree) (h1:s.degree≤65537) (h2:s.first≤s.k) (h3:s.k<last):(s.guess last).Doc∧(s.guess last).tree.rest []=(guessP s.n s.k s.degree (wrap64 (s.degree-1)) s.first last).rest []:=by
 have hw:=wrap_deg (by omega) h1
 obtain ⟨g0,g1⟩:=guessI_bd (f:=s.first) (l:=last) (k:=s.k) (n:=s.degree-1) (by omega) (by omega) h2 h3
 unfold RS.guess
 rw[guessP_rest,hw]
 generalize guessI s.first last s.k (s.degree-1)=g at g0 g1⊢
 rw[if_neg (show ¬(false=true∨g<1) from by simp;omega)]
 by_cases c:1<g
 ·rw[if_pos c,if_pos c]
  refine ⟨⟨fun _ _=>⟨by simp;omega,h1⟩,fun h=>by simp at h,fun h=>by simp at h,fun _=>⟨by simp;omega,by simp;omega⟩,fun h=>by simp at h,fun h=>by simp at h⟩, ?_⟩
  unfold RS.tree
  simp only[hw]
  rfl
 ·rw[if_neg c,if_neg c]
  have e:g=1:=by omega
  subst e
  obtain ⟨a,b⟩:=up_doc s 2 (by omega) h1 (by decide)
  refine ⟨a,b.trans ?_⟩
  rw[hw,show s.degree-1-2+1=s.degree-1-1 from by omega];rfl
theorem step_doc {R:Int→Int} (s:RS) (hI:s.Inv) (h:s.Doc) (h6:s.next≠6) (hR:s.next=0→1≤R s.n∧R s.n≤65537):
  (s.step R).Doc∧(s.tree.rest []).next=some ⟨1,s.addr,0,0,[],0⟩∧s.tree.rest [R s.addr]=(s.step R).tree.rest []:=by
 rcases hI.st with hn|hn|⟨a,b,-⟩
 ·obtain ⟨r0,r1⟩:=hR hn
  rw[RS.step0 hn]
  have ht:s.tree=routeP s.n s.k:=by unfold RS.tree;rw[if_pos hn]
  have ha:s.addr=s.n:=by unfold RS.addr;rw[if_pos hn]
  rw[ht,ha]
  by_cases c:R s.n<2
  ·rw[if_pos c]
   obtain ⟨e1,e2⟩:=doc6 {s with degree:=R s.n,i:=1,next:=6,child:=0} rfl
   refine ⟨e1,rfl, ?_⟩
   rw[e2]
   show Prog.rest (α:=Int×Int) (if wrap64 (R s.n-1)<1 then _ else _) []=_
   rw[if_pos (by unfold wrap64;omega)]
  ·rw[if_neg c]
   refine ⟨⟨fun _ _=>⟨by simp;omega,r1⟩,fun _=>rfl,fun h=>by simp at h,fun h=>by simp at h,fun h=>by simp at h,fun h=>by simp at h⟩,rfl, ?_⟩
   show Prog.rest (α:=Int×Int) (if wrap64 (R s.n-1)<1 then _ else _) []=_
   rw[if_neg (by rw[wrap_deg (by omega) r1];omega)];rfl
 ·exact absurd hn h6
 ·have hne:s.next≠0:=by omega
  obtain ⟨d0,d1⟩:=h.d0 hne h6
  have hw:=wrap_deg d0 d1
  rw[RS.stepK hne h6]
  have ha:s.addr=keyAtI s.n s.i:=by unfold RS.addr;rw[if_neg hne]
  rw[ha]
  generalize hv:R (keyAtI s.n s.i)=v
  have hc:s.next=1∨s.next=2∨s.next=3∨s.next=4∨s.next=5:=by omega
  rcases hc with hn|hn|hn|hn|hn
  ·rw[RS.key1 hn,h.i1 hn]
   have ht:s.tree=(readP (keyAtI s.n 1)).bind fun first=>if s.k<first then .ret (s.degree,0) else if wrap64 (s.degree-1)=1 then .ret (s.degree,1) else
    (readP (keyAtI s.n (wrap64 (s.degree-1)))).bind fun last=>if last≤s.k then .ret (s.degree,wrap64 (s.degree-1)) else guessP s.n s.k s.degree (wrap64 (s.degree-1)) first last:=by
    unfold RS.tree;rw[if_neg hne,if_pos hn]
   rw[ht]
   by_cases c:s.k<v
   ·rw[if_pos c]
    obtain ⟨e1,e2⟩:=doc6 {s with first:=v,i:=s.degree-1,next:=6,child:=0} rfl
    refine ⟨e1,rfl, ?_⟩
    rw[e2]
    show Prog.rest (α:=Int×Int) (if s.k<v then _ else _) []=_
    rw[if_pos c]
   ·rw[if_neg c]
    by_cases c2:s.degree-1=1
    ·rw[if_pos c2]
     obtain ⟨e1,e2⟩:=doc6 {s with first:=v,i:=s.degree-1,next:=6,child:=1} rfl
     refine ⟨e1,rfl, ?_⟩
     rw[e2]
     show Prog.rest (α:=Int×Int) (if s.k<v then _ else _) []=_
     rw[if_neg c,if_pos (by rw[hw];exact c2)]
    ·rw[if_neg c2]
     refine ⟨⟨fun _ _=>⟨d0,d1⟩,fun h=>by simp at h,fun _=>⟨rfl,by simp;omega,by simp;omega⟩,fun h=>by simp at h,fun h=>by simp at h,fun h=>by simp at h⟩,rfl, ?_⟩
     show Prog.rest (α:=Int×Int) (if s.k<v then _ else _) []=_
     rw[if_neg c,if_neg (by rw[hw];exact c2)];rfl
  ·obtain ⟨i2,i3,i4⟩:=h.i2 hn
   rw[RS.key2 hn]
   have ht:s.tree=(readP (keyAtI s.n (wrap64 (s.degree-1)))).bind fun last=>if last≤s.k then .ret (s.degree,wrap64 (s.degree-1)) else guessP s.n s.k s.degree (wrap64 (s.degree-1)) s.first last:=by
    unfold RS.tree;rw[if_neg hne,if_neg (by omega),if_pos hn]
   rw[hw] at ht
   rw[ht,i2]
   by_cases c:s.k<v
   ·rw[if_pos c]
    obtain ⟨e1,e2⟩:=guess_doc s v i3 d1 i4 c
    refine ⟨e1,rfl, ?_⟩
    rw[e2,hw]
    show Prog.rest (α:=Int×Int) (if v≤s.k then _ else _) []=_
    rw[if_neg (by omega)]
   ·rw[if_neg c]
    obtain ⟨e1,e2⟩:=ende_doc s (s.degree-1)
    refine ⟨e1,rfl, ?_⟩
    rw[e2]
    show Prog.rest (α:=Int×Int) (if v≤s.k then _ else _) []=_
    rw[if_pos (by omega)];rfl
  ·obtain ⟨i2,i3⟩:=h.i3 hn
   rw[RS.key3 hn]
   have ht:s.tree=(readP (keyAtI s.n s.i)).bind fun q=>if s.k<q then downGo s.n s.k s.degree s.i.toNat (s.i-1) else upGo s.n s.k s.degree (wrap64 (s.degree-1)) (wrap64 (s.degree-1)-s.i).toNat (s.i+1):=by
    unfold RS.tree;rw[if_neg hne,if_neg (by omega),if_neg (by omega),if_pos hn]
   rw[ht]
   by_cases c:s.k<v
   ·rw[if_pos c]
    obtain ⟨e1,e2⟩:=down_doc s (s.i-1) d0 d1 (by omega)
    refine ⟨e1,rfl, ?_⟩
    rw[e2]
    show Prog.rest (α:=Int×Int) (if s.k<v then _ else _) []=_
    rw[if_pos c,show (s.i-1).toNat+1=s.i.toNat from by omega]
   ·rw[if_neg c]
    obtain ⟨e1,e2⟩:=up_doc s (s.i+1) d0 d1 (by omega)
    refine ⟨e1,rfl, ?_⟩
    rw[e2]
    show Prog.rest (α:=Int×Int) (if s.k<v then _ else _) []=_
    rw[if_neg c,show wrap64 (s.degree-1)-(s.i+1)+1=wrap64 (s.degree-1)-s.i from by omega]
  ·obtain ⟨i2,i3⟩:=h.i4 hn
   rw[RS.key4 hn]
   have ht:s.tree=upGo s.n s.k s.degree (wrap64 (s.degree-1)) (wrap64 (s.degree-1)-s.i+1).toNat s.i:=by
    unfold RS.tree;rw[if_neg hne,if_neg (by omega),if_neg (by omega),if_neg (by omega),if_pos hn]
   obtain ⟨f,hf⟩:∃f,(wrap64 (s.degree-1)-s.i+1).toNat=f+1:=⟨(wrap64 (s.degree-1)-s.i).toNat,by omega⟩
   have hu:∀T,s.tree.rest T=((readP (keyAtI s.n s.i)).bind fun q=>if s.k<q then .ret (s.degree,s.i-1) else upGo s.n s.k s.degree (wrap64 (s.degree-1)) f (s.i+1)).rest T:=fun T=>by
    rw[ht,hf]
    rw[upGo_rest,if_pos ⟨by omega,rfl⟩]
   rw[hu,hu]
   by_cases c:s.k<v
   ·rw[if_pos c]
    obtain ⟨e1,e2⟩:=ende_doc s (s.i-1)
    refine ⟨e1,rfl, ?_⟩
    rw[e2]
    show Prog.rest (α:=Int×Int) (if s.k<v then _ else _) []=_
    rw[if_pos c];rfl
   ·rw[if_neg c]
    obtain ⟨e1,e2⟩:=up_doc s (s.i+1) d0 d1 (by omega)
    refine ⟨e1,rfl, ?_⟩
    rw[e2]
    show Prog.rest (α:=Int×Int) (if s.k<v then _ else _) []=_
    rw[if_neg c,show (wrap64 (s.degree-1)-(s.i+1)+1).toNat=f from by omega]
  ·obtain ⟨i2,i3⟩:=h.i5 hn
   rw[RS.key5 hn]
   have ht:s.tree=downGo s.n s.k s.degree (s.i.toNat+1) s.i:=by
    unfold RS.tree;rw[if_neg hne,if_neg (by omega),if_neg (by omega),if_neg (by omega),if_neg (by omega),if_pos hn]
   have hu:∀T,s.tree.rest T=((readP (keyAtI s.n s.i)).bind fun q=>if q≤s.k then .ret (s.degree,s.i) else downGo s.n s.k s.degree s.i.toNat (s.i-1)).rest T:=fun T=>by
    rw[ht]
    rw[downGo_rest,if_pos ⟨by omega,rfl⟩]
   rw[hu,hu]
   by_cases c:s.k<v
   ·rw[if_pos c]
    obtain ⟨e1,e2⟩:=down_doc s (s.i-1) d0 d1 (by omega)
    refine ⟨e1,rfl, ?_⟩
    rw[e2]
    show Prog.rest (α:=Int×Int) (if v≤s.k then _ else _) []=_
    rw[if_neg (by omega),show (s.i-1).toNat+1=s.i.toNat from by omega]
   ·rw[if_neg c]
    obtain ⟨e1,e2⟩:=ende_doc s s.i
    refine ⟨e1,rfl, ?_⟩
    rw[e2]
    show Prog.rest (α:=Int×Int) (if v≤s.k then _ else _) []=_
    rw[if_pos (by omega)];rfl
section
variable {α β:Type}
theorem bind_rest0 (f:α→Prog β):∀p:Prog α,(p.bind f).rest []=((p.rest []).bind f).rest []
 | .ret a=>rfl
 | .ask q k=>rfl
 | .chk k=>bind_rest0 f (k false)
 | .stuck p=>by
  show Prog.stuck ((p.bind f).rest [])=Prog.stuck (((p.rest []).bind f).rest [])
  rw[bind_rest0 f p]
theorem bind_rest1 (f:α→Prog β) (v:Int):∀(p:Prog α),(p.next.isSome=true)→(p.bind f).rest [v]=((p.rest [v]).bind f).rest []
 | .ret a,h=>by cases h
 | .ask q k,_=>bind_rest0 f (k v)
 | .chk k,h=>bind_rest1 f v (k false) h
 | .stuck p,h=>by
  show Prog.stuck ((p.bind f).rest [v])=Prog.stuck (((p.rest [v]).bind f).rest [])
  rw[bind_rest1 f v p h]
theorem rest0_next:∀p:Prog α,(p.rest []).next=p.next
 | .ret a=>rfl
 | .ask q k=>rfl
 | .chk k=>rest0_next (k false)
 | .stuck p=>rest0_next p
theorem bind_next (f:α→Prog β) {q:Ask}:∀p:Prog α,p.next=some q→(p.bind f).next=some q
 | .ret a,h=>by cases h
 | .ask q k,h=>h
 | .chk k,h=>bind_next f (k false) h
 | .stuck p,h=>bind_next f p h
theorem bind_step {p p':Prog α} {q:Ask} {v:Int} (f:α→Prog β) (h:(p.rest []).next=some q) (e:p.rest [v]=p'.rest []):((p.bind f).rest []).next=some q∧(p.bind f).rest [v]=(p'.bind f).rest []:=by
 rw[rest0_next] at h
 refine ⟨by rw[rest0_next];exact bind_next f p h, ?_⟩
 rw[bind_rest1 f v p (by rw[h];rfl),e]
 exact (bind_rest0 f p').symm
end
def PS.tree (s:PS):Prog Int:=
 if s.next=0 then peekP s.cell
 else if s.next=1 then (readP s.cell).bind fun o=>if o=1 then readP (s.at_+3) else readP (s.at_+2)
 else if s.next=2 then readP s.cell
 else .ret s.word
theorem ps_doc {R:Int→Int} (s:PS) (hI:s.Inv) (h3:s.next≠3):(s.tree.rest []).next=some ⟨1,s.cell,0,0,[],0⟩∧s.tree.rest [R s.cell]=(s.step R).tree.rest []:=by
 obtain ⟨nx,c,a,w⟩:=s
 have hst:=hI.st
 clear hI
 have hst:nx=0∨nx=1∨nx=2∨nx=3:=hst
 rcases hst with e|e|e|e<;>subst e
 ·refine ⟨rfl, ?_⟩
  show Prog.rest (if wKind (R c)=5 then (readP (wAt (R c)+4)).bind fun o=>if o=1 then readP (wAt (R c)+3) else readP (wAt (R c)+2) else .ret (R c)) []=((if wKind (R c)=5 then (⟨1,wAt (R c)+4,wAt (R c),w⟩:PS) else ⟨3,c,a,R c⟩).tree).rest []
  by_cases h:wKind (R c)=5
  ·rw[if_pos h,if_pos h];rfl
  ·rw[if_neg h,if_neg h];rfl
 ·refine ⟨rfl, ?_⟩
  show Prog.rest (if R c=1 then readP (a+3) else readP (a+2)) []=((if R c=1 then (⟨2,a+3,a,w⟩:PS) else ⟨2,a+2,a,w⟩).tree).rest []
  by_cases h:R c=1
  ·rw[if_pos h,if_pos h];rfl
  ·rw[if_neg h,if_neg h];rfl
 ·exact ⟨rfl,rfl⟩
 ·exact absurd rfl h3
def meetT (k:Int) (f:Nat) (w:Int):Prog (Int×Bool):=
 if wKind w=2 then (readP (wAt w)).bind fun q=>if q=k then (readP (wAt w+1)).bind fun v=> .ret (v,true) else .ret (0,false)
 else if wKind w=3 then seekP k f (wAt w)
 else if wKind w=4 then (readP (wAt w)).bind fun t=>seekP k f (wAt t)
 else .ret (0,false)
def SS.tree (f:Nat) (s:SS):Prog (Int×Bool):=
 if s.next=0 then s.route.tree.bind fun r=>(peekP (childAtI s.n r.1 r.2)).bind (meetT s.k f)
 else if s.next=1 then (match s.peek with|some p=>p.tree.bind (meetT s.k f)|none=> .ret (0,false))
 else if s.next=2 then (readP s.at_).bind fun q=>if q=s.k then (readP (s.at_+1)).bind fun v=> .ret (v,true) else .ret (0,false)
 else if s.next=3 then (readP (s.at_+1)).bind fun v=> .ret (v,true)
 else if s.next=4 then (readP s.at_).bind fun t=>seekP s.k f (wAt t)
 else .ret (s.value,s.there)
theorem init_doc (n k:Int):(RS.init n k).Doc:=⟨fun h=>absurd rfl h,fun h=>(by cases h),fun h=>(by cases h),fun h=>(by cases h),fun h=>(by cases h),fun h=>(by cases h)⟩
theorem seek_tree (k:Int) (f:Nat) (n:Int) (s:SS) (hk:s.k=k):(seekP k (f+1) n).rest []=((s.enter n).tree f).rest []:=by
 subst hk
 show Prog.rest ((childP n s.k).bind fun a=>(peekP a).bind (meetT s.k f)) []=Prog.rest ((routeP n s.k).bind fun r=>(peekP (childAtI n r.1 r.2)).bind (meetT s.k f)) []
 unfold childP
 rw[bind_assoc]
 rfl
structure SS.Doc (s:SS):Prop where
 rt:s.next=0→s.route.Doc
 vt:s.next≠5→s.value=0∧s.there=false
theorem meet_doc (s:SS) (f:Nat) (w:Int) (h:s.value=0∧s.there=false) (hf:1≤f):∃f',f≤f'+1∧(meetT s.k f w).rest []=((s.meet w).tree f').rest []∧(s.meet w).Doc:=by
 obtain ⟨f,rfl⟩:∃g,f=g+1:=⟨f-1,by omega⟩
 unfold SS.meet meetT
 by_cases h2:wKind w=2
 ·rw[if_pos h2,if_pos h2]
  exact ⟨f+1,by omega,rfl,⟨fun e=>(by cases e),fun _=>h⟩⟩
 ·rw[if_neg h2,if_neg h2]
  by_cases h3:wKind w=3
  ·rw[if_pos h3,if_pos h3]
   exact ⟨f,by omega,seek_tree s.k f (wAt w) {s with at_:=wAt w} rfl,⟨fun _=>init_doc _ _,fun _=>h⟩⟩
  ·rw[if_neg h3,if_neg h3]
   by_cases h4:wKind w=4
   ·rw[if_pos h4,if_pos h4]
    exact ⟨f+1,by omega,rfl,⟨fun e=>(by cases e),fun _=>h⟩⟩
   ·rw[if_neg h4,if_neg h4]
    refine ⟨f+1,by omega, ?_,⟨fun e=>(by cases e),fun e=>absurd rfl e⟩⟩
    show Prog.ret (0,false)=Prog.ret (s.value,s.there)
    rw[h.1,h.2]
theorem ss_doc {R:Int→Int} (s:SS) (f:Nat) (hI:s.Inv) (hd:s.Doc) (h5:s.next≠5) (hf:1≤f) (hR:s.next=0→s.route.next=0→1≤R s.route.n∧R s.route.n≤65537):
  ∃f' addr,f≤f'+1∧s.acc=some addr∧((s.tree f).rest []).next=some ⟨1,addr,0,0,[],0⟩∧(s.tree f).rest [R addr]=((s.step R).tree f').rest []∧(s.step R).Doc:=by
 have hv:=hd.vt h5
 obtain ⟨g,hg⟩:∃g,f=g+1:=⟨f-1,by omega⟩
 rcases hI.st with ⟨e,e6⟩|⟨e,p,ep,hp,p3⟩|e|e|e|e
 ·obtain ⟨d1,d2,d3⟩:=step_doc s.route hI.rt (hd.rt e) e6 (hR e)
  have ht:s.tree f=s.route.tree.bind fun r=>(peekP (childAtI s.n r.1 r.2)).bind (meetT s.k f):=if_pos e
  have hs:s.step R=if (s.route.step R).next=6 then {s with route:=s.route.step R,next:=1,peek:=some (PS.init (childAtI s.n (s.route.step R).degree (s.route.step R).child))} else {s with route:=s.route.step R}:=if_pos e
  have ha:s.acc=some s.route.addr:=(if_pos e).trans (if_neg e6)
  obtain ⟨b1,b2⟩:=bind_step (fun r=>(peekP (childAtI s.n r.1 r.2)).bind (meetT s.k f)) d2 d3
  refine ⟨f,s.route.addr,by omega,ha,by rw[ht];exact b1, ?_, ?_⟩
  ·rw[ht,hs,b2]
   by_cases c:(s.route.step R).next=6
   ·rw[if_pos c,(doc6 _ c).2];rfl
   ·rw[if_neg c]
    have:(SS.tree f {s with route:=s.route.step R})=(s.route.step R).tree.bind fun r=>(peekP (childAtI s.n r.1 r.2)).bind (meetT s.k f):=if_pos e
    rw[this]
  ·rw[hs]
   by_cases c:(s.route.step R).next=6
   ·rw[if_pos c];exact ⟨fun h=>(by cases h),fun _=>hv⟩
   ·rw[if_neg c];exact ⟨fun _=>d1,fun _=>hv⟩
 ·obtain ⟨d2,d3⟩:=ps_doc (R:=R) p hp p3
  have ht:s.tree f=p.tree.bind (meetT s.k f):=by unfold SS.tree;rw[if_neg (by omega),if_pos e,ep]
  have hs:s.step R=if (p.step R).next=3 then SS.meet {s with peek:=some (p.step R)} (p.step R).word else {s with peek:=some (p.step R)}:=by unfold SS.step;rw[if_neg (by omega),if_pos e,ep]
  have ha:s.acc=some p.cell:=by unfold SS.acc PS.acc;rw[if_neg (by omega),if_pos e,ep];exact if_neg p3
  obtain ⟨b1,b2⟩:=bind_step (meetT s.k f) d2 d3
  by_cases c:(p.step R).next=3
  ·obtain ⟨f',h1,h2,h3⟩:=meet_doc {s with peek:=some (p.step R)} f (p.step R).word hv hf
   refine ⟨f',p.cell,h1,ha,by rw[ht];exact b1, ?_,by rw[hs,if_pos c];exact h3⟩
   rw[ht,hs,if_pos c,b2,←h2]
   have:(p.step R).tree= .ret (p.step R).word:=by unfold PS.tree;rw[if_neg (by omega),if_neg (by omega),if_neg (by omega)]
   rw[this];rfl
  ·refine ⟨f,p.cell,by omega,ha,by rw[ht];exact b1, ?_,by rw[hs,if_neg c];exact ⟨fun h=>absurd (show s.next=0 from h) (by omega),fun _=>hv⟩⟩
   rw[ht,hs,if_neg c,b2]
   have:SS.tree f {s with peek:=some (p.step R)}=(p.step R).tree.bind (meetT s.k f):=by
    unfold SS.tree
    rw[if_neg (show ¬s.next=0 by omega),if_pos (show s.next=1 from e)]
   rw[this]
 ·have ht:s.tree f=(readP s.at_).bind fun q=>if q=s.k then (readP (s.at_+1)).bind fun v=> .ret (v,true) else .ret (0,false):=by unfold SS.tree;rw[if_neg (by omega),if_neg (by omega),if_pos e]
  have hs:s.step R=if R s.at_=s.k then {s with next:=3} else {s with next:=5}:=by unfold SS.step;rw[if_neg (by omega),if_neg (by omega),if_pos e]
  have ha:s.acc=some s.at_:=by unfold SS.acc;rw[if_neg (by omega),if_neg (by omega),if_pos e]
  refine ⟨f,s.at_,by omega,ha,by rw[ht];rfl, ?_, ?_⟩
  ·rw[ht,hs]
   show Prog.rest (if R s.at_=s.k then (readP (s.at_+1)).bind fun v=> .ret (v,true) else .ret (0,false)) []=_
   by_cases c:R s.at_=s.k
   ·rw[if_pos c,if_pos c];rfl
   ·rw[if_neg c,if_neg c]
    show Prog.ret (0,false)=Prog.ret (s.value,s.there)
    rw[hv.1,hv.2]
  ·rw[hs]
   by_cases c:R s.at_=s.k
   ·rw[if_pos c];exact ⟨fun h=>(by cases h),fun _=>hv⟩
   ·rw[if_neg c];exact ⟨fun h=>(by cases h),fun h=>absurd rfl h⟩
 ·have ht:s.tree f=(readP (s.at_+1)).bind fun v=> .ret (v,true):=by unfold SS.tree;rw[if_neg (by omega),if_neg (by omega),if_neg (by omega),if_pos e]
  have hs:s.step R={s with value:=R (s.at_+1),there:=true,next:=5}:=by unfold SS.step;rw[if_neg (by omega),if_neg (by omega),if_neg (by omega),if_pos e]
  have ha:s.acc=some (s.at_+1):=by unfold SS.acc;rw[if_neg (by omega),if_neg (by omega),if_neg (by omega),if_pos e]
  exact ⟨f,s.at_+1,by omega,ha,by rw[ht];rfl,by rw[ht,hs];rfl,by rw[hs];exact ⟨fun h=>(by cases h),fun h=>absurd rfl h⟩⟩
 ·have ht:s.tree f=(readP s.at_).bind fun t=>seekP s.k f (wAt t):=by unfold SS.tree;rw[if_neg (by omega),if_neg (by omega),if_neg (by omega),if_neg (by omega),if_pos e]
  have hs:s.step R=s.enter (wAt (R s.at_)):=by unfold SS.step;rw[if_neg (by omega),if_neg (by omega),if_neg (by omega),if_neg (by omega),if_pos e]
  have ha:s.acc=some s.at_:=by unfold SS.acc;rw[if_neg (by omega),if_neg (by omega),if_neg (by omega),if_neg (by omega),if_pos e]
  refine ⟨g,s.at_,by omega,ha,by rw[ht];rfl, ?_,by rw[hs];exact ⟨fun _=>init_doc _ _,fun _=>hv⟩⟩
  rw[ht,hs,hg]
  exact seek_tree s.k g (wAt (R s.at_)) s rfl
 ·exact absurd e h5
theorem key_keep (s:RS) (q:Int):(s.key q).n=s.n∧(s.key q).k=s.k∧(s.key q).degree=s.degree:=by
 unfold RS.key RS.guess RS.up RS.down RS.ende
 repeat' split
 all_goals exact ⟨rfl,rfl,rfl⟩
theorem key_child (s:RS) (q:Int) (n0:1≤s.next) (n1:s.next≤5) (d0:2≤s.degree) (i0:1≤s.i) (i1:s.i≤s.degree-1):(s.key q).next=6→0≤(s.key q).child∧(s.key q).child<s.degree:=by
 unfold RS.key RS.guess RS.up RS.down RS.ende
 repeat' split
 all_goals
  intro h
  first
   |(exact absurd h (by decide))
   |(dsimp only;omega)
   |(exfalso;dsimp only at h;omega)
   |omega
theorem route_step {R:Int→Int} (s:RS) (hI:s.Inv) (h6:s.next≠6) (d:Int) (h0:R s.n=d) (d0:1≤d) (hd:s.next≠0→s.degree=d):
  (s.step R).n=s.n∧(s.step R).k=s.k∧(s.step R).degree=d∧(s.step R).next≠0∧((s.step R).next=6→0≤(s.step R).child∧(s.step R).child<d):=by
 rcases hI.st with e|e|⟨a,b,c,_,i0,i1⟩
 ·rw[RS.step0 e]
  by_cases c:R s.n<2
  ·rw[if_pos c]
   exact ⟨rfl,rfl,h0,by show (6:Int)≠0;decide,fun _=>⟨Int.le_refl 0,by show (0:Int)<d;omega⟩⟩
  ·rw[if_neg c]
   exact ⟨rfl,rfl,h0,by show (1:Int)≠0;decide,fun h=>absurd (show (1:Int)=6 from h) (by decide)⟩
 ·exact absurd e h6
 ·rw[RS.stepK (by omega) h6]
  obtain ⟨k1,k2,k3⟩:=key_keep s (R (keyAtI s.n s.i))
  have hdd:=hd (by omega)
  refine ⟨k1,k2,k3.trans hdd, ?_,fun h=> ?_⟩
  ·unfold RS.key RS.guess RS.up RS.down RS.ende
   repeat' split
   all_goals first
    |(show (6:Int)≠0;decide)
    |(dsimp only;omega)
    |omega
  ·rw[←hdd];exact key_child s _ a b c i0 i1 h
structure SSOk (G:GS) (s:SS):Prop where
 at0:s.next=0→G.ty s.n=3∧s.route.n=s.n∧(s.route.next≠0→s.route.degree=G.deg s.n)
 at1:s.next=1→∃p,s.peek=some p∧∃i,G.At s.n i∧(p.next=0→p.cell=G.sa s.n i)∧(p.next=1∨p.next=2→G.ty p.at_=5∧G.nd p.at_=s.n∧G.ix p.at_=i)∧(p.next=1→p.cell=p.at_+4)∧(p.next=2→p.cell=p.at_+2∨p.cell=p.at_+3)
 at4:s.next=4→G.ty s.at_=4
section
variable {C:List Int} {G:GS}
theorem meet_ok (s:SS) {i w:Int} (h:w=0∨VW G s.n i w):SSOk G (s.meet w):=by
 have hk:wKind w=3→G.ty (wAt w)=3:=fun k=>by
  rcases h with h|h|h
  ·rw[h,kind_zero] at k;cases k
  ·rw[h.ty];exact k
  ·rw[h.1] at k;cases k
 have hk4:wKind w=4→G.ty (wAt w)=4:=fun k=>by
  rcases h with h|h|h
  ·rw[h,kind_zero] at k;cases k
  ·have:=h.k3;omega
  ·exact h.2.1
 unfold SS.meet
 by_cases h2:wKind w=2
 ·rw[if_pos h2];exact ⟨fun e=>(by cases e),fun e=>(by cases e),fun e=>(by cases e)⟩
 ·rw[if_neg h2]
  by_cases h3:wKind w=3
  ·rw[if_pos h3];exact ⟨fun _=>⟨hk h3,rfl,fun e=>absurd rfl e⟩,fun e=>(by cases e),fun e=>(by cases e)⟩
  ·rw[if_neg h3]
   by_cases h4:wKind w=4
   ·rw[if_pos h4];exact ⟨fun e=>(by cases e),fun e=>(by cases e),fun _=>hk4 h4⟩
   ·rw[if_neg h4];exact ⟨fun e=>(by cases e),fun e=>(by cases e),fun e=>(by cases e)⟩
theorem SSOk.ext {s:SS} {G':GS} (h:SSOk G s) (x:Ext G G'):SSOk G' s:=by
 refine ⟨fun e=> ?_,fun e=> ?_,fun e=>x.t4 (h.at4 e)⟩
 ·obtain ⟨h1,h2,h3⟩:=h.at0 e
  exact ⟨x.t3 h1,h2,fun e2=>(h3 e2).trans (x.deg s.n (by omega)).symm⟩
 ·obtain ⟨p,hp,i,hat,h1,h2,h3,h4⟩:=h.at1 e
  refine ⟨p,hp,i,x.at_ hat,fun e=>(h1 e).trans (x.sa hat.ty i).symm,fun e=> ?_,h3,h4⟩
  obtain ⟨g1,g2,g3⟩:=h2 e
  exact ⟨x.t5 g1,(x.nd _ (by omega)).trans g2,(x.ix _ (by omega)).trans g3⟩
theorem near_yes {x:Int} (h0:0≤x) (h1:x≤1099511627776):nearB x=true:=by unfold nearB;rw[decide_eq_true h0,decide_eq_true h1];rfl
theorem child_sa (r:Rep C G) {n i:Int} (h:G.At n i):childAtI n (G.deg n) i=G.sa n i:=by
 have t0:G.ty n≠0:=by rw[h.ty];decide
 have l:=r.low n t0
 have u:=r.top n t0
 have b:=r.big
 have hl:=len3 h.ty
 have i0:=h.i0
 have i1:=h.i1
 unfold childAtI
 rw[if_pos ⟨near_yes (by omega) (by omega),near_yes (by omega) (by omega),near_yes (by omega) (by omega)⟩]
 rfl
theorem SSOk.step {s:SS} (h:SSOk G s) (hG:Inv G) (r:Rep C G) (hI:s.Inv) (h5:s.next≠5):SSOk G (s.step (rdC C)):=by
 rcases hI.st with ⟨e,e6⟩|⟨e,p,ep,hp,p3⟩|e|e|e|e
 ·obtain ⟨h1,h2,h3⟩:=h.at0 e
  have hd:=r.deg s.n h1
  obtain ⟨k1,k2,k3,k4,k5⟩:=route_step (R:=rdC C) s.route hI.rt e6 (G.deg s.n) (by rw[h2];exact hd.2) hd.1 h3
  have hs:s.step (rdC C)=if (s.route.step (rdC C)).next=6 then {s with route:=s.route.step (rdC C),next:=1,peek:=some (PS.init (childAtI s.n (s.route.step (rdC C)).degree (s.route.step (rdC C)).child))} else {s with route:=s.route.step (rdC C)}:=if_pos e
  rw[hs]
  by_cases c:(s.route.step (rdC C)).next=6
  ·rw[if_pos c]
   have hat:G.At s.n (s.route.step (rdC C)).child:=⟨h1,(k5 c).1,(k5 c).2⟩
   refine ⟨fun e=>(by cases e),fun _=>⟨_,rfl,_,hat,fun _=> ?_,fun e=>(by rcases e with e|e<;>cases e),fun e=>(by cases e),fun e=>(by cases e)⟩,fun e=>(by cases e)⟩
   show childAtI s.n (s.route.step (rdC C)).degree (s.route.step (rdC C)).child=_
   rw[k3];exact child_sa r hat
  ·rw[if_neg c]
   exact ⟨fun _=>⟨h1,k1.trans h2,fun _=>k3⟩,fun e2=>absurd (show s.next=1 from e2) (by omega),fun e2=>absurd (show s.next=4 from e2) (by omega)⟩
 ·obtain ⟨p',ep',i,hat,h1,h2,h3,h4⟩:=h.at1 e
  rw[ep] at ep'
  injection ep' with ep'
  subst ep'
  have hs:s.step (rdC C)=if (p.step (rdC C)).next=3 then SS.meet {s with peek:=some (p.step (rdC C))} (p.step (rdC C)).word else {s with peek:=some (p.step (rdC C))}:=by unfold SS.step;rw[if_neg (by omega),if_pos e,ep]
  rw[hs]
  have hsw:=(hG.inn s.n hat.ty).slot i hat.i0 hat.i1
  have hsl:=r.slot s.n i hat
  obtain ⟨nx,c,a,w⟩:=p
  have hst:nx=0∨nx=1∨nx=2∨nx=3:=hp.st
  rcases hst with e0|e0|e0|e0<;>subst e0
  ·have hc:c=G.sa s.n i:=h1 rfl
   subst hc
   by_cases k:wKind (rdC C (G.sa s.n i))=5
   ·have hps:PS.step (rdC C) ⟨0,G.sa s.n i,a,w⟩=⟨1,wAt (rdC C (G.sa s.n i))+4,wAt (rdC C (G.sa s.n i)),w⟩:=if_pos k
    rw[hps,if_neg (show ¬(1:Int)=3 by decide)]
    refine ⟨fun e2=>absurd (show s.next=0 from e2) (by omega),fun _=>⟨_,rfl,i,hat,fun e=>(by cases e),fun _=> ?_,fun _=>rfl,fun e=>(by cases e)⟩,fun e2=>absurd (show s.next=4 from e2) (by omega)⟩
    rw[hsl] at k⊢
    rcases hsw with q|q|q
    ·rw[q,kind_zero] at k;cases k
    ·rcases q with q|q
     ·have:=q.k3;omega
     ·have:=q.1;omega
    ·exact ⟨q.2.1,q.2.2.1,q.2.2.2.1⟩
   ·have hps:PS.step (rdC C) ⟨0,G.sa s.n i,a,w⟩=⟨3,G.sa s.n i,a,rdC C (G.sa s.n i)⟩:=if_neg k
    rw[hps,if_pos rfl]
    refine meet_ok {s with peek:=_} (i:=i) ?_
    rw[hsl] at k⊢
    rcases hsw with q|q|q
    ·exact .inl q
    ·exact .inr q
    ·exact absurd q.1 k
  ·have hc:c=a+4:=h3 rfl
   have ha:=h2 (.inl rfl)
   have hps:PS.step (rdC C) ⟨1,c,a,w⟩=if rdC C c=1 then ⟨2,a+3,a,w⟩ else ⟨2,a+2,a,w⟩:=rfl
   rw[hps]
   by_cases k:rdC C c=1
   ·rw[if_pos k,if_neg (show ¬(2:Int)=3 by decide)]
    exact ⟨fun e2=>absurd (show s.next=0 from e2) (by omega),fun _=>⟨_,rfl,i,hat,fun e=>(by cases e),fun _=>ha,fun e=>(by cases e),fun _=> .inr rfl⟩,fun e2=>absurd (show s.next=4 from e2) (by omega)⟩
   ·rw[if_neg k,if_neg (show ¬(2:Int)=3 by decide)]
    exact ⟨fun e2=>absurd (show s.next=0 from e2) (by omega),fun _=>⟨_,rfl,i,hat,fun e=>(by cases e),fun _=>ha,fun e=>(by cases e),fun _=> .inl rfl⟩,fun e2=>absurd (show s.next=4 from e2) (by omega)⟩
  ·obtain ⟨t5,nd,ix⟩:=h2 (.inr rfl)
   have t5:G.ty a=5:=t5
   have nd:G.nd a=s.n:=nd
   have ix:G.ix a=i:=ix
   have hps:PS.step (rdC C) ⟨2,c,a,w⟩=⟨3,c,a,rdC C c⟩:=rfl
   rw[hps,if_pos rfl]
   have dk:=hG.dcs a t5
   have dr:=r.dcs a t5
   have od:=dk.old
   have nw:=dk.new
   rw[nd,ix] at od nw
   refine meet_ok {s with peek:=_} (i:=i) (.inr ?_)
   show VW G s.n i (rdC C c)
   rcases h4 rfl with hc|hc
   ·have hc:c=a+2:=hc
    rw[hc,dr.2.2.1];exact od
   ·have hc:c=a+3:=hc
    rw[hc,dr.2.2.2.1];exact nw
  ·exact absurd rfl p3
 ·have hs:s.step (rdC C)=if rdC C s.at_=s.k then {s with next:=3} else {s with next:=5}:=by unfold SS.step;rw[if_neg (by omega),if_neg (by omega),if_pos e]
  rw[hs]
  split<;>exact ⟨fun e=>(by cases e),fun e=>(by cases e),fun e=>(by cases e)⟩
 ·have hs:s.step (rdC C)={s with value:=rdC C (s.at_+1),there:=true,next:=5}:=by unfold SS.step;rw[if_neg (by omega),if_neg (by omega),if_neg (by omega),if_pos e]
  rw[hs]
  exact ⟨fun e=>(by cases e),fun e=>(by cases e),fun e=>(by cases e)⟩
 ·have t4:=h.at4 e
  have hs:s.step (rdC C)=s.enter (wAt (rdC C s.at_)):=by unfold SS.step;rw[if_neg (by omega),if_neg (by omega),if_neg (by omega),if_neg (by omega),if_pos e]
  have rk:=hG.reb s.at_ t4
  rw[hs,(r.reb s.at_ t4).1,rk.k.2]
  have ht:G.ty (G.tgt s.at_)=3:=by have:=rk.v.ty;rw[rk.k.1,rk.k.2] at this;exact this
  exact ⟨fun _=>⟨ht,rfl,fun e=>absurd rfl e⟩,fun e=>(by cases e),fun e=>(by cases e)⟩
 ·exact absurd e h5
theorem SSOk.deg {s:SS} (h:SSOk G s) (r:Rep C G) (e:s.next=0):1≤rdC C s.route.n∧rdC C s.route.n≤65537:=by
 obtain ⟨h1,h2,_⟩:=h.at0 e
 have hd:=r.deg s.n h1
 have t0:G.ty s.n≠0:=by rw[h1];decide
 have l:=r.low s.n t0
 have u:=r.top s.n t0
 have b:=r.big
 have hl:=len3 h1
 rw[h2,hd.2]
 exact ⟨hd.1,by omega⟩
theorem SSOk.init (hG:Inv G) (k:Int):SSOk G (SS.init k):=
 ⟨fun _=>⟨hG.r1.1,rfl,fun e=>absurd rfl e⟩,fun e=>(by cases e),fun e=>(by cases e)⟩
theorem SS.Doc.init (k:Int):(SS.init k).Doc:=⟨fun _=>init_doc _ _,fun _=>⟨rfl,rfl⟩⟩
end
def pxk (k:Int):FX:=⟨16,0,0,k,⟨0,0,false,0,false⟩,[],⟨0,0,0⟩⟩
def finK (r:Int×Bool):Prog FOut:= .ret {FOut.zero with value:=r.1,ok:=r.2}
theorem pxk_tree (k:Int) (N:Nat):(pxk k).tree N=(seekP k N 1).bind finK:=by
 unfold FX.tree
 rw[if_neg (show ¬(pxk k).proc=15 by show ¬(16:Int)=15;decide),if_pos (show (pxk k).proc=16 from rfl)]
 rfl
def seekTr (f:Nat) (s:SS):Prog FOut:=(s.tree f).bind finK
structure SeekJ (k:Int) (G:GS) (i f:Nat) (s:SS) (q:Prog FOut):Prop where
 ok:SSOk G s
 doc:s.Doc
 inv:s.Inv
 k:s.k=k
 q:q=seekTr f s
def seekOut (s:SS):FOut:={FOut.zero with value:=s.value,ok:=s.there}
theorem SS.acc_bd {s:SS} (h:s.Inv) {a:Int} (ha:s.acc=some a):i64B a:=by
 rcases h.st with ⟨e,e6⟩|⟨e,p,ep,hp,p3⟩|e|e|e|e
 ·rw[SS.acc0 e] at ha
  unfold RS.acc at ha
  rw[if_neg e6] at ha
  injection ha with ha
  subst ha
  unfold RS.addr
  split
  ·exact ⟨h.rt.n0,h.rt.n1⟩
  ·have:=keyAtI_bd (n:=s.route.n) (i:=s.route.i)
   exact i64B.of (by omega) (by omega)
 ·rw[SS.acc1 e ep] at ha
  unfold PS.acc at ha
  rw[if_neg p3] at ha
  injection ha with ha
  subst ha
  exact ⟨hp.c0,hp.c1⟩
 ·rw[SS.acc2 e] at ha;injection ha with ha;subst ha;have:=h.a0;have:=h.a1;exact i64B.of (by omega) (by omega)
 ·rw[SS.acc3 e] at ha;injection ha with ha;subst ha;have:=h.a0;have:=h.a1;exact i64B.of (by omega) (by omega)
 ·rw[SS.acc4 e] at ha;injection ha with ha;subst ha;have:=h.a0;have:=h.a1;exact i64B.of (by omega) (by omega)
 ·rw[SS.acc5 e] at ha;cases ha
theorem step_k {R:Int→Int} (s:SS):(s.step R).k=s.k:=by
 unfold SS.step SS.meet SS.enter
 repeat' split
 all_goals rfl
theorem seekFL (fb:Nat) (s:SS):FL (fun G w=>SeekP G fb s w):=⟨fun h hs=>h.mono hs,fun h c hd=>h.chg c hd,fun h=>h.within⟩
theorem seek_mach (N:Nat) (k:Int) (hk:i64B k) (fb:Nat):Mach N (pxk k) SS (fun s G w=>SeekP G fb s w) (fun s=>s.next==5) seekOut (SeekJ k) SS.step 53 54 fb where
 pl:=playC16 rfl (i64B.of (by decide) (by decide):i64B 0) hk
 fl:=seekFL fb
 ext:=fun h x=>⟨h.ok.ext x,h.doc,h.inv,h.k,h.q⟩
 go1:=fun {G i f st q C} h hG r hcb hd hf hi=>by
  have h5:st.next≠5:=by simpa using hd
  obtain ⟨f',a,g1,g2,g3,g4,g5⟩:=ss_doc (R:=rdC C) st f h.inv h.doc h5 (by omega) (fun e _=>h.ok.deg r e)
  obtain ⟨b1,b2⟩:=bind_step finK g3 g4
  rw[h.q]
  exact ⟨f',a,seekTr f' (st.step (rdC C)),g1,SS.acc_bd h.inv g2,b1,b2,h.ok.step hG r h.inv h5,g5,h.inv.step (rdC_bd (bd_of hcb)),(step_k st).trans h.k,rfl⟩
 nx:=fun {G i f st q} h hf=>by
  rw[h.q]
  by_cases h5:st.next=5
  ·have:seekTr f st= .ret (seekOut st):=by
    unfold seekTr SS.tree
    rw[if_neg (by omega),if_neg (by omega),if_neg (by omega),if_neg (by omega),if_neg (by omega)];rfl
   show (seekTr f st).next.isNone=(st.next==5)
   rw[this,h5];rfl
  ·obtain ⟨f',a,g1,g2,g3,g4,g5⟩:=ss_doc (R:=fun _=>1) st f h.inv h.doc h5 (by omega) (fun _ _=>⟨by decide,by decide⟩)
   obtain ⟨b1,_⟩:=bind_step finK g3 g4
   show (seekTr f st).next.isNone=(st.next==5)
   rw[←rest0_nx,show ((seekTr f st).rest []).next=_ from b1]
   exact (beq_eq_false_iff_ne.2 h5).symm
 val:=fun {G i f st q} h hd=>by
  have h5:st.next=5:=by simpa using hd
  rw[h.q]
  unfold seekTr SS.tree
  rw[if_neg (by omega),if_neg (by omega),if_neg (by omega),if_neg (by omega),if_neg (by omega)];rfl
 call:=fun {G i f st q B b v C size cn od rf F w} h hG r hd hi hp hm hF hC hcb=>by
  exact (stepS_any F fb b st B v C size cn od rf w hp hm h.inv hC (bd_of hcb)).mono fun e w' hp=>⟨hp.1,hp.2.1,⟨_,_,_,hp.2.2.1⟩,hp.2.2.2⟩
 done:=fun {G i f st q F w} h hp=>doneS_any F fb st w hp
theorem seek_start (k:Int) (N:Nat) (hN:1<N):(((pxk k).tree N).rest []).rest []=(seekTr (N-1) (SS.init k)).rest []:=by
 obtain ⟨n,rfl⟩:∃n,N=n+1:=⟨N-1,by omega⟩
 rw[rest0_rest,pxk_tree]
 unfold seekTr
 rw[bind_rest0,bind_rest0 finK ((SS.init k).tree (n+1-1))]
 rw[seek_tree k n 1 (SS.init k) rfl]
 rfl
theorem seek_end {k:Int} {B y b ff fb xb bm:Nat} {tbs:List Nat} {W w:World} {d:Bool} {c i:Nat} (h:RelD 100000 B y b ff (pxk k) (fun s G w=>SeekP G fb s w) (fun s=>s.next==5) seekOut (SeekJ k) xb bm tbs W d c i w):
  ∃(st:SS) (G:Nat→Prop),SeekP G fb st w∧(st.next==5)=d∧(∀w',Below w.heap.size w w'→w'.cell? ⟨ff,23,none⟩=some (.bool d)∧w'.cell? ⟨ff,28,none⟩=some (.int .i64 st.value)∧w'.cell? ⟨ff,25,none⟩=some (.bool st.there))∧(∀w',Below w.heap.size w w'→Calls Tryz.prog 51 #[.pointer (some ⟨y,0,none⟩)] w' fun e w2=>e= .returned (.bool true)∧Below B W w2∧w2.cell? ⟨ff,23,none⟩=some (.bool d)∧w2.cell? ⟨ff,28,none⟩=some (.int .i64 st.value)∧w2.cell? ⟨ff,25,none⟩=some (.bool st.there)):=by
 obtain ⟨s,G0,st,f,T,hB,hM,hd⟩:=h
 obtain ⟨q,hj,hq⟩:=hM.lft
 have hv:((if d=true then seekOut st else FOut.zero).value=st.value)∧((if d=true then seekOut st else FOut.zero).ok=st.there):=by
  cases d with
  |true=>exact ⟨rfl,rfl⟩
  |false=>
   have h5:st.next≠5:=by simpa using hd
   obtain ⟨a,b⟩:=hj.doc.vt h5
   rw[a,b];exact ⟨rfl,rfl⟩
 have hc:∀w',Both 100000 (1680+c) B y b (fun G w=>SeekP G fb st w) ff (pxk k) T d (if d=true then seekOut st else FOut.zero) xb bm tbs s (200000+200*c) W w'→w'.cell? ⟨ff,23,none⟩=some (.bool d)∧w'.cell? ⟨ff,28,none⟩=some (.int .i64 st.value)∧w'.cell? ⟨ff,25,none⟩=some (.bool st.there):=fun w' hb=>by
  obtain ⟨_,_,_,a1,a2,a3⟩:=hb.cells
  rw[hv.1] at a2
  rw[hv.2] at a3
  exact ⟨a1,a2,a3⟩
 have hp:∃G,SeekP G fb st w:=by obtain ⟨G,F,v,own,hb⟩:=hB;exact ⟨G,hb.pf⟩
 obtain ⟨G,hp⟩:=hp
 refine ⟨st,G,hp,hd,fun w' hb=>hc w' (hB.below (seekFL fb st) hb),fun w' hb=> ?_⟩
 exact (both_same (seekFL fb st) (hB.below (seekFL fb st) hb)).mono fun e w2 h=>⟨h.1,h.2.lt,hc w2 h.2⟩
set_option maxRecDepth 100000 in
set_option maxHeartbeats 4000000 in
theorem seekPlays_walk (cells:Int) (A1:Option Addr) (c1:Nat) (keys:List Int) (A2:Option Addr) (c2:Nat) (l:List Int) (k:Int) (A4:Option Addr) (c4:Nat) (sched:List Int) {w:World} (wc:(Lit.int .i64 cells).wf=true)
  (hq1:IntsAt w w.heap.size A1 keys) (hl1:keys.length*8≤140737488351232) (hc1:keys.length≤c1) (hw1:∀i,i<keys.length→-9223372036854775808≤keyAt keys i∧keyAt keys i≤9223372036854775807)
  (hq2:IntsAt w w.heap.size A2 l) (hl2:l.length*8≤140737488351232) (hc2:l.length≤c2) (hw2:∀i,i<l.length→-9223372036854775808≤keyAt l i∧keyAt l i≤9223372036854775807)
  (wk:(Lit.int .i64 k).wf=true)
  (hq4:IntsAt w w.heap.size A4 sched) (hl4:sched.length*8≤140737488351232) (hc4:sched.length≤c4) (hw4:∀i,i<sched.length→-9223372036854775808≤keyAt sched i∧keyAt sched i≤9223372036854775807):
  Calls Tryz.prog 5 #[.int .i64 cells, .slice A1 keys.length c1, .slice A2 l.length c2, .int .i64 k, .slice A4 sched.length c4] w fun e w'=>e= .returned (.bool true)∧Below w.heap.size w w':=by
 obtain ⟨ca0,ca1⟩:=Go.bounds_i64 wc
 obtain ⟨k0,k1⟩:=Go.bounds_i64 wk
 have HQ1:=LH hq1
 have HW1:=LH hw1
 have HQ2:=LH hq2
 have HW2:=LH hw2
 have HQ4:=LH hq4
 have HW4:=LH hw4
 clear hq1 hw1 hq2 hw2 hq4 hw4 wc wk
 go_enter Tryz.func5,Tryz.ntmps5
 go_wp2_with (fail)
 with_reducible refine (yardB_any cells A1 c1 keys A2 c2 l _ hc1 hc2 ca0 ca1 HQ1.out hl1 HW1.out HQ2.out hl2 HW2.out).mono ?_
 rintro e w1 hp
 obtain ⟨y,b,xb,bm,tbs,s,G0,v,own,rfl,hy,hsys,hown,hb1⟩:=hp
 have HY:=LH hy
 have HS:=LH hsys
 have HO:=LH hown
 have HB1:=LH hb1
 clear hy hsys hown hb1 HQ1 HQ2 HW1 HW2
 obtain ⟨z0,z1⟩:=cut_bd k 70 (by decide)
 go_wp2_with (fail)
 with_reducible refine (cut_any k 70 _ k0 k1 (by decide) (by decide)).mono ?_
 rintro e w2 ⟨rfl,rfl⟩
 go_wp2_with (fail)
 have hkey:i64B (k%70-25):=i64B.of (by omega) (by omega)
 generalize k%70-25=key at hkey⊢
 have HK:=LH hkey
 clear hkey
 with_reducible refine (newS_any key _).mono ?_
 rintro e w3 ⟨rfl,hs,hb⟩
 have HSK:=LH hs
 have HB3:=LH hb
 clear hs hb
 have M:Mach 100000 (pxk key) SS (fun s G w=>SeekP G w1.heap.size s w) (fun s=>s.next==5) seekOut (SeekJ key) SS.step 53 54 w1.heap.size:=seek_mach 100000 key HK.out w1.heap.size
 have hj0:SeekJ key G0 0 (100000-1) (SS.init key) (seekTr (100000-1) (SS.init key)):=⟨SSOk.init HS.out.inv key,SS.Doc.init key,SS.Inv.init HK.out.1 HK.out.2,rfl,rfl⟩
 have hst0:=seek_start key 100000 (by decide)
 have NEW:Hid (∀w,Calls Tryz.prog 29 #[.int .i64 16, .agg #[.int .i64 0, .int .i64 0, .int .i64 0, .int .i64 key, .int .i64 0, .int .i64 0, .int .i64 0, .bool false, .int .i64 0, .bool false, .slice none 0 0, .slice none 0 0, .slice none 0 0, .slice none 0 0, .slice none 0 0, .int .i64 0, .int .i64 0, .int .i64 0, .int .i64 0, .int .i64 0, .int .i64 0]] w fun e w'=>∃ff,e= .returned (.pointer (some ⟨ff,0,none⟩))∧FrP (fun z=>False∨w.heap.size≤z) ff (pxk key) [] false FOut.zero w'∧w.heap.size≤ff∧Below w.heap.size w w'):=LH (fun w=>M.new (w:=w) (xv:= .slice none 0 0) (Gs:=fun _=>False) PrP.nil' (by decide) hj0 hst0 (by decide))
 have HJ:=LH hj0
 have HM:=LH M
 have HST:=LH hst0
 clear hj0 hst0 M
 go_wp2_with (fail)
 with_reducible refine (NEW.out _).mono ?_
 rintro e w4 ⟨ff,rfl,hf,hff,hb⟩
 have hz3:=HB3.out.size
 have hz4:=hb.size
 have HR0:=LH (RelD.start HM.out HY.out HO.out HB1.out.size HB1.out HS.out (HB3.out.trans (hb.mono hz3)) ((SeekP.within HSK.out).below hb) hf (fun z hz=>by rcases hz with (hz|hz)|hz;exact hz.elim;omega;exact hz.1) (fun z h1 h2=>by rcases h1 with h1|h1;exact h1.elim;omega) HJ.out HST.out (by decide))
 clear hf hb NEW HJ HST HSK HY HO HS HB3 hff hz3 hz4
 generalize w1.heap.size=fb at HR0 HM⊢
 go_wp2_with (fail)
 with_reducible refine (known16_any _).mono ?_
 rintro e w5 ⟨rfl,hb⟩
 have HR5:=LH (HR0.out.below HM.out hb)
 clear hb HR0
 obtain ⟨s5,GS5,st5,f5,T5,hB5,hMS5,hd5⟩:=HR5.out
 go_wp2_with (fail)
 with_reducible refine (both_same (HM.out.fl st5) hB5).mono ?_
 rintro e w6 ⟨rfl,hB6⟩
 have HR6:Hid (LoopR 100000 w.heap.size y b ff (pxk key) (fun s G w=>SeekP G fb s w) (fun s=>s.next==5) seekOut (SeekJ key) xb bm tbs w 300 (.int .i64 0) w6):=LH ⟨false,0,0,rfl,Nat.le_refl _,by decide,s5,GS5,st5,f5,T5,hB6,hMS5,hd5⟩
 clear hB5 hMS5 hd5 hB6 HR5 HB1
 have HSC:Hid (∀w',Below w.heap.size w w'→∀i,i<sched.length→∃ad,A4=some ad∧w'.cell? (ad.add i)=some (.int .i64 (keyAt sched i))):=LH (fun w' hb i hi=>by
  obtain ⟨ad,h1,_,h2⟩:=(HQ4.out.below hb).cells (by omega)
  exact ⟨ad,h1,h2 i hi⟩)
 clear HQ4
 go_wp2_with (fail)
 go_loopw [15] (fun iv wr=>LoopR 100000 w.heap.size y b ff (pxk key) (fun s G w=>SeekP G fb s w) (fun s=>s.next==5) seekOut (SeekJ key) xb bm tbs w 300 iv wr) (fun iv _=>301-(intOf iv).toNat)
 case atStart=>exact HR6.out
 case round=>
  clear HR6
  obtain ⟨d,c,i,rfl,hci,hi,hr⟩:=hrel
  by_cases hgo:i<300∧d=false
  ·obtain ⟨hlt,rfl⟩:=hgo
   have hil:(i:Int)<300:=by omega
   obtain ⟨y0,y1,x3,f23⟩:=hr.cells
   have hbl:Below w.heap.size w wr:=by obtain ⟨s,G,st,f,T,h1,_⟩:=hr;exact h1.lt
   have HRR:=LH hr
   have HBL:=LH hbl
   clear hr hbl
   by_cases hs:i<sched.length
   ·obtain ⟨ad,hA,hcell⟩:=HSC.out wr HBL.out i hs
    subst hA
    have hsl:(i:Int)<sched.length:=by omega
    obtain ⟨s0,s1⟩:=HW4.out i hs
    obtain ⟨t0,t1⟩:=tmod_bd (keyAt sched i) 2 (by decide)
    have hdv:-9223372036854775808≤(keyAt sched i).tdiv 2∧(keyAt sched i).tdiv 2≤9223372036854775807:=by
     have e:keyAt sched i=2*((keyAt sched i).tdiv 2)+(keyAt sched i).tmod 2:=(Int.mul_tdiv_add_tmod _ 2).symm
     omega
    have HDV:=LH hdv
    clear hdv
    by_cases h2:(keyAt sched i).tmod 2=0
    ·have h2b:((keyAt sched i).tmod 2==0)=true:=by simpa using h2
     go_wp2_with (fail)
     with_reducible refine (RelD.pick HM.out ((keyAt sched i).tdiv 2) HRR.out HDV.out.1 HDV.out.2 (by decide) (by omega)).mono ?_
     rintro e w8 ⟨rfl,hr8⟩
     obtain ⟨cc,hcc,H8⟩:∃cc,cc≤i+1∧Hid (RelD 100000 w.heap.size y b ff (pxk key) (fun s G w=>SeekP G fb s w) (fun s=>s.next==5) seekOut (SeekJ key) xb bm tbs w false cc i w8):=⟨c+1,by omega,LH hr8⟩
     obtain ⟨z0,z1,z3,z23⟩:=hr8.cells
     clear hr8 HRR y0 y1 x3 f23 hcell HBL HDV h2 h2b s0 s1 t0 t1
     go_wp2_with (fail)
     with_reducible refine (RelD.prog HM.out H8.out (by omega)).mono ?_
     rintro e w9 ⟨d',rfl,hm⟩
     have HMD:=LH hm
     obtain ⟨m0,m1,m3⟩:=hm.cells
     clear hm H8
     go_wp2_with (fail)
     with_reducible refine (MidD.doc HM.out HMD.out (by omega) (by decide)).mono ?_
     rintro e w10 ⟨rfl,hr10⟩
     have HR10:=LH hr10
     obtain ⟨_,_,_,g23⟩:=hr10.cells
     have HDN:Hid (∀n,Calls Tryz.prog 54 #[.pointer (some ⟨fb,0,none⟩)] (w10.drewN n) fun e w'=>e= .returned (.bool d')∧w10.drewN n=w'):=LH (fun n=>(hr10.below HM.out (drawn_bl (Drawn.of w10 n) _)).done HM.out)
     clear hr10 HMD m0 m1 m3
     cases d'
     all_goals
      go_wp2_with (fail)
      go_quiet ((go_at_call 54;exact quiet_left (HDN.out _)))
      go_wp2_with (fail)
      go_roundw
      case rel=>exact ⟨_,cc,i+1,by go_num,by omega,by omega,HR10.out.below HM.out (drawn_bl (Drawn.of w10 nq) _)⟩
      case measure=>simp[intOf];omega
    ·have h2b:((keyAt sched i).tmod 2==0)=false:=by simpa using h2
     obtain ⟨cc,hcc,H8⟩:∃cc,cc≤i+1∧Hid (RelD 100000 w.heap.size y b ff (pxk key) (fun s G w=>SeekP G fb s w) (fun s=>s.next==5) seekOut (SeekJ key) xb bm tbs w false cc i wr):=⟨c,by omega,HRR⟩
     clear HRR HBL HDV h2 s0 s1 t0 t1
     go_wp2_with (fail)
     with_reducible refine (RelD.prog HM.out H8.out (by omega)).mono ?_
     rintro e w9 ⟨d',rfl,hm⟩
     have HMD:=LH hm
     obtain ⟨m0,m1,m3⟩:=hm.cells
     clear hm H8
     go_wp2_with (fail)
     with_reducible refine (MidD.doc HM.out HMD.out (by omega) (by decide)).mono ?_
     rintro e w10 ⟨rfl,hr10⟩
     have HR10:=LH hr10
     obtain ⟨_,_,_,g23⟩:=hr10.cells
     have HDN:Hid (∀n,Calls Tryz.prog 54 #[.pointer (some ⟨fb,0,none⟩)] (w10.drewN n) fun e w'=>e= .returned (.bool d')∧w10.drewN n=w'):=LH (fun n=>(hr10.below HM.out (drawn_bl (Drawn.of w10 n) _)).done HM.out)
     clear hr10 HMD m0 m1 m3
     cases d'
     all_goals
      go_wp2_with (fail)
      go_quiet ((go_at_call 54;exact quiet_left (HDN.out _)))
      go_wp2_with (fail)
      go_roundw
      case rel=>exact ⟨_,cc,i+1,by go_num,by omega,by omega,HR10.out.below HM.out (drawn_bl (Drawn.of w10 nq) _)⟩
      case measure=>simp[intOf];omega
   ·have hsl:¬(i:Int)<sched.length:=by omega
    have hsd:decide ((i:Int)<sched.length)=false:=decide_eq_false hsl
    obtain ⟨cc,hcc,H8⟩:∃cc,cc≤i+1∧Hid (RelD 100000 w.heap.size y b ff (pxk key) (fun s G w=>SeekP G fb s w) (fun s=>s.next==5) seekOut (SeekJ key) xb bm tbs w false cc i wr):=⟨c,by omega,HRR⟩
    clear HRR HBL
    go_wp2_with (fail)
    with_reducible refine (RelD.prog HM.out H8.out (by omega)).mono ?_
    rintro e w9 ⟨d',rfl,hm⟩
    have HMD:=LH hm
    obtain ⟨m0,m1,m3⟩:=hm.cells
    clear hm H8
    go_wp2_with (fail)
    with_reducible refine (MidD.doc HM.out HMD.out (by omega) (by decide)).mono ?_
    rintro e w10 ⟨rfl,hr10⟩
    have HR10:=LH hr10
    obtain ⟨_,_,_,g23⟩:=hr10.cells
    have HDN:Hid (∀n,Calls Tryz.prog 54 #[.pointer (some ⟨fb,0,none⟩)] (w10.drewN n) fun e w'=>e= .returned (.bool d')∧w10.drewN n=w'):=LH (fun n=>(hr10.below HM.out (drawn_bl (Drawn.of w10 n) _)).done HM.out)
    clear hr10 HMD m0 m1 m3
    cases d'
    all_goals
     go_wp2_with (fail)
     go_quiet ((go_at_call 54;exact quiet_left (HDN.out _)))
     go_wp2_with (fail)
     go_roundw
     case rel=>exact ⟨_,cc,i+1,by go_num,by omega,by omega,HR10.out.below HM.out (drawn_bl (Drawn.of w10 nq) _)⟩
     case measure=>simp[intOf];omega
  ·have hend:i=300∨d=true:=by
    cases d with
    |true=>exact .inr rfl
    |false=>exact .inl (by have:¬i<300:=fun h=>hgo ⟨h,rfl⟩;omega)
   clear hgo
   obtain ⟨st,Gf,hp,hdn,hcl,hsm⟩:=seek_end hr
   obtain ⟨c23,c28,c25⟩:=hcl wr (Below.refl _ _)
   have HP:=LH hp
   have HCL:=LH hcl
   have HSM:=LH hsm
   have HDN:=LH (fun w' (hb:Below wr.heap.size wr w')=>(hr.below HM.out hb).done HM.out)
   have hno:¬(decide ((i:Int)<300)=true∧d=false):=fun h=>by
    have h1:=of_decide_eq_true h.1
    rcases hend with e|e
    ·omega
    ·rw[e] at h;exact absurd h.2 (by decide)
   clear hp hcl hsm hr HSC HW4 hend
   cases hd3:decide ((i:Int)<300)
   ·cases d
    ·clear hno
     go_wp2_with (fail)
     with_reducible refine (valueS_any _ _ _ _ HP.out).mono ?_
     rintro e wv ⟨rfl,hdr⟩
     have hbv:=drawn_bl hdr wr.heap.size
     obtain ⟨v23,v28,v25⟩:=HCL.out wv hbv
     have hbd:Below wr.heap.size wr wv.drew:=hbv.trans ((drawn_bl (Drawn.of wv 1) wr.heap.size))
     have HSAME:=LH (HSM.out wv.drew hbd)
     have HDONE:=LH (HDN.out wv.drew hbd)
     clear hdr hbv hbd c23 c28 c25 HSM HDN HCL HP
     have hdv:decide (st.value=st.value)=true:=decide_eq_true rfl
     generalize st.value=sv at hdv v28 HSAME⊢
     generalize st.there=sb at v25 HSAME⊢
     cases sb
     ·go_wp2_with (fail)
      go_region_held3 (fun w'=>w'.cell? ⟨ff,23,none⟩=some (.bool false)∧w'.cell? ⟨ff,28,none⟩=some (.int .i64 sv)∧w'.cell? ⟨ff,25,none⟩=some (.bool false)) (first|go_keep|exact K1.out) (first|(go_at_call 54;(with_reducible refine HDONE.out.mono ?_);rintro e w8 ⟨rfl,rfl⟩)|(go_at_call 51;(with_reducible refine HSAME.out.mono ?_);rintro e w9 ⟨rfl,hb,hk⟩;have K1:=LH hk;have HBF:=LH hb;clear hb hk))
      all_goals
       go_wp2_with (fail)
       go_ret
       exact ⟨rfl,HBF.out⟩
     ·go_wp2_with (fail)
      go_region_held3 (fun w'=>w'.cell? ⟨ff,23,none⟩=some (.bool false)∧w'.cell? ⟨ff,28,none⟩=some (.int .i64 sv)∧w'.cell? ⟨ff,25,none⟩=some (.bool true)) (first|go_keep|exact K1.out) (first|(go_at_call 54;(with_reducible refine HDONE.out.mono ?_);rintro e w8 ⟨rfl,rfl⟩)|(go_at_call 51;(with_reducible refine HSAME.out.mono ?_);rintro e w9 ⟨rfl,hb,hk⟩;have K1:=LH hk;have HBF:=LH hb;clear hb hk))
      all_goals
       go_wp2_with (fail)
       go_ret
       exact ⟨rfl,HBF.out⟩
    ·clear hno
     go_wp2_with (fail)
     with_reducible refine (valueS_any _ _ _ _ HP.out).mono ?_
     rintro e wv ⟨rfl,hdr⟩
     have hbv:=drawn_bl hdr wr.heap.size
     obtain ⟨v23,v28,v25⟩:=HCL.out wv hbv
     have hbd:Below wr.heap.size wr wv.drew:=hbv.trans ((drawn_bl (Drawn.of wv 1) wr.heap.size))
     have HSAME:=LH (HSM.out wv.drew hbd)
     have HDONE:=LH (HDN.out wv.drew hbd)
     clear hdr hbv hbd c23 c28 c25 HSM HDN HCL HP
     have hdv:decide (st.value=st.value)=true:=decide_eq_true rfl
     generalize st.value=sv at hdv v28 HSAME⊢
     generalize st.there=sb at v25 HSAME⊢
     cases sb
     ·go_wp2_with (fail)
      go_region_held3 (fun w'=>w'.cell? ⟨ff,23,none⟩=some (.bool true)∧w'.cell? ⟨ff,28,none⟩=some (.int .i64 sv)∧w'.cell? ⟨ff,25,none⟩=some (.bool false)) (first|go_keep|exact K1.out) (first|(go_at_call 54;(with_reducible refine HDONE.out.mono ?_);rintro e w8 ⟨rfl,rfl⟩)|(go_at_call 51;(with_reducible refine HSAME.out.mono ?_);rintro e w9 ⟨rfl,hb,hk⟩;have K1:=LH hk;have HBF:=LH hb;clear hb hk))
      all_goals
       go_wp2_with (fail)
       go_ret
       exact ⟨rfl,HBF.out⟩
     ·go_wp2_with (fail)
      go_region_held3 (fun w'=>w'.cell? ⟨ff,23,none⟩=some (.bool true)∧w'.cell? ⟨ff,28,none⟩=some (.int .i64 sv)∧w'.cell? ⟨ff,25,none⟩=some (.bool true)) (first|go_keep|exact K1.out) (first|(go_at_call 54;(with_reducible refine HDONE.out.mono ?_);rintro e w8 ⟨rfl,rfl⟩)|(go_at_call 51;(with_reducible refine HSAME.out.mono ?_);rintro e w9 ⟨rfl,hb,hk⟩;have K1:=LH hk;have HBF:=LH hb;clear hb hk))
      all_goals
       go_wp2_with (fail)
       go_ret
       exact ⟨rfl,HBF.out⟩
   ·cases d
    ·exact (hno ⟨hd3,rfl⟩).elim
    ·clear hno
     go_wp2_with (fail)
     with_reducible refine (valueS_any _ _ _ _ HP.out).mono ?_
     rintro e wv ⟨rfl,hdr⟩
     have hbv:=drawn_bl hdr wr.heap.size
     obtain ⟨v23,v28,v25⟩:=HCL.out wv hbv
     have hbd:Below wr.heap.size wr wv.drew:=hbv.trans ((drawn_bl (Drawn.of wv 1) wr.heap.size))
     have HSAME:=LH (HSM.out wv.drew hbd)
     have HDONE:=LH (HDN.out wv.drew hbd)
     clear hdr hbv hbd c23 c28 c25 HSM HDN HCL HP
     have hdv:decide (st.value=st.value)=true:=decide_eq_true rfl
     generalize st.value=sv at hdv v28 HSAME⊢
     generalize st.there=sb at v25 HSAME⊢
     cases sb
     ·go_wp2_with (fail)
      go_region_held3 (fun w'=>w'.cell? ⟨ff,23,none⟩=some (.bool true)∧w'.cell? ⟨ff,28,none⟩=some (.int .i64 sv)∧w'.cell? ⟨ff,25,none⟩=some (.bool false)) (first|go_keep|exact K1.out) (first|(go_at_call 54;(with_reducible refine HDONE.out.mono ?_);rintro e w8 ⟨rfl,rfl⟩)|(go_at_call 51;(with_reducible refine HSAME.out.mono ?_);rintro e w9 ⟨rfl,hb,hk⟩;have K1:=LH hk;have HBF:=LH hb;clear hb hk))
      all_goals
       go_wp2_with (fail)
       go_ret
       exact ⟨rfl,HBF.out⟩
     ·go_wp2_with (fail)
      go_region_held3 (fun w'=>w'.cell? ⟨ff,23,none⟩=some (.bool true)∧w'.cell? ⟨ff,28,none⟩=some (.int .i64 sv)∧w'.cell? ⟨ff,25,none⟩=some (.bool true)) (first|go_keep|exact K1.out) (first|(go_at_call 54;(with_reducible refine HDONE.out.mono ?_);rintro e w8 ⟨rfl,rfl⟩)|(go_at_call 51;(with_reducible refine HSAME.out.mono ?_);rintro e w9 ⟨rfl,hb,hk⟩;have K1:=LH hk;have HBF:=LH hb;clear hb hk))
      all_goals
       go_wp2_with (fail)
       go_ret
       exact ⟨rfl,HBF.out⟩
end Go.Proofs.YtblajeildolloaaGreat
