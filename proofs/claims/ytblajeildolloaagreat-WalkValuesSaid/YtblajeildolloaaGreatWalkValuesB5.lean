/- Part 5 of what the statement of WalkValues needs. No condition. -/
import Derived.Test.YtblajeildolloaaGreatWalkValuesB4
import Derived.Deep.CutRange
import Derived.Deep.RegionHeld3
import Derived.Laws.OwnMore
namespace Go.Proofs.YtblajeildolloaaGreat
set_option linter.unusedVariables false
set_option linter.unusedSimpArgs false
open Go.RowKit
set_option maxRecDepth 100000
set_option maxHeartbeats 8000000
theorem Qdb (F:Nat->Prop) (tb:Nat) (t:TH) (w:World) (h:ThP F tb t w):∃n:Int,∀w2,Below w.heap.size w w2->
  Calls Tryz.prog 217 #[.pointer (some ⟨tb,0,none⟩)] w2 fun e w'=>e=.returned (.int .i64 n)/\w2=w':=by
 obtain ⟨kind,key,val,fv,steps,took,no,h⟩:=h
 cases hb:t.busy with
 |false=>
  refine ⟨0,fun w2 hb2=> ?_⟩;have h:=h.below hb2;have c1:w2.cell? ⟨tb,1,none⟩=some (.bool t.busy):=h.blk.cell 1
  rw[hb] at c1
  clear h;go_enter Tryz.func217,Tryz.ntmps217;go_wp2_with (fail);go_ret;exact ⟨rfl,rfl⟩
 |true=>
  obtain ⟨fb,rfl,xv,tv,pv,sv,lv,rec,laid,hf⟩:=h.fr hb;refine ⟨laid,fun w2 hb2=> ?_⟩;have h:=h.below hb2;have hf:=hf.below hb2;have c1:w2.cell? ⟨tb,1,none⟩=some (.bool t.busy):=h.blk.cell 1;have c5:w2.cell? ⟨tb,5,none⟩=some (.pointer (some ⟨fb,0,none⟩)):=h.blk.cell 5;have d38:w2.cell? ⟨fb,38,none⟩=some (.int .i64 laid):=hf.blk.cell 38
  rw[hb] at c1
  clear h hf;go_enter Tryz.func217,Tryz.ntmps217;go_wp2_with (fail);go_ret;exact ⟨rfl,rfl⟩
theorem IxQ.ev {own:Nat->Nat} {xb bm:Nat} {tbs:List Nat} {s:IX} {a0 a1 a2 inv picks:Int} {tv lv:Value} {ln:Nat} {lxs:List Value} {w:World} (h:IxQ own xb bm tbs s a0 a1 a2 tv lv ln lxs inv picks w) (vs:List Value):
  Hid ((w.alloc (.cells vs.toArray 218)).drew.ownsRow 0 218 13 lv ln lxs/\(∀(j:Nat) (u:Value),vs[j]? =some u->(w.alloc (.cells vs.toArray 218)).drew.cell? ((⟨w.heap.size,0,none⟩:Addr).add j)=some u)/\
   ∀(n0 gg cap:Nat) (w5:World),w.heap.size<=n0->w5.ownsRow 0 218 13 (.slice (some ⟨gg,0,none⟩) (ln+1) cap) (ln+1) (lxs++vs)->(w.alloc (.cells vs.toArray 218)).drew.grownBy w5 lv.ownBlock->(lv.ownBlock=some gg\/n0<=gg)->
    Hid (w5.cell? ⟨xb,5,none⟩=some lv/\w5.frozen? ⟨xb,5,none⟩=false/\IxQ (Q9q own w.heap.size 1) xb bm tbs s a0 a1 a2 tv (.slice (some ⟨gg,0,none⟩) (ln+1) cap) (ln+1) (lxs++vs) inv picks (w5.setCell ⟨xb,5,none⟩ (.slice (some ⟨gg,0,none⟩) (ln+1) cap))/\Chg (fun y=>own y=1) w (w5.setCell ⟨xb,5,none⟩ (.slice (some ⟨gg,0,none⟩) (ln+1) cap)))):=by
 have hal:=(Below.refl w.heap.size w).alloc (Nat.le_refl _) (.cells vs.toArray 218);have hbl:=hal.trans (Q0d (Drawn.of (w.alloc (.cells vs.toArray 218)) 1) _);refine LH ⟨Q0p (Q0p h.log hal) (Q0d (Drawn.of _ 1) _),fun j u hu=> ?_,fun n0 gg cap w5 h0 hO hg hat=>h.app hbl hO hg (hat.imp id (fun e=>Nat.le_trans h0 e))⟩;have e:(⟨w.heap.size,0,none⟩:Addr).add j=⟨w.heap.size,j,none⟩:=by unfold Addr.add;split<;>simp_all
 rw[e]
 have:=(Blk.new w 218 vs.toArray).cell j;exact this.trans (by simpa using hu)
theorem IxPost.ev {own own1:Nat->Nat} {xb bm:Nat} {tbs:List Nat} {s:IX} {a0 a1 a2 inv picks:Int} {tv lv:Value} {ln k:Nat} {lxs:List Value} {w w1 w':World} (hc:Chg (fun y=>own y≠0) w w1) (hg:∀y,own1 y≠0->own y≠0\/w.heap.size<=y) (h:IxQ (Q9q own1 w1.heap.size 1) xb bm tbs s a0 a1 a2 tv lv ln lxs inv picks w') (hc2:Chg (fun y=>own1 y=1) w1 w') (hk:ln<=k):IxPost own xb bm tbs s k w w':=
 IxPost.on hc hg ⟨_,⟨_,_,_,_,_,_,_,_,_,h,hk⟩,hc2.mono (fun y hy=>by rw[hy];decide),fun y hy=>by
  by_cases e:y<w1.heap.size
  ·rw[Q1k e] at hy;exact .inl hy
  ·exact .inr (by omega)⟩
theorem Qer {α:Type} (l:List α) (i:Nat) (d:α):l.set i (l.getD i d)=l:=by
 apply List.ext_getElem (by simp);intro j h1 h2;by_cases e:i=j
 ·subst e
  rw[List.getElem_set_self,List.getD_eq_getElem?_getD,List.getElem?_eq_getElem h2];rfl
 ·rw[List.getElem_set_ne e]
theorem IxQ.thread_ {own:Nat->Nat} {xb bm:Nat} {tbs:List Nat} {s:IX} {a0 a1 a2 inv picks:Int} {tv lv:Value} {ln:Nat} {lxs:List Value} {w w':World} (h:IxQ own xb bm tbs s a0 a1 a2 tv lv ln lxs inv picks w) {i:Nat} (hi:i<tbs.length) (m:Chg (fun y=>own y=3+i) w w') (ht:ThP (fun y=>own y=3+i) (tbs.getD i 0) (s.T.getD i TH.nil) w'):IxQ own xb bm tbs s a0 a1 a2 tv lv ln lxs inv picks w':=by
 have:=h.thread hi m ht
 rw[Qer] at this
 exact this
def Qa7 (own:Nat->Nat) (xb bm:Nat) (tbs:List Nat) (s:IX) (k:Nat) (w:World) (v:Value) (wr:World):Prop:=∃i:Nat,i<=tbs.length/\v=.int .i64 i/\IxPost own xb bm tbs s (k+i) w wr
theorem Qcj (own:Nat->Nat) (xb bm:Nat) (tbs:List Nat) (s:IX) (k:Nat) (w:World) (h:IxP own xb bm tbs s k w) (hC:s.C.length<=1000000) (hk:k<=1000000000) (hn:tbs.length<=64):
  Calls Tryz.prog 175 #[.pointer (some ⟨xb,0,none⟩)] w fun e w'=>e=.returned (.tuple #[])/\IxPost own xb bm tbs s (k+tbs.length) w w':=by
 obtain ⟨i0,hi0,hz0,hz1,hz2⟩:=info_parts Q3T;have HH:=LH h;clear h;go_enter Tryz.func175,Tryz.ntmps175;go_wp2_with (fail)
 go_loopw [2] (fun v wr=>Qa7 own xb bm tbs s k w v wr) (fun v _=>tbs.length-(intOf v).toNat)
 case atStart=>unfold Qa7;exact ⟨0,by omega,rfl,IxPost.refl HH.out⟩
 case round=>
  obtain ⟨i,hi,rfl,own1,⟨a0,a1,a2,tv,lv,ln,lxs,inv,picks,h,hk1⟩,hc,hg⟩:=hrel;by_cases hlt:i<tbs.length
  ·obtain ⟨g,cap,rfl,_,_⟩:=h.row.form (by omega);have e4:wr.cell? ⟨xb,4,none⟩=some (.slice (some ⟨g,0,none⟩) tbs.length cap):=h.blk.cell 4
   have eg:wr.cell? ⟨g,i,none⟩=some (Q2M (tbs.getD i 0)):=by
    rw[h.row.cellAt i (by simp;omega)]
    rw[List.getElem?_map,List.getElem?_eq_getElem hlt]
    simp[List.getD_eq_getElem?_getD,List.getElem?_eq_getElem hlt]
   have ht:=h.th i hlt;obtain ⟨n,hn0⟩:=Qdb _ _ _ wr ht;have HLD:Hid (∀m,Calls Tryz.prog 217 #[.pointer (some ⟨tbs.getD i 0,0,none⟩)] (wr.drewN m) fun e w'=>e=.returned (.int .i64 n)/\wr.drewN m=w'):=LH (fun m=>hn0 _ (Q0d (Drawn.of wr m) _));have HIX:Hid (∀m,IxPost own xb bm tbs s (k+(i+1)) w (wr.drewN m)):=LH (fun m=>IxPost.on hc hg ⟨own1,⟨a0,a1,a2,_,lv,ln,lxs,inv,picks,h.below (Q0d (Drawn.of wr m) _),by omega⟩,Chg.of_below (Q0d (Drawn.of wr m) _),fun y hy=>.inl hy⟩);obtain ⟨kind,key,val,fv,steps,took,no,hq⟩:=ht;have e1:wr.cell? ⟨tbs.getD i 0,1,none⟩=some (.bool (s.T.getD i TH.nil).busy):=hq.blk.cell 1;have e7:wr.cell? ⟨tbs.getD i 0,7,none⟩=some (.bool took):=hq.blk.cell 7;have HI:=LH h;have HQ:=LH hq;have HC:=LH hc;have HG:=LH hg;have hlt2:(i:Int)<tbs.length:=by omega
   clear h hq hc hg hn0;unfold Q2M at eg;generalize htb:tbs.getD i 0=tb at eg HLD e1 e7 HQ;have HTB:=LH htb;clear htb;generalize (s.T.getD i TH.nil).busy=bz at e1
   cases bz with
   |false=>
    go_wp2_with (fail)
    go_quiet (fail)
    go_wp2_with (fail)
    go_roundw
    case rel=>unfold Qa7;exact ⟨i+1,by omega,by go_num,HIX.out _⟩
    case measure=>simp[intOf];omega
   |true=>
    cases took with
    |true=>
     go_wp2_with (fail)
     go_quiet (fail)
     go_wp2_with (fail)
     go_roundw
     case rel=>unfold Qa7;exact ⟨i+1,by omega,by go_num,HIX.out _⟩
     case measure=>simp[intOf];omega
    |false=>
     by_cases hn1:0<n
     ·have hd1:decide (0<n)=true:=decide_eq_true hn1;have ebm:wr.cell? ⟨xb,3,none⟩=some (.pointer (some ⟨bm,0,none⟩)):=HI.out.blk.cell 3;have HAD:Hid (∀m,Calls Tryz.prog 140 #[.pointer (some ⟨bm,0,none⟩),.int .i64 (wrap64 (n+4))] (wr.drewN m) fun e w'=>e=.returned (.int .i64 (rdC s.C (wrap64 (n+4))))/\wr.drewN m=w'):=LH (fun m=>Q1t _ bm s.C s.max _ _ (HI.out.mem.below (Q0d (Drawn.of wr m) _)) hC);clear hn1;by_cases ha:rdC s.C (wrap64 (n+4))=1
      ·have hd2:(rdC s.C (wrap64 (n+4))==1)=true:=by rw[ha];rfl
       clear ha;generalize rdC s.C (wrap64 (n+4))=av at HAD hd2;go_wp2_with (fail)
       go_quiet ((first|(go_at_call 217;exact Q1R (HLD.out _))|(go_at_call 140;exact Q1R (HAD.out _))))
       have HI1:=LH (HI.out.below (Q0d (Drawn.of wr nq) _));have HQ1:=LH (HQ.out.below (Q0d (Drawn.of wr nq) _));have HC1:=LH (HC.out.trans (Chg.of_below (Q0d (Drawn.of wr nq) _)));have HZ1:Hid ((wr.drewN nq).heap.size=wr.heap.size):=LH rfl;clear HLD HAD HIX e1 e7 ebm eg e4;generalize wr.drewN nq=w1 at HI1 HQ1 HC1 HZ1|-;have f7:=HQ1.out.blk.frozen 7;have e7:w1.cell? ⟨tb,7,none⟩=some (.bool false):=HQ1.out.blk.cell 7;have e8:w1.cell? ⟨tb,8,none⟩=some (.int .i64 no):=HQ1.out.blk.cell 8;have hqs:=HQ1.out.set 7 (.bool true) (t':=s.T.getD i TH.nil) (fun h=>⟨h,rfl,rfl,rfl,rfl⟩) (kind':=kind) (key':=key) (val':=val) (steps':=steps) (took':=true) (no':=no) rfl;have hcs:=Chg.set1 w1 tb 7 (.bool true);have hi2:=HI1.out.thread_ hlt (hcs.mono (fun y hy=>hy▸HQ1.out.ft)) ⟨_,_,_,_,_,_,_,by rw[HTB.out];exact hqs⟩;have HI2:=LH hi2;have HC2:=LH (HC1.out.grow hcs (fun y hy=>HG.out y (by have:=HQ1.out.ft;rw[hy,this];omega)));have HS2:=LH (show (w1.setCell ⟨tb,7,none⟩ (.bool true)).heap.size=w1.heap.size by simp);have g8:(w1.setCell ⟨tb,7,none⟩ (.bool true)).cell? ⟨tb,8,none⟩=some (.int .i64 no):=hqs.blk.cell 8;have g5:(w1.setCell ⟨tb,7,none⟩ (.bool true)).cell? ⟨xb,5,none⟩=some lv:=hi2.blk.cell 5;have g7:(w1.setCell ⟨tb,7,none⟩ (.bool true)).cell? ⟨xb,7,none⟩=some (.int .i64 picks):=hi2.blk.cell 7;have h5:=hi2.blk.frozen 5;clear hi2 hqs hcs;go_wp2_with (fail);clear f7 e7 e8;generalize w1.setCell ⟨tb,7,none⟩ (.bool true)=w2 at HI2 HC2 HS2 g8 g5 g7 h5|-;obtain ⟨lA,lc,rfl⟩:=Q06 HI2.out.log;have EV:=HI2.out.ev [.int .i64 2,.int .i64 i,.int .i64 no,.int .i64 0,.int .i64 0,.int .i64 0,.int .i64 0,.bool false,.int .i64 0,.int .i64 0,.int .i64 0,.slice none 0 0,.int .i64 picks];have n1:=World.new_ne w2 ⟨xb,5,none⟩ g5;have hbl1:xb<w2.heap.size:=HI2.out.blk.lt
       go_region_law (first|(refine step_append_lies _ (by rfl) _ _ _ (by rfl) 0 218 i0 _ 13 120 Tryz.underlying88 hi0 hz0 hz1 hz2 rfl (by omega) (.slice lA ln lc) ln lxs (by rfl) EV.out.1 ⟨w2.heap.size,0,none⟩ 1 1 [.int .i64 2,.int .i64 i,.int .i64 no,.int .i64 0,.int .i64 0,.int .i64 0,.int .i64 0,.bool false,.int .i64 0,.int .i64 0,.int .i64 0,.slice none 0 0,.int .i64 picks] (by rfl) (by rfl) EV.out.2.1 (by simp[Value.oneCell']) (by omega) (by unfold maxLen;omega) (by omega) (by omega) (w2.heap.size+1) (by simp) ?_;intro gg cap2 w5 hO5 hg5 hat hlt5;have K5:=EV.out.2.2 w2.heap.size gg cap2 w5 (Nat.le_refl _) hO5 hg5 (hat.imp id (fun e=>by omega));have c5:=K5.out.1;have f5:=K5.out.2.1;clear hO5 hg5 hat hlt5))
       all_goals
        have HFIN:=LH (IxPost.ev (k:=k+(i+1)) HC2.out HG.out K5.out.2.2.1 K5.out.2.2.2 (by omega));clear K5 c5 f5 EV g5 g7 g8 h5;go_wp2_with (fail)
        go_roundw
        case rel=>unfold Qa7;exact ⟨i+1,by omega,by go_num,HFIN.out⟩
        case measure=>simp[intOf];omega
      ·have hd2:(rdC s.C (wrap64 (n+4))==1)=false:=by simpa using ha
       clear ha;generalize rdC s.C (wrap64 (n+4))=av at HAD hd2;go_wp2_with (fail)
       go_quiet ((first|(go_at_call 217;exact Q1R (HLD.out _))|(go_at_call 140;exact Q1R (HAD.out _))))
       go_wp2_with (fail)
       go_roundw
       case rel=>unfold Qa7;exact ⟨i+1,by omega,by go_num,HIX.out _⟩
       case measure=>simp[intOf];omega
     ·have hd1:decide (0<n)=false:=decide_eq_false hn1;clear hn1;go_wp2_with (fail)
      go_quiet ((go_at_call 217;exact Q1R (HLD.out _)))
      go_wp2_with (fail)
      go_roundw
      case rel=>unfold Qa7;exact ⟨i+1,by omega,by go_num,HIX.out _⟩
      case measure=>simp[intOf];omega
  ·have hi2:i=tbs.length:=by omega
   subst hi2;have e4:wr.cell? ⟨xb,4,none⟩=some tv:=h.blk.cell 4;have hown:=h.row;obtain ⟨A,cap,rfl⟩:=Q06 hown;have HIX:Hid (IxPost own xb bm tbs s (k+tbs.length) w wr):=LH (IxPost.on hc hg (IxPost.refl ⟨a0,a1,a2,_,lv,ln,lxs,inv,picks,h,by omega⟩));clear h hc hg hown hlt;go_wp2_with (fail)
   go_end0
   exact ⟨rfl,HIX.out⟩
theorem IxQ.step {own:Nat->Nat} {xb bm:Nat} {tbs:List Nat} {s:IX} {a0 a1 a2 inv picks:Int} {tv lv:Value} {ln:Nat} {lxs:List Value} {w w':World} {F' Fm':Nat->Prop} {t':TH} {C':List Int} (h:IxQ own xb bm tbs s a0 a1 a2 tv lv ln lxs inv picks w) {i:Nat} (hi:i<tbs.length)
  (n0:Nat) (hn0:w.heap.size<=n0) (ht:ThP F' (tbs.getD i 0) t' w') (hm:M7 Fm' bm C' s.max w') (hd:∀y,F' y->Fm' y->False) (hF:∀y,F' y->(own y=3+i/\y<w.heap.size)\/n0<=y) (hFm:∀y,Fm' y->(own y=2/\y<w.heap.size)\/n0<=y) (hc:Chg (fun y=>own y=3+i\/own y=2) w w'):
  ∃own',(∀y,own' y≠0->own y≠0\/w.heap.size<=y)/\IxQ own' xb bm tbs {s with C:=C',T:=s.T.set i t'} a0 a1 a2 tv lv ln lxs inv picks w'/\∀y,w.heap.size<=y->y<n0->own' y=0:=by
 classical
 have hlt:∀y,y<w.heap.size->(if y<w.heap.size then own y else if y<n0 then 0 else if F' y then 3+i else if Fm' y then 2 else 0)=own y:=fun y hy=>if_pos hy;have hge:∀y,n0<=y->(if y<w.heap.size then own y else if y<n0 then 0 else if F' y then 3+i else if Fm' y then 2 else 0)=(if F' y then 3+i else if Fm' y then 2 else 0):=fun y hy=>by rw[if_neg (by omega),if_neg (by omega)]
 refine ⟨fun y=>if y<w.heap.size then own y else if y<n0 then 0 else if F' y then 3+i else if Fm' y then 2 else 0,fun y hy=> ?_,⟨(hlt _ h.blk.lt).trans h.ox,hc.blk h.blk (fun e=>by rw[h.ox] at e;omega),hm.mono (fun y hy=> ?_),by rw[h.len];simp,hc.own h.row (fun g hg e=>by rw[h.rowo g hg] at e;omega),fun g hg=>(hlt g (Q0Z h.row g hg)).trans (h.rowo g hg),hc.own h.log (fun g hg e=>by rw[h.logo g hg] at e;omega),fun g hg=>(hlt g (Q0Z h.log g hg)).trans (h.logo g hg),fun j hj=> ?_⟩,fun y h1 h2=>by simp only;rw[if_neg (by omega),if_pos h2]⟩
 ·by_cases e:y<w.heap.size
  ·simp only at hy;rw[hlt y e] at hy;exact .inl hy
  ·exact .inr (by omega)
 ·show (if y<w.heap.size then own y else if y<n0 then 0 else if F' y then 3+i else if Fm' y then 2 else 0)=2
  rcases hFm y hy with e|e
  ·rw[hlt y e.2];exact e.1
  ·rw[hge y e,if_neg (fun hf=>hd y hf hy),if_pos hy]
 ·by_cases hij:j=i
  ·subst hij;have:(s.T.set j t').getD j TH.nil=t':=by rw[List.getD_eq_getElem?_getD,List.getElem?_set_self (by rw[<-h.len];exact hi)];rfl
   show ThP _ _ ((s.T.set j t').getD j TH.nil) _
   rw[this]
   refine ht.mono (fun y hy=> ?_);show (if y<w.heap.size then own y else if y<n0 then 0 else if F' y then 3+j else if Fm' y then 2 else 0)=3+j
   rcases hF y hy with e|e
   ·rw[hlt y e.2];exact e.1
   ·rw[hge y e,if_pos hy]
  ·have:(s.T.set i t').getD j TH.nil=s.T.getD j TH.nil:=by rw[List.getD_eq_getElem?_getD,List.getElem?_set_ne (by omega),List.getD_eq_getElem?_getD]
   show ThP _ _ ((s.T.set i t').getD j TH.nil) _
   rw[this]
   exact ((h.th j hj).within.chg hc (fun y h1 h2=>by rw[h1.1] at h2;omega)).mono (fun y hy=>(hlt y hy.2).trans hy.1)
theorem IxQ.ev3 {own:Nat->Nat} {xb bm:Nat} {tbs:List Nat} {s:IX} {a0 a1 a2 inv picks:Int} {tv lv:Value} {ln:Nat} {lxs:List Value} {w:World} (h:IxQ own xb bm tbs s a0 a1 a2 tv lv ln lxs inv picks w) (vs:List Value):
  Hid ((w.alloc (.cells vs.toArray 218)).drew.ownsRow 0 218 13 lv ln lxs/\(∀(j:Nat) (u:Value),vs[j]? =some u->(w.alloc (.cells vs.toArray 218)).drew.cell? ((⟨w.heap.size,0,none⟩:Addr).add j)=some u)/\
   ∀(n0 gg cap:Nat) (w5:World),w.heap.size<=n0->w5.ownsRow 0 218 13 (.slice (some ⟨gg,0,none⟩) (ln+1) cap) (ln+1) (lxs++vs)->(w.alloc (.cells vs.toArray 218)).drew.grownBy w5 lv.ownBlock->(lv.ownBlock=some gg\/n0<=gg)->
    Hid (w5.cell? ⟨xb,5,none⟩=some lv/\w5.frozen? ⟨xb,5,none⟩=false/\IxQ (Q9q own w.heap.size 1) xb bm tbs s a0 a1 a2 tv (.slice (some ⟨gg,0,none⟩) (ln+1) cap) (ln+1) (lxs++vs) inv picks (w5.setCell ⟨xb,5,none⟩ (.slice (some ⟨gg,0,none⟩) (ln+1) cap))/\Chg (fun y=>own y=1) w (w5.setCell ⟨xb,5,none⟩ (.slice (some ⟨gg,0,none⟩) (ln+1) cap))/\Chg (fun y=>lv.ownBlock=some y) w w5)):=by
 have hal:=(Below.refl w.heap.size w).alloc (Nat.le_refl _) (.cells vs.toArray 218);have hbl:=hal.trans (Q0d (Drawn.of (w.alloc (.cells vs.toArray 218)) 1) _);refine LH ⟨Q0p (Q0p h.log hal) (Q0d (Drawn.of _ 1) _),fun j u hu=> ?_,fun n0 gg cap w5 h0 hO hg hat=>let r:=(h.app hbl hO hg (hat.imp id (fun e=>Nat.le_trans h0 e))).out;LH ⟨r.1,r.2.1,r.2.2.1,r.2.2.2,(Chg.of_below hbl).trans (Chg.of_grown hg)⟩⟩;have e:(⟨w.heap.size,0,none⟩:Addr).add j=⟨w.heap.size,j,none⟩:=by unfold Addr.add;split<;>simp_all
 rw[e]
 have:=(Blk.new w 218 vs.toArray).cell j;exact this.trans (by simpa using hu)
def IX.pick (N:Nat) (s:IX) (i:Nat):IX:=
 if (s.T.getD i TH.nil).busy=true then {s with C:=((s.T.getD i TH.nil).step N s.max s.C).2,T:=s.T.set i ((s.T.getD i TH.nil).step N s.max s.C).1} else s
def IX.ends (N:Nat) (s:IX) (i:Nat):Bool:=(s.T.getD i TH.nil).busy&& !((s.T.getD i TH.nil).step N s.max s.C).1.busy
structure IX.Ok (N m:Nat) (s:IX):Prop where
 cb:CB s.C
 fit:(s.C.length:Int)<=s.max
 max:s.max<=65536
 thr:∀t∈s.T,t.busy=true->t.Ok N m
 bud:∀t∈s.T,1<=t.budget/\t.budget<=64
theorem Q2F {α:Type} {l:List α} {i:Nat} {d:α} (h:i<l.length):l.getD i d∈l:=by
 rw[List.getD_eq_getElem?_getD,List.getElem?_eq_getElem h];exact List.getElem_mem _
theorem Q9z (N:Nat) (max:Int) (C:List Int) (t:TH):(t.step N max C).1.budget=t.budget:=by
 unfold TH.step
 split<;>rfl
theorem TH.Ok.le {N m m':Nat} {t:TH} (h:t.Ok N m) (hm:m<=m'):t.Ok N m':=⟨h.play,h.ok,h.tape,Nat.le_trans h.len hm,h.done⟩
theorem IX.Ok.pick {N m:Nat} {s:IX} (h:s.Ok N m) {i:Nat} (hi:i<s.T.length):(s.pick N i).Ok N (m+1):=by
 unfold IX.pick
 split
 ·rename_i hb;have ht:=h.thr _ (Q2F (d:=TH.nil) hi) hb;obtain ⟨h1,h2,_⟩:=TH.step_cells ht h.cb h.fit h.max;refine ⟨h1,h2,h.max,fun t hm hb2=> ?_,fun t hm=> ?_⟩
  ·rcases List.mem_or_eq_of_mem_set hm with hm|hm
   ·exact (h.thr t hm hb2).le (by omega)
   ·subst hm;exact ht.step h.cb h.fit h.max hb2
  ·rcases List.mem_or_eq_of_mem_set hm with hm|hm
   ·exact h.bud t hm
   ·subst hm;rw[Q9z];exact h.bud _ (Q2F hi)
 ·exact ⟨h.cb,h.fit,h.max,fun t hm hb=>(h.thr t hm hb).le (by omega),h.bud⟩
theorem IX.pick_len (N:Nat) (s:IX) (i:Nat):(s.pick N i).T.length=s.T.length:=by unfold IX.pick;split<;>simp
theorem IX.pick_max (N:Nat) (s:IX) (i:Nat):(s.pick N i).max=s.max:=by unfold IX.pick;split<;>rfl
def Q86 (own:Nat->Nat) (xb bm:Nat) (tbs:List Nat) (s:IX) (k:Nat) (b:Bool) (w:World) (e:Ending) (w':World):Prop:=(∃rv,e=.returned (.tuple #[rv,.bool b])/\Qhc rv)/\IxPost own xb bm tbs s k w w'
theorem Q9H (own:Nat->Nat) (xb bm:Nat) (tbs:List Nat) (s:IX) (k:Nat) (i:Nat) (w:World) (h:IxP own xb bm tbs s k w) (hi:i<tbs.length) (hb:(s.T.getD i TH.nil).busy=false):
  Calls Tryz.prog 114 #[.pointer (some ⟨xb,0,none⟩),.int .i64 i] w (Q86 own xb bm tbs s k false w):=by
 obtain ⟨a0,a1,a2,tv,lv,ln,lxs,inv,picks,h,hk⟩:=h;have hba:=((Below.refl w.heap.size w).alloc (Nat.le_refl _) (.cells rZ 54));have h1:=h.below hba;obtain ⟨g,cap,rfl,_,_⟩:=h.row.form (by omega);have e4:(w.alloc (.cells rZ 54)).cell? ⟨xb,4,none⟩=some (.slice (some ⟨g,0,none⟩) tbs.length cap):=h1.blk.cell 4
 have eg:(w.alloc (.cells rZ 54)).cell? ⟨g,i,none⟩=some (Q2M (tbs.getD i 0)):=by
  rw[h1.row.cellAt i (by simp;omega)]
  rw[List.getElem?_map,List.getElem?_eq_getElem hi]
  simp[List.getD_eq_getElem?_getD,List.getElem?_eq_getElem hi]
 obtain ⟨kind,key,val,fv,steps,took,no,hq⟩:=h1.th i hi;have e1:(w.alloc (.cells rZ 54)).cell? ⟨tbs.getD i 0,1,none⟩=some (.bool (s.T.getD i TH.nil).busy):=hq.blk.cell 1
 rw[hb] at e1
 have hi2:(i:Int)<tbs.length:=by omega
 have HH:Hid (IxPost own xb bm tbs s k w (w.alloc (.cells rZ 54))):=LH ⟨own,⟨_,_,_,_,_,_,_,_,_,h1,hk⟩,Chg.of_below hba,fun y hy=>.inl hy⟩;clear h h1 hba hq;unfold Q2M at eg;generalize tbs.getD i 0=tb at eg e1;go_enter Tryz.func114,Tryz.ntmps114;go_wp2_with (fail);refine bodyPost_ret (v:=.tuple #[.agg rZ,.bool false]) (Q1w rfl _ _ _ w.heap.size 54 _ (0,0) _ rfl rfl (Blk.new w _ _) Tryz.underlying54 rfl (by kernel_rfl)) rfl ?_;exact ⟨⟨_,rfl,_,_,_,_,_,_,_,_,rfl⟩,HH.out⟩
def Qhk (own:Nat->Nat) (xb bm:Nat) (tbs:List Nat) (s:IX) (a0 a1 a2:Int) (tv lv:Value) (ln:Nat) (lxs:List Value) (inv picks:Int) (w2 w2' w3:World):Prop:=
 (∃own',(∀y,own' y≠0->own y≠0\/w2.heap.size<=y)/\IxQ own' xb bm tbs s a0 a1 a2 tv lv ln lxs inv picks w3/\Chg (fun y=>own y≠0) w2 w3/\∀y,w2.heap.size<=y->y<w2'.heap.size->own' y=0)/\(Blk w2' w2.heap.size 54 Qe5->Blk w3 w2.heap.size 54 Qe5)
def Qgp (own:Nat->Nat) (xb bm:Nat) (tbs:List Nat) (s:IX) (a0 a1 a2:Int) (tv lv:Value) (ln:Nat) (lxs:List Value) (inv picks:Int) (w2:World) (b:Bool) (v6 v7:Value) (w3:World):Prop:=
 ∃(rbk:Nat) (ra:Int) (rb:Bool) (rc rd rn:Int) (rA:Option Addr) (rl rk:Nat),v6=.pointer (some ⟨rbk,0,none⟩)/\v7=.bool b/\w2.heap.size<=rbk/\Blk w3 rbk 54 #[.int .i64 ra,.bool rb,.int .i64 rc,.int .i64 rd,.int .i64 rn,.slice rA rl rk]/\
 ∃own',(∀y,own' y≠0->own y≠0\/w2.heap.size<=y)/\IxQ own' xb bm tbs s a0 a1 a2 tv lv ln lxs inv picks w3/\Chg (fun y=>own y≠0) w2 w3/\own' rbk=0
theorem QcQ {own:Nat->Nat} {xb bm:Nat} {tbs:List Nat} {s:IX} {a0 a1 a2:Int} {tv lv:Value} {ln:Nat} {lxs:List Value} {inv picks:Int} {w2 w3:World} {n0:Nat} (h:∃own',(∀y,own' y≠0->own y≠0\/w2.heap.size<=y)/\IxQ own' xb bm tbs s a0 a1 a2 tv lv ln lxs inv picks w3/\Chg (fun y=>own y≠0) w2 w3/\∀y,w2.heap.size<=y->y<n0->own' y=0) (b:Bool) (ra:Int) (rb:Bool) (rc rd rn:Int) (rA:Option Addr) (rl rk:Nat):
  Qgp own xb bm tbs s a0 a1 a2 tv lv ln lxs inv picks w2 b (.pointer (some ⟨w3.heap.size,0,none⟩)) (.bool b) (w3.alloc (.cells #[.int .i64 ra,.bool rb,.int .i64 rc,.int .i64 rd,.int .i64 rn,.slice rA rl rk] 54)):=by
 obtain ⟨own',hg',hq',hc',hz'⟩:=h;refine ⟨w3.heap.size,ra,rb,rc,rd,rn,rA,rl,rk,rfl,rfl,hc'.size,Blk.new w3 _ _,fun y=>if y=w3.heap.size then 0 else own' y,fun y hy=> ?_, ?_,hc'.trans (Chg.of_below ((Below.refl _ _).alloc (Nat.le_refl _) _)),if_pos rfl⟩
 ·by_cases e:y=w3.heap.size
  ·simp[e] at hy
  ·simp only[if_neg e] at hy;exact hg' y hy
 ·exact (hq'.reown (fun y hy=>if_neg (by omega))).below ((Below.refl _ _).alloc (Nat.le_refl _) _)
theorem QcP {own:Nat->Nat} {xb bm:Nat} {tbs:List Nat} {s:IX} {a0 a1 a2:Int} {tv lv:Value} {ln:Nat} {lxs:List Value} {inv picks:Int} {w2 w3:World} {n0:Nat} (h:∃own',(∀y,own' y≠0->own y≠0\/w2.heap.size<=y)/\IxQ own' xb bm tbs s a0 a1 a2 tv lv ln lxs inv picks w3/\Chg (fun y=>own y≠0) w2 w3/\∀y,w2.heap.size<=y->y<n0->own' y=0) (h0:w2.heap.size<n0) (hb:Blk w3 w2.heap.size 54 Qe5) (b:Bool) (ra:Int) (rb:Bool) (rc rd rn:Int) (rA:Option Addr) (rl rk:Nat):
  Qgp own xb bm tbs s a0 a1 a2 tv lv ln lxs inv picks w2 b (.pointer (some ⟨w2.heap.size,0,none⟩)) (.bool b) ((((((w3.setCell ⟨w2.heap.size,0,none⟩ (.int .i64 ra)).setCell ⟨w2.heap.size,1,none⟩ (.bool rb)).setCell ⟨w2.heap.size,2,none⟩ (.int .i64 rc)).setCell ⟨w2.heap.size,3,none⟩ (.int .i64 rd)).setCell ⟨w2.heap.size,4,none⟩ (.int .i64 rn)).setCell ⟨w2.heap.size,5,none⟩ (.slice rA rl rk)):=by
 obtain ⟨own',hg',hq',hc',hz'⟩:=h;have hm:=Chg.setCells w2.heap.size [.int .i64 ra,.bool rb,.int .i64 rc,.int .i64 rd,.int .i64 rn,.slice rA rl rk] 0 w3;have hbb:=Blk.setCells [.int .i64 ra,.bool rb,.int .i64 rc,.int .i64 rd,.int .i64 rn,.slice rA rl rk] 0 _ _ hb;have hz:=hz' _ (Nat.le_refl _) h0;refine ⟨w2.heap.size,ra,rb,rc,rd,rn,rA,rl,rk,rfl,rfl,Nat.le_refl _,hbb,own',hg',hq'.chg hm (fun y h1 h2=>h1 (by rw[h2];exact hz)),hc'.grow hm (fun y hy=>.inr (by omega)),hz⟩
theorem Qbn (N m:Nat) (own:Nat->Nat) (xb bm:Nat) (tbs:List Nat) (s:IX) (k:Nat) (i:Nat) (w:World) (h:IxP own xb bm tbs s k w) (hzero:∀y,w.heap.size<=y->own y=0) (hi:i<tbs.length) (hb:(s.T.getD i TH.nil).busy=true) (ok:s.Ok N m) (hmN:m+2<N) (hmm:m<=1000000) (hk0:k<=900000000) (hn:tbs.length<=64):
  Calls Tryz.prog 114 #[.pointer (some ⟨xb,0,none⟩),.int .i64 i] w (Q86 own xb bm tbs (s.pick N i) (k+tbs.length+1) (s.ends N i) w):=by
 obtain ⟨i0,hi0,hz0,hz1,hz2⟩:=info_parts Q3T;obtain ⟨a0,a1,a2,tv,lv,ln,lxs,inv,picks,h,hk⟩:=h;have hba:=((Below.refl w.heap.size w).alloc (Nat.le_refl _) (.cells rZ 54));have h1:=h.below hba;obtain ⟨g,cap,rfl,_,_⟩:=h.row.form (by omega);have e4:(w.alloc (.cells rZ 54)).cell? ⟨xb,4,none⟩=some (.slice (some ⟨g,0,none⟩) tbs.length cap):=h1.blk.cell 4;have e7:(w.alloc (.cells rZ 54)).cell? ⟨xb,7,none⟩=some (.int .i64 picks):=h1.blk.cell 7;have f7:=h1.blk.frozen 7
 have eg:(w.alloc (.cells rZ 54)).cell? ⟨g,i,none⟩=some (Q2M (tbs.getD i 0)):=by
  rw[h1.row.cellAt i (by simp;omega)]
  rw[List.getElem?_map,List.getElem?_eq_getElem hi]
  simp[List.getD_eq_getElem?_getD,List.getElem?_eq_getElem hi]
 obtain ⟨kind,key,val,fv,steps,took,no,hq⟩:=h1.th i hi;have e1:(w.alloc (.cells rZ 54)).cell? ⟨tbs.getD i 0,1,none⟩=some (.bool (s.T.getD i TH.nil).busy):=hq.blk.cell 1
 rw[hb] at e1
 have hi2:(i:Int)<tbs.length:=by omega
 have h2:=h1.set 7 (.int .i64 (wrap64 (picks+1))) (inv':=inv) (picks':=wrap64 (picks+1)) rfl;have hc2:=(Chg.of_below hba).trans ((Chg.set1 (w.alloc (.cells rZ 54)) xb 7 (.int .i64 (wrap64 (picks+1)))).mono (G:=fun y=>own y≠0) (fun y hy=>by rw[hy,h.ox];decide));have hox:=hzero w.heap.size (Nat.le_refl _);have HZERO:=LH hox;have hrb:Blk ((w.alloc (.cells rZ 54)).setCell ⟨xb,7,none⟩ (.int .i64 (wrap64 (picks+1)))) w.heap.size 54 Qe5:=(Chg.set1 (w.alloc (.cells rZ 54)) xb 7 (.int .i64 (wrap64 (picks+1)))).blk (Blk.new w _ _) (by have:=h.blk.lt;omega);have hsz:w.heap.size<((w.alloc (.cells rZ 54)).setCell ⟨xb,7,none⟩ (.int .i64 (wrap64 (picks+1)))).heap.size:=hrb.lt;have hil:i<s.T.length:=by rw[<-h.len];exact hi
 have htok:=ok.thr _ (Q2F (d:=TH.nil) hil) hb;have HW2:=LH h2;have HC2:=LH hc2;have HRB:=LH hrb;have HOK:=LH ok;have HTOK:=LH htok;have HBUSY:=LH hb;have HSZ:=LH hsz;clear h h1 hba hq h2 hc2 hrb ok htok hb hsz hox hil;unfold Q2M at eg;generalize htb:tbs.getD i 0=tb at eg e1;have HTB:=LH htb;clear htb;go_enter Tryz.func114,Tryz.ntmps114;go_wp2_with (fail);clear e4 e7 f7 eg e1;generalize ((w.alloc (.cells rZ 54)).setCell ⟨xb,7,none⟩ (.int .i64 (wrap64 (picks+1))))=w2 at HW2 HC2 HRB HSZ|-;have e4:w2.cell? ⟨xb,4,none⟩=some (.slice (some ⟨g,0,none⟩) tbs.length cap):=HW2.out.blk.cell 4;have e3:w2.cell? ⟨xb,3,none⟩=some (.pointer (some ⟨bm,0,none⟩)):=HW2.out.blk.cell 3
 have eg:w2.cell? ⟨g,i,none⟩=some (.pointer (some ⟨tb,0,none⟩)):=by
  rw[HW2.out.row.cellAt i (by simp;omega)]
  rw[List.getElem?_map,List.getElem?_eq_getElem hi,<-HTB.out]
  simp[Q2M,List.getD_eq_getElem?_getD,List.getElem?_eq_getElem hi]
 have STEPW:Hid (∀w2',Below w2.heap.size w2 w2'->Calls Tryz.prog 174 #[.pointer (some ⟨tb,0,none⟩),.pointer (some ⟨bm,0,none⟩)] w2' (fun e w3=>(∃rv,e=.returned (.tuple #[rv,.bool (s.ends N i)])/\Qhc rv)/\Qhk own xb bm tbs (s.pick N i) a0 a1 a2 (.slice (some ⟨g,0,none⟩) tbs.length cap) lv ln lxs inv (wrap64 (picks+1)) w2 w2' w3)):=LH (fun w2' hb2=>by
  have h1:=(HW2.out.th i hi).within.below hb2;have h2:=HW2.out.mem.within.below hb2
  rw[HTB.out] at h1
  refine (Qb1 N m _ _ tb bm _ _ _ _ h1 h2 (fun y h1 h2=>by have:=h1.1;have:=h2.1;omega) HBUSY.out HTOK.out hmN hmm HOK.out.cb HOK.out.fit HOK.out.max).mono fun e w3 hp=> ?_;obtain ⟨⟨rv,rfl,hrv⟩,F',Fm',hth,hmm3,hd3,hF3,hFm3,hc3⟩:=hp;have hz:=hb2.size;refine ⟨⟨rv, ?_,hrv⟩, ?_,fun hbk=>hc3.blk hbk (fun e=>by rcases e with e|e<;>exact Nat.lt_irrefl _ e.2)⟩
  ·unfold IX.ends;rw[HBUSY.out];rfl
  ·have hcc:Chg (fun y=>own y=3+i\/own y=2) w2 w3:=(Chg.of_below hb2).grow hc3 (fun y hy=>.inl (hy.imp (fun h=>h.1) (fun h=>h.1)));obtain ⟨own',hg',hq',hz'⟩:=HW2.out.step hi w2'.heap.size hz (by rw[HTB.out];exact hth) hmm3 hd3 hF3 hFm3 hcc;refine ⟨own',hg', ?_,hcc.mono (fun y hy=>by rcases hy with hy|hy<;>rw[hy]<;>omega),hz'⟩;unfold IX.pick
   rw[if_pos HBUSY.out]
   exact hq')
 have n1:=World.new_ne w2 ⟨xb,3,none⟩ e3;have n2:=World.new_ne w2 ⟨g,i,none⟩ eg;have hbx:xb<w2.heap.size:=HW2.out.blk.lt;have hbg:g<w2.heap.size:=World.block_lt_of_cell? w2 _ eg;have HB1:Hid (Below w2.heap.size w2 w2.drew):=LH (Q0d (Drawn.of w2 1) _);have HB2:Hid (Below w2.heap.size w2 (w2.alloc (.cells rZ 54)).drew):=LH (((Below.refl w2.heap.size w2).alloc (Nat.le_refl _) _).trans (Q0d (Drawn.of _ 1) _));have HBZ:Hid (Blk (w2.alloc (.cells rZ 54)).drew w2.heap.size 54 Qe5):=LH ((Blk.new w2 54 Qe5).below (B:=(w2.alloc (.cells Qe5 54)).heap.size) (Q0d (Drawn.of _ 1) _) (Blk.new w2 54 Qe5).lt)
 go_cut [6,7] from 8 to 54 (fun v6 v7 wx=>Qgp own xb bm tbs (s.pick N i) a0 a1 a2 (.slice (some ⟨g,0,none⟩) tbs.length cap) lv ln lxs inv (wrap64 (picks+1)) w2 (s.ends N i) v6 v7 wx)
 case first=>
  go_region_law ((go_simp;go_at_call 174;(first|((with_reducible refine (STEPW.out _ HB1.out).mono ?_);rintro e w3 ⟨⟨rv,rfl,ra,rb,rc,rd,rn,rA,rl,rk,rfl⟩,hpk⟩;have HPK:=LH hpk.1;clear hpk)|((with_reducible refine (STEPW.out _ HB2.out).mono ?_);rintro e w3 ⟨⟨rv,rfl,ra,rb,rc,rd,rn,rA,rl,rk,rfl⟩,hpk⟩;have HPK:=LH hpk.1;have HRR:=hpk.2 HBZ.out;clear hpk;have q0:w3.cell? ⟨w2.heap.size,0,none⟩=some (.int .i64 0):=HRR.cell 0;have q1:w3.cell? ⟨w2.heap.size,1,none⟩=some (.bool false):=HRR.cell 1;have q2:w3.cell? ⟨w2.heap.size,2,none⟩=some (.int .i64 0):=HRR.cell 2;have q3:w3.cell? ⟨w2.heap.size,3,none⟩=some (.int .i64 0):=HRR.cell 3;have q4:w3.cell? ⟨w2.heap.size,4,none⟩=some (.int .i64 0):=HRR.cell 4;have q5:w3.cell? ⟨w2.heap.size,5,none⟩=some (.slice none 0 0):=HRR.cell 5;have r0:=HRR.frozen 0;have r1:=HRR.frozen 1;have r2:=HRR.frozen 2;have r3:=HRR.frozen 3;have r4:=HRR.frozen 4;have r5:=HRR.frozen 5))))
  all_goals
   go_wp2_with (fail)
   go_meet
   first
    |exact QcQ HPK.out _ _ _ _ _ _ _ _ _
    |exact QcP HPK.out (by simp) HRR _ _ _ _ _ _ _ _ _
 case rest=>
  obtain ⟨rbk,ra,rb,rc,rd,rn,rA,rl,rk,rfl,rfl,hrk,hbk,own1,hg1,hq1,hc1,hz1⟩:=hcut;have hne1:own w.heap.size≠0->False:=fun h=>h HZERO.out
  have hn0:own1 w.heap.size≠0->False:=fun h=>by
   rcases hg1 _ h with h1|h1
   ·exact hne1 h1
   ·have:=HSZ.out;omega
  have hT:=hc1.blk HRB.out hne1;have HC3:=LH ((HC2.out.trans hc1));have hpk:=HOK.out.pick (i:=i) (by have:=HW2.out.len;omega);have hfit:(s.pick N i).C.length<=1000000:=by have h1:=hpk.fit;have h2:=hpk.max;omega
  have hne3:w.heap.size≠rbk:=by have:=HSZ.out;omega
  have hip:IxP own1 xb bm tbs (s.pick N i) k wc:=⟨_,_,_,_,_,_,_,_,_,hq1,hk⟩;clear hpk e4 e3 eg STEPW n1 n2 HB1 HB2 HBZ HRB;go_wp2_with (fail);with_reducible refine (Qcj own1 xb bm tbs (s.pick N i) k _ hip hfit (by omega) hn).mono ?_
  rintro e w4 ⟨rfl,own2,⟨b0,b1,b2,tv2,lv2,ln2,lxs2,inv2,picks2,h4,hk4⟩,hc4,hg4⟩;have HT4:=LH (hc4.blk hT hn0);have HR4:=LH (hc4.blk hbk (fun h=>h hz1))
  have hg24:∀y,own2 y≠0->own y≠0\/w.heap.size<=y:=fun y hy=>by
   rcases hg4 y hy with h1|h1
   ·rcases hg1 y h1 with h2|h2
    ·exact .inl h2
    ·exact .inr (by have:=HSZ.out;omega)
   ·exact .inr (by have:=HC3.out.size;omega)
  have hc24:Chg (fun y=>own y≠0) w w4:=HC3.out.grow hc4 (fun y hy=>by
   rcases hg1 y hy with h2|h2
   ·exact .inl h2
   ·exact .inr (by have:=HSZ.out;omega))
  have hn2:own2 w.heap.size≠0->False:=fun h=>by
   rcases hg4 _ h with h1|h1
   ·exact hn0 h1
   ·have:=hT.lt;omega
  have hn2r:own2 rbk≠0->False:=fun h=>by
   rcases hg4 _ h with h1|h1
   ·exact h1 hz1
   ·have:=hbk.lt;omega
  have H4:=LH h4;have HG24:=LH hg24;have HC24:=LH hc24;have HN2:=LH hn2;have HN2R:=LH hn2r;clear hT hbk hq1 hc1 hz1 hc4 hg4 h4 hg1 hn0 hne1 hfit hg24 hc24 hn2 hn2r;obtain ⟨en,hen⟩:∃en,s.ends N i=en:=⟨_,rfl⟩
  rw[hen]
  have HEN:=LH hen;clear hen
  cases en with
  |false=>
   go_wp2_with (first|((with_reducible refine (show wpList _ _ _ ((Oper.mk none (.store _ (.tmp 4) _) _ _ _ _)::_) _ _ from ?_));refine wpList_store_row rfl 54 (.tmp 4) (.tmp 59) rfl w.heap.size rZ rfl rfl _ _ HT4.out (by kernel_rfl) rfl (by simp[Value.oneCell']) ?_));refine bodyPost_ret (v:=.tuple #[.agg rZ,.bool false]) (Q1w rfl _ _ _ w.heap.size 54 _ (0,0) _ rfl rfl (HT4.out.setRow _) Tryz.underlying54 rfl (by kernel_rfl)) rfl ?_;have hcr:Chg (fun y=>y=w.heap.size) w4 (w4.setRow w.heap.size rZ):=Chg.setRow _ _ _
   rw[HEN.out]
   refine ⟨⟨_,rfl,_,_,_,_,_,_,_,_,rfl⟩,own2,⟨_,_,_,_,_,_,_,_,_,H4.out.chg hcr (fun y h1 h2=>HN2.out (h2▸h1)),by omega⟩,HC24.out.grow hcr (fun y hy=>.inr (by omega)),HG24.out⟩
  |true=>
   obtain ⟨lA,lc,rfl⟩:=Q06 H4.out.log;obtain ⟨g2,cap2,rfl,_,_⟩:=H4.out.row.form (by omega);have g5:w4.cell? ⟨xb,5,none⟩=some (.slice lA ln2 lc):=H4.out.blk.cell 5;have g7:w4.cell? ⟨xb,7,none⟩=some (.int .i64 picks2):=H4.out.blk.cell 7;have g4:w4.cell? ⟨xb,4,none⟩=some (.slice (some ⟨g2,0,none⟩) tbs.length cap2):=H4.out.blk.cell 4
   have eg:w4.cell? ⟨g2,i,none⟩=some (.pointer (some ⟨tb,0,none⟩)):=by
    rw[H4.out.row.cellAt i (by simp;omega)]
    rw[List.getElem?_map,List.getElem?_eq_getElem hi,<-HTB.out]
    simp[Q2M,List.getD_eq_getElem?_getD,List.getElem?_eq_getElem hi]
   obtain ⟨kind2,key2,val2,fv2,steps2,took2,no2,hq2⟩:=H4.out.th i hi
   rw[HTB.out] at hq2
   have e8:w4.cell? ⟨tb,8,none⟩=some (.int .i64 no2):=hq2.blk.cell 8;have ntb:(Value.slice lA ln2 lc).ownBlock≠some tb:=fun e=>by have h1:=H4.out.logo tb e;have h2:=hq2.ft;omega
   have htl:tb<w4.heap.size:=hq2.blk.lt;clear hq2;have q0:w4.cell? ⟨rbk,0,none⟩=some (.int .i64 ra):=HR4.out.cell 0;have q1:w4.cell? ⟨rbk,1,none⟩=some (.bool rb):=HR4.out.cell 1;have q2:w4.cell? ⟨rbk,2,none⟩=some (.int .i64 rc):=HR4.out.cell 2;have q3:w4.cell? ⟨rbk,3,none⟩=some (.int .i64 rd):=HR4.out.cell 3;have q4:w4.cell? ⟨rbk,4,none⟩=some (.int .i64 rn):=HR4.out.cell 4;have q5:w4.cell? ⟨rbk,5,none⟩=some (.slice rA rl rk):=HR4.out.cell 5;have nxb:(Value.slice lA ln2 lc).ownBlock≠some xb:=fun e=>Q0o H4.out.log H4.out.blk (by decide) e;have nrb:(Value.slice lA ln2 lc).ownBlock≠some rbk:=fun e=>HN2R.out (by rw[H4.out.logo rbk e];decide)
   have ngb:(Value.slice lA ln2 lc).ownBlock≠some g2:=fun e=>by
    obtain ⟨cs,hb⟩:=Q1s H4.out.log e;exact Q0o H4.out.row hb (by decide) rfl
   have hbl1:xb<w4.heap.size:=H4.out.blk.lt;have hgl:g2<w4.heap.size:=World.block_lt_of_cell? w4 _ eg;have hrl:rbk<w4.heap.size:=HR4.out.lt;have o1:tb≠xb:=fun e=>by have h1:=H4.out.ox;obtain ⟨_,_,_,_,_,_,_,h2⟩:=H4.out.th i hi;have h3:=h2.ft;rw[HTB.out,e] at h3;omega
   have o2:g2≠xb:=fun e=>Q0o H4.out.row H4.out.blk (by decide) (by rw[e];rfl);have o3:rbk≠xb:=fun e=>HN2R.out (by rw[e,H4.out.ox];decide)
   have HS:Hid (∀w5,Chg (fun y=>(Value.slice lA ln2 lc).ownBlock=some y) w4 w5->(w5.cell? ⟨xb,7,none⟩=some (.int .i64 picks2)/\w5.cell? ⟨xb,4,none⟩=some (.slice (some ⟨g2,0,none⟩) tbs.length cap2)/\w5.cell? ⟨g2,i,none⟩=some (.pointer (some ⟨tb,0,none⟩))/\w5.cell? ⟨tb,8,none⟩=some (.int .i64 no2)/\w5.cell? ⟨rbk,0,none⟩=some (.int .i64 ra)/\w5.cell? ⟨rbk,1,none⟩=some (.bool rb)/\w5.cell? ⟨rbk,2,none⟩=some (.int .i64 rc)/\w5.cell? ⟨rbk,3,none⟩=some (.int .i64 rd)/\w5.cell? ⟨rbk,4,none⟩=some (.int .i64 rn)/\w5.cell? ⟨rbk,5,none⟩=some (.slice rA rl rk))/\∀u,((w5.setCell ⟨xb,5,none⟩ u).cell? ⟨xb,7,none⟩=some (.int .i64 picks2)/\(w5.setCell ⟨xb,5,none⟩ u).cell? ⟨xb,4,none⟩=some (.slice (some ⟨g2,0,none⟩) tbs.length cap2)/\(w5.setCell ⟨xb,5,none⟩ u).cell? ⟨g2,i,none⟩=some (.pointer (some ⟨tb,0,none⟩))/\(w5.setCell ⟨xb,5,none⟩ u).cell? ⟨tb,8,none⟩=some (.int .i64 no2)/\(w5.setCell ⟨xb,5,none⟩ u).cell? ⟨rbk,0,none⟩=some (.int .i64 ra)/\(w5.setCell ⟨xb,5,none⟩ u).cell? ⟨rbk,1,none⟩=some (.bool rb)/\(w5.setCell ⟨xb,5,none⟩ u).cell? ⟨rbk,2,none⟩=some (.int .i64 rc)/\(w5.setCell ⟨xb,5,none⟩ u).cell? ⟨rbk,3,none⟩=some (.int .i64 rd)/\(w5.setCell ⟨xb,5,none⟩ u).cell? ⟨rbk,4,none⟩=some (.int .i64 rn)/\(w5.setCell ⟨xb,5,none⟩ u).cell? ⟨rbk,5,none⟩=some (.slice rA rl rk))):=LH (fun w5 hc=>by
    have s1:w5.cell? ⟨xb,7,none⟩=some (.int .i64 picks2)/\w5.cell? ⟨xb,4,none⟩=some (.slice (some ⟨g2,0,none⟩) tbs.length cap2)/\w5.cell? ⟨g2,i,none⟩=some (.pointer (some ⟨tb,0,none⟩))/\w5.cell? ⟨tb,8,none⟩=some (.int .i64 no2)/\w5.cell? ⟨rbk,0,none⟩=some (.int .i64 ra)/\w5.cell? ⟨rbk,1,none⟩=some (.bool rb)/\w5.cell? ⟨rbk,2,none⟩=some (.int .i64 rc)/\w5.cell? ⟨rbk,3,none⟩=some (.int .i64 rd)/\w5.cell? ⟨rbk,4,none⟩=some (.int .i64 rn)/\w5.cell? ⟨rbk,5,none⟩=some (.slice rA rl rk):=⟨(hc.cell_ hbl1 nxb).trans g7,(hc.cell_ hbl1 nxb).trans g4,(hc.cell_ hgl ngb).trans eg,(hc.cell_ htl ntb).trans e8,(hc.cell_ hrl nrb).trans q0,(hc.cell_ hrl nrb).trans q1,(hc.cell_ hrl nrb).trans q2,(hc.cell_ hrl nrb).trans q3,(hc.cell_ hrl nrb).trans q4,(hc.cell_ hrl nrb).trans q5⟩;refine ⟨s1,fun u=> ?_⟩;obtain ⟨a1,a2,a3,a4,a5,a6,a7,a8,a9,a10⟩:=s1;have far:∀(q:Addr) (v:Value),w5.cell? q=some v->(⟨xb,5,none⟩:Addr)≠q->(w5.setCell ⟨xb,5,none⟩ u).cell? q=some v:=fun q v hq hne=>(World.cell?_setCell_other w5 ⟨xb,5,none⟩ q u hne).trans hq;exact ⟨far _ _ a1 (by simp),far _ _ a2 (by simp),far _ _ a3 (fun e=>o2 (by injection e with e1;exact e1.symm)),far _ _ a4 (fun e=>o1 (by injection e with e1;exact e1.symm)),far _ _ a5 (fun e=>o3 (by injection e with e1;exact e1.symm)),far _ _ a6 (fun e=>o3 (by injection e with e1;exact e1.symm)),far _ _ a7 (fun e=>o3 (by injection e with e1;exact e1.symm)),far _ _ a8 (fun e=>o3 (by injection e with e1;exact e1.symm)),far _ _ a9 (fun e=>o3 (by injection e with e1;exact e1.symm)),far _ _ a10 (by simp)⟩)
   have EV:=H4.out.ev3 [.int .i64 3,.int .i64 i,.int .i64 no2,.int .i64 0,.int .i64 0,.int .i64 0,.int .i64 ra,.bool rb,.int .i64 rc,.int .i64 rd,.int .i64 rn,.slice rA rl rk,.int .i64 picks2];have n1:=World.new_ne w4 ⟨xb,5,none⟩ g5;have n2:=World.new_ne w4 ⟨g2,i,none⟩ eg;have n3:=World.new_ne w4 ⟨tb,8,none⟩ e8;have n4:=World.new_ne w4 ⟨rbk,0,none⟩ q0;have n5:=World.new_ne w4 ⟨xb,7,none⟩ g7;clear hip;go_upto_region 8 with fail;refine wp_region_held_drew (S:=fun w'=>w'.cell? ⟨xb,7,none⟩=some (.int .i64 picks2)/\w'.cell? ⟨xb,4,none⟩=some (.slice (some ⟨g2,0,none⟩) tbs.length cap2)/\w'.cell? ⟨g2,i,none⟩=some (.pointer (some ⟨tb,0,none⟩))/\w'.cell? ⟨tb,8,none⟩=some (.int .i64 no2)/\w'.cell? ⟨rbk,0,none⟩=some (.int .i64 ra)/\w'.cell? ⟨rbk,1,none⟩=some (.bool rb)/\w'.cell? ⟨rbk,2,none⟩=some (.int .i64 rc)/\w'.cell? ⟨rbk,3,none⟩=some (.int .i64 rd)/\w'.cell? ⟨rbk,4,none⟩=some (.int .i64 rn)/\w'.cell? ⟨rbk,5,none⟩=some (.slice rA rl rk)) (by kernel_rfl) ?_ (fun hHeld=> ?_)
   ·go_keep
   refine wpAnyH_take (i:=0) (v:= ?_) rfl (by kernel_rfl) (by kernel_rfl) (by kernel_rfl) (fun _ _ _ h=>h) (Or.inl ⟨by rfl, ?_⟩) (by assumption) ?_
   rotate_left
   ·(intro w hSw;(try dsimp only at hSw);go_simp;try with_reducible rfl)
   simp only[Act.put,List.setIfInBounds_toArray,List.set_cons_zero,List.set_cons_succ];refine wpAnyH_take (i:=1) (v:= ?_) rfl (by kernel_rfl) (by kernel_rfl) (by kernel_rfl) (fun _ _ _ h=>h) (Or.inl ⟨by rfl, ?_⟩) (by assumption) ?_
   rotate_left
   ·(intro w hSw;(try dsimp only at hSw);go_simp;try with_reducible rfl)
   simp only[Act.put,List.setIfInBounds_toArray,List.set_cons_zero,List.set_cons_succ];refine wpAnyH_take (i:=2) (v:= ?_) rfl (by kernel_rfl) (by kernel_rfl) (by kernel_rfl) (fun _ _ _ h=>h) (Or.inl ⟨by rfl, ?_⟩) (by assumption) ?_
   rotate_left
   ·(intro w hSw;(try dsimp only at hSw);go_simp;try with_reducible rfl)
   simp only[Act.put,List.setIfInBounds_toArray,List.set_cons_zero,List.set_cons_succ];refine wpAnyH_take (i:=3) (v:= ?_) rfl (by kernel_rfl) (by kernel_rfl) (by kernel_rfl) (fun _ _ _ h=>h) (Or.inl ⟨by rfl, ?_⟩) (by assumption) ?_
   rotate_left
   ·(intro w hSw;(try dsimp only at hSw);go_simp;try with_reducible rfl)
   simp only[Act.put,List.setIfInBounds_toArray,List.set_cons_zero,List.set_cons_succ];refine wpAnyH_take (i:=5) (v:= ?_) rfl (by kernel_rfl) (by kernel_rfl) (by kernel_rfl) (fun _ _ _ h=>h) (Or.inl ⟨by rfl, ?_⟩) (by assumption) ?_
   rotate_left
   ·(intro w hSw;(try dsimp only at hSw);go_simp;try with_reducible rfl)
   simp only[Act.put,List.setIfInBounds_toArray,List.set_cons_zero,List.set_cons_succ];refine wpAnyH_take (i:=6) (v:= ?_) rfl (by kernel_rfl) (by kernel_rfl) (by kernel_rfl) (fun _ _ _ h=>h) (Or.inl ⟨by rfl, ?_⟩) (by assumption) ?_
   rotate_left
   ·(intro w hSw;(try dsimp only at hSw);go_simp;try with_reducible rfl)
   simp only[Act.put,List.setIfInBounds_toArray,List.set_cons_zero,List.set_cons_succ];refine wpAnyH_take (i:=7) (v:= ?_) rfl (by kernel_rfl) (by kernel_rfl) (by kernel_rfl) (fun _ _ _ h=>h) (Or.inl ⟨by rfl, ?_⟩) (by assumption) ?_
   rotate_left
   ·(intro w hSw;(try dsimp only at hSw);go_simp;try with_reducible rfl)
   simp only[Act.put,List.setIfInBounds_toArray,List.set_cons_zero,List.set_cons_succ];refine wpAnyH_take (i:=8) (v:= ?_) rfl (by kernel_rfl) (by kernel_rfl) (by kernel_rfl) (fun _ _ _ h=>h) (Or.inl ⟨by rfl, ?_⟩) (by assumption) ?_
   rotate_left
   ·(intro w hSw;(try dsimp only at hSw);go_simp;try with_reducible rfl)
   simp only[Act.put,List.setIfInBounds_toArray,List.set_cons_zero,List.set_cons_succ];refine wpAnyH_take (i:=9) (v:= ?_) rfl (by kernel_rfl) (by kernel_rfl) (by kernel_rfl) (fun _ _ _ h=>h) (Or.inl ⟨by rfl, ?_⟩) (by assumption) ?_
   rotate_left
   ·(intro w hSw;(try dsimp only at hSw);go_simp;try with_reducible rfl)
   simp only[Act.put,List.setIfInBounds_toArray,List.set_cons_zero,List.set_cons_succ];refine wpAnyH_take (i:=10) (v:= ?_) rfl (by kernel_rfl) (by kernel_rfl) (by kernel_rfl) (fun _ _ _ h=>h) (Or.inl ⟨by rfl, ?_⟩) (by assumption) ?_
   rotate_left
   ·(intro w hSw;(try dsimp only at hSw);go_simp;try with_reducible rfl)
   simp only[Act.put,List.setIfInBounds_toArray,List.set_cons_zero,List.set_cons_succ];refine wpAnyH_take (i:=11) (v:= ?_) rfl (by kernel_rfl) (by kernel_rfl) (by kernel_rfl) (fun _ _ _ h=>h) (Or.inl ⟨by rfl, ?_⟩) (by assumption) ?_
   rotate_left
   ·(intro w hSw;(try dsimp only at hSw);go_simp;try with_reducible rfl)
   simp only[Act.put,List.setIfInBounds_toArray,List.set_cons_zero,List.set_cons_succ];refine wpAnyH_take (i:=12) (v:= ?_) rfl (by kernel_rfl) (by kernel_rfl) (by kernel_rfl) (fun _ _ _ h=>h) (Or.inl ⟨by rfl, ?_⟩) (by assumption) ?_
   rotate_left
   ·(intro w hSw;(try dsimp only at hSw);go_simp;try with_reducible rfl)
   simp only[Act.put,List.setIfInBounds_toArray,List.set_cons_zero,List.set_cons_succ];refine wpAnyH_take (i:=13) (v:= ?_) rfl (by kernel_rfl) (by kernel_rfl) (by kernel_rfl) (fun _ _ _ h=>h) (Or.inl ⟨by rfl, ?_⟩) (by assumption) ?_
   rotate_left
   ·(intro w hSw;(try dsimp only at hSw);go_simp;try with_reducible rfl)
   simp only[Act.put,List.setIfInBounds_toArray,List.set_cons_zero,List.set_cons_succ];refine wpAnyH_take (i:=14) (v:= ?_) rfl (by kernel_rfl) (by kernel_rfl) (by kernel_rfl) (fun _ _ _ h=>h) (Or.inl ⟨by rfl, ?_⟩) (by assumption) ?_
   rotate_left
   ·(intro w hSw;(try dsimp only at hSw);go_simp;try with_reducible rfl)
   simp only[Act.put,List.setIfInBounds_toArray,List.set_cons_zero,List.set_cons_succ];refine wpAnyH_take (i:=15) (v:= ?_) rfl (by kernel_rfl) (by kernel_rfl) (by kernel_rfl) (fun _ _ _ h=>h) (Or.inl ⟨by rfl, ?_⟩) (by assumption) ?_
   rotate_left
   ·(intro w hSw;(try dsimp only at hSw);go_simp;try with_reducible rfl)
   simp only[Act.put,List.setIfInBounds_toArray,List.set_cons_zero,List.set_cons_succ];refine wpAnyH_take (i:=16) (v:= ?_) rfl (by kernel_rfl) (by kernel_rfl) (by kernel_rfl) (fun _ _ _ h=>h) (Or.inl ⟨by rfl, ?_⟩) (by assumption) ?_
   rotate_left
   ·(intro w hSw;(try dsimp only at hSw);go_simp;try with_reducible rfl)
   simp only[Act.put,List.setIfInBounds_toArray,List.set_cons_zero,List.set_cons_succ];refine wpAnyH_take (i:=17) (v:= ?_) rfl (by kernel_rfl) (by kernel_rfl) (by kernel_rfl) (fun _ _ _ h=>h) (Or.inl ⟨by rfl, ?_⟩) (by assumption) ?_
   rotate_left
   ·(intro w hSw;(try dsimp only at hSw);go_simp;try with_reducible rfl)
   simp only[Act.put,List.setIfInBounds_toArray,List.set_cons_zero,List.set_cons_succ];refine wpAnyH_take (i:=18) (v:= ?_) rfl (by kernel_rfl) (by kernel_rfl) (by kernel_rfl) (fun _ _ _ h=>h) (Or.inl ⟨by rfl, ?_⟩) (by assumption) ?_
   rotate_left
   ·(intro w hSw;(try dsimp only at hSw);go_simp;try with_reducible rfl)
   simp only[Act.put,List.setIfInBounds_toArray,List.set_cons_zero,List.set_cons_succ];refine wpAnyH_take (i:=19) (v:= ?_) rfl (by kernel_rfl) (by kernel_rfl) (by kernel_rfl) (fun _ _ _ h=>h) (Or.inl ⟨by rfl, ?_⟩) (by assumption) ?_
   rotate_left
   ·(intro w hSw;(try dsimp only at hSw);go_simp;try with_reducible rfl)
   simp only[Act.put,List.setIfInBounds_toArray,List.set_cons_zero,List.set_cons_succ];refine wpAnyH_take (i:=20) (v:= ?_) rfl (by kernel_rfl) (by kernel_rfl) (by kernel_rfl) (fun _ _ _ h=>h) (Or.inl ⟨by rfl, ?_⟩) (by assumption) ?_
   rotate_left
   ·(intro w hSw;(try dsimp only at hSw);go_simp;try with_reducible rfl)
   simp only[Act.put,List.setIfInBounds_toArray,List.set_cons_zero,List.set_cons_succ];refine wpAnyH_take (i:=21) (v:= ?_) rfl (by kernel_rfl) (by kernel_rfl) (by kernel_rfl) (fun _ _ _ h=>h) (Or.inl ⟨by rfl, ?_⟩) (by assumption) ?_
   rotate_left
   ·(intro w hSw;(try dsimp only at hSw);go_simp;try with_reducible rfl)
   simp only[Act.put,List.setIfInBounds_toArray,List.set_cons_zero,List.set_cons_succ];refine wpAnyH_ready (rs:=[4,22]) (by kernel_rfl) (by simp) ?_;refine AllReadyH.cons rfl (fun K hK=> ?_) (AllReadyH.cons rfl (fun K hK=> ?_) AllReadyH.nil)
   ·go_simp
    refine hK.out _ _ ?_ (fun hHeld=> ?_)
    ·go_keep
    clear hK K
    try simp only[Act.put,List.setIfInBounds_toArray,List.set_cons_zero,List.set_cons_succ]
    refine wpAnyH_ready (rs:=[22]) (by kernel_rfl) (by simp) ?_;refine AllReadyH.cons rfl (fun K hK=> ?_) AllReadyH.nil
    go_simp
    refine hK.out _ _ ?_ (fun hHeld=> ?_)
    ·go_keep
    clear hK K
    try simp only[Act.put,List.setIfInBounds_toArray,List.set_cons_zero,List.set_cons_succ]
    refine wpAnyH_ready (rs:=[23]) (by kernel_rfl) (by simp) ?_;refine AllReadyH.cons rfl (fun K hK=> ?_) AllReadyH.nil;refine step_append_lies _ (by rfl) _ _ _ (by rfl) 0 218 i0 _ 13 120 Tryz.underlying88 hi0 hz0 hz1 hz2 rfl (by omega) (.slice lA ln2 lc) ln2 lxs2 (by rfl) EV.out.1 ⟨w4.heap.size,0,none⟩ 1 1 [.int .i64 3,.int .i64 i,.int .i64 no2,.int .i64 0,.int .i64 0,.int .i64 0,.int .i64 ra,.bool rb,.int .i64 rc,.int .i64 rd,.int .i64 rn,.slice rA rl rk,.int .i64 picks2] (by rfl) (by rfl) EV.out.2.1 (by simp[Value.oneCell']) (by omega) (by unfold maxLen;omega) (by omega) (by omega) (w4.heap.size+1) (by simp) ?_;intro gg cap3 w6 hO6 hg6 hat hlt6;have K6:=EV.out.2.2 w4.heap.size gg cap3 w6 (Nat.le_refl _) hO6 hg6 (hat.imp id (fun e=>by omega));have c5:=K6.out.1;have f5:=K6.out.2.1;have K51:=LH (HS.out w6 K6.out.2.2.2.2).1;have K52:=LH ((HS.out w6 K6.out.2.2.2.2).2 (.slice (some ⟨gg,0,none⟩) (ln2+1) cap3));clear hO6 hg6 hat hlt6;refine hK.out _ _ ?_ (fun hHeld=> ?_)
    ·exact K51.out
    clear hK K
    try simp only[Act.put,List.setIfInBounds_toArray,List.set_cons_zero,List.set_cons_succ]
    refine wpAnyH_take (i:=24) (v:= ?_) rfl (by kernel_rfl) (by kernel_rfl) (by kernel_rfl) (fun _ _ _ h=>h) (Or.inl ⟨by rfl, ?_⟩) (by assumption) ?_
    rotate_left
    ·(intro w hSw;(try dsimp only at hSw);go_simp;try with_reducible rfl)
    simp only[Act.put,List.setIfInBounds_toArray,List.set_cons_zero,List.set_cons_succ];refine wpAnyH_take (i:=25) (v:= ?_) rfl (by kernel_rfl) (by kernel_rfl) (by kernel_rfl) (fun _ _ _ h=>h) (Or.inl ⟨by rfl, ?_⟩) (by assumption) ?_
    rotate_left
    ·(intro w hSw;(try dsimp only at hSw);go_simp;try with_reducible rfl)
    simp only[Act.put,List.setIfInBounds_toArray,List.set_cons_zero,List.set_cons_succ];refine wpAnyH_ready (rs:=[26]) (by kernel_rfl) (by simp) ?_;refine AllReadyH.cons rfl (fun K hK=> ?_) AllReadyH.nil
    go_simp
    refine hK.out _ _ ?_ (fun hHeld=> ?_)
    ·exact K52.out
    clear hK K
    try simp only[Act.put,List.setIfInBounds_toArray,List.set_cons_zero,List.set_cons_succ]
    refine wpAnyH_done (by kernel_rfl) ?_ _;have HT7:=LH (K6.out.2.2.2.1.blk HT4.out (fun h=>HN2.out (by rw[h];decide)));have HR7:=LH (K6.out.2.2.2.1.blk HR4.out (fun h=>HN2R.out (by rw[h];decide)));have H7:=LH K6.out.2.2.1;have HK7:=LH K6.out.2.2.2.1;have HLT4:=LH HT4.out.lt;clear K6 c5 f5 EV g5 g7 g4 eg e8 q0 q1 q2 q3 q4 q5 hHeld K51 K52 HS;go_wp2_with (first|((with_reducible refine (show wpList _ _ _ ((Oper.mk (some 86) (.load _ _) _ _ _ _)::_) _ _ from ?_));refine wpList_load_row rfl 54 (.tmp 6) rfl rbk rfl _ _ (0,0) _ HR7.out Tryz.underlying54 rfl (by kernel_rfl) ?_)|((with_reducible refine (show wpList _ _ _ ((Oper.mk none (.store _ (.tmp 4) _) _ _ _ _)::_) _ _ from ?_));refine wpList_store_row rfl 54 (.tmp 4) (.tmp 86) rfl w.heap.size #[.int .i64 ra,.bool rb,.int .i64 rc,.int .i64 rd,.int .i64 rn,.slice rA rl rk] rfl rfl _ _ HT7.out (by kernel_rfl) rfl (by simp[Value.oneCell']) ?_));refine bodyPost_ret (v:=.tuple #[.agg #[.int .i64 ra,.bool rb,.int .i64 rc,.int .i64 rd,.int .i64 rn,.slice rA rl rk],.bool true]) (Q1w rfl _ _ _ w.heap.size 54 _ (0,0) _ rfl rfl (HT7.out.setRow _) Tryz.underlying54 rfl (by kernel_rfl)) rfl ?_
    rw[HEN.out]
    have hcr:Chg (fun y=>y=w.heap.size) (w6.setCell ⟨xb,5,none⟩ (.slice (some ⟨gg,0,none⟩) (ln2+1) cap3)) ((w6.setCell ⟨xb,5,none⟩ (.slice (some ⟨gg,0,none⟩) (ln2+1) cap3)).setRow w.heap.size #[.int .i64 ra,.bool rb,.int .i64 rc,.int .i64 rd,.int .i64 rn,.slice rA rl rk]):=Chg.setRow _ _ _;have hz6:w.heap.size<w4.heap.size:=HLT4.out;refine ⟨⟨_,rfl,_,_,_,_,_,_,_,_,rfl⟩,Q9q own2 w4.heap.size 1,⟨_,_,_,_,_,_,_,_,_,H7.out.chg hcr (fun y h1 h2=> ?_),by omega⟩,(HC24.out.grow HK7.out (fun y hy=>HG24.out y (by rw[hy];decide))).grow hcr (fun y hy=>.inr (by omega)),fun y hy=> ?_⟩
    ·rw[h2,Q1k hz6] at h1
     exact HN2.out h1
    ·by_cases e:y<w4.heap.size
     ·rw[Q1k e] at hy;exact HG24.out y hy
     ·exact .inr (by omega)
   ·go_simp
    refine hK.out _ _ ?_ (fun hHeld=> ?_)
    ·go_keep
    clear hK K
    try simp only[Act.put,List.setIfInBounds_toArray,List.set_cons_zero,List.set_cons_succ]
    refine wpAnyH_ready (rs:=[4]) (by kernel_rfl) (by simp) ?_;refine AllReadyH.cons rfl (fun K hK=> ?_) AllReadyH.nil
    go_simp
    refine hK.out _ _ ?_ (fun hHeld=> ?_)
    ·go_keep
    clear hK K
    try simp only[Act.put,List.setIfInBounds_toArray,List.set_cons_zero,List.set_cons_succ]
    refine wpAnyH_ready (rs:=[23]) (by kernel_rfl) (by simp) ?_;refine AllReadyH.cons rfl (fun K hK=> ?_) AllReadyH.nil;refine step_append_lies _ (by rfl) _ _ _ (by rfl) 0 218 i0 _ 13 120 Tryz.underlying88 hi0 hz0 hz1 hz2 rfl (by omega) (.slice lA ln2 lc) ln2 lxs2 (by rfl) EV.out.1 ⟨w4.heap.size,0,none⟩ 1 1 [.int .i64 3,.int .i64 i,.int .i64 no2,.int .i64 0,.int .i64 0,.int .i64 0,.int .i64 ra,.bool rb,.int .i64 rc,.int .i64 rd,.int .i64 rn,.slice rA rl rk,.int .i64 picks2] (by rfl) (by rfl) EV.out.2.1 (by simp[Value.oneCell']) (by omega) (by unfold maxLen;omega) (by omega) (by omega) (w4.heap.size+1) (by simp) ?_;intro gg cap3 w6 hO6 hg6 hat hlt6;have K6:=EV.out.2.2 w4.heap.size gg cap3 w6 (Nat.le_refl _) hO6 hg6 (hat.imp id (fun e=>by omega));have c5:=K6.out.1;have f5:=K6.out.2.1;have K51:=LH (HS.out w6 K6.out.2.2.2.2).1;have K52:=LH ((HS.out w6 K6.out.2.2.2.2).2 (.slice (some ⟨gg,0,none⟩) (ln2+1) cap3));clear hO6 hg6 hat hlt6;refine hK.out _ _ ?_ (fun hHeld=> ?_)
    ·exact K51.out
    clear hK K
    try simp only[Act.put,List.setIfInBounds_toArray,List.set_cons_zero,List.set_cons_succ]
    refine wpAnyH_take (i:=24) (v:= ?_) rfl (by kernel_rfl) (by kernel_rfl) (by kernel_rfl) (fun _ _ _ h=>h) (Or.inl ⟨by rfl, ?_⟩) (by assumption) ?_
    rotate_left
    ·(intro w hSw;(try dsimp only at hSw);go_simp;try with_reducible rfl)
    simp only[Act.put,List.setIfInBounds_toArray,List.set_cons_zero,List.set_cons_succ];refine wpAnyH_take (i:=25) (v:= ?_) rfl (by kernel_rfl) (by kernel_rfl) (by kernel_rfl) (fun _ _ _ h=>h) (Or.inl ⟨by rfl, ?_⟩) (by assumption) ?_
    rotate_left
    ·(intro w hSw;(try dsimp only at hSw);go_simp;try with_reducible rfl)
    simp only[Act.put,List.setIfInBounds_toArray,List.set_cons_zero,List.set_cons_succ];refine wpAnyH_ready (rs:=[26]) (by kernel_rfl) (by simp) ?_;refine AllReadyH.cons rfl (fun K hK=> ?_) AllReadyH.nil
    go_simp
    refine hK.out _ _ ?_ (fun hHeld=> ?_)
    ·exact K52.out
    clear hK K
    try simp only[Act.put,List.setIfInBounds_toArray,List.set_cons_zero,List.set_cons_succ]
    refine wpAnyH_done (by kernel_rfl) ?_ _;have HT7:=LH (K6.out.2.2.2.1.blk HT4.out (fun h=>HN2.out (by rw[h];decide)));have HR7:=LH (K6.out.2.2.2.1.blk HR4.out (fun h=>HN2R.out (by rw[h];decide)));have H7:=LH K6.out.2.2.1;have HK7:=LH K6.out.2.2.2.1;have HLT4:=LH HT4.out.lt;clear K6 c5 f5 EV g5 g7 g4 eg e8 q0 q1 q2 q3 q4 q5 hHeld K51 K52 HS;go_wp2_with (first|((with_reducible refine (show wpList _ _ _ ((Oper.mk (some 86) (.load _ _) _ _ _ _)::_) _ _ from ?_));refine wpList_load_row rfl 54 (.tmp 6) rfl rbk rfl _ _ (0,0) _ HR7.out Tryz.underlying54 rfl (by kernel_rfl) ?_)|((with_reducible refine (show wpList _ _ _ ((Oper.mk none (.store _ (.tmp 4) _) _ _ _ _)::_) _ _ from ?_));refine wpList_store_row rfl 54 (.tmp 4) (.tmp 86) rfl w.heap.size #[.int .i64 ra,.bool rb,.int .i64 rc,.int .i64 rd,.int .i64 rn,.slice rA rl rk] rfl rfl _ _ HT7.out (by kernel_rfl) rfl (by simp[Value.oneCell']) ?_));refine bodyPost_ret (v:=.tuple #[.agg #[.int .i64 ra,.bool rb,.int .i64 rc,.int .i64 rd,.int .i64 rn,.slice rA rl rk],.bool true]) (Q1w rfl _ _ _ w.heap.size 54 _ (0,0) _ rfl rfl (HT7.out.setRow _) Tryz.underlying54 rfl (by kernel_rfl)) rfl ?_
    rw[HEN.out]
    have hcr:Chg (fun y=>y=w.heap.size) (w6.setCell ⟨xb,5,none⟩ (.slice (some ⟨gg,0,none⟩) (ln2+1) cap3)) ((w6.setCell ⟨xb,5,none⟩ (.slice (some ⟨gg,0,none⟩) (ln2+1) cap3)).setRow w.heap.size #[.int .i64 ra,.bool rb,.int .i64 rc,.int .i64 rd,.int .i64 rn,.slice rA rl rk]):=Chg.setRow _ _ _;have hz6:w.heap.size<w4.heap.size:=HLT4.out;refine ⟨⟨_,rfl,_,_,_,_,_,_,_,_,rfl⟩,Q9q own2 w4.heap.size 1,⟨_,_,_,_,_,_,_,_,_,H7.out.chg hcr (fun y h1 h2=> ?_),by omega⟩,(HC24.out.grow HK7.out (fun y hy=>HG24.out y (by rw[hy];decide))).grow hcr (fun y hy=>.inr (by omega)),fun y hy=> ?_⟩
    ·rw[h2,Q1k hz6] at h1
     exact HN2.out h1
    ·by_cases e:y<w4.heap.size
     ·rw[Q1k e] at hy;exact HG24.out y hy
     ·exact .inr (by omega)
theorem Qbo (N m:Nat) (own:Nat->Nat) (xb bm:Nat) (tbs:List Nat) (s:IX) (k:Nat) (i:Nat) (w:World) (h:IxP own xb bm tbs s k w) (hi:i<tbs.length) (ok:s.Ok N m) (hmN:m+2<N) (hmm:m<=1000000) (hk0:k<=900000000) (hn:tbs.length<=64):
  Calls Tryz.prog 114 #[.pointer (some ⟨xb,0,none⟩),.int .i64 i] w (Q86 own xb bm tbs (s.pick N i) (k+tbs.length+1) (s.ends N i) w):=by
 cases hb:(s.T.getD i TH.nil).busy with
 |false=>
  have e1:s.pick N i=s:=by unfold IX.pick;rw[hb];rfl
  have e2:s.ends N i=false:=by unfold IX.ends;rw[hb];rfl
  rw[e1,e2]
  refine (Q9H own xb bm tbs s k i w h hi hb).mono fun e w' hp=> ?_;exact ⟨hp.1,hp.2.le (by omega)⟩
 |true=>
  have h0:IxP (fun y=>if y<w.heap.size then own y else 0) xb bm tbs s k w:=by
   obtain ⟨a0,a1,a2,tv,lv,ln,lxs,inv,picks,h,hk⟩:=h;exact ⟨_,_,_,_,_,_,_,_,_,h.reown (fun y hy=>if_pos hy),hk⟩
  refine (Qbn N m (fun y=>if y<w.heap.size then own y else 0) xb bm tbs s k i w h0 (fun y hy=>if_neg (by omega)) hi hb ok hmN hmm hk0 hn).mono fun e w' hp=> ?_;obtain ⟨h1,o,h2,h3,h4⟩:=hp;refine ⟨h1,o,h2,h3.mono (fun y hy=> ?_),fun y hy=> ?_⟩
  ·have hy:(if y<w.heap.size then own y else 0)≠0:=hy;by_cases e:y<w.heap.size
   ·rw[if_pos e] at hy;exact hy
   ·rw[if_neg e] at hy;exact absurd rfl hy
  ·rcases h4 y hy with h5|h5
   ·have h5:(if y<w.heap.size then own y else 0)≠0:=h5;by_cases e:y<w.heap.size
    ·rw[if_pos e] at h5;exact .inl h5
    ·rw[if_neg e] at h5;exact absurd rfl h5
   ·exact .inr h5
def TH.freshX (t:TH) (o:Op):FX:=⟨if 3<o.kind then 25 else 24,0,t.budget,0,⟨0,0,false,0,false⟩,[],o⟩
def TH.fresh (N:Nat) (t:TH) (o:Op):TH:=t.begun o (((t.freshX o).tree N).go ⟨[],0,false,Q34⟩).1 (((t.freshX o).tree N).go ⟨[],0,false,Q34⟩).2.off
def IX.invoke (N:Nat) (s:IX) (i:Nat) (o:Op):IX:=if (s.T.getD i TH.nil).busy=true then s else {s with T:=s.T.set i ((s.T.getD i TH.nil).fresh N o)}
def Qaa (own:Nat->Nat) (xb bm:Nat) (tbs:List Nat) (s:IX) (k:Nat) (w:World) (e:Ending) (w':World):Prop:=(∃n,e=.returned (.int .i64 n))/\IxPost own xb bm tbs s k w w'
theorem IxP.zero {own:Nat->Nat} {xb bm:Nat} {tbs:List Nat} {s:IX} {k:Nat} {w:World} (h:IxP own xb bm tbs s k w):IxP (fun y=>if y<w.heap.size then own y else 0) xb bm tbs s k w:=by
 obtain ⟨a0,a1,a2,tv,lv,ln,lxs,inv,picks,h,hk⟩:=h;exact ⟨_,_,_,_,_,_,_,_,_,h.reown (fun y hy=>if_pos hy),hk⟩
theorem IxPost.zero {own:Nat->Nat} {xb bm:Nat} {tbs:List Nat} {s:IX} {k:Nat} {w w':World} (h:IxPost (fun y=>if y<w.heap.size then own y else 0) xb bm tbs s k w w'):IxPost own xb bm tbs s k w w':=by
 obtain ⟨o,h2,h3,h4⟩:=h;refine ⟨o,h2,h3.mono (fun y hy=> ?_),fun y hy=> ?_⟩
 ·have hy:(if y<w.heap.size then own y else 0)≠0:=hy;by_cases e:y<w.heap.size
  ·rw[if_pos e] at hy;exact hy
  ·rw[if_neg e] at hy;exact absurd rfl hy
 ·rcases h4 y hy with h5|h5
  ·have h5:(if y<w.heap.size then own y else 0)≠0:=h5;by_cases e:y<w.heap.size
   ·rw[if_pos e] at h5;exact .inl h5
   ·rw[if_neg e] at h5;exact absurd rfl h5
  ·exact .inr h5
theorem Q7H (own:Nat->Nat) (xb bm:Nat) (tbs:List Nat) (s:IX) (k:Nat) (i:Nat) (o:Op) (w:World) (h:IxP own xb bm tbs s k w) (hi:i<tbs.length) (hb:(s.T.getD i TH.nil).busy=true):
  Calls Tryz.prog 112 #[.pointer (some ⟨xb,0,none⟩),.int .i64 i,.agg #[.int .i64 o.kind,.int .i64 o.key,.int .i64 o.val]] w (Qaa own xb bm tbs s k w):=by
 obtain ⟨a0,a1,a2,tv,lv,ln,lxs,inv,picks,h,hk⟩:=h;have hba:=((Below.refl w.heap.size w).alloc (Nat.le_refl _) (.cells #[.int .i64 o.kind,.int .i64 o.key,.int .i64 o.val] 48));have h1:=h.below hba;obtain ⟨g,cap,rfl,_,_⟩:=h.row.form (by omega);have e4:(w.alloc (.cells #[.int .i64 o.kind,.int .i64 o.key,.int .i64 o.val] 48)).cell? ⟨xb,4,none⟩=some (.slice (some ⟨g,0,none⟩) tbs.length cap):=h1.blk.cell 4
 have eg:(w.alloc (.cells #[.int .i64 o.kind,.int .i64 o.key,.int .i64 o.val] 48)).cell? ⟨g,i,none⟩=some (Q2M (tbs.getD i 0)):=by
  rw[h1.row.cellAt i (by simp;omega)]
  rw[List.getElem?_map,List.getElem?_eq_getElem hi]
  simp[List.getD_eq_getElem?_getD,List.getElem?_eq_getElem hi]
 have ho1:=Blk.new w 48 #[.int .i64 o.kind,.int .i64 o.key,.int .i64 o.val];have p0:(w.alloc (.cells #[.int .i64 o.kind,.int .i64 o.key,.int .i64 o.val] 48)).cell? ⟨w.heap.size,0,none⟩=some (.int .i64 o.kind):=ho1.cell 0;have p1:(w.alloc (.cells #[.int .i64 o.kind,.int .i64 o.key,.int .i64 o.val] 48)).cell? ⟨w.heap.size,1,none⟩=some (.int .i64 o.key):=ho1.cell 1;have p2:(w.alloc (.cells #[.int .i64 o.kind,.int .i64 o.key,.int .i64 o.val] 48)).cell? ⟨w.heap.size,2,none⟩=some (.int .i64 o.val):=ho1.cell 2;have hi2:(i:Int)<tbs.length:=by omega
 have H1:=LH h1;have HBA:=LH hba;clear h h1 hba ho1;unfold Q2M at eg;generalize htb:tbs.getD i 0=tb at eg;have HTB:=LH htb;clear htb;go_enter Tryz.func112,Tryz.ntmps112;go_wp2_with (fail);generalize (w.alloc (.cells #[.int .i64 o.kind,.int .i64 o.key,.int .i64 o.val] 48))=w1 at H1 HBA e4 eg p0 p1 p2|-
 have BEGW:Hid (∀w2,Below w1.heap.size w1 w2->Calls Tryz.prog 173 #[.pointer (some ⟨tb,0,none⟩),.agg #[.int .i64 o.kind,.int .i64 o.key,.int .i64 o.val]] w2 (fun e w3=>e=.returned (.int .i64 4)/\IxPost own xb bm tbs s k w w3)):=LH (fun w2 hb2=>by
  have ht:=(H1.out.th i hi).below hb2
  rw[HTB.out] at ht
  refine (Q9j _ tb _ o w2 ht hb).mono fun e w3 hp=> ?_;have hb3:Chg (fun _=>False) w1 w3:=(Chg.of_below hb2).trans (Chg.of_below hp.2);exact ⟨hp.1,own,⟨_,_,_,_,_,_,_,_,_,H1.out.chg hb3 (fun _ _ h=>h),hk⟩,(Chg.of_below HBA.out).trans (hb3.mono (fun _ h=>h.elim)),fun y hy=>.inl hy⟩)
 have HB1:Hid (Below w1.heap.size w1 w1.drew):=LH (Q0d (Drawn.of w1 1) _)
 go_cut [7] from 8 to 27 (fun v7 wx=>v7=.int .i64 4/\IxPost own xb bm tbs s k w wx)
 case first=>
  go_region_law ((go_simp;go_at_call 173;(with_reducible refine (BEGW.out _ HB1.out).mono ?_);rintro e w3 ⟨rfl,hpk⟩;have HPK:=LH hpk;clear hpk))
  all_goals
   go_wp2_with (fail)
   go_meet
   exact ⟨rfl,HPK.out⟩
 case rest=>
  obtain ⟨rfl,hp⟩:=hcut;have HP:=LH hp;clear hp e4 eg p0 p1 p2 BEGW HB1;go_wp2_with (fail);go_ret;exact ⟨⟨_,rfl⟩,HP.out⟩
def Qhs (own:Nat->Nat) (xb bm:Nat) (tbs:List Nat) (s:IX) (a0 a1 a2:Int) (tv lv:Value) (ln:Nat) (lxs:List Value) (inv picks:Int) (w1 w3:World):Prop:=
 ∃own',(∀y,own' y≠0->own y≠0\/w1.heap.size<=y)/\IxQ own' xb bm tbs s a0 a1 a2 tv lv ln lxs inv picks w3/\Chg (fun y=>own y≠0) w1 w3
theorem Q8R (N:Nat) (own:Nat->Nat) (xb bm:Nat) (tbs:List Nat) (s:IX) (k:Nat) (i:Nat) (o:Op) (w:World) (h:IxP own xb bm tbs s k w) (hzero:∀y,w.heap.size<=y->own y=0) (hi:i<tbs.length) (hb:(s.T.getD i TH.nil).busy=false) (k1:1<=o.kind) (k2:o.kind<=10) (b1:1<=(s.T.getD i TH.nil).budget) (b2:(s.T.getD i TH.nil).budget<=64) (hN:1<N) (hP:Q85 N ((s.T.getD i TH.nil).freshX o)) (hk0:k<=900000000) (hn:tbs.length<=64):
  Calls Tryz.prog 112 #[.pointer (some ⟨xb,0,none⟩),.int .i64 i,.agg #[.int .i64 o.kind,.int .i64 o.key,.int .i64 o.val]] w (Qaa own xb bm tbs (s.invoke N i o) (k+1) w):=by
 obtain ⟨i0,hi0,hz0,hz1,hz2⟩:=info_parts Q3T;obtain ⟨a0,a1,a2,tv,lv,ln,lxs,inv,picks,h,hk⟩:=h;have hba:=((Below.refl w.heap.size w).alloc (Nat.le_refl _) (.cells #[.int .i64 o.kind,.int .i64 o.key,.int .i64 o.val] 48));have h1:=h.below hba;obtain ⟨g,cap,rfl,_,_⟩:=h.row.form (by omega);have e4:(w.alloc (.cells #[.int .i64 o.kind,.int .i64 o.key,.int .i64 o.val] 48)).cell? ⟨xb,4,none⟩=some (.slice (some ⟨g,0,none⟩) tbs.length cap):=h1.blk.cell 4
 have eg:(w.alloc (.cells #[.int .i64 o.kind,.int .i64 o.key,.int .i64 o.val] 48)).cell? ⟨g,i,none⟩=some (Q2M (tbs.getD i 0)):=by
  rw[h1.row.cellAt i (by simp;omega)]
  rw[List.getElem?_map,List.getElem?_eq_getElem hi]
  simp[List.getD_eq_getElem?_getD,List.getElem?_eq_getElem hi]
 have ho1:=Blk.new w 48 #[.int .i64 o.kind,.int .i64 o.key,.int .i64 o.val];have p0:(w.alloc (.cells #[.int .i64 o.kind,.int .i64 o.key,.int .i64 o.val] 48)).cell? ⟨w.heap.size,0,none⟩=some (.int .i64 o.kind):=ho1.cell 0;have p1:(w.alloc (.cells #[.int .i64 o.kind,.int .i64 o.key,.int .i64 o.val] 48)).cell? ⟨w.heap.size,1,none⟩=some (.int .i64 o.key):=ho1.cell 1;have p2:(w.alloc (.cells #[.int .i64 o.kind,.int .i64 o.key,.int .i64 o.val] 48)).cell? ⟨w.heap.size,2,none⟩=some (.int .i64 o.val):=ho1.cell 2;have hi2:(i:Int)<tbs.length:=by omega
 have HZERO:=LH (hzero w.heap.size (Nat.le_refl _));have HSZ:=LH ho1.lt;have H1:=LH h1;have HBA:=LH hba;have HO1:=LH ho1;clear h h1 hba ho1;unfold Q2M at eg;generalize htb:tbs.getD i 0=tb at eg;have HTB:=LH htb;clear htb;go_enter Tryz.func112,Tryz.ntmps112;go_wp2_with (fail);generalize (w.alloc (.cells #[.int .i64 o.kind,.int .i64 o.key,.int .i64 o.val] 48))=w1 at H1 HBA HO1 HSZ e4 eg p0 p1 p2|-
 have BEGW:Hid (∀w2,Below w1.heap.size w1 w2->Calls Tryz.prog 173 #[.pointer (some ⟨tb,0,none⟩),.agg #[.int .i64 o.kind,.int .i64 o.key,.int .i64 o.val]] w2 (fun e w3=>e=.returned (.int .i64 0)/\Qhs own xb bm tbs (s.invoke N i o) a0 a1 a2 (.slice (some ⟨g,0,none⟩) tbs.length cap) lv ln lxs inv picks w1 w3)):=LH (fun w2 hb2=>by
  have ht:=(H1.out.th i hi).within.below hb2
  rw[HTB.out] at ht
  have hm:=H1.out.mem.within.below hb2;refine (Qa5 N _ tb _ o w2 (((s.T.getD i TH.nil).freshX o).tree N|>.go ⟨[],0,false,Q34⟩).1 (((s.T.getD i TH.nil).freshX o).tree N|>.go ⟨[],0,false,Q34⟩).2 ht hb k1 k2 b1 b2 hN hP rfl).mono fun e w3 hp=> ?_;obtain ⟨he,hth,hc⟩:=hp;have hz:=hb2.size
  have htl:tb<w1.heap.size/\own tb=3+i:=by
   obtain ⟨_,_,_,_,_,_,_,hq⟩:=H1.out.th i hi
   rw[HTB.out] at hq
   exact ⟨hq.blk.lt,hq.ft⟩
  have hcc:Chg (fun y=>own y=3+i\/own y=2) w1 w3:=(Chg.of_below hb2).trans (hc.mono (fun y hy=>.inl (by rw[hy];exact htl.2)))
  obtain ⟨own',hg',hq',_⟩:=H1.out.step (C':=s.C) hi w2.heap.size hz (by rw[HTB.out];exact hth) (hm.chg hc (fun y h1 h2=>by rw[h2] at h1;have:=h1.1;omega)) (fun y h1 h2=>by
   rcases h1 with h1|h1
   ·have:=h1.1;have:=h2.1;omega
   ·have:=h2.2;omega) (fun y hy=>hy) (fun y hy=>.inl hy) hcc
  refine ⟨he,own',hg', ?_,hcc.mono (fun y hy=>by rcases hy with hy|hy<;>rw[hy]<;>omega)⟩;unfold IX.invoke
  rw[if_neg (by rw[hb];decide)]
  exact hq')
 have HB1:Hid (Below w1.heap.size w1 w1.drew):=LH (Q0d (Drawn.of w1 1) _)
 go_cut [7] from 8 to 27 (fun v7 wx=>v7=.int .i64 0/\Qhs own xb bm tbs (s.invoke N i o) a0 a1 a2 (.slice (some ⟨g,0,none⟩) tbs.length cap) lv ln lxs inv picks w1 wx)
 case first=>
  go_region_law ((go_simp;go_at_call 173;(with_reducible refine (BEGW.out _ HB1.out).mono ?_);rintro e w3 ⟨rfl,hpk⟩;have HPK:=LH hpk;clear hpk))
  all_goals
   go_wp2_with (fail)
   go_meet
   exact ⟨rfl,HPK.out⟩
 case rest=>
  obtain ⟨rfl,own1,hg1,hq1,hc1⟩:=hcut
  have hn1:own1 w.heap.size≠0->False:=fun h=>by
   rcases hg1 _ h with h1|h1
   ·exact h1 HZERO.out
   ·have:=HSZ.out;omega
  have hO:=hc1.blk HO1.out (fun h=>h HZERO.out)
  have hg01:∀y,own1 y≠0->own y≠0\/w.heap.size<=y:=fun y hy=>by
   rcases hg1 y hy with h1|h1
   ·exact .inl h1
   ·exact .inr (by have:=HSZ.out;omega)
  have hc01:Chg (fun y=>own y≠0) w wc:=(Chg.of_below HBA.out).trans hc1;have HO:=LH hO;have HN1:=LH hn1;have HG4:=LH hg01;have HC:=LH hc01;have HQ:=LH hq1;clear hO hn1 hg01 hc01 hg1 hc1 hq1 e4 eg p0 p1 p2 BEGW HB1 HO1 H1 HBA;obtain ⟨kind,key,val,fv,steps,took,no,hq⟩:=HQ.out.th i hi
  rw[HTB.out] at hq
  have e4:wc.cell? ⟨xb,4,none⟩=some (.slice (some ⟨g,0,none⟩) tbs.length cap):=HQ.out.blk.cell 4;have e6:wc.cell? ⟨xb,6,none⟩=some (.int .i64 inv):=HQ.out.blk.cell 6
  have eg:wc.cell? ⟨g,i,none⟩=some (.pointer (some ⟨tb,0,none⟩)):=by
   rw[HQ.out.row.cellAt i (by simp;omega)]
   rw[List.getElem?_map,List.getElem?_eq_getElem hi,<-HTB.out]
   simp[Q2M,List.getD_eq_getElem?_getD,List.getElem?_eq_getElem hi]
  have e8:wc.cell? ⟨tb,8,none⟩=some (.int .i64 no):=hq.blk.cell 8;have f8:=hq.blk.frozen 8;have hox:=HQ.out.ox;have hot:=hq.ft;have hog:=HQ.out.rowo g rfl;have o1:tb≠xb:=fun e=>by rw[e] at hot;omega
  have o2:tb≠g:=fun e=>by rw[e] at hot;omega
  have o3:g≠xb:=fun e=>Q0o HQ.out.row HQ.out.blk (by decide) (by rw[e];rfl);have hqs:=hq.set 8 (.int .i64 inv) (t':=(s.invoke N i o).T.getD i TH.nil) (fun h=>⟨h,rfl,rfl,rfl,rfl⟩) (kind':=kind) (key':=key) (val':=val) (steps':=steps) (took':=took) (no':=inv) rfl;have hcs:=Chg.set1 wc tb 8 (.int .i64 inv);have hbd:Below (wc.setCell ⟨tb,8,none⟩ (.int .i64 inv)).heap.size (wc.setCell ⟨tb,8,none⟩ (.int .i64 inv)) (wc.setCell ⟨tb,8,none⟩ (.int .i64 inv)).drew:=Q0d (Drawn.of _ 1) _;have hq3a:=HQ.out.thread_ hi (hcs.mono (fun y hy=>hy▸hot)) ⟨_,_,_,_,_,_,_,by rw[HTB.out];exact hqs⟩;have hq3:=hq3a.below hbd;have hq4a:=hq3a.set 6 (.int .i64 (wrap64 (inv+1))) (inv':=wrap64 (inv+1)) (picks':=picks) rfl;have hbd4:Below ((wc.setCell ⟨tb,8,none⟩ (.int .i64 inv)).setCell ⟨xb,6,none⟩ (.int .i64 (wrap64 (inv+1)))).heap.size ((wc.setCell ⟨tb,8,none⟩ (.int .i64 inv)).setCell ⟨xb,6,none⟩ (.int .i64 (wrap64 (inv+1)))) ((wc.setCell ⟨tb,8,none⟩ (.int .i64 inv)).setCell ⟨xb,6,none⟩ (.int .i64 (wrap64 (inv+1)))).drew:=Q0d (Drawn.of _ 1) _;have hq4:=hq4a.below hbd4;have hc4:Chg (fun y=>own1 y≠0) wc ((wc.setCell ⟨tb,8,none⟩ (.int .i64 inv)).setCell ⟨xb,6,none⟩ (.int .i64 (wrap64 (inv+1)))).drew:=((hcs.mono (fun y hy=>by rw[hy,hot];omega)).trans ((Chg.set1 _ xb 6 _).mono (fun y hy=>by rw[hy,hox];decide))).trans (Chg.of_below hbd4);have HO4:=LH (hc4.blk HO.out (fun h=>HN1.out h));have HQ4:=LH hq4;have HC4:=LH (HC.out.grow hc4 (fun y hy=>HG4.out y hy));have c6:(wc.setCell ⟨tb,8,none⟩ (.int .i64 inv)).drew.cell? ⟨xb,6,none⟩=some (.int .i64 inv):=hq3.blk.cell 6;have f6:=hq3.blk.frozen 6;have HQT:Hid (∃kind key val fv steps took,ThQ (fun y=>own1 y=3+i) tb ((s.invoke N i o).T.getD i TH.nil) kind key val fv steps took inv ((wc.setCell ⟨tb,8,none⟩ (.int .i64 inv)).setCell ⟨xb,6,none⟩ (.int .i64 (wrap64 (inv+1)))).drew):=LH ⟨_,_,_,_,_,_,(hqs.chg (Chg.set1 _ xb 6 _) (fun y h1 h2=>by rw[h2] at h1;omega)).below hbd4⟩;clear hq hqs hcs hq3 hq3a hq4a hq4 hc4 hbd hbd4 hox hot hog HQ HC HO;go_upto_region 6 with fail
  go_region_held3 (fun w'=>w'.cell? ⟨xb,4,none⟩=some (.slice (some ⟨g,0,none⟩) tbs.length cap)/\w'.cell? ⟨g,i,none⟩=some (.pointer (some ⟨tb,0,none⟩))/\w'.cell? ⟨xb,6,none⟩=some (.int .i64 inv)) (go_keep) (fail)
  go_upto_region 8 with fail;clear c6 f6 e4 e6 eg e8 f8;generalize ((wc.setCell ⟨tb,8,none⟩ (.int .i64 inv)).setCell ⟨xb,6,none⟩ (.int .i64 (wrap64 (inv+1)))).drew=w4 at HO4 HQ4 HC4 HQT|-;obtain ⟨lA,lc,rfl⟩:=Q06 HQ4.out.log;have g5:w4.cell? ⟨xb,5,none⟩=some (.slice lA ln lc):=HQ4.out.blk.cell 5;have g7:w4.cell? ⟨xb,7,none⟩=some (.int .i64 picks):=HQ4.out.blk.cell 7;have g4:w4.cell? ⟨xb,4,none⟩=some (.slice (some ⟨g,0,none⟩) tbs.length cap):=HQ4.out.blk.cell 4
  have eg:w4.cell? ⟨g,i,none⟩=some (.pointer (some ⟨tb,0,none⟩)):=by
   rw[HQ4.out.row.cellAt i (by simp;omega)]
   rw[List.getElem?_map,List.getElem?_eq_getElem hi,<-HTB.out]
   simp[Q2M,List.getD_eq_getElem?_getD,List.getElem?_eq_getElem hi]
  obtain ⟨_,_,_,_,_,_,hq2⟩:=HQT.out;have e8:w4.cell? ⟨tb,8,none⟩=some (.int .i64 inv):=hq2.blk.cell 8;have ntb:(Value.slice lA ln lc).ownBlock≠some tb:=fun e=>by have h1:=HQ4.out.logo tb e;have h2:=hq2.ft;omega
  have htl:tb<w4.heap.size:=hq2.blk.lt;clear hq2;have p0:w4.cell? ⟨w.heap.size,0,none⟩=some (.int .i64 o.kind):=HO4.out.cell 0;have p1:w4.cell? ⟨w.heap.size,1,none⟩=some (.int .i64 o.key):=HO4.out.cell 1;have p2:w4.cell? ⟨w.heap.size,2,none⟩=some (.int .i64 o.val):=HO4.out.cell 2;have nxb:(Value.slice lA ln lc).ownBlock≠some xb:=fun e=>Q0o HQ4.out.log HQ4.out.blk (by decide) e;have nob:(Value.slice lA ln lc).ownBlock≠some w.heap.size:=fun e=>HN1.out (by rw[HQ4.out.logo _ e];decide)
  have ngb:(Value.slice lA ln lc).ownBlock≠some g:=fun e=>by
   obtain ⟨cs,hb⟩:=Q1s HQ4.out.log e;exact Q0o HQ4.out.row hb (by decide) rfl
  have hbl1:xb<w4.heap.size:=HQ4.out.blk.lt;have hgl:g<w4.heap.size:=World.block_lt_of_cell? w4 _ eg;have hol:w.heap.size<w4.heap.size:=HO4.out.lt;have o4:w.heap.size≠xb:=fun e=>HN1.out (by rw[e,HQ4.out.ox];decide)
  have HS:Hid (∀w5,Chg (fun y=>(Value.slice lA ln lc).ownBlock=some y) w4 w5->(w5.cell? ⟨xb,7,none⟩=some (.int .i64 picks)/\w5.cell? ⟨xb,4,none⟩=some (.slice (some ⟨g,0,none⟩) tbs.length cap)/\w5.cell? ⟨g,i,none⟩=some (.pointer (some ⟨tb,0,none⟩))/\w5.cell? ⟨tb,8,none⟩=some (.int .i64 inv)/\w5.cell? ⟨w.heap.size,0,none⟩=some (.int .i64 o.kind)/\w5.cell? ⟨w.heap.size,1,none⟩=some (.int .i64 o.key)/\w5.cell? ⟨w.heap.size,2,none⟩=some (.int .i64 o.val))/\∀u,((w5.setCell ⟨xb,5,none⟩ u).cell? ⟨xb,7,none⟩=some (.int .i64 picks)/\(w5.setCell ⟨xb,5,none⟩ u).cell? ⟨xb,4,none⟩=some (.slice (some ⟨g,0,none⟩) tbs.length cap)/\(w5.setCell ⟨xb,5,none⟩ u).cell? ⟨g,i,none⟩=some (.pointer (some ⟨tb,0,none⟩))/\(w5.setCell ⟨xb,5,none⟩ u).cell? ⟨tb,8,none⟩=some (.int .i64 inv)/\(w5.setCell ⟨xb,5,none⟩ u).cell? ⟨w.heap.size,0,none⟩=some (.int .i64 o.kind)/\(w5.setCell ⟨xb,5,none⟩ u).cell? ⟨w.heap.size,1,none⟩=some (.int .i64 o.key)/\(w5.setCell ⟨xb,5,none⟩ u).cell? ⟨w.heap.size,2,none⟩=some (.int .i64 o.val))):=LH (fun w5 hc=>by
   have s1:w5.cell? ⟨xb,7,none⟩=some (.int .i64 picks)/\w5.cell? ⟨xb,4,none⟩=some (.slice (some ⟨g,0,none⟩) tbs.length cap)/\w5.cell? ⟨g,i,none⟩=some (.pointer (some ⟨tb,0,none⟩))/\w5.cell? ⟨tb,8,none⟩=some (.int .i64 inv)/\w5.cell? ⟨w.heap.size,0,none⟩=some (.int .i64 o.kind)/\w5.cell? ⟨w.heap.size,1,none⟩=some (.int .i64 o.key)/\w5.cell? ⟨w.heap.size,2,none⟩=some (.int .i64 o.val):=⟨(hc.cell_ hbl1 nxb).trans g7,(hc.cell_ hbl1 nxb).trans g4,(hc.cell_ hgl ngb).trans eg,(hc.cell_ htl ntb).trans e8,(hc.cell_ hol nob).trans p0,(hc.cell_ hol nob).trans p1,(hc.cell_ hol nob).trans p2⟩;refine ⟨s1,fun u=> ?_⟩;obtain ⟨a1,a2,a3,a4,a5,a6,a7⟩:=s1;have far:∀(q:Addr) (v:Value),w5.cell? q=some v->(⟨xb,5,none⟩:Addr)≠q->(w5.setCell ⟨xb,5,none⟩ u).cell? q=some v:=fun q v hq hne=>(World.cell?_setCell_other w5 ⟨xb,5,none⟩ q u hne).trans hq;exact ⟨far _ _ a1 (by simp),far _ _ a2 (by simp),far _ _ a3 (fun e=>o3 (by injection e with e1;exact e1.symm)),far _ _ a4 (fun e=>o1 (by injection e with e1;exact e1.symm)),far _ _ a5 (fun e=>o4 (by injection e with e1;exact e1.symm)),far _ _ a6 (fun e=>o4 (by injection e with e1;exact e1.symm)),far _ _ a7 (fun e=>o4 (by injection e with e1;exact e1.symm))⟩)
  have EV:=HQ4.out.ev3 [.int .i64 1,.int .i64 i,.int .i64 inv,.int .i64 o.kind,.int .i64 o.key,.int .i64 o.val,.int .i64 0,.bool false,.int .i64 0,.int .i64 0,.int .i64 0,.slice none 0 0,.int .i64 picks];have n1:=World.new_ne w4 ⟨xb,5,none⟩ g5;have n2:=World.new_ne w4 ⟨g,i,none⟩ eg;have n3:=World.new_ne w4 ⟨tb,8,none⟩ e8;have n4:=World.new_ne w4 ⟨w.heap.size,0,none⟩ p0;refine wp_region_held_drew (S:=fun w'=>w'.cell? ⟨xb,7,none⟩=some (.int .i64 picks)/\w'.cell? ⟨xb,4,none⟩=some (.slice (some ⟨g,0,none⟩) tbs.length cap)/\w'.cell? ⟨g,i,none⟩=some (.pointer (some ⟨tb,0,none⟩))/\w'.cell? ⟨tb,8,none⟩=some (.int .i64 inv)/\w'.cell? ⟨w.heap.size,0,none⟩=some (.int .i64 o.kind)/\w'.cell? ⟨w.heap.size,1,none⟩=some (.int .i64 o.key)/\w'.cell? ⟨w.heap.size,2,none⟩=some (.int .i64 o.val)) (by kernel_rfl) ?_ (fun hHeld=> ?_)
  ·go_keep
  refine wpAnyH_take (i:=0) (v:= ?_) rfl (by kernel_rfl) (by kernel_rfl) (by kernel_rfl) (fun _ _ _ h=>h) (Or.inl ⟨by rfl, ?_⟩) (by assumption) ?_
  rotate_left
  ·(intro w hSw;(try dsimp only at hSw);go_simp;try with_reducible rfl)
  simp only[Act.put,List.setIfInBounds_toArray,List.set_cons_zero,List.set_cons_succ];refine wpAnyH_take (i:=1) (v:= ?_) rfl (by kernel_rfl) (by kernel_rfl) (by kernel_rfl) (fun _ _ _ h=>h) (Or.inl ⟨by rfl, ?_⟩) (by assumption) ?_
  rotate_left
  ·(intro w hSw;(try dsimp only at hSw);go_simp;try with_reducible rfl)
  simp only[Act.put,List.setIfInBounds_toArray,List.set_cons_zero,List.set_cons_succ];refine wpAnyH_take (i:=2) (v:= ?_) rfl (by kernel_rfl) (by kernel_rfl) (by kernel_rfl) (fun _ _ _ h=>h) (Or.inl ⟨by rfl, ?_⟩) (by assumption) ?_
  rotate_left
  ·(intro w hSw;(try dsimp only at hSw);go_simp;try with_reducible rfl)
  simp only[Act.put,List.setIfInBounds_toArray,List.set_cons_zero,List.set_cons_succ];refine wpAnyH_take (i:=3) (v:= ?_) rfl (by kernel_rfl) (by kernel_rfl) (by kernel_rfl) (fun _ _ _ h=>h) (Or.inl ⟨by rfl, ?_⟩) (by assumption) ?_
  rotate_left
  ·(intro w hSw;(try dsimp only at hSw);go_simp;try with_reducible rfl)
  simp only[Act.put,List.setIfInBounds_toArray,List.set_cons_zero,List.set_cons_succ];refine wpAnyH_take (i:=5) (v:= ?_) rfl (by kernel_rfl) (by kernel_rfl) (by kernel_rfl) (fun _ _ _ h=>h) (Or.inl ⟨by rfl, ?_⟩) (by assumption) ?_
  rotate_left
  ·(intro w hSw;(try dsimp only at hSw);go_simp;try with_reducible rfl)
  simp only[Act.put,List.setIfInBounds_toArray,List.set_cons_zero,List.set_cons_succ];refine wpAnyH_take (i:=6) (v:= ?_) rfl (by kernel_rfl) (by kernel_rfl) (by kernel_rfl) (fun _ _ _ h=>h) (Or.inl ⟨by rfl, ?_⟩) (by assumption) ?_
  rotate_left
  ·(intro w hSw;(try dsimp only at hSw);go_simp;try with_reducible rfl)
  simp only[Act.put,List.setIfInBounds_toArray,List.set_cons_zero,List.set_cons_succ];refine wpAnyH_take (i:=7) (v:= ?_) rfl (by kernel_rfl) (by kernel_rfl) (by kernel_rfl) (fun _ _ _ h=>h) (Or.inl ⟨by rfl, ?_⟩) (by assumption) ?_
  rotate_left
  ·(intro w hSw;(try dsimp only at hSw);go_simp;try with_reducible rfl)
  simp only[Act.put,List.setIfInBounds_toArray,List.set_cons_zero,List.set_cons_succ];refine wpAnyH_take (i:=8) (v:= ?_) rfl (by kernel_rfl) (by kernel_rfl) (by kernel_rfl) (fun _ _ _ h=>h) (Or.inl ⟨by rfl, ?_⟩) (by assumption) ?_
  rotate_left
  ·(intro w hSw;(try dsimp only at hSw);go_simp;try with_reducible rfl)
  simp only[Act.put,List.setIfInBounds_toArray,List.set_cons_zero,List.set_cons_succ];refine wpAnyH_take (i:=9) (v:= ?_) rfl (by kernel_rfl) (by kernel_rfl) (by kernel_rfl) (fun _ _ _ h=>h) (Or.inl ⟨by rfl, ?_⟩) (by assumption) ?_
  rotate_left
  ·(intro w hSw;(try dsimp only at hSw);go_simp;try with_reducible rfl)
  simp only[Act.put,List.setIfInBounds_toArray,List.set_cons_zero,List.set_cons_succ];refine wpAnyH_take (i:=10) (v:= ?_) rfl (by kernel_rfl) (by kernel_rfl) (by kernel_rfl) (fun _ _ _ h=>h) (Or.inl ⟨by rfl, ?_⟩) (by assumption) ?_
  rotate_left
  ·(intro w hSw;(try dsimp only at hSw);go_simp;try with_reducible rfl)
  simp only[Act.put,List.setIfInBounds_toArray,List.set_cons_zero,List.set_cons_succ];refine wpAnyH_take (i:=11) (v:= ?_) rfl (by kernel_rfl) (by kernel_rfl) (by kernel_rfl) (fun _ _ _ h=>h) (Or.inl ⟨by rfl, ?_⟩) (by assumption) ?_
  rotate_left
  ·(intro w hSw;(try dsimp only at hSw);go_simp;try with_reducible rfl)
  simp only[Act.put,List.setIfInBounds_toArray,List.set_cons_zero,List.set_cons_succ];refine wpAnyH_take (i:=12) (v:= ?_) rfl (by kernel_rfl) (by kernel_rfl) (by kernel_rfl) (fun _ _ _ h=>h) (Or.inl ⟨by rfl, ?_⟩) (by assumption) ?_
  rotate_left
  ·(intro w hSw;(try dsimp only at hSw);go_simp;try with_reducible rfl)
  simp only[Act.put,List.setIfInBounds_toArray,List.set_cons_zero,List.set_cons_succ];refine wpAnyH_take (i:=13) (v:= ?_) rfl (by kernel_rfl) (by kernel_rfl) (by kernel_rfl) (fun _ _ _ h=>h) (Or.inl ⟨by rfl, ?_⟩) (by assumption) ?_
  rotate_left
  ·(intro w hSw;(try dsimp only at hSw);go_simp;try with_reducible rfl)
  simp only[Act.put,List.setIfInBounds_toArray,List.set_cons_zero,List.set_cons_succ];refine wpAnyH_take (i:=14) (v:= ?_) rfl (by kernel_rfl) (by kernel_rfl) (by kernel_rfl) (fun _ _ _ h=>h) (Or.inl ⟨by rfl, ?_⟩) (by assumption) ?_
  rotate_left
  ·(intro w hSw;(try dsimp only at hSw);go_simp;try with_reducible rfl)
  simp only[Act.put,List.setIfInBounds_toArray,List.set_cons_zero,List.set_cons_succ];refine wpAnyH_take (i:=15) (v:= ?_) rfl (by kernel_rfl) (by kernel_rfl) (by kernel_rfl) (fun _ _ _ h=>h) (Or.inl ⟨by rfl, ?_⟩) (by assumption) ?_
  rotate_left
  ·(intro w hSw;(try dsimp only at hSw);go_simp;try with_reducible rfl)
  simp only[Act.put,List.setIfInBounds_toArray,List.set_cons_zero,List.set_cons_succ];refine wpAnyH_take (i:=16) (v:= ?_) rfl (by kernel_rfl) (by kernel_rfl) (by kernel_rfl) (fun _ _ _ h=>h) (Or.inl ⟨by rfl, ?_⟩) (by assumption) ?_
  rotate_left
  ·(intro w hSw;(try dsimp only at hSw);go_simp;try with_reducible rfl)
  simp only[Act.put,List.setIfInBounds_toArray,List.set_cons_zero,List.set_cons_succ];refine wpAnyH_take (i:=17) (v:= ?_) rfl (by kernel_rfl) (by kernel_rfl) (by kernel_rfl) (fun _ _ _ h=>h) (Or.inl ⟨by rfl, ?_⟩) (by assumption) ?_
  rotate_left
  ·(intro w hSw;(try dsimp only at hSw);go_simp;try with_reducible rfl)
  simp only[Act.put,List.setIfInBounds_toArray,List.set_cons_zero,List.set_cons_succ];refine wpAnyH_take (i:=18) (v:= ?_) rfl (by kernel_rfl) (by kernel_rfl) (by kernel_rfl) (fun _ _ _ h=>h) (Or.inl ⟨by rfl, ?_⟩) (by assumption) ?_
  rotate_left
  ·(intro w hSw;(try dsimp only at hSw);go_simp;try with_reducible rfl)
  simp only[Act.put,List.setIfInBounds_toArray,List.set_cons_zero,List.set_cons_succ];refine wpAnyH_take (i:=19) (v:= ?_) rfl (by kernel_rfl) (by kernel_rfl) (by kernel_rfl) (fun _ _ _ h=>h) (Or.inl ⟨by rfl, ?_⟩) (by assumption) ?_
  rotate_left
  ·(intro w hSw;(try dsimp only at hSw);go_simp;try with_reducible rfl)
  simp only[Act.put,List.setIfInBounds_toArray,List.set_cons_zero,List.set_cons_succ];refine wpAnyH_take (i:=20) (v:= ?_) rfl (by kernel_rfl) (by kernel_rfl) (by kernel_rfl) (fun _ _ _ h=>h) (Or.inl ⟨by rfl, ?_⟩) (by assumption) ?_
  rotate_left
  ·(intro w hSw;(try dsimp only at hSw);go_simp;try with_reducible rfl)
  simp only[Act.put,List.setIfInBounds_toArray,List.set_cons_zero,List.set_cons_succ];refine wpAnyH_take (i:=21) (v:= ?_) rfl (by kernel_rfl) (by kernel_rfl) (by kernel_rfl) (fun _ _ _ h=>h) (Or.inl ⟨by rfl, ?_⟩) (by assumption) ?_
  rotate_left
  ·(intro w hSw;(try dsimp only at hSw);go_simp;try with_reducible rfl)
  simp only[Act.put,List.setIfInBounds_toArray,List.set_cons_zero,List.set_cons_succ];refine wpAnyH_ready (rs:=[4,22]) (by kernel_rfl) (by simp) ?_;refine AllReadyH.cons rfl (fun K hK=> ?_) (AllReadyH.cons rfl (fun K hK=> ?_) AllReadyH.nil)
  ·go_simp
   refine hK.out _ _ ?_ (fun hHeld=> ?_)
   ·go_keep
   clear hK K
   try simp only[Act.put,List.setIfInBounds_toArray,List.set_cons_zero,List.set_cons_succ]
   refine wpAnyH_ready (rs:=[22]) (by kernel_rfl) (by simp) ?_;refine AllReadyH.cons rfl (fun K hK=> ?_) AllReadyH.nil
   go_simp
   refine hK.out _ _ ?_ (fun hHeld=> ?_)
   ·go_keep
   clear hK K
   try simp only[Act.put,List.setIfInBounds_toArray,List.set_cons_zero,List.set_cons_succ]
   refine wpAnyH_ready (rs:=[23]) (by kernel_rfl) (by simp) ?_;refine AllReadyH.cons rfl (fun K hK=> ?_) AllReadyH.nil;refine step_append_lies _ (by rfl) _ _ _ (by rfl) 0 218 i0 _ 13 120 Tryz.underlying88 hi0 hz0 hz1 hz2 rfl (by omega) (.slice lA ln lc) ln lxs (by rfl) EV.out.1 ⟨w4.heap.size,0,none⟩ 1 1 [.int .i64 1,.int .i64 i,.int .i64 inv,.int .i64 o.kind,.int .i64 o.key,.int .i64 o.val,.int .i64 0,.bool false,.int .i64 0,.int .i64 0,.int .i64 0,.slice none 0 0,.int .i64 picks] (by rfl) (by rfl) EV.out.2.1 (by simp[Value.oneCell']) (by omega) (by unfold maxLen;omega) (by omega) (by omega) (w4.heap.size+1) (by simp) ?_;intro gg cap3 w6 hO6 hg6 hat hlt6;have K6:=EV.out.2.2 w4.heap.size gg cap3 w6 (Nat.le_refl _) hO6 hg6 (hat.imp id (fun e=>by omega));have c5:=K6.out.1;have f5:=K6.out.2.1;have K51:=LH (HS.out w6 K6.out.2.2.2.2).1;have K52:=LH ((HS.out w6 K6.out.2.2.2.2).2 (.slice (some ⟨gg,0,none⟩) (ln+1) cap3));clear hO6 hg6 hat hlt6;refine hK.out _ _ ?_ (fun hHeld=> ?_)
   ·exact K51.out
   clear hK K
   try simp only[Act.put,List.setIfInBounds_toArray,List.set_cons_zero,List.set_cons_succ]
   refine wpAnyH_take (i:=24) (v:= ?_) rfl (by kernel_rfl) (by kernel_rfl) (by kernel_rfl) (fun _ _ _ h=>h) (Or.inl ⟨by rfl, ?_⟩) (by assumption) ?_
   rotate_left
   ·(intro w hSw;(try dsimp only at hSw);go_simp;try with_reducible rfl)
   simp only[Act.put,List.setIfInBounds_toArray,List.set_cons_zero,List.set_cons_succ];refine wpAnyH_take (i:=25) (v:= ?_) rfl (by kernel_rfl) (by kernel_rfl) (by kernel_rfl) (fun _ _ _ h=>h) (Or.inl ⟨by rfl, ?_⟩) (by assumption) ?_
   rotate_left
   ·(intro w hSw;(try dsimp only at hSw);go_simp;try with_reducible rfl)
   simp only[Act.put,List.setIfInBounds_toArray,List.set_cons_zero,List.set_cons_succ];refine wpAnyH_ready (rs:=[26]) (by kernel_rfl) (by simp) ?_;refine AllReadyH.cons rfl (fun K hK=> ?_) AllReadyH.nil
   go_simp
   refine hK.out _ _ ?_ (fun hHeld=> ?_)
   ·exact K52.out
   clear hK K
   try simp only[Act.put,List.setIfInBounds_toArray,List.set_cons_zero,List.set_cons_succ]
   refine wpAnyH_done (by kernel_rfl) ?_ _;have HFIN:=LH (IxPost.ev (k:=k+1) HC4.out HG4.out K6.out.2.2.1 K6.out.2.2.2.1 (by omega));clear K6 c5 f5 EV g5 g7 g4 eg e8 p0 p1 p2 hHeld K51 K52 HS;go_wp2_with (fail);go_ret;exact ⟨⟨_,rfl⟩,HFIN.out⟩
  ·go_simp
   refine hK.out _ _ ?_ (fun hHeld=> ?_)
   ·go_keep
   clear hK K
   try simp only[Act.put,List.setIfInBounds_toArray,List.set_cons_zero,List.set_cons_succ]
   refine wpAnyH_ready (rs:=[4]) (by kernel_rfl) (by simp) ?_;refine AllReadyH.cons rfl (fun K hK=> ?_) AllReadyH.nil
   go_simp
   refine hK.out _ _ ?_ (fun hHeld=> ?_)
   ·go_keep
   clear hK K
   try simp only[Act.put,List.setIfInBounds_toArray,List.set_cons_zero,List.set_cons_succ]
   refine wpAnyH_ready (rs:=[23]) (by kernel_rfl) (by simp) ?_;refine AllReadyH.cons rfl (fun K hK=> ?_) AllReadyH.nil;refine step_append_lies _ (by rfl) _ _ _ (by rfl) 0 218 i0 _ 13 120 Tryz.underlying88 hi0 hz0 hz1 hz2 rfl (by omega) (.slice lA ln lc) ln lxs (by rfl) EV.out.1 ⟨w4.heap.size,0,none⟩ 1 1 [.int .i64 1,.int .i64 i,.int .i64 inv,.int .i64 o.kind,.int .i64 o.key,.int .i64 o.val,.int .i64 0,.bool false,.int .i64 0,.int .i64 0,.int .i64 0,.slice none 0 0,.int .i64 picks] (by rfl) (by rfl) EV.out.2.1 (by simp[Value.oneCell']) (by omega) (by unfold maxLen;omega) (by omega) (by omega) (w4.heap.size+1) (by simp) ?_;intro gg cap3 w6 hO6 hg6 hat hlt6;have K6:=EV.out.2.2 w4.heap.size gg cap3 w6 (Nat.le_refl _) hO6 hg6 (hat.imp id (fun e=>by omega));have c5:=K6.out.1;have f5:=K6.out.2.1;have K51:=LH (HS.out w6 K6.out.2.2.2.2).1;have K52:=LH ((HS.out w6 K6.out.2.2.2.2).2 (.slice (some ⟨gg,0,none⟩) (ln+1) cap3));clear hO6 hg6 hat hlt6;refine hK.out _ _ ?_ (fun hHeld=> ?_)
   ·exact K51.out
   clear hK K
   try simp only[Act.put,List.setIfInBounds_toArray,List.set_cons_zero,List.set_cons_succ]
   refine wpAnyH_take (i:=24) (v:= ?_) rfl (by kernel_rfl) (by kernel_rfl) (by kernel_rfl) (fun _ _ _ h=>h) (Or.inl ⟨by rfl, ?_⟩) (by assumption) ?_
   rotate_left
   ·(intro w hSw;(try dsimp only at hSw);go_simp;try with_reducible rfl)
   simp only[Act.put,List.setIfInBounds_toArray,List.set_cons_zero,List.set_cons_succ];refine wpAnyH_take (i:=25) (v:= ?_) rfl (by kernel_rfl) (by kernel_rfl) (by kernel_rfl) (fun _ _ _ h=>h) (Or.inl ⟨by rfl, ?_⟩) (by assumption) ?_
   rotate_left
   ·(intro w hSw;(try dsimp only at hSw);go_simp;try with_reducible rfl)
   simp only[Act.put,List.setIfInBounds_toArray,List.set_cons_zero,List.set_cons_succ];refine wpAnyH_ready (rs:=[26]) (by kernel_rfl) (by simp) ?_;refine AllReadyH.cons rfl (fun K hK=> ?_) AllReadyH.nil
   go_simp
   refine hK.out _ _ ?_ (fun hHeld=> ?_)
   ·exact K52.out
   clear hK K
   try simp only[Act.put,List.setIfInBounds_toArray,List.set_cons_zero,List.set_cons_succ]
   refine wpAnyH_done (by kernel_rfl) ?_ _;have HFIN:=LH (IxPost.ev (k:=k+1) HC4.out HG4.out K6.out.2.2.1 K6.out.2.2.2.1 (by omega));clear K6 c5 f5 EV g5 g7 g4 eg e8 p0 p1 p2 hHeld K51 K52 HS;go_wp2_with (fail);go_ret;exact ⟨⟨_,rfl⟩,HFIN.out⟩
section
variable (F:Nat->Prop) (bm:Nat) (C:List Int) (max:Int)
theorem Q9a (x:Int) (w:World) (h:M7 F bm C max w) (bx:i64B x) (hk:Q04 x=1):
  Calls Tryz.prog 180 #[.pointer (some ⟨bm,0,none⟩),.int .i64 x] w fun e w'=>e=.returned (.slice none 0 0)/\w=w':=by
 obtain ⟨b0,b1⟩:=bx;have HK:=LH hk;clear hk h;go_enter Tryz.func180,Tryz.ntmps180;go_wp2_with (fail);with_reducible refine (Q0y x _ b0 b1).mono ?_
 rintro e w3 ⟨rfl,rfl⟩;go_wp2_with (fail);with_reducible refine (Q0B x _ b0 b1).mono ?_
 rintro e w2 ⟨rfl,rfl⟩
 rw[HK.out]
 go_wp2_with (fail);go_ret;exact ⟨rfl,rfl⟩
theorem Q65 (w:World) (h:M7 F bm C max w) (hC:C.length<=65536) (hb:CB C) (hs:SoundB C) (hk:Q04 (lgC C 6)=1):
  Calls Tryz.prog 122 #[.pointer (some ⟨bm,0,none⟩)] w fun e w'=>e=.returned (.slice none 0 0)/\Below w.heap.size w w':=by
 have H:=LH h;have HB:=LH hb;have HS:=LH hs;have HK:=LH hk;have bg:i64B (lgC C 6):=by unfold lgC;split;(split<;>exact hb.rd _);exact hb.rd _
 have HG:=LH bg;clear h hb hs hk bg;go_enter Tryz.func122,Tryz.ntmps122;go_wp2_with (fail);with_reducible refine (Qb8 F bm C max _ H.out hC HB.out HS.out).mono ?_
 rintro e w1 ⟨rfl,hbl⟩;have H1:=LH (H.out.below hbl);have HBL:=LH hbl;clear hbl;go_wp2_with (fail);with_reducible refine (Q4U F bm C max 6 _ H1.out (by omega) HB.out).mono ?_
 rintro e w2 ⟨rfl,rfl⟩;go_wp2_with (fail);with_reducible refine (Q9a F bm C max (lgC C 6) _ H1.out HG.out HK.out).mono ?_
 rintro e w3 ⟨rfl,rfl⟩;go_wp2_with (fail);go_ret;exact ⟨rfl,HBL.out⟩
end
theorem Q8k:SoundB beginL:=⟨by decide,by decide,by decide,1,_,rfl⟩
theorem Qd3:Q04 (lgC beginL 6)=1:=by decide+kernel
theorem Q88:CB beginL:=fun x hx=>by
 unfold i64B;simp[beginL] at hx;omega
def Qhg (n:Nat) (w:World) (iv:Value) (wr:World):Prop:=∃i:Nat,i<=n/\iv=.int .i64 i/\wr=w
theorem Q70 (own:Nat->Nat) (xb bm:Nat) (tbs:List Nat) (s:IX) (k:Nat) (w:World) (h:IxP own xb bm tbs s k w) (hn:tbs.length<=64) (hb:∀i,i<tbs.length->(s.T.getD i TH.nil).busy=false):
  Calls Tryz.prog 214 #[.pointer (some ⟨xb,0,none⟩)] w fun e w'=>e=.returned (.bool true)/\w'=w:=by
 obtain ⟨a0,a1,a2,tv,lv,ln,lxs,inv,picks,h,hk⟩:=h;have HB:=LH hb;have HH:=LH h;obtain ⟨tA,tc,rfl⟩:=Q06 h.row;have e4:w.cell? ⟨xb,4,none⟩=some (.slice tA tbs.length tc):=h.blk.cell 4;clear h hb;go_enter Tryz.func214,Tryz.ntmps214;go_wp2_with (fail)
 go_loopw [3] (fun iv wr=>Qhg tbs.length w iv wr) (fun iv _=>tbs.length-(intOf iv).toNat)
 case atStart=>unfold Qhg;exact ⟨0,Nat.zero_le _,rfl,rfl⟩
 case round=>
  obtain ⟨i,hi,rfl,rfl⟩:=hrel;by_cases hlt:i<tbs.length
  ·obtain ⟨g,cap,hv,_,_⟩:=HH.out.row.form (by omega);injection hv with h1 h2 h3;subst h1
   have eg:wr.cell? ⟨g,i,none⟩=some (.pointer (some ⟨tbs.getD i 0,0,none⟩)):=by
    rw[HH.out.row.cellAt i (by simp;omega)]
    rw[List.getElem?_map,List.getElem?_eq_getElem hlt]
    simp[Q2M,List.getD_eq_getElem?_getD,List.getElem?_eq_getElem hlt]
   obtain ⟨_,_,_,_,_,_,_,hq⟩:=HH.out.th i hlt;have e1:wr.cell? ⟨tbs.getD i 0,1,none⟩=some (.bool (s.T.getD i TH.nil).busy):=hq.blk.cell 1
   rw[HB.out i hlt] at e1
   have hlt2:(i:Int)<tbs.length:=by omega
   clear hq h2 h3;generalize tbs.getD i 0=tb at eg e1;go_wp2_with (fail)
   go_roundw
   case rel=>unfold Qhg;exact ⟨i+1,by omega,by go_num,rfl⟩
   case measure=>simp[intOf];omega
  ·have e:i=tbs.length:=by omega
   subst e;go_wp2_with (fail);go_ret;exact ⟨rfl,rfl⟩
def TH.new (b:Int):TH:=⟨b,false,TH.nil.x,[],false,FOut.zero⟩
def QaQ (b:Int):Array Value:=#[.int .i64 b,.bool false,.int .i64 0,.int .i64 0,.int .i64 0,.pointer none,.int .i64 0,.bool false,.int .i64 0]
theorem Qdf:(Tryz.prog.info? 165).map (fun i=>(i.zero,i.size,i.bytes))=some (some (.pointer none),1,8):=by kernel_rfl
section
variable {own:Nat->Nat} {xb bm:Nat} {tbs:List Nat} {s:IX} {a0 a1 a2 inv picks:Int} {tv lv:Value} {ln:Nat} {lxs:List Value} {w:World}
def QfU (own:Nat->Nat) (n m:Nat):Nat->Nat:=fun y=>if y<n then own y else if y=n then 3+m else 1
theorem IxQ.thr (h:IxQ own xb bm tbs s a0 a1 a2 tv lv ln lxs inv picks w) (b:Int):
  Hid (((w.alloc (.cells (QaQ b) 164)).alloc (.cells #[Q2M w.heap.size] 165)).drew.ownsRow 0 165 1 tv tbs.length (tbs.map Q2M)/\
   (∀(j:Nat) (u:Value),[Q2M w.heap.size][j]? =some u->((w.alloc (.cells (QaQ b) 164)).alloc (.cells #[Q2M w.heap.size] 165)).drew.cell? ((⟨w.heap.size+1,0,none⟩:Addr).add j)=some u)/\
   ∀(gg cap:Nat) (w5:World),w5.ownsRow 0 165 1 (.slice (some ⟨gg,0,none⟩) (tbs.length+1) cap) (tbs.length+1) (tbs.map Q2M++[Q2M w.heap.size])->((w.alloc (.cells (QaQ b) 164)).alloc (.cells #[Q2M w.heap.size] 165)).drew.grownBy w5 tv.ownBlock->(tv.ownBlock=some gg\/w.heap.size+2<=gg)->
    Hid (w5.cell? ⟨xb,4,none⟩=some tv/\w5.frozen? ⟨xb,4,none⟩=false/\IxQ (QfU own w.heap.size tbs.length) xb bm (tbs++[w.heap.size]) {s with T:=s.T++[TH.new b]} a0 a1 a2 (.slice (some ⟨gg,0,none⟩) (tbs.length+1) cap) lv ln lxs inv picks (w5.setCell ⟨xb,4,none⟩ (.slice (some ⟨gg,0,none⟩) (tbs.length+1) cap))/\Chg (fun y=>own y=1) w (w5.setCell ⟨xb,4,none⟩ (.slice (some ⟨gg,0,none⟩) (tbs.length+1) cap)))):=by
 have hal:=(Below.refl w.heap.size w).alloc (Nat.le_refl _) (.cells (QaQ b) 164);have hz1:(w.alloc (.cells (QaQ b) 164)).heap.size=w.heap.size+1:=by simp
 have hz2:((w.alloc (.cells (QaQ b) 164)).alloc (.cells #[Q2M w.heap.size] 165)).heap.size=w.heap.size+2:=by simp
 have hal2:=hal.alloc hal.size (.cells #[Q2M w.heap.size] 165);have hbl:Below w.heap.size w ((w.alloc (.cells (QaQ b) 164)).alloc (.cells #[Q2M w.heap.size] 165)).drew:=hal2.trans (Q0d (Drawn.of _ 1) _);have htb:Blk ((w.alloc (.cells (QaQ b) 164)).alloc (.cells #[Q2M w.heap.size] 165)).drew w.heap.size 164 (QaQ b):=((Blk.new w 164 (QaQ b)).alloc _).drew;refine LH ⟨Q0p h.row hbl,fun j u hu=> ?_,fun gg cap w5 hO hg hat=> ?_⟩
 ·have e:(⟨w.heap.size+1,0,none⟩:Addr).add j=⟨w.heap.size+1,j,none⟩:=by unfold Addr.add;split<;>simp_all
  rw[e]
  have hb:=(Blk.new (w.alloc (.cells (QaQ b) 164)) 165 #[Q2M w.heap.size]).cell j
  rw[hz1] at hb
  exact hb.trans (by simpa using hu)
 ·have hc:=(Chg.of_below (F:=fun y=>tv.ownBlock=some y) hbl).trans (Chg.of_grown hg);have hb5:=hc.blk h.blk (fun e=>Q0o h.row h.blk (by decide) e);have hc6:Chg (fun y=>y=xb\/tv.ownBlock=some y) w (w5.setCell ⟨xb,4,none⟩ (.slice (some ⟨gg,0,none⟩) (tbs.length+1) cap)):=(hc.mono (fun _=>.inr)).trans ((Chg.set1 w5 xb 4 _).mono (fun _=>.inl));have hc7:Chg (fun y=>own y=1) w (w5.setCell ⟨xb,4,none⟩ (.slice (some ⟨gg,0,none⟩) (tbs.length+1) cap)):=hc6.mono (fun y hy=>by rcases hy with rfl|e;exact h.ox;exact h.rowo y e);have hlt:=h.blk.lt;have olt:∀y,y<w.heap.size->QfU own w.heap.size tbs.length y=own y:=fun y hy=>if_pos hy;have htb5:Blk w5 w.heap.size 164 (QaQ b):=(Chg.of_grown hg).blk htb (fun e=>by have:=Q0Z h.row _ e;omega);have htb6:=(Chg.set1 w5 xb 4 (.slice (some ⟨gg,0,none⟩) (tbs.length+1) cap)).blk htb5 (by omega);refine LH ⟨hb5.cell 4,hb5.frozen 4,⟨(olt _ hlt).trans h.ox,hb5.set_ 4 _,(h.mem.within.chg hc7 (fun y h1 h2=>by rw[h1.1] at h2;cases h2)).mono (fun y hy=>(olt _ hy.2).trans hy.1),by simp[h.len], ?_,fun g hg'=> ?_, ?_,fun g hg'=>(olt _ (Q0Z h.log g hg')).trans (h.logo g hg'),fun i hi=> ?_⟩,hc7⟩
  ·rw[List.length_append,List.map_append]
   exact (Chg.set1 w5 xb 4 _).own hO (Q0u hO hb5 (by decide))
  ·have hgg:gg=g:=by simpa[Value.ownBlock] using hg'
   subst hgg
   rcases hat with e|e
   ·exact (olt _ (Q0Z h.row gg e)).trans (h.rowo gg e)
   ·unfold QfU;rw[if_neg (by omega),if_neg (by omega)]
  ·exact hc6.own h.log (fun g hg' e=>by
    rcases e with rfl|e
    ·exact Q0o h.log h.blk (by decide) hg'
    ·obtain ⟨cs,hb2⟩:=Q1s h.row e;exact Q0o h.log hb2 (by decide) hg')
  ·rw[List.length_append] at hi
   by_cases e:i<tbs.length
   ·have e1:(tbs++[w.heap.size]).getD i 0=tbs.getD i 0:=by rw[List.getD_eq_getElem?_getD,List.getD_eq_getElem?_getD,List.getElem?_append_left e]
    have e2:(s.T++[TH.new b]).getD i TH.nil=s.T.getD i TH.nil:=by rw[List.getD_eq_getElem?_getD,List.getD_eq_getElem?_getD,List.getElem?_append_left (by rw[<-h.len];exact e)]
    show ThP _ ((tbs++[w.heap.size]).getD i 0) ((s.T++[TH.new b]).getD i TH.nil) _
    rw[e1,e2]
    exact ((h.th i e).within.chg hc7 (fun y h1 h2=>by rw[h1.1] at h2;omega)).mono (fun y hy=>(olt _ hy.2).trans hy.1)
   ·have ei:i=tbs.length:=by simp at hi;omega
    subst ei;have e1:(tbs++[w.heap.size]).getD tbs.length 0=w.heap.size:=by simp[List.getD_eq_getElem?_getD]
    have e2:(s.T++[TH.new b]).getD tbs.length TH.nil=TH.new b:=by rw[h.len];simp[List.getD_eq_getElem?_getD]
    show ThP _ ((tbs++[w.heap.size]).getD tbs.length 0) ((s.T++[TH.new b]).getD tbs.length TH.nil) _
    rw[e1,e2]
    refine ⟨0,0,0,.pointer none,0,false,0, ?_,htb6,fun hb=>by cases hb⟩;unfold QfU
    rw[if_neg (Nat.lt_irrefl _),if_pos rfl]
end
def Qhr (xb bm cb n:Nat) (cells b:Int) (w0:World) (iv:Value) (wr:World):Prop:=∃(i:Nat) (own:Nat->Nat) (tbs:List Nat),iv=.int .i64 i/\i<=n/\tbs.length=i/\IxP own xb bm tbs ⟨beginL,cells,List.replicate i (TH.new b)⟩ 0 wr/\(∀y,own y≠0->w0.heap.size<y)/\Below w0.heap.size w0 wr/\cb=w0.heap.size/\Blk wr cb 86 #[.int .i64 cells,.int .i64 n,.int .i64 b]
def Q9n (n:Nat) (cells b:Int) (w:World) (e:Ending) (w':World):Prop:=∃(own:Nat->Nat) (xb bm:Nat) (tbs:List Nat),e=.returned (.tuple #[.pointer (some ⟨xb,0,none⟩),.int .i64 0])/\tbs.length=n/\IxP own xb bm tbs ⟨beginL,cells,List.replicate n (TH.new b)⟩ 0 w'/\(∀y,own y≠0->w.heap.size<=y)/\Below w.heap.size w w'
theorem QcT (n:Nat) (cells b:Int) (w:World) (c0:7<=cells) (c1:cells<=65536) (n0:1<=n) (n1:n<=64) (b0:1<=b) (b1:b<=64):
  Calls Tryz.prog 168 #[.agg #[.int .i64 cells,.int .i64 n,.int .i64 b]] w (Q9n n cells b w):=by
 have hcb:=Blk.new w 86 #[.int .i64 cells,.int .i64 n,.int .i64 b];have hba:=(Below.refl w.heap.size w).alloc (Nat.le_refl _) (.cells #[.int .i64 cells,.int .i64 n,.int .i64 b] 86);have p0:(w.alloc (.cells #[.int .i64 cells,.int .i64 n,.int .i64 b] 86)).cell? ⟨w.heap.size,0,none⟩=some (.int .i64 cells):=hcb.cell 0;have p1:(w.alloc (.cells #[.int .i64 cells,.int .i64 n,.int .i64 b] 86)).cell? ⟨w.heap.size,1,none⟩=some (.int .i64 n):=hcb.cell 1;have p2:(w.alloc (.cells #[.int .i64 cells,.int .i64 n,.int .i64 b] 86)).cell? ⟨w.heap.size,2,none⟩=some (.int .i64 b):=hcb.cell 2;have q1:¬(n:Int)<1:=by omega
 have q2:¬(64:Int)<n:=by omega
 have HCB:=LH hcb;have HBA:=LH hba;clear hcb hba;go_enter Tryz.func168,Tryz.ntmps168;go_wp2_with (fail);with_reducible refine (QeD cells _ (by omega) c1).mono ?_
 rintro e w1 ⟨rfl,hm,hb⟩;have HM:=LH hm;have HCB1:=LH (HCB.out.below hb HCB.out.lt);have HB1:=LH (HBA.out.trans ((Chg.of_below (F:=fun _=>False) hb).below (B:=w.heap.size) (fun y hy=>hy.elim) (by simp)));have HZ:=LH (show (w.alloc (.cells #[.int .i64 cells,.int .i64 n,.int .i64 b] 86)).heap.size=w.heap.size+1 by simp);clear hm hb p0 p1 p2;generalize hmb:(w.alloc (.cells #[.int .i64 cells,.int .i64 n,.int .i64 b] 86)).heap.size=bm at HM HZ;clear hmb;go_wp2_with (fail);with_reducible refine (QbX _ bm cells _ HM.out c0 c1).mono ?_
 rintro e w2 ⟨rfl,hm,hc⟩;have hmw:M7 (fun y=>bm<=y/\y<w2.heap.size) bm beginL cells w2:=hm.within.mono (fun y hy=>⟨by rcases hy.1 with h|h;exact h;have:=HM.out.lt;omega,hy.2⟩);have HM2:=LH hmw;have hcc:Chg (fun y=>w.heap.size+1<=y) w1 w2:=hc.mono (fun y hy=>by have:=HZ.out;omega);have HCB2:=LH (hcc.blk HCB1.out (by omega));have HB2:=LH (HB1.out.trans (hcc.below (B:=w.heap.size) (fun y hy=>by omega) HB1.out.size));clear hm hc hmw hcc HM;have p0:w2.cell? ⟨w.heap.size,0,none⟩=some (.int .i64 cells):=HCB2.out.cell 0;have p1:w2.cell? ⟨w.heap.size,1,none⟩=some (.int .i64 n):=HCB2.out.cell 1;have p2:w2.cell? ⟨w.heap.size,2,none⟩=some (.int .i64 b):=HCB2.out.cell 2;have hix:=Blk.new w2 90 #[.int .i64 cells,.int .i64 n,.int .i64 b,Q2M bm,.slice none 0 0,.slice none 0 0,.int .i64 0,.int .i64 0];have hb3:=(Below.refl w2.heap.size w2).alloc (Nat.le_refl _) (.cells #[.int .i64 cells,.int .i64 n,.int .i64 b,Q2M bm,.slice none 0 0,.slice none 0 0,.int .i64 0,.int .i64 0] 90);have hwz:w.heap.size<w2.heap.size:=HCB2.out.lt
 have START:Hid (Qhr w2.heap.size bm w.heap.size n cells b w (.int .i64 0) (w2.alloc (.cells #[.int .i64 cells,.int .i64 n,.int .i64 b,Q2M bm,.slice none 0 0,.slice none 0 0,.int .i64 0,.int .i64 0] 90))):=LH (by
  refine ⟨0,fun y=>if y=w2.heap.size then 1 else if bm<=y/\y<w2.heap.size then 2 else 0,[],rfl,Nat.zero_le _,rfl,⟨_,_,_,.slice none 0 0,.slice none 0 0,0,[],0,0,⟨if_pos rfl,hix,(HM2.out.below hb3).mono (fun y hy=> ?_),rfl,World.ownsRow_nil _ _ _ _,fun g hg=>absurd hg (by simp[Value.ownBlock]),World.ownsRow_nil _ _ _ _,fun g hg=>absurd hg (by simp[Value.ownBlock]),fun i hi=>absurd hi (Nat.not_lt_zero _)⟩,Nat.le_refl _⟩,fun y hy=> ?_,HB2.out.trans ((Chg.of_below (F:=fun _=>False) hb3).below (B:=w.heap.size) (fun y hy=>hy.elim) (by omega)),rfl,HCB2.out.below hb3 HCB2.out.lt⟩
  ·show (if y=w2.heap.size then 1 else if bm<=y/\y<w2.heap.size then 2 else 0)=2
   rw[if_neg (by omega),if_pos hy]
  ·have hy:(if y=w2.heap.size then 1 else if bm<=y/\y<w2.heap.size then 2 else 0)≠0:=hy;have hz:=HZ.out;by_cases e1:y=w2.heap.size
   ·omega
   ·rw[if_neg e1] at hy
    by_cases e2:bm<=y/\y<w2.heap.size
    ·omega
    ·rw[if_neg e2] at hy;exact absurd rfl hy)
 clear hix hb3 HM2 HCB2 HB2 HB1 HCB1 HCB HBA;go_wp2_with (fail);clear p0 p1 p2;obtain ⟨i0,hi0,hz0,hz1,hz2⟩:=info_parts Qdf
 go_loopw [7] (fun iv wr=>Qhr w2.heap.size bm w.heap.size n cells b w iv wr) (fun iv _=>((n:Int)-intOf iv).toNat)
 case atStart=>exact START.out
 case round=>
  clear START;obtain ⟨_,own,tbs,rfl,hin,rfl,hix,hfr,hbl,_,hcb⟩:=hrel;have p1:wr.cell? ⟨w.heap.size,1,none⟩=some (.int .i64 n):=hcb.cell 1;have p2:wr.cell? ⟨w.heap.size,2,none⟩=some (.int .i64 b):=hcb.cell 2;obtain ⟨a0,a1,a2,tv,lv,ln,lxs,inv,picks,hq,hk⟩:=hix;obtain ⟨A,c,rfl⟩:=Q06 hq.row;by_cases hlt:(tbs.length:Int)<n
  ·have hnlt:¬(n:Int)<=tbs.length:=by omega
   have e4:wr.cell? ⟨w2.heap.size,4,none⟩=some (.slice A tbs.length c):=hq.blk.cell 4;have hix:w2.heap.size<wr.heap.size:=hq.blk.lt;have HA:=LH (hq.thr b);have HFR:=LH hfr;have HBL:=LH hbl;have HCB:=LH hcb;have HOX:=LH hq.ox;have HLN:=LH hk;clear hq hfr hbl hcb;unfold QaQ at HA;go_wp2_with (fail)
   go_region_law (first|(refine step_append_lies _ (by rfl) _ _ _ (by rfl) 0 165 i0 _ 1 8 Tryz.underlying87 hi0 hz0 hz1 hz2 rfl (by omega) (.slice A tbs.length c) tbs.length (tbs.map Q2M) (by rfl) HA.out.out.1 ⟨wr.heap.size+1,0,none⟩ 1 1 [Q2M wr.heap.size] (by rfl) (by rfl) HA.out.out.2.1 (by simp[Value.oneCell',Q2M]) (by omega) (by unfold maxLen;omega) (by omega) (by omega) (wr.heap.size+2) (by simp) ?_;intro gg cap w5 hO5 hg5 hat hlt5;have K5:=HA.out.out.2.2 gg cap w5 hO5 hg5 (hat.imp id (fun e=>by omega));have c5:=K5.out.1;have f5:=K5.out.2.1;clear hO5 hg5 hat hlt5))
   all_goals
    have HQ:=LH K5.out.2.2;clear K5 c5 f5 HA e4 p1 p2;generalize w5.setCell ⟨w2.heap.size,4,none⟩ (.slice (some ⟨gg,0,none⟩) (tbs.length+1) cap)=w6 at HQ|-;go_wp2_with (fail)
    go_roundw
    case rel=>
     have hq:=HQ.out.1;have hc:=HQ.out.2;refine ⟨tbs.length+1,QfU own wr.heap.size tbs.length,tbs++[wr.heap.size],by go_num,by omega,by simp,⟨_,_,_,_,_,_,_,_,_,(by rw[List.replicate_succ'];exact hq),HLN.out⟩,fun y hy=> ?_,HBL.out.trans (hc.below (B:=w.heap.size) (fun y hy=>by have:=HFR.out y (by rw[hy];decide);omega) HBL.out.size),rfl,hc.blk HCB.out (fun e=>by have:=HFR.out _ (by rw[e];decide);omega)⟩;have hy:QfU own wr.heap.size tbs.length y≠0:=hy;unfold QfU at hy;by_cases e:y<wr.heap.size
     ·rw[if_pos e] at hy;exact HFR.out y hy
     ·omega
    case measure=>simp[intOf];omega
  ·have hnlt:(n:Int)<=tbs.length:=by omega
   have hni:n=tbs.length:=by omega
   subst hni;have HX:=LH (show Q9n tbs.length cells b w (.returned (.tuple #[.pointer (some ⟨w2.heap.size,0,none⟩),.int .i64 0])) wr from ⟨own,_,bm,tbs,rfl,rfl,⟨_,_,_,_,_,_,_,_,_,hq,hk⟩,fun y hy=>Nat.le_of_lt (hfr y hy),hbl⟩);clear hq hfr hbl hcb hk;go_wp2_with (fail)
   go_ret2
   exact HX.out
theorem QbA:(Tryz.prog.info? 52).map (fun i=>(i.zero,i.size,i.bytes))=some (some (.agg #[.int .i64 0,.int .i64 0]),2,16):=by kernel_rfl
theorem Qev (w:World) (g0:Nat) (h0:w.heap[g0]? =some (.cells #[] 52 (0,0))) (A:Option Addr) (c:Nat) (l:List (Int×Int)) (hq:PairsAt w w.heap.size A l) (hl:l.length<=100000):
  ∃A' c' w',(Builtin.append_ #[40,40] 40 #[.slice (some ⟨g0,0,none⟩) 0 0,.slice A l.length c]).run Tryz.prog w=.ok (.slice A' l.length c') w'/\w.grownBy w' (some g0):=by
 obtain ⟨i0,hi0,hz0,hz1,hz2⟩:=info_parts QbA
 have hown:w.ownsRow 0 52 2 (.slice (some ⟨g0,0,none⟩) 0 0) 0 []:=by
  refine ⟨rfl,.inr ⟨g0,0,#[],rfl,Nat.zero_le _,h0,Nat.le_refl _,Nat.zero_le _,rfl, ?_⟩⟩;simp
 cases A with
 |none=>
  have hl0:l.length=0:=by
   rcases Nat.eq_zero_or_pos l.length with e|e
   ·exact e
   ·obtain ⟨ad,h⟩:=PairsAt.some_ hq e;cases h
  rw[hl0]
  refine ⟨some ⟨g0,0,none⟩,0,w, ?_,World.grownBy.refl _ _⟩;simp[Builtin.append_,run_underlying Tryz.underlying40,sizeOf,typeInfo,hi0,Builtin.lenOf,Builtin.firstCells,storeCells]
 |some ad=>
  have hnews:∀(j:Nat) (u:Value),(Q0q l)[j]? =some u->w.cell? (ad.add j)=some u:=fun j u hu=>by
   have hpos:0<l.length:=by
    rcases Nat.eq_zero_or_pos l.length with e|e
    ·have:l=[]:=List.eq_nil_of_length_eq_zero e;subst this;simp[Q0q] at hu
    ·exact e
   obtain ⟨ad',e,_,hc⟩:=hq.2 hpos
   rw[Option.some.inj e]
   exact hc j u hu
  have hone:∀u∈Q0q l,u.oneCell'=true:=fun u hu=>by
   unfold Q0q at hu
   rw[List.mem_flatMap] at hu
   obtain ⟨x,_,hx⟩:=hu
   rcases List.mem_cons.1 hx with e|e
   ·rw[e];rfl
   ·rw[List.mem_singleton.1 e];rfl
  obtain ⟨v',w',hr,h2,h3,_,_⟩:=run_append_own_at (P:=Tryz.prog) w 0 40 40 52 i0 _ 2 16 Tryz.underlying40 hi0 hz0 hz1 hz2 rfl (by omega) (.slice (some ⟨g0,0,none⟩) 0 0) 0 [] hown ad l.length c (Q0q l) hq.1 hnews hone (by unfold maxLen;omega) (by omega) (by omega);obtain ⟨A',c',rfl⟩:=Q06 h2
  rw[Nat.zero_add] at hr
  exact ⟨A',c',w',hr,h3⟩
theorem Qco {ops:Array Oper} {o:Oper} {a:Act} {w:World} {K:Act->World->Prop} {Q:Exit->Act->World->Prop} {E:Prop} (hgd:o.guard=none) (s x:Operand)
  (ho:o.op=.call {callee:=.builtin .append,args:=#[s,x],argTypes:=#[40,40]}) (hty:o.type=40)
  (g0:Nat) (h0:w.heap[g0]? =some (.cells #[] 52 (0,0))) (A:Option Addr) (c:Nat) (l:List (Int×Int)) (hs:a.eval s=.slice (some ⟨g0,0,none⟩) 0 0) (hx:a.eval x=.slice A l.length c) (hq:PairsAt w w.heap.size A l) (hl:l.length<=100000)
  (h:∀A' c' w',w.grownBy w' (some g0)->K (a.put o.dst (.slice A' l.length c')) w'):
  if Region.wanted o (yielded ops a.tmps)=true then Oper.wp Tryz.prog o a w K Q else E:=by
 have hw:Region.wanted o (yielded ops a.tmps)=true:=by simp[Region.wanted,hgd]
 rw[if_pos hw]
 obtain ⟨A',c',w',hr,h3⟩:=Qev w g0 h0 A c l hq hl;rw[<-hty] at hr;unfold Oper.wp execOp;simp only[ho,resolve,invoke,builtin,Sem.run_bind,Sem.run_pure,Result.andThen_ok,List.map_toArray,List.map_cons,List.map_nil,hs,hx]
 rw[hty] at hr|-
 simp only[hr,Result.andThen_ok];exact h A' c' w' h3
section
variable {own:Nat->Nat} {xb bm:Nat} {tbs:List Nat} {s:IX} {a0 a1 a2 inv picks:Int} {tv lv:Value} {ln k:Nat} {lxs:List Value} {w w':World}
theorem IxQ.memo (h:IxQ own xb bm tbs s a0 a1 a2 tv lv ln lxs inv picks w) {C':List Int} (hm:M7 (fun y=>own y=2\/w.heap.size<=y) bm C' s.max w') (hc:Chg (fun y=>own y=2) w w'):IxQ (Q9q own w.heap.size 2) xb bm tbs {s with C:=C'} a0 a1 a2 tv lv ln lxs inv picks w':=
 ⟨(Q1k h.blk.lt).trans h.ox,hc.blk h.blk (fun e=>by rw[h.ox] at e;cases e),hm.mono (fun y hy=>by
  by_cases e:y<w.heap.size
  ·rw[Q1k e];rcases hy with hy|hy
   ·exact hy
   ·omega
  ·exact QcR (by omega)),h.len,hc.own h.row (fun g hg e=>by rw[h.rowo g hg] at e;cases e),fun g hg=>(Q1k (Q0Z h.row g hg)).trans (h.rowo g hg),hc.own h.log (fun g hg e=>by rw[h.logo g hg] at e;cases e),fun g hg=>(Q1k (Q0Z h.log g hg)).trans (h.logo g hg),fun i hi=>((h.th i hi).within.chg hc (fun y h1 h2=>by rw[h1.1] at h2;omega)).mono (fun y hy=>(Q1k hy.2).trans hy.1)⟩
theorem IxQ.cpy (h:IxQ own xb bm tbs s a0 a1 a2 tv lv ln lxs inv picks w):
  Hid (∀w',(w.alloc (.cells #[] 52)).drew.grownBy w' (some w.heap.size)->Hid (w'.cell? ⟨xb,5,none⟩=some lv/\w'.cell? ⟨xb,7,none⟩=some (.int .i64 picks)/\∀vs:List Value,
   Hid ((w'.alloc (.cells vs.toArray 218)).ownsRow 0 218 13 lv ln lxs/\(∀(j:Nat) (u:Value),vs[j]? =some u->(w'.alloc (.cells vs.toArray 218)).cell? ((⟨w'.heap.size,0,none⟩:Addr).add j)=some u)/\
   ∀(gg cap:Nat) (w5:World),w5.ownsRow 0 218 13 (.slice (some ⟨gg,0,none⟩) (ln+1) cap) (ln+1) (lxs++vs)->(w'.alloc (.cells vs.toArray 218)).grownBy w5 lv.ownBlock->(lv.ownBlock=some gg\/w'.heap.size<=gg)->
    Hid (w5.cell? ⟨xb,5,none⟩=some lv/\w5.frozen? ⟨xb,5,none⟩=false/\IxQ (Q9q own w.heap.size 1) xb bm tbs s a0 a1 a2 tv (.slice (some ⟨gg,0,none⟩) (ln+1) cap) (ln+1) (lxs++vs) inv picks (w5.setCell ⟨xb,5,none⟩ (.slice (some ⟨gg,0,none⟩) (ln+1) cap))/\Chg (fun y=>own y=1) w (w5.setCell ⟨xb,5,none⟩ (.slice (some ⟨gg,0,none⟩) (ln+1) cap)))))):=by
 refine LH fun w' hg0=> ?_;have hb1:Below w.heap.size w (w.alloc (.cells #[] 52)).drew:=((Below.refl w.heap.size w).alloc (Nat.le_refl _) _).trans (Q0d (Drawn.of _ 1) _);have hb:Below w.heap.size w w':=hb1.trans ((Chg.of_grown hg0).below (B:=w.heap.size) (fun y hy=>by injection hy with e;omega) hb1.size);have h':=h.below hb;refine LH ⟨h'.blk.cell 5,h'.blk.cell 7,fun vs=> ?_⟩;have hbl:=(Below.refl w'.heap.size w').alloc (Nat.le_refl _) (.cells vs.toArray 218);have hbw:Below w.heap.size w (w'.alloc (.cells vs.toArray 218)):=hb.alloc hb.size _;refine LH ⟨Q0p h.log hbw,fun j u hu=> ?_,fun gg cap w5 hO hg hat=>h.app hbw hO hg (hat.imp id (fun e=>Nat.le_trans hb.size e))⟩;have e:(⟨w'.heap.size,0,none⟩:Addr).add j=⟨w'.heap.size,j,none⟩:=by unfold Addr.add;split<;>simp_all
 rw[e]
 have:=(Blk.new w' 218 vs.toArray).cell j;exact this.trans (by simpa using hu)
end
def IX.load (s:IX) (l:List (Int×Int)):IX:={s with C:=wrC (Q0T (l.length+1) s.C l).1 6 (Q0T (l.length+1) s.C l).2}
section
variable {own:Nat->Nat} {xb bm:Nat} {tbs:List Nat} {s:IX} {k:Nat}
theorem Q9N (A:Option Addr) (c:Nat) (l:List (Int×Int)) (w:World) (h:IxP own xb bm tbs s k w) (hn:tbs.length<=64) (hb:∀i,i<tbs.length->(s.T.getD i TH.nil).busy=false)
  (hC:s.C.length<=65536) (hx:s.max<=65536) (hm0:(s.C.length:Int)<=s.max) (hm:¬(s.C.length:Int)+Q0D l.length<=s.max) (hcb:CB s.C) (hsb:SoundB s.C) (hk1:Q04 (lgC s.C 6)=1)
  (hq:PairsAt w w.heap.size A l) (hA:∀ad,A=some ad->own ad.block=0) (hc:l.length<=c) (hl:l.length<=1000) (ha:Qgs l) (hk9:k<=900000000):
  Calls Tryz.prog 169 #[.pointer (some ⟨xb,0,none⟩),.slice A l.length c] w (fun e w'=>e=.returned (.int .i64 8)/\IxPost own xb bm tbs s (k+1) w w'):=by
 have HB:=LH hb;have HCB:=LH hcb;have HSB:=LH hsb;have HK1:=LH hk1;have HQ:=LH hq;have HA:=LH hA;have HAS:=LH ha;have HH:=LH h;have HM:=LH hm;obtain ⟨a0,a1,a2,tv,lv,ln,lxs,inv,picks,h,hk⟩:=h;have e3:w.cell? ⟨xb,3,none⟩=some (Q2M bm):=h.blk.cell 3;unfold Q2M at e3;have H:=LH h;have HKK:=LH hk;clear h hk hq hA ha hb hcb hsb hk1 hm;go_enter Tryz.func169,Tryz.ntmps169;go_wp2_with (fail);with_reducible refine (Q70 own xb bm tbs s k _ HH.out hn HB.out).mono ?_
 rintro e wz ⟨rfl,rfl⟩;go_wp2_with (fail);with_reducible refine (Q1Y A c l.length l _ rfl HQ.out (by omega) HAS.out).mono ?_
 rintro e w1 ⟨rfl,hb1⟩;have HB1:=LH hb1;clear hb1
 have e3a:w1.cell? ⟨xb,3,none⟩=some (.pointer (some ⟨bm,0,none⟩)):=by
  have:=(H.out.below HB1.out).blk.cell 3;exact this
 go_wp2_with (fail);with_reducible refine (Q65 (fun y=>own y=2) bm s.C s.max _ (H.out.mem.below HB1.out) hC HCB.out HSB.out HK1.out).mono ?_
 rintro e w2 ⟨rfl,hb2⟩;have HB2:=LH (HB1.out.trans ((Chg.of_below (F:=fun _=>False) hb2).below (fun y hy=>hy.elim) HB1.out.size));clear hb2 e3a e3;have H2:=LH (H.out.below HB2.out);have e3b:w2.cell? ⟨xb,3,none⟩=some (.pointer (some ⟨bm,0,none⟩)):=H2.out.blk.cell 3;have HQ2:=LH (show PairsAt w2 w2.heap.size A l from (HQ.out.chg (Chg.of_below (F:=fun _=>False) HB2.out) (Nat.le_refl _) (fun _ _ h=>h)).more HB2.out.size);have hmd:decide ((s.C.length:Int)+Q0D l.length<=s.max)=false:=decide_eq_false (Int.not_le.2 HM.out);have hbc:Q45 s.C s.max l=(0,s.C):=if_neg (Int.not_le.2 HM.out);have HMD:=LH hmd;have HBC:=LH (show (Q45 s.C s.max l).1=0 by rw[hbc]);have HBD:=LH (show (Q45 s.C s.max l).2=s.C by rw[hbc]);clear hmd hbc;go_wp2_with (fail);with_reducible refine (Q7e (fun y=>own y=2) bm s.C s.max A c l.length l _ rfl H2.out.mem hC hx hm0 HQ2.out (fun ad e h2=>by rw[HA.out ad e] at h2;cases h2) hc (by omega) HAS.out).mono ?_
 rintro e w3 ⟨rfl,hm3,hc3⟩
 rw[HMD.out]
 rw[HBC.out]
 rw[HBD.out] at hm3
 have hq3:=H2.out.memo hm3 hc3
 have HFIN:=LH (show IxPost own xb bm tbs s (k+1) wz w3 from ⟨_,⟨_,_,_,_,_,_,_,_,_,hq3,(by have:=HKK.out;omega)⟩,(Chg.of_below HB2.out).trans (hc3.mono (fun y hy=>by rw[hy];decide)),fun y hy=>by
  by_cases e2:y<w2.heap.size
  ·rw[Q1k e2] at hy;exact .inl hy
  ·exact .inr (by have:=HB2.out.size;omega)⟩)
 clear hm3 hc3 hq3 e3b;go_wp2_with (fail);go_ret;exact ⟨rfl,HFIN.out⟩
theorem Qbu (A:Option Addr) (c:Nat) (l:List (Int×Int)) (w:World) (h:IxP own xb bm tbs s k w) (hn:tbs.length<=64) (hb:∀i,i<tbs.length->(s.T.getD i TH.nil).busy=false)
  (hC:s.C.length<=65536) (hx:s.max<=65536) (hm0:(s.C.length:Int)<=s.max) (hm:(s.C.length:Int)+Q0D l.length<=s.max) (hcb:CB s.C) (hsb:SoundB s.C) (hk1:Q04 (lgC s.C 6)=1)
  (hq:PairsAt w w.heap.size A l) (hA:∀ad,A=some ad->own ad.block=0) (hc:l.length<=c) (hl:l.length<=1000) (ha:Qgs l) (hk9:k<=900000000):
  Calls Tryz.prog 169 #[.pointer (some ⟨xb,0,none⟩),.slice A l.length c] w (fun e w'=>e=.returned (.int .i64 0)/\IxPost own xb bm tbs (s.load l) (k+1) w w'):=by
 have HB:=LH hb;have HCB:=LH hcb;have HSB:=LH hsb;have HK1:=LH hk1;have HQ:=LH hq;have HA:=LH hA;have HAS:=LH ha;have HH:=LH h;have HM:=LH hm;obtain ⟨a0,a1,a2,tv,lv,ln,lxs,inv,picks,h,hk⟩:=h;have e3:w.cell? ⟨xb,3,none⟩=some (Q2M bm):=h.blk.cell 3;unfold Q2M at e3;have H:=LH h;have HKK:=LH hk;clear h hk hq hA ha hb hcb hsb hk1 hm;go_enter Tryz.func169,Tryz.ntmps169;go_wp2_with (fail);with_reducible refine (Q70 own xb bm tbs s k _ HH.out hn HB.out).mono ?_
 rintro e wz ⟨rfl,rfl⟩;go_wp2_with (fail);with_reducible refine (Q1Y A c l.length l _ rfl HQ.out (by omega) HAS.out).mono ?_
 rintro e w1 ⟨rfl,hb1⟩;have HB1:=LH hb1;clear hb1
 have e3a:w1.cell? ⟨xb,3,none⟩=some (.pointer (some ⟨bm,0,none⟩)):=by
  have:=(H.out.below HB1.out).blk.cell 3;exact this
 go_wp2_with (fail);with_reducible refine (Q65 (fun y=>own y=2) bm s.C s.max _ (H.out.mem.below HB1.out) hC HCB.out HSB.out HK1.out).mono ?_
 rintro e w2 ⟨rfl,hb2⟩;have HB2:=LH (HB1.out.trans ((Chg.of_below (F:=fun _=>False) hb2).below (fun y hy=>hy.elim) HB1.out.size));clear hb2 e3a e3;have H2:=LH (H.out.below HB2.out);have e3b:w2.cell? ⟨xb,3,none⟩=some (.pointer (some ⟨bm,0,none⟩)):=H2.out.blk.cell 3;have HQ2:=LH (show PairsAt w2 w2.heap.size A l from (HQ.out.chg (Chg.of_below (F:=fun _=>False) HB2.out) (Nat.le_refl _) (fun _ _ h=>h)).more HB2.out.size);have hmd:decide ((s.C.length:Int)+Q0D l.length<=s.max)=true:=decide_eq_true HM.out;have hbc:Q45 s.C s.max l=((Q0T (l.length+1) s.C l).2,(Q0T (l.length+1) s.C l).1):=if_pos HM.out;have HMD:=LH hmd;have HBC:=LH (show (Q45 s.C s.max l).1=(Q0T (l.length+1) s.C l).2 by rw[hbc]);have HBD:=LH (show (Q45 s.C s.max l).2=(Q0T (l.length+1) s.C l).1 by rw[hbc]);clear hmd hbc;go_wp2_with (fail);with_reducible refine (Q7e (fun y=>own y=2) bm s.C s.max A c l.length l _ rfl H2.out.mem hC hx hm0 HQ2.out (fun ad e h2=>by rw[HA.out ad e] at h2;cases h2) hc (by omega) HAS.out).mono ?_
 rintro e w3 ⟨rfl,hm3,hc3⟩
 rw[HMD.out]
 rw[HBC.out]
 rw[HBD.out] at hm3
 have hq3:=H2.out.memo hm3 hc3;have HC3:=LH ((Chg.of_below (F:=fun y=>own y=2) HB2.out).trans hc3);have H3:=LH hq3;have HQ3:=LH (show PairsAt w3 w3.heap.size A l from (HQ2.out.chg hc3 (Nat.le_refl _) (fun ad e h2=>by rw[HA.out ad e] at h2;cases h2)).more hc3.size);have e3c:w3.cell? ⟨xb,3,none⟩=some (.pointer (some ⟨bm,0,none⟩)):=hq3.blk.cell 3;clear hm3 hc3 hq3 e3b;have hlc:=Q2W (l.length+1) s.C l (by omega) (by omega);have hca:=Q31 l.length;have HM2:=HM.out;go_wp2_with (fail);with_reducible refine (Q6C (fun y=>Q9q own w2.heap.size 2 y=2) bm (Q0T (l.length+1) s.C l).1 s.max 6 (Q0T (l.length+1) s.C l).2 _ H3.out.mem (by omega)).mono ?_
 rintro e w4 ⟨rfl,hm4,hc4⟩;have hq4:=H3.out.memo (C':=wrC (Q0T (l.length+1) s.C l).1 6 (Q0T (l.length+1) s.C l).2) (hm4.mono (fun y hy=>.inl hy)) hc4;have H4:=LH (show IxQ (Q9q (Q9q own w2.heap.size 2) w3.heap.size 2) xb bm tbs (s.load l) a0 a1 a2 tv lv ln lxs inv picks w4 from hq4)
 have HOW:=LH (show∀y,Q9q (Q9q own w2.heap.size 2) w3.heap.size 2 y≠0->own y≠0\/wz.heap.size<=y from fun y hy=>by
  have h3:=HC3.out.size;have h2:=HB2.out.size;by_cases e:y<w3.heap.size
  ·rw[Q1k e] at hy
   by_cases e2:y<w2.heap.size
   ·rw[Q1k e2] at hy;exact .inl hy
   ·exact .inr (by omega)
  ·exact .inr (by omega))
 have HC4:=LH (show Chg (fun y=>own y≠0) wz w4 from (HC3.out.mono (fun y hy=>by rw[hy];decide)).grow hc4 (fun y hy=>by
  have h3:=HC3.out.size;have h2:=HB2.out.size;by_cases e2:y<w2.heap.size
  ·rw[Q1k e2] at hy;exact .inl (by rw[hy];decide)
  ·exact .inr (by omega)))
 have HQ4:=LH (show PairsAt w4 w4.heap.size A l from ⟨HQ3.out.1,fun hn=>((HQ3.out.chg hc4 (Nat.le_refl _) (fun ad e h2=>by
  obtain ⟨ad',e',hb',_⟩:=HQ2.out.2 hn
  rw[e] at e'
  rw[<-Option.some.inj e'] at hb';have h2:Q9q own w2.heap.size 2 ad.block=2:=h2
  rw[Q1k hb',HA.out ad e] at h2;cases h2)).more hc4.size).2 hn⟩)
 obtain ⟨lA,lc,rfl⟩:=Q06 hq4.log;have c5:w4.cell? ⟨xb,5,none⟩=some (.slice lA ln lc):=hq4.blk.cell 5;have c7:w4.cell? ⟨xb,7,none⟩=some (.int .i64 picks):=hq4.blk.cell 7;clear hm4 hc4 hq4 e3c hlc hca HM2;obtain ⟨i0,hi0,hz0,hz1,hz2⟩:=info_parts Q3T;have hxb:xb<w4.heap.size:=H4.out.blk.lt;have n1:=World.new_ne w4 ⟨xb,5,none⟩ c5
 have h00:(w4.alloc (.cells #[] 52)).drew.heap[w4.heap.size]? =some (.cells #[] 52 (0,0)):=by
  exact (Blk.new w4 52 #[]).drew
 have H00:=LH h00;have HB5:Below w4.heap.size w4 (w4.alloc (.cells #[] 52)).drew:=((Below.refl w4.heap.size w4).alloc (Nat.le_refl _) _).trans (Q0d (Drawn.of _ 1) _);have HQ5:=LH (show PairsAt (w4.alloc (.cells #[] 52)).drew (w4.alloc (.cells #[] 52)).drew.heap.size A l from (HQ4.out.chg (Chg.of_below (F:=fun _=>False) HB5) (Nat.le_refl _) (fun _ _ h=>h)).more HB5.size);have CPY:=H4.out.cpy;have HKL:=HKK.out;clear h00 HB5;go_wp2_with (fail)
 go_region_law (first|(refine Qco (by rfl) _ _ (by rfl) (by rfl) w4.heap.size H00.out A c l (by rfl) (by rfl) HQ5.out (by omega) ?_;intro A' c' w5 hg5;have CP:=CPY.out w5 hg5;have d5:=CP.out.1;have d7:=CP.out.2.1;have n5:=World.new_ne w5 ⟨xb,5,none⟩ d5;have hx5:xb<w5.heap.size:=World.block_lt_of_cell? w5 _ d5;clear hg5)|(have EV:=CP.out.2.2 [.int .i64 4,.int .i64 0,.int .i64 0,.int .i64 0,.int .i64 0,.int .i64 0,.int .i64 0,.bool false,.int .i64 0,.int .i64 0,.int .i64 0,.slice A' l.length c',.int .i64 picks];refine step_append_lies _ (by rfl) _ _ _ (by rfl) 0 218 i0 _ 13 120 Tryz.underlying88 hi0 hz0 hz1 hz2 rfl (by omega) (.slice lA ln lc) ln lxs (by rfl) EV.out.1 ⟨w5.heap.size,0,none⟩ 1 1 [.int .i64 4,.int .i64 0,.int .i64 0,.int .i64 0,.int .i64 0,.int .i64 0,.int .i64 0,.bool false,.int .i64 0,.int .i64 0,.int .i64 0,.slice A' l.length c',.int .i64 picks] (by rfl) (by rfl) EV.out.2.1 (by simp[Value.oneCell']) (by omega) (by unfold maxLen;omega) (by omega) (by omega) (w5.heap.size+1) (by simp) ?_;intro gg cap w6 hO6 hg6 hat hlt6;have K6:=EV.out.2.2 gg cap w6 hO6 hg6 (hat.imp id (fun e=>by omega));have c6:=K6.out.1;have f6:=K6.out.2.1;clear hO6 hg6 hat hlt6))
 all_goals
  have HFIN:=LH (IxPost.ev (k:=k+1) HC4.out HOW.out K6.out.2.2.1 K6.out.2.2.2 (by omega));clear K6 c6 f6 EV CP CPY d5 d7 n5 hx5 c5 c7 n1 hxb;go_wp2_with (fail);go_ret;exact ⟨rfl,HFIN.out⟩
end
section
variable {N m:Nat} {s:IX} {t:TH} {o:Op}
theorem Q6g (hk1:1<=o.kind) (hk2:o.kind<=10) (ho:o.B) (b1:1<=t.budget) (b2:t.budget<=64):Q85 N (t.freshX o):=by
 unfold TH.freshX;by_cases h:3<o.kind
 ·exact QfR (if_pos h) ho (by show 4<=o.kind;omega) hk2 b1 b2
 ·exact QfS (if_neg h) ho (by show o.kind=1\/o.kind=2\/o.kind=3;omega)
theorem Qdq (ho:o.B):((t.freshX o).tree N).Ok (fun _=>True):=by
 unfold FX.tree;have h15:(t.freshX o).proc=if 3<o.kind then 25 else 24:=rfl
 rw[if_neg (by rw[h15];split<;>decide),if_neg (by rw[h15];split<;>decide),if_neg (by rw[h15];split<;>decide),if_neg (by rw[h15];split<;>decide)]
 by_cases h:(t.freshX o).proc=24
 ·rw[if_pos h]
  exact Q07 (Q7a (o:=o) ho _) fun _ _=>trivial
 ·rw[if_neg h]
  split
  ·trivial
  ·split
   ·trivial
   ·exact Q07 QcI fun _ _=>trivial
theorem TH.fresh_ok (hk1:1<=o.kind) (hk2:o.kind<=10) (ho:o.B) (b1:1<=t.budget) (b2:t.budget<=64):(t.fresh N o).Ok N m:=by
 refine ⟨Q6g hk1 hk2 ho b1 b2,Qdq ho,fun x hx=>(by cases hx),Nat.zero_le _, ?_⟩;have h:=Q4Y ((t.freshX o).tree N) ⟨[],0,false,Q34⟩ rfl (Nat.le_refl _);show (!(((t.freshX o).tree N).go ⟨[],0,false,Q34⟩).2.off)=(((t.freshX o).tree N).rest []).next.isNone;revert h
 show (match (((t.freshX o).tree N).rest []).next with|none=>_|some q=>_)->_
 cases (((t.freshX o).tree N).rest []).next with
 |none=>rintro ⟨_,h⟩;rw[h];rfl
 |some q=>rintro ⟨h,_⟩;rw[h];rfl
theorem IX.Ok.le {m':Nat} (h:s.Ok N m) (hm:m<=m'):s.Ok N m':=⟨h.cb,h.fit,h.max,fun t ht hb=>(h.thr t ht hb).le hm,h.bud⟩
theorem IX.Ok.invoke (h:s.Ok N m) {i:Nat} (hi:i<s.T.length) (hk1:1<=o.kind) (hk2:o.kind<=10) (ho:o.B):(s.invoke N i o).Ok N m:=by
 unfold IX.invoke;have hb:=h.bud _ (Q2F (d:=TH.nil) hi)
 split
 ·exact h
 ·refine ⟨h.cb,h.fit,h.max,fun t hm hb2=> ?_,fun t hm=> ?_⟩
  ·rcases List.mem_or_eq_of_mem_set hm with hm|hm
   ·exact h.thr t hm hb2
   ·subst hm;exact TH.fresh_ok hk1 hk2 ho hb.1 hb.2
  ·rcases List.mem_or_eq_of_mem_set hm with hm|hm
   ·exact h.bud t hm
   ·subst hm;exact hb
theorem IX.invoke_len (N:Nat) (s:IX) (i:Nat) (o:Op):(s.invoke N i o).T.length=s.T.length:=by unfold IX.invoke;split<;>simp
theorem IX.invoke_max (N:Nat) (s:IX) (i:Nat) (o:Op):(s.invoke N i o).max=s.max:=by unfold IX.invoke;split<;>rfl
end
theorem IxP.len {own:Nat->Nat} {xb bm:Nat} {tbs:List Nat} {s:IX} {k:Nat} {w:World} (h:IxP own xb bm tbs s k w):tbs.length=s.T.length:=by
 obtain ⟨_,_,_,_,_,_,_,_,_,h,_⟩:=h;exact h.len
theorem Q8S (N m:Nat) (own:Nat->Nat) (xb bm:Nat) (tbs:List Nat) (s:IX) (k:Nat) (i:Nat) (o:Op) (w:World) (h:IxP own xb bm tbs s k w) (hi:i<tbs.length) (ok:s.Ok N m) (k1:1<=o.kind) (k2:o.kind<=10) (ho:o.B) (hN:1<N) (hk0:k<=900000000) (hn:tbs.length<=64):
  Calls Tryz.prog 112 #[.pointer (some ⟨xb,0,none⟩),.int .i64 i,.agg #[.int .i64 o.kind,.int .i64 o.key,.int .i64 o.val]] w (Qaa own xb bm tbs (s.invoke N i o) (k+1) w):=by
 have hb:=ok.bud _ (Q2F (d:=TH.nil) (h.len▸hi))
 cases e:(s.T.getD i TH.nil).busy with
 |true=>
  refine (Q7H own xb bm tbs s k i o w h hi e).mono fun r w' hp=> ?_;refine ⟨hp.1, ?_⟩;have:s.invoke N i o=s:=if_pos e
  rw[this]
  exact hp.2.le (by omega)
 |false=>
  refine (Q8R N _ xb bm tbs s k i o w h.zero (fun y hy=>if_neg (by omega)) hi e k1 k2 hb.1 hb.2 hN (Q6g k1 k2 ho hb.1 hb.2) hk0 hn).mono fun r w' hp=>⟨hp.1,hp.2.zero⟩
def IX.picks (N:Nat):Nat->IX->Nat->IX
 |0,s,_=>s
 |n+1,s,i=>if s.ends N i=true then s.pick N i else IX.picks N n (s.pick N i) i
def RDo (N m n:Nat) (own:Nat->Nat) (xb bm:Nat) (tbs:List Nat) (s:IX) (k i:Nat) (w:World) (iv:Value) (wr:World):Prop:=
 ∃(j:Nat) (own':Nat->Nat) (s':IX),iv=.int .i64 j/\j<=n/\IxP own' xb bm tbs s' (k+j*100) wr/\s'.Ok N (m+j)/\IX.picks N (n-j) s' i=IX.picks N n s i/\Chg (fun y=>own y≠0) w wr/\(∀y,own' y≠0->own y≠0\/w.heap.size<y)/\Blk wr w.heap.size 215 #[.int .i64 2,.int .i64 i,.int .i64 n,.int .i64 0,.int .i64 0,.int .i64 0]
theorem QbL (N m n:Nat) (own:Nat->Nat) (xb bm:Nat) (tbs:List Nat) (s:IX) (k:Nat) (i:Nat) (w:World) (h:IxP own xb bm tbs s k w) (hzero:∀y,w.heap.size<=y->own y=0) (hi:i<tbs.length) (ok:s.Ok N m) (hn2:n<=100) (hmN:m+n+2<N) (hmm:m+n<=1000000) (hk0:k+n*100<=900000000) (hn:tbs.length<=64):
  Calls Tryz.prog 172 #[.pointer (some ⟨xb,0,none⟩),.agg #[.int .i64 2,.int .i64 i,.int .i64 n,.int .i64 0,.int .i64 0,.int .i64 0]] w (fun e w'=>e=.returned (.int .i64 0)/\IxPost own xb bm tbs (IX.picks N n s i) (k+n*100) w w'):=by
 have hba:=(Below.refl w.heap.size w).alloc (Nat.le_refl _) (.cells #[.int .i64 2,.int .i64 i,.int .i64 n,.int .i64 0,.int .i64 0,.int .i64 0] 215);have hab:=Blk.new w 215 #[.int .i64 2,.int .i64 i,.int .i64 n,.int .i64 0,.int .i64 0,.int .i64 0];have hzw:=hzero w.heap.size (Nat.le_refl _)
 have START:Hid (RDo N m n own xb bm tbs s k i w (.int .i64 0) (w.alloc (.cells #[.int .i64 2,.int .i64 i,.int .i64 n,.int .i64 0,.int .i64 0,.int .i64 0] 215))):=LH
  ⟨0,own,s,rfl,Nat.zero_le _,(h.below hba).le (by omega),ok,rfl,Chg.of_below hba,fun y hy=>.inl hy,hab⟩
 have HZ:=LH hzw;have p0:(w.alloc (.cells #[.int .i64 2,.int .i64 i,.int .i64 n,.int .i64 0,.int .i64 0,.int .i64 0] 215)).cell? ⟨w.heap.size,0,none⟩=some (.int .i64 2):=hab.cell 0;clear hba hab hzw h ok hzero;go_enter Tryz.func172,Tryz.ntmps172;go_wp2_with (fail);clear p0
 go_loopw [5] (fun iv wr=>RDo N m n own xb bm tbs s k i w iv wr) (fun iv _=>((n:Int)-intOf iv).toNat)
 case atStart=>exact START.out
 case round=>
  clear START;obtain ⟨j,own',s',rfl,hj,hix,hok,hpk,hch,hown,hab⟩:=hrel;have p1:wr.cell? ⟨w.heap.size,1,none⟩=some (.int .i64 i):=hab.cell 1;have p2:wr.cell? ⟨w.heap.size,2,none⟩=some (.int .i64 n):=hab.cell 2;by_cases hlt:(j:Int)<n
  ·have hlt2:(j:Int)<65536:=by omega
   have hnj:n-j=(n-(j+1))+1:=by omega
   rw[hnj] at hpk
   have HPK:=LH hpk;have HIX:=LH hix;have HOK:=LH hok;have HCH:=LH hch;have HOWN:=LH hown;have HAB:=LH hab;clear hpk hix hok hch hown hab hnj;go_wp2_with (fail);with_reducible refine (Qbo N (m+j) own' xb bm tbs s' (k+j*100) i _ HIX.out hi HOK.out (by omega) (by omega) (by omega) hn).mono ?_
   rintro e w3 hp;obtain ⟨⟨rv,rfl,hrv⟩,own2,hix2,hc2,ho2⟩:=hp;have HIX2:=LH (hix2.le (show k+j*100+tbs.length+1<=k+(j+1)*100 by omega));have HCH2:=LH (HCH.out.grow hc2 (fun y hy=>(HOWN.out y hy).imp id Nat.le_of_lt))
   have hab3:=hc2.blk HAB.out (fun e=>by
    rcases HOWN.out _ e with h1|h1
    ·exact h1 HZ.out
    ·omega)
   have HOWN2:=LH (show∀y,own2 y≠0->own y≠0\/w.heap.size<y from fun y hy=>by
    rcases ho2 y hy with h1|h1
    ·exact HOWN.out y h1
    ·have:=HAB.out.lt;exact .inr (by omega))
   have HAB3:=LH hab3;have HAL:Hid (∀o,Below w3.heap.size w3 (w3.alloc o)):=LH (fun o=>(Below.refl _ _).alloc (Nat.le_refl _) o);clear hix2 hc2 ho2 hab3
   cases hend:s'.ends N i with
   |true=>
    have HF:=LH (show IX.picks N n s i=s'.pick N i by rw[<-HPK.out];exact if_pos hend);have hjn:k+(j+1)*100<=k+n*100:=by have:(j+1)*100<=n*100:=Nat.mul_le_mul_right _ (by omega);omega
    have HFIN:=LH (show∀o,IxPost own xb bm tbs (IX.picks N n s i) (k+n*100) w (w3.alloc o) from fun o=>by rw[HF.out];exact ⟨own2,(HIX2.out.below (HAL.out o)).le hjn,HCH2.out.trans (Chg.of_below (HAL.out o)),fun y hy=>(HOWN2.out y hy).imp id Nat.le_of_lt⟩)
    rcases hrv with ⟨r0,r1,r2,r3,r4,r5,r6,r7,rfl⟩
    go_wp2_with (fail);go_ret;exact ⟨rfl,HFIN.out _⟩
   |false=>
    have HF:=LH (show IX.picks N (n-(j+1)) (s'.pick N i) i=IX.picks N n s i by rw[<-HPK.out];exact (if_neg (by rw[hend];decide)).symm);have HOK2:=LH (show (s'.pick N i).Ok N (m+(j+1)) from HOK.out.pick (by rw[<-HIX.out.len];exact hi))
    rcases hrv with ⟨r0,r1,r2,r3,r4,r5,r6,r7,rfl⟩
    go_wp2_with (fail)
    go_roundw
    case rel=>exact ⟨j+1,own2,s'.pick N i,by go_num,by omega,HIX2.out.below (HAL.out _),HOK2.out,HF.out,HCH2.out.trans (Chg.of_below (HAL.out _)),HOWN2.out,HAB3.out.below (HAL.out _) HAB3.out.lt⟩
    case measure=>simp[intOf];omega
  ·have hjn:j=n:=by omega
   subst hjn;have hnlt:(j:Int)<=j:=Int.le_refl _;have hpk2:s'=IX.picks N j s i:=by rw[<-hpk,Nat.sub_self];rfl
   have HFIN:=LH (show IxPost own xb bm tbs (IX.picks N j s i) (k+j*100) w wr by rw[<-hpk2];exact ⟨own',hix,hch,fun y hy=>(hown y hy).imp id Nat.le_of_lt⟩);clear hix hok hpk hch hown hab hpk2 hlt;go_wp2_with (fail);go_ret;exact ⟨rfl,HFIN.out⟩
theorem QbM (N m n:Nat) (own:Nat->Nat) (xb bm:Nat) (tbs:List Nat) (s:IX) (k:Nat) (i:Nat) (w:World) (h:IxP own xb bm tbs s k w) (hi:i<tbs.length) (ok:s.Ok N m) (hn2:n<=100) (hmN:m+n+2<N) (hmm:m+n<=1000000) (hk0:k+n*100<=900000000) (hn:tbs.length<=64):
  Calls Tryz.prog 172 #[.pointer (some ⟨xb,0,none⟩),.agg #[.int .i64 2,.int .i64 i,.int .i64 n,.int .i64 0,.int .i64 0,.int .i64 0]] w (fun e w'=>e=.returned (.int .i64 0)/\IxPost own xb bm tbs (IX.picks N n s i) (k+n*100) w w'):=
 (QbL N m n _ xb bm tbs s k i w h.zero (fun y hy=>if_neg (by omega)) hi ok hn2 hmN hmm hk0 hn).mono fun e w' hp=>⟨hp.1,hp.2.zero⟩
structure SysI (N:Nat) (s:IX) (G:GS):Prop where
 inv:Inv G
 rep:Rep s.C G
 max:s.max<=16384
 fit:(s.C.length:Int)<=s.max
 thr:∀i,i<s.T.length->(s.T.getD i TH.nil).busy=true->Safe s.max i ((s.T.getD i TH.nil).rest N) (fun _ _=>True) G/\((s.T.getD i TH.nil).x.tree N).Dp N (fun _ _=>True)
section
variable {N m:Nat} {s:IX} {G:GS} {o:Op} {i:Nat}
theorem Q7Q {α:Type} {l:List α} {i j:Nat} {a d:α} (hi:i<l.length):(l.set i a).getD j d=if j=i then a else l.getD j d:=by
 rw[List.getD_eq_getElem?_getD,List.getD_eq_getElem?_getD]
 by_cases e:j=i
 ·subst e;rw[if_pos rfl,List.getElem?_set_self hi];rfl
 ·rw[if_neg e,List.getElem?_set_ne (by omega)]
theorem SysI.pick (h:SysI N s G) (ok:s.Ok N m) (hm:m<N) (hi:i<s.T.length):∃G',SysI N (s.pick N i) G'/\Ext G G':=by
 unfold IX.pick;by_cases hb:(s.T.getD i TH.nil).busy=true
 ·rw[if_pos hb]
  have ht:=ok.thr _ (Q2F (d:=TH.nil) hi) hb;have hs:=h.thr i hi hb;have hfit:=(TH.step_cells ht ok.cb ok.fit ok.max).2.1
  cases hdn:(s.T.getD i TH.nil).done with
  |true=>
   rw[step_done hdn]
   refine ⟨G,⟨h.inv,h.rep,h.max,h.fit,fun j hj hbj=> ?_⟩,Ext.refl _⟩;have hj:j<s.T.length:=by simpa using hj
   rw[Q7Q hi] at hbj|-
   by_cases e:j=i
   ·rw[if_pos e] at hbj;cases hbj
   ·rw[if_neg e] at hbj|-;exact h.thr j hj hbj
  |false=>
   cases hq:((s.T.getD i TH.nil).rest N).next with
   |none=>have:=ht.done;rw[hq,hdn] at this;cases this
   |some q=>
    have hl:(s.T.getD i TH.nil).T.length<N:=Nat.lt_of_le_of_lt ht.len hm;obtain ⟨G2,r2,g2,s2⟩:=Q8s hs.1 (Q9W _ hs.2 hl) (by omega) hq (Rely.refl h.inv) h.rep h.fit
    rw[Q5p hdn hq] at hfit|-
    refine ⟨G2,⟨g2.inv,r2,h.max,hfit,fun j hj hbj=> ?_⟩,g2.ext⟩;have hj:j<s.T.length:=by simpa using hj
    rw[Q7Q hi] at hbj|-
    by_cases e:j=i
    ·rw[if_pos e]
     refine ⟨?_,hs.2⟩
     rw[e]
     show Safe s.max i (((s.T.getD i TH.nil).x.tree N).rest ((s.T.getD i TH.nil).T++[(exQ s.max q s.C).1])) _ G2
     rw[Q4o]
     exact s2
    ·rw[if_neg e] at hbj|-
     have:=h.thr j hj hbj;exact ⟨Q8q this.1 (g2.rely e),this.2⟩
 ·rw[if_neg hb]
  exact ⟨G,h,Ext.refl _⟩
theorem Qf1 (t:TH) (o:Op):((t.freshX o).tree N).Dp N (fun _ _=>True):=by
 unfold FX.tree;have h15:(t.freshX o).proc=if 3<o.kind then 25 else 24:=rfl
 rw[if_neg (by rw[h15];split<;>decide),if_neg (by rw[h15];split<;>decide),if_neg (by rw[h15];split<;>decide),if_neg (by rw[h15];split<;>decide)]
 split
 ·exact Q4Z (Q3d (QaE (N+1) N (.inr (by omega))) fun _ _ _ _ _=>Q6h fun _=>trivial)
 ·split
  ·exact Q6h fun _=>trivial
  ·split
   ·exact Q6h fun _=>trivial
   ·exact Q4Z (Q3d (Qge (Nat.le_refl N)) fun _ _ _ _ _=>Q6h fun _=>trivial)
theorem QbI {M:Int} (hM:M<=16384) (hG:Inv G) (t:TH) (ho:Q1A<=o.key/\o.key<=Q2K) (j:Nat):Safe M j ((t.freshX o).tree N) (fun _ _=>True) G:=by
 unfold FX.tree;have h15:(t.freshX o).proc=if 3<o.kind then 25 else 24:=rfl
 rw[if_neg (by rw[h15];split<;>decide),if_neg (by rw[h15];split<;>decide),if_neg (by rw[h15];split<;>decide),if_neg (by rw[h15];split<;>decide)]
 split
 ·exact Safe.bind hG (Safe.mono (fun _ _ _ _=>fun _ _=>trivial) (Q5M hM ho (N+1) G hG))
 ·split
  ·exact fun _ _=>trivial
  ·split
   ·exact fun _ _=>trivial
   ·exact Safe.bind hG (Safe.mono (fun _ _ _ _=>fun _ _=>trivial) (ReadsP.safe (Q9E _ _ _)))
theorem SysI.invoke (h:SysI N s G) (hi:i<s.T.length) (ho:Q1A<=o.key/\o.key<=Q2K):SysI N (s.invoke N i o) G:=by
 unfold IX.invoke;by_cases hb:(s.T.getD i TH.nil).busy=true
 ·rw[if_pos hb];exact h
 ·rw[if_neg hb]
  refine ⟨h.inv,h.rep,h.max,h.fit,fun j hj hbj=> ?_⟩;have hj:j<s.T.length:=by simpa using hj
  rw[Q7Q hi] at hbj|-
  by_cases e:j=i
  ·rw[if_pos e]
   exact ⟨Q4J (QbI h.max h.inv _ ho j),Qf1 _ _⟩
  ·rw[if_neg e] at hbj|-
   exact h.thr j hj hbj
end
structure Ini (G:GS):Prop where
 inv:Inv G
 ty:∀a,G.ty a<=3
 sum:∀n,G.sum n=0
section
variable {C:List Int} {G G':GS}
theorem Q4X {m k:Int} (h:∀a,G.ty a<=3) (hk:k<=3):∀a,upd G.ty m k a<=3:=fun a=>by
 by_cases e:a=m
 ·rw[e,Q0h];exact hk
 ·rw[Q0A _ _ e];exact h a
theorem Q9R {m:Int} (h:∀a,G.sum a=0):∀a,upd G.sum m 0 a=0:=fun a=>by
 by_cases e:a=m
 ·rw[e,Q0h]
 ·rw[Q0A _ _ e];exact h a
theorem Qd9:∀(f:Nat) (l:List (Int×Int)) (a b:Int) (C:List Int) (G:GS),Ini G->Rep C G->AscB a b l->l.length<f->l.length<=16384->((Q0T f C l).1.length:Int)<=16384->
  ∃G',Ini G'/\Rep (Q0T f C l).1 G'/\Ext G G'/\VR G' a b (Q0T f C l).2
 |0,l,_,_,_,_,_,_,_,h,_,_=>absurd h (by omega)
 |f+1,l,a,b,C,G,hi,hr,ha,hf,hl,hx=>by
  by_cases c0:l.length=0
  ·have e:Q0T (f+1) C l=(C++[0],wOf 1 ((C.length:Int)+1)):=if_pos c0
   rw[e] at hx|-
   have hb:(C.length:Int)+1<=16384:=by simpa using hx
   show∃G',Ini G'/\Rep (C++[0]) G'/\Ext G G'/\VR G' a b (wOf 1 ((C.length:Int)+1));obtain ⟨s1,s2,s3⟩:=Q5G (a:=a) (b:=b) hi.inv hr rfl hb;have cp:=Q2J (k:=1) hr rfl (by decide) (by decide) hb;refine ⟨_,⟨s2,Q4X hi.ty (by decide),hi.sum⟩,s1,s3,⟨by omega,by omega, ?_,fun _=> ?_,fun k=>by omega,fun k=>by omega⟩⟩
   ·rw[cp.2.1,cp.1];exact Q0h _ _ _
   ·rw[cp.2.1];exact ⟨Q0h _ _ _,Q0h _ _ _⟩
  ·by_cases c1:l.length=1
   ·have e:Q0T (f+1) C l=(C++[Q16 l 0,Q42 l 0],wOf 2 ((C.length:Int)+1)):=(if_neg c0).trans (if_pos c1)
    rw[e] at hx|-
    have hb:(C.length:Int)+2<=16384:=by simpa using hx
    show∃G',Ini G'/\Rep (C++[Q16 l 0,Q42 l 0]) G'/\Ext G G'/\VR G' a b (wOf 2 ((C.length:Int)+1));obtain ⟨s1,s2,s3⟩:=Q5F (k:=Q16 l 0) (v:=Q42 l 0) hi.inv hr rfl hb;have cp:=Q2J (k:=2) hr rfl (by decide) (by decide) (by omega);have e1:(G.newL ((C.length:Int)+1) (Q16 l 0) (Q42 l 0)).k1 ((C.length:Int)+1)=Q16 l 0:=Q0h _ _ _;refine ⟨_,⟨s2,Q4X hi.ty (by decide),hi.sum⟩,s1,s3,⟨by omega,by omega, ?_,fun k=>by omega,fun _=> ?_,fun k=>by omega⟩⟩
    ·rw[cp.2.1,cp.1];exact Q0h _ _ _
    ·rw[cp.2.1,e1];exact ⟨ha.lo 0 (by omega),ha.hi 0 (by omega)⟩
   ·have h2:2<=l.length:=by omega
    have hd:=Q0M (n:=(l.length:Int)) (by omega) (by omega);have e:Q0T (f+1) C l=((Q0Q (Q0T f) C l (Q00 l.length).toNat).1++Q0U l.length (Q1n l (Q00 l.length).toNat) (Q0Q (Q0T f) C l (Q00 l.length).toNat).2,wOf 3 (((Q0Q (Q0T f) C l (Q00 l.length).toNat).1.length:Int)+1)):=(if_neg c0).trans (if_neg c1)
    rw[e] at hx|-
    have hx:(((Q0Q (Q0T f) C l (Q00 l.length).toNat).1++Q0U l.length (Q1n l (Q00 l.length).toNat) (Q0Q (Q0T f) C l (Q00 l.length).toNat).2).length:Int)<=16384:=hx
    rw[List.length_append] at hx
    have go:∀i:Nat,(i:Int)<=Q00 l.length->∃G1,Ini G1/\Rep (Q0Q (Q0T f) C l i).1 G1/\Ext G G1/\(∀j:Int,0<=j->j<i->VR G1 (bnd l a b j) (bnd l a b (j+1)-1) (keyAt (Q0Q (Q0T f) C l i).2 j.toNat)):=by
     intro i
     induction i with
     |zero=>exact fun _=>⟨G,hi,hr,Ext.refl _,fun j j0 j1=>absurd j1 (by omega)⟩
     |succ i ih=>
      intro him;obtain ⟨G1,g1,r1,x1,v1⟩:=ih (by omega);obtain ⟨sa,sl⟩:=Q9x ha h2 hl (i:=(i:Int)) (by omega) (by omega);have fb:=Q3z h2 hl (i:=(i:Int)) (by omega) (by omega);have hle:=Qap f C l (i+1) ((Q00 l.length).toNat-(i+1))
      rw[show i+1+((Q00 l.length).toNat-(i+1))=(Q00 l.length).toNat by omega] at hle
      have hle2:((Q0T f (Q0Q (Q0T f) C l i).1 (Q6H l (Q0S l.length i) (Q15 l.length i))).1.length:Int)<=16384:=by
       have:(Q0T f (Q0Q (Q0T f) C l i).1 (Q6H l (Q0S l.length i) (Q15 l.length i))).1=(Q0Q (Q0T f) C l (i+1)).1:=rfl
       rw[this];omega
      obtain ⟨G2,g2,r2,x2,v2⟩:=Qd9 f (Q6H l (Q0S l.length i) (Q15 l.length i)) _ _ (Q0Q (Q0T f) C l i).1 G1 g1 r1 sa (by omega) (by omega) hle2;refine ⟨G2,g2,r2,x1.trans x2,fun j j0 j1=> ?_⟩;have hw:(Q0Q (Q0T f) C l (i+1)).2=(Q0Q (Q0T f) C l i).2++[(Q0T f (Q0Q (Q0T f) C l i).1 (Q6H l (Q0S l.length i) (Q15 l.length i))).2]:=rfl
      rw[hw,Q3S,Q1T]
      by_cases c:j<i
      ·rw[if_pos (by omega)];exact (v1 j j0 c).ext x2
      ·have ej:j=i:=by omega
       subst ej
       rw[if_neg (by omega),if_pos (by omega)];exact v2
    obtain ⟨G1,g1,r1,x1,v1⟩:=go (Q00 l.length).toNat (by omega);have hcl:(Q0Q (Q0T f) C l (Q00 l.length).toNat).2.length=(Q00 l.length).toNat:=Q1T _
    have hql:(Q1n l (Q00 l.length).toNat).length+1=(Q00 l.length).toNat:=by
     obtain ⟨d,hd'⟩:∃d,(Q00 l.length).toNat=d+1:=⟨(Q00 l.length).toNat-1,by omega⟩
     rw[hd',Q2i]
    have hkk:∀(i:Nat) (j:Int),(i:Int)<=Q00 l.length->1<=j->j<i->keyAt (Q1n l i) (j-1).toNat=bnd l a b j:=by
     intro i
     induction i with
     |zero=>intro j _ _ h;omega
     |succ i ih=>
      intro j hid j1 ji
      cases i with
      |zero=>omega
      |succ i=>
       show keyAt (Q1n l (i+1)++[Q16 l (Q0S l.length ((i+1:Nat):Int)).toNat]) (j-1).toNat=_
       rw[Q3S,Q2i]
       by_cases c:j<((i+1:Nat):Int)
       ·rw[if_pos (by omega)];exact ih j (by omega) j1 c
       ·have ej:j=((i+1:Nat):Int):=by omega
        rw[if_neg (by omega),if_pos (by omega),ej,Qea (by omega) (by omega)]
    generalize Q0Q (Q0T f) C l (Q00 l.length).toNat=Y at hx r1 v1 hcl|-;have hkd:=hkk (Q00 l.length).toNat;generalize Q1n l (Q00 l.length).toNat=q at hx hql hkd|-;show∃G',Ini G'/\Rep (Y.1++Q0U l.length q Y.2) G'/\Ext G G'/\VR G' a b (wOf 3 ((Y.1.length:Int)+1));have hcq:Y.2.length=q.length+1:=by omega
    have hwl:((Q0U (l.length:Int) q Y.2).length:Int)=4+2*Y.2.length:=by simp[Q0U];omega
    obtain ⟨s1,s2,s3⟩:=Q4f (a:=a) (b:=b) (n:=l.length) (K:=bnd l a b) g1.inv r1 rfl hcq (by omega) (by omega) Qgt (by rw[show (Y.2.length:Int)=Q00 l.length by omega];exact Qgj (by omega)) (fun x y x0 xy yd=>QdN ha h2 hl x0 xy (by omega))
     (fun j j0 j1=>.inl (hkd j (by omega) j0 (by omega))) (fun j j0 j1=>.inr (v1 j j0 (by omega)))
    have cp:=Q2J (k:=3) r1 rfl (by decide) (by decide) (by omega);refine ⟨_,⟨s2,Q4X g1.ty (by decide),Q9R g1.sum⟩,s1,x1.trans s3,⟨by omega,by omega, ?_,fun k=>by omega,fun k=>by omega,fun _=> ?_⟩⟩
    ·rw[cp.2.1,cp.1];exact Q0h _ _ _
    ·rw[cp.2.1]
     refine ⟨Q0h _ _ _,Q0h _ _ _,fun j j0 j1=> ?_,by have:=r1.used (a:=1) (by rw[g1.inv.r1.1];decide);omega⟩
     rw[show (GS.newI G1 ((Y.1.length:Int)+1) Y.2.length a b (bnd l a b) (fun i=>keyAt q (i-1).toNat) (fun i=>keyAt Y.2 i.toNat)).deg ((Y.1.length:Int)+1)=Y.2.length from Q0h _ _ _] at j1
     rw[show (GS.newI G1 ((Y.1.length:Int)+1) Y.2.length a b (bnd l a b) (fun i=>keyAt q (i-1).toNat) (fun i=>keyAt Y.2 i.toNat)).slot ((Y.1.length:Int)+1)=(fun i=>keyAt Y.2 i.toNat) from Q0h _ _ _]
     intro e;have:=(v1 j j0 (by omega)).k0;have e:keyAt Y.2 j.toNat=0:=e
     rw[e,Q0Y] at this
     omega
end
def opK (n:Int):Int:=if 10<1+n%14 then 1+(1+n%14)%3 else 1+n%14
def opI (n:Int):Op:=⟨opK n,(n.tdiv 14)%41-10,((n.tdiv 14).tdiv 41)%50⟩
theorem Q5r (n:Int):1<=(opI n).kind/\(opI n).kind<=10:=by
 show 1<=opK n/\opK n<=10;unfold opK
 split<;>omega
theorem QfX (n:Int):(opI n).B:=⟨by show i64B ((n.tdiv 14)%41-10);unfold i64B;omega,by show i64B (((n.tdiv 14).tdiv 41)%50);unfold i64B;omega⟩
theorem QgA {n:Int} (h0:-9223372036854775808<=n) (h1:n<=9223372036854775807):-9223372036854775808<=n.tdiv 14/\n.tdiv 14<=9223372036854775807:=by
 have e:n=14*(n.tdiv 14)+n.tmod 14:=(Int.mul_tdiv_add_tmod n 14).symm;obtain ⟨b0,b1⟩:=Q7n n 14 (by decide);omega
theorem Qgz {n:Int} (h0:-9223372036854775808<=n) (h1:n<=9223372036854775807):-9223372036854775808<=n.tdiv 41/\n.tdiv 41<=9223372036854775807:=by
 have e:n=41*(n.tdiv 41)+n.tmod 41:=(Int.mul_tdiv_add_tmod n 41).symm;obtain ⟨b0,b1⟩:=Q7n n 41 (by decide);omega
def opV (o:Op):Value:=.agg #[.int .i64 o.kind,.int .i64 o.key,.int .i64 o.val]
theorem Q4n {P:Program} {fn:Func} {p1:Tmp} {ty:TypeId} (h:fn.results=#[.cell p1 ty]) (tmps:Array Value) (w:World) (g:Nat) (t:TypeId) (cs:Array Value) (fr:Nat×Nat) (d:TypeDesc)
  (hp:tmps.getD p1 undef=.pointer (some ⟨g,0,none⟩)) (hg:w.heap[g]? =some (.cells cs t fr))
  (hu:P.underlying ty=some d) (hd:(match d with|.struct _|.array _ _=>true|_=>false)=true) (hi:(P.info? ty).map (·.size)=some cs.size):
  (results fn tmps).run P w=.ok (.agg cs) w:=by
 have hp':tmps[p1]?.getD undef=.pointer (some ⟨g,0,none⟩):=by simpa using hp
 simp[results,h,hp',asAddr,run_loadVar_row w g t ty cs fr d hg hu hd hi]
theorem QgF (n:Int) (w:World) (h0:-9223372036854775808<=n) (h1:n<=9223372036854775807):
  Calls Tryz.prog 113 #[.int .i64 n] w fun e w'=>e=.returned (opV (opI n))/\Below w.heap.size w w':=by
 obtain ⟨a0,a1⟩:=QgA h0 h1;obtain ⟨a2,a3⟩:=Qgz a0 a1;have hba:=(Below.refl w.heap.size w).alloc (Nat.le_refl _) (.cells #[.int .i64 0,.int .i64 0,.int .i64 0] 48);have HBA:=LH hba;have d1:=Int.emod_nonneg n (show (14:Int)≠0 by decide);have d2:=Int.emod_lt_of_pos n (show (0:Int)<14 by decide);by_cases hk:10<1+n%14
 ·have HO:=LH (show opK n=1+(1+n%14)%3 from if_pos hk);go_enter Tryz.func113,Tryz.ntmps113;go_wp2_with (fail);with_reducible refine (Q1J n 14 _ h0 h1 (by decide) (by decide)).mono ?_
  rintro e w1 ⟨rfl,rfl⟩;go_wp2_with (fail);with_reducible refine (Q1J (1+n%14) 3 _ (by omega) (by omega) (by decide) (by decide)).mono ?_
  rintro e w1 ⟨rfl,rfl⟩;go_wp2_with (fail);with_reducible refine (Q1J (n.tdiv 14) 41 _ a0 a1 (by decide) (by decide)).mono ?_
  rintro e w1 ⟨rfl,rfl⟩;go_wp2_with (fail);with_reducible refine (Q1J ((n.tdiv 14).tdiv 41) 50 _ a2 a3 (by decide) (by decide)).mono ?_
  rintro e w1 ⟨rfl,rfl⟩;go_wp2_with (fail);refine bodyPost_ret (v:=opV (opI n)) (Q4n rfl _ _ w.heap.size 48 #[.int .i64 (opK n),.int .i64 (n.tdiv 14%41-10),.int .i64 ((n.tdiv 14).tdiv 41%50)] (0,0) _ rfl ?_ Tryz.underlying48 rfl (by kernel_rfl)) rfl ?_
  ·rw[HO.out];exact Blk.new w _ _
  ·exact ⟨rfl,(Below.refl w.heap.size w).alloc (Nat.le_refl _) _⟩
 ·have HO:=LH (show opK n=1+n%14 from if_neg hk);go_enter Tryz.func113,Tryz.ntmps113;go_wp2_with (fail);with_reducible refine (Q1J n 14 _ h0 h1 (by decide) (by decide)).mono ?_
  rintro e w1 ⟨rfl,rfl⟩;go_wp2_with (fail);with_reducible refine (Q1J (n.tdiv 14) 41 _ a0 a1 (by decide) (by decide)).mono ?_
  rintro e w1 ⟨rfl,rfl⟩;go_wp2_with (fail);with_reducible refine (Q1J ((n.tdiv 14).tdiv 41) 50 _ a2 a3 (by decide) (by decide)).mono ?_
  rintro e w1 ⟨rfl,rfl⟩;go_wp2_with (fail);refine bodyPost_ret (v:=opV (opI n)) (Q4n rfl _ _ w.heap.size 48 #[.int .i64 (opK n),.int .i64 (n.tdiv 14%41-10),.int .i64 ((n.tdiv 14).tdiv 41%50)] (0,0) _ rfl ?_ Tryz.underlying48 rfl (by kernel_rfl)) rfl ?_
  ·rw[HO.out];exact Blk.new w _ _
  ·exact ⟨rfl,(Below.refl w.heap.size w).alloc (Nat.le_refl _) _⟩
theorem Qg6 (A:Option Addr) (c N:Nat) (n:Nat) (w:World) (h1:N<=9223372036854775807) (hc:N<=c):
  Calls Tryz.prog 171 #[.slice A N c,.int .i64 n] w fun e w'=>e=.returned (.slice A (min N n) c)/\w=w':=by
 by_cases hlt:n<N
 ·have hlt2:(n:Int)<N:=by omega
  have hm:min N n=n:=by omega
  have hnc:n<=c:=by omega
  rw[hm]
  go_enter Tryz.func171,Tryz.ntmps171;go_wp2_with (fail);go_ret;exact ⟨rfl,rfl⟩
 ·have hlt2:¬(n:Int)<N:=by omega
  have hm:min N n=N:=by omega
  rw[hm]
  go_enter Tryz.func171,Tryz.ntmps171;go_wp2_with (fail);go_ret;exact ⟨rfl,rfl⟩
def stepW (N:Nat) (T:Nat) (s:IX) (n:Int):IX:=
 if 0<(n.tdiv T)%3/\(s.T.getD (n%T).toNat TH.nil).busy=true then IX.picks N (1+((n.tdiv T).tdiv 3)%24).toNat s (n%T).toNat else s.invoke N (n%T).toNat (opI ((n.tdiv T).tdiv 3))
def worldTo (N T:Nat) (s:IX) (l:List Int):Nat->IX
 |0=>s
 |k+1=>stepW N T (worldTo N T s l k) (keyAt l k)
def IX.loadR (s:IX) (l:List (Int×Int)):IX:=if (s.C.length:Int)+Q0D l.length<=s.max then s.load l else s
def Q2Y (cells:Int) (T:Nat):IX:=⟨beginL,150+cells%650,List.replicate T (TH.new 2)⟩
def Q1e (cells:Int) (T:Nat) (keys:List Int):IX:=(Q2Y cells T).loadR (hpL (keys.take 20))
def Q2N (N:Nat) (cells:Int) (T:Nat) (keys l:List Int):IX:=worldTo N T (Q1e cells T keys) l (min l.length 70)
theorem Qbv {own:Nat->Nat} {xb bm:Nat} {tbs:List Nat} {s:IX} {k:Nat} (A:Option Addr) (c:Nat) (l:List (Int×Int)) (w:World) (h:IxP own xb bm tbs s k w) (hn:tbs.length<=64) (hb:∀i,i<tbs.length->(s.T.getD i TH.nil).busy=false)
  (hC:s.C.length<=65536) (hx:s.max<=65536) (hm0:(s.C.length:Int)<=s.max) (hcb:CB s.C) (hsb:SoundB s.C) (hk1:Q04 (lgC s.C 6)=1)
  (hq:PairsAt w w.heap.size A l) (hA:∀ad,A=some ad->own ad.block=0) (hc:l.length<=c) (hl:l.length<=1000) (ha:Qgs l) (hk9:k<=900000000):
  Calls Tryz.prog 169 #[.pointer (some ⟨xb,0,none⟩),.slice A l.length c] w (fun e w'=>(∃n,e=.returned (.int .i64 n))/\IxPost own xb bm tbs (s.loadR l) (k+1) w w'):=by
 unfold IX.loadR;by_cases hm:(s.C.length:Int)+Q0D l.length<=s.max
 ·rw[if_pos hm]
  exact (Qbu A c l w h hn hb hC hx hm0 hm hcb hsb hk1 hq hA hc hl ha hk9).mono fun e w' hp=>⟨⟨_,hp.1⟩,hp.2⟩
 ·rw[if_neg hm]
  exact (Q9N A c l w h hn hb hC hx hm0 hm hcb hsb hk1 hq hA hc hl ha hk9).mono fun e w' hp=>⟨⟨_,hp.1⟩,hp.2⟩
theorem IX.Ok.picks {N:Nat}:∀(n:Nat) {m:Nat} {s:IX} (_:s.Ok N m) {i:Nat} (_:i<s.T.length),(IX.picks N n s i).Ok N (m+n)
 |0,_,_,h,_,_=>h
 |n+1,m,s,h,i,hi=>by
  unfold IX.picks
  split
  ·exact (h.pick hi).le (by omega)
  ·exact (IX.Ok.picks n (h.pick hi) (by rw[IX.pick_len];exact hi)).le (by omega)
theorem IX.picks_len (N:Nat):∀(n:Nat) (s:IX) (i:Nat),(IX.picks N n s i).T.length=s.T.length
 |0,_,_=>rfl
 |n+1,s,i=>by
  unfold IX.picks
  split
  ·exact IX.pick_len _ _ _
  ·rw[IX.picks_len N n];exact IX.pick_len _ _ _
theorem Qcp (N T:Nat) (s:IX) (n:Int):(stepW N T s n).T.length=s.T.length:=by
 unfold stepW;split
 ·exact IX.picks_len _ _ _ _
 ·exact IX.invoke_len _ _ _ _
theorem Qep {N T m:Nat} {s:IX} (h:s.Ok N m) (hT:s.T.length=T) (h0:0<T) (n:Int):(stepW N T s n).Ok N (m+24):=by
 have h1:=Int.emod_nonneg n (show (T:Int)≠0 by omega);have h2:=Int.emod_lt_of_pos n (show (0:Int)<T by omega);have hi:(n%T).toNat<s.T.length:=by omega
 unfold stepW;split
 ·exact (IX.Ok.picks _ h hi).le (by omega)
 ·exact (h.invoke hi (Q5r _).1 (Q5r _).2 (QfX _)).le (by omega)
theorem Q2q (N T:Nat) (s:IX) (l:List Int):∀k,(worldTo N T s l k).T.length=s.T.length
 |0=>rfl
 |k+1=>(Qcp _ _ _ _).trans (Q2q N T s l k)
theorem Q2O {N T m:Nat} {s:IX} (h:s.Ok N m) (hT:s.T.length=T) (h0:0<T) (l:List Int):∀k,(worldTo N T s l k).Ok N (m+k*24)
 |0=>by rw[Nat.zero_mul];exact h
 |k+1=>(Qep (Q2O h hT h0 l k) ((Q2q _ _ _ _ _).trans hT) h0 _).le (by omega)
theorem Qby {l:List Int} {n i:Nat} (h:i<n):keyAt (l.take n) i=keyAt l i:=by
 unfold keyAt
 rw[List.getD_eq_getElem?_getD,List.getD_eq_getElem?_getD,List.getElem?_take,if_pos h]
theorem Qde {w:World} {B:Nat} {A:Option Addr} {l:List Int} (h:IntsAt w B A l) (n:Nat):IntsAt w B A (l.take n):=
 ⟨by simp,fun hn=>by
  obtain ⟨ad,e,hb,hc⟩:=h.2 (by rw[List.length_take] at hn;omega)
  exact ⟨ad,e,hb,fun j u hu=>hc j u (by
   rw[List.map_take,List.getElem?_take] at hu
   split at hu
   ·exact hu
   ·cases hu)⟩⟩
theorem Qh1 {n:Int} {T:Nat} (h:1<=T) (h0:-9223372036854775808<=n) (h1:n<=9223372036854775807):-9223372036854775808<=n.tdiv T/\n.tdiv T<=9223372036854775807:=by
 have key:∀m:Int,0<=m->0<=m.tdiv T/\m.tdiv T<=m:=fun m hm=>by
  rw[Int.tdiv_eq_ediv_of_nonneg hm]
  exact ⟨Int.ediv_nonneg hm (by omega),Int.ediv_le_self _ hm⟩
 by_cases hn:0<=n
 ·have:=key n hn;generalize n.tdiv T=q at this;omega
 ·have:=key (-n) (by omega)
  rw[Int.neg_tdiv] at this
  generalize n.tdiv T=q at this;omega
theorem QbJ (cells:Int) (T i:Nat):((Q2Y cells T).T.getD i TH.nil).busy=false:=by
 unfold Q2Y
 rw[List.getD_eq_getElem?_getD]
 by_cases h:i<T
 ·rw[List.getElem?_replicate,if_pos h];rfl
 ·rw[List.getElem?_replicate,if_neg h];rfl
theorem Q4a (s:IX) (l:List (Int×Int)):(s.loadR l).T=s.T/\(s.loadR l).max=s.max:=by unfold IX.loadR;split<;>exact ⟨rfl,rfl⟩
theorem Q3p (N:Nat) (cells:Int) (T:Nat) (keys:List Int):(Q1e cells T keys).Ok N 0:=by
 obtain ⟨z0,z1⟩:=Q44 cells 650 (by decide);have hT:=Q4a (Q2Y cells T) (hpL (keys.take 20))
 have hthr:∀t∈(Q1e cells T keys).T,t=TH.new 2:=fun t ht=>by
  unfold Q1e at ht;rw[hT.1] at ht;exact List.eq_of_mem_replicate ht
 have hmx:(Q1e cells T keys).max=150+cells%650:=hT.2
 have hC:CB (Q1e cells T keys).C/\((Q1e cells T keys).C.length:Int)<=(Q1e cells T keys).max:=by
  rw[hmx]
  unfold Q1e IX.loadR;have hl:=Q7M (keys.take 20)
  split
  ·rename_i hm;have hlc:=Q2W ((hpL (keys.take 20)).length+1) beginL (hpL (keys.take 20)) (by omega) (by omega);refine ⟨fun x hx=> ?_, ?_⟩
   ·have hx:x∈wrC (Q0T ((hpL (keys.take 20)).length+1) beginL (hpL (keys.take 20))).1 6 (Q0T ((hpL (keys.take 20)).length+1) beginL (hpL (keys.take 20))).2:=hx;have hw:=Q8P ((hpL (keys.take 20)).length+1) beginL (hpL (keys.take 20));have hb:=Qda ((hpL (keys.take 20)).length+1) beginL (hpL (keys.take 20)) (fun x hx=>Q88 x hx) (Qfq _) (by omega);unfold wrC at hx
    split at hx
    ·rcases List.mem_or_eq_of_mem_set hx with h|h
     ·exact hb x h
     ·rw[h];unfold i64B;omega
    ·exact hb x hx
   ·show ((wrC (Q0T ((hpL (keys.take 20)).length+1) beginL (hpL (keys.take 20))).1 6 (Q0T ((hpL (keys.take 20)).length+1) beginL (hpL (keys.take 20))).2).length:Int)<=_
    rw[Q21,hlc]
    exact hm
  ·refine ⟨Q88, ?_⟩;show ((7:Nat):Int)<=_;omega
 refine ⟨hC.1,hC.2,by rw[hmx];omega,fun t ht hb=> ?_,fun t ht=> ?_⟩
 ·rw[hthr t ht] at hb;cases hb
 ·rw[hthr t ht];exact ⟨by decide,by decide⟩
def Q6v (N:Nat) (cells:Int) (T:Nat) (keys l:List Int) (w:World) (e:Ending) (w':World):Prop:=∃own xb bm tbs k,e=.returned (.pointer (some ⟨xb,0,none⟩))/\tbs.length=T/\k<=200000/\IxP own xb bm tbs (Q2N N cells T keys l) k w'/\(Q2N N cells T keys l).Ok N 1680/\(∀y,own y≠0->w.heap.size<=y)/\Below w.heap.size w w'
def Qhd (N T:Nat) (cells:Int) (keys l:List Int) (xb bm:Nat) (w:World) (iv:Value) (wr:World):Prop:=
 ∃(j:Nat) (own:Nat->Nat) (tbs:List Nat),iv=.int .i64 j/\j<=l.length/\j<=70/\tbs.length=T/\IxP own xb bm tbs (worldTo N T (Q1e cells T keys) l j) (1+j*2400) wr/\(∀y,own y≠0->w.heap.size<=y)/\Below w.heap.size w wr
theorem Qc9 (N:Nat) (cells:Int) (T:Nat) (A:Option Addr) (c L:Nat) (keys:List Int) (A2:Option Addr) (c2 L2:Nat) (l:List Int) (w:World) (hT0:1<=T) (hT:T<=64) (hN:5000<N)
  (hL:L=keys.length) (hL2:L2=l.length) (hc0:L<=c) (hc02:L2<=c2) (h0:-9223372036854775808<=cells) (h1:cells<=9223372036854775807)
  (hq:IntsAt w w.heap.size A keys) (hl:keys.length<=140737488351232) (hw:∀i,i<keys.length->-9223372036854775808<=keyAt keys i/\keyAt keys i<=9223372036854775807)
  (hq2:IntsAt w w.heap.size A2 l) (hl2:l.length<=140737488351232) (hw2:∀i,i<l.length->-9223372036854775808<=keyAt l i/\keyAt l i<=9223372036854775807):
  Calls Tryz.prog 109 #[.int .i64 cells,.int .i64 T,.slice A L c,.slice A2 L2 c2] w (Q6v N cells T keys l w):=by
 obtain ⟨z0,z1⟩:=Q44 cells 650 (by decide);subst hL hL2;have HQ:=LH hq;have HQ2:=LH hq2;have HW:=LH hw;have HW2:=LH hw2;clear hq hq2 hw hw2;go_enter Tryz.func109,Tryz.ntmps109;go_wp2_with (fail);with_reducible refine (Q1J cells 650 _ h0 h1 (by decide) (by decide)).mono ?_
 rintro e wz ⟨rfl,rfl⟩;go_wp2_with (fail);with_reducible refine (QcT T (150+cells%650) 2 _ (by omega) (by omega) hT0 hT (by decide) (by decide)).mono ?_
 rintro e w1 hp;obtain ⟨own,xb,bm,tbs,rfl,htl,hix,hown,hb1⟩:=hp;have HIX:=LH hix;have HOWN:=LH hown;have HB1:=LH hb1;clear hix hown hb1;have FEW:Hid (∀w',Calls Tryz.prog 171 #[.slice A keys.length c,.int .i64 20] w' fun e w1=>e=.returned (.slice A (min keys.length 20) c)/\w'=w1):=LH (fun w'=>Qg6 A c keys.length 20 w' (by omega) hc0);go_wp2_with (fail);with_reducible refine (FEW.out _).mono ?_
 rintro e wy ⟨rfl,rfl⟩;go_wp2_with (fail);with_reducible refine (Qdi A c (min keys.length 20) (keys.take 20) _ (by rw[List.length_take,Nat.min_comm]) (Qde ((HQ.out.below HB1.out).more HB1.out.size) 20) (by rw[List.length_take];omega) (fun i hi=>by rw[List.length_take] at hi;rw[Qby (by omega)];exact HW.out i (by omega))).mono ?_
 rintro e w2 hp;obtain ⟨A1,c1,rfl,hc1,hpp,hb2,hfr⟩:=hp;have HB2:=LH (HB1.out.trans ((Chg.of_below (F:=fun _=>False) hb2).below (fun y hy=>hy.elim) HB1.out.size));have HIX2:=LH (show IxP (fun y=>if y<w1.heap.size then own y else 0) xb bm tbs (Q2Y cells T) 0 w2 from HIX.out.zero.below hb2);have f1:(Q2Y cells T).C.length<=65536:=by show beginL.length<=65536;decide
 have f2:(Q2Y cells T).max<=65536:=by show 150+cells%650<=65536;omega
 have f3:((Q2Y cells T).C.length:Int)<=(Q2Y cells T).max:=by show ((7:Nat):Int)<=150+cells%650;omega
 have f4:CB (Q2Y cells T).C:=Q88;have f5:SoundB (Q2Y cells T).C:=Q8k;have f6:Q04 (lgC (Q2Y cells T).C 6)=1:=Qd3;have HFR:=LH (show∀ad,A1=some ad->(fun y=>if y<w1.heap.size then own y else 0) ad.block=0 from fun ad e=>if_neg (by have:=hfr ad e;omega));have HPP:=LH (show PairsAt w2 w2.heap.size A1 (hpL (keys.take 20)) from hpp);have hll:=Q7M (keys.take 20);clear hpp hb2 hfr;go_wp2_with (fail);with_reducible refine (Qbv A1 c1 (hpL (keys.take 20)) _ HIX2.out (by omega) (fun i _=>QbJ cells T i) f1 f2 f3 f4 f5 f6 HPP.out HFR.out hc1 (by omega) (Qg2 _) (by decide)).mono ?_
 rintro e w3 hp;obtain ⟨⟨n3,rfl⟩,own3,hix3,hc3,ho3⟩:=hp
 have START:Hid (Qhd N T cells keys l xb bm w (.int .i64 0) w3):=LH ⟨0,own3,tbs,rfl,Nat.zero_le _,Nat.zero_le _,htl,hix3,fun y hy=>by
  have h2:=HB2.out.size
  rcases ho3 y hy with h|h
  ·have h:(if y<w1.heap.size then own y else 0)≠0:=h;by_cases e:y<w1.heap.size
   ·rw[if_pos e] at h;exact HOWN.out y h
   ·rw[if_neg e] at h;exact absurd rfl h
  ·omega,HB2.out.trans (hc3.below (B:=w.heap.size) (fun y h=>by
   have h:(if y<w1.heap.size then own y else 0)≠0:=h;by_cases e:y<w1.heap.size
   ·rw[if_pos e] at h;exact HOWN.out y h
   ·rw[if_neg e] at h;exact absurd rfl h) HB2.out.size)⟩
 clear hix3 hc3 ho3 HIX HIX2 HFR HPP HB1 HB2 HOWN f1 f2 f3 f4 f5 f6 hll htl;go_wp2_with (fail)
 go_loopw [11] (fun iv wr=>Qhd N T cells keys l xb bm w iv wr) (fun iv _=>((l.length:Int)-intOf iv).toNat)
 case atStart=>exact START.out
 case round=>
  clear START;obtain ⟨j,own,tbs,rfl,hj1,hj2,htl,hix,hown,hbl⟩:=hrel;by_cases hlt:j<l.length/\j<70
  ·obtain ⟨l1,l2⟩:=hlt;have l3:(j:Int)<l.length:=by omega
   have l4:(j:Int)<70:=by omega
   obtain ⟨ad,e,had,hcell⟩:=(HQ2.out.below hbl).cells (by omega);have c0:=hcell j l1;clear hcell;subst e;obtain ⟨w0,w1'⟩:=HW2.out j l1;have hst:=Q2q N T (Q1e cells T keys) l j;have hs0:(Q1e cells T keys).T.length=T:=by rw[Q1e,(Q4a _ _).1];exact List.length_replicate
   have hok:=Q2O (Q3p N cells T keys) hs0 hT0 l j
   rw[hs0] at hst
   rw[Nat.zero_add] at hok
   have hstep:worldTo N T (Q1e cells T keys) l (j+1)=stepW N T (worldTo N T (Q1e cells T keys) l j) (keyAt l j):=rfl;generalize worldTo N T (Q1e cells T keys) l j=s at hix hst hok hstep;generalize keyAt l j=n at c0 w0 w1' hstep;obtain ⟨t0,t1⟩:=Q44 n T (by omega);obtain ⟨d0,d1⟩:=Qh1 hT0 w0 w1';obtain ⟨ti,hti⟩:∃ti:Nat,n%(T:Int)=ti:=⟨(n%(T:Int)).toNat,by omega⟩;have htl2:ti<tbs.length:=by omega
   have HTI:=LH hti;have hT9:¬(T:Int)=0:=by omega
   have hstep2:stepW N T s n=if 0<(n.tdiv T)%3/\(s.T.getD ti TH.nil).busy=true then IX.picks N (1+((n.tdiv T).tdiv 3)%24).toNat s ti else s.invoke N ti (opI ((n.tdiv T).tdiv 3)):=by unfold stepW;rw[hti];rfl
   rw[hstep2] at hstep
   clear hstep2;have HST:=LH hstep;have HOK:=LH hok;have HIX:=LH hix;have HOWN:=LH hown;have HBL:=LH hbl;clear hstep hok hown;obtain ⟨a0,a1,a2,tv,lv,ln,lxs,inv,picks,hq,hk⟩:=hix;obtain ⟨g,cap,rfl,_,_⟩:=hq.row.form (by omega);have e4:wr.cell? ⟨xb,4,none⟩=some (.slice (some ⟨g,0,none⟩) tbs.length cap):=hq.blk.cell 4
   have eg:wr.cell? ⟨g,ti,none⟩=some (.pointer (some ⟨tbs.getD ti 0,0,none⟩)):=by
    rw[hq.row.cellAt ti (by simp;omega)]
    rw[List.getElem?_map,List.getElem?_eq_getElem htl2]
    simp[Q2M,List.getD_eq_getElem?_getD,List.getElem?_eq_getElem htl2]
   obtain ⟨_,_,_,_,_,_,_,hqt⟩:=hq.th ti htl2;have e1:wr.cell? ⟨tbs.getD ti 0,1,none⟩=some (.bool (s.T.getD ti TH.nil).busy):=hqt.blk.cell 1;have htl3:(ti:Int)<tbs.length:=by omega
   generalize tbs.getD ti 0=tb at eg e1;clear hq hk hqt;go_wp2_with (fail);with_reducible refine (Q1J n T _ w0 w1' (by omega) (by omega)).mono ?_
   rintro e wz ⟨rfl,rfl⟩
   rw[HTI.out]
   go_wp2_with (fail);generalize n.tdiv (T:Int)=q at d0 d1 HST|-
   have d3:-9223372036854775808<=q.tdiv 3/\q.tdiv 3<=9223372036854775807:=by
    have e:q=3*(q.tdiv 3)+q.tmod 3:=(Int.mul_tdiv_add_tmod q 3).symm;obtain ⟨b0,b1⟩:=Q7n q 3 (by decide);omega
   obtain ⟨d4,d5⟩:=d3
   have FIN:Hid (∀wa wb,Below wr.heap.size wr wa->IxPost own xb bm tbs (worldTo N T (Q1e cells T keys) l (j+1)) (1+j*2400+2400) wa wb->Qhd N T cells keys l xb bm w (.int .i64 ((j+1:Nat):Int)) wb):=LH (fun wa wb ha hp=>by
    obtain ⟨own2,hix2,hc2,ho2⟩:=hp;have hs1:=HBL.out.size;have hs2:=ha.size;refine ⟨j+1,own2,tbs,rfl,l1,l2,htl,hix2.le (by omega),fun y hy=> ?_,HBL.out.trans (((Chg.of_below (F:=fun y=>own y≠0) ha).trans hc2).below (B:=w.heap.size) (fun y hy=>HOWN.out y hy) hs1)⟩
    rcases ho2 y hy with h|h
    ·exact HOWN.out y h
    ·omega)
   have INV:Hid (∀wa,Below wr.heap.size wr wa->Calls Tryz.prog 112 #[.pointer (some ⟨xb,0,none⟩),.int .i64 ti,.agg #[.int .i64 (opI (q.tdiv 3)).kind,.int .i64 (opI (q.tdiv 3)).key,.int .i64 (opI (q.tdiv 3)).val]] wa (fun e w'=>(∃n,e=.returned (.int .i64 n))/\IxPost own xb bm tbs (s.invoke N ti (opI (q.tdiv 3))) (1+j*2400+2400) wa w')):=LH (fun wa ha=>
    (Q8S N (j*24) own xb bm tbs s (1+j*2400) ti (opI (q.tdiv 3)) wa (HIX.out.below ha) htl2 HOK.out (Q5r _).1 (Q5r _).2 (QfX _) (by omega) (by omega) (by omega)).mono fun e w' hp=>⟨hp.1,hp.2.le (by omega)⟩)
   have OPA:Hid (∀wa,Calls Tryz.prog 113 #[.int .i64 (q.tdiv 3)] wa (fun e w'=>e=.returned (.agg #[.int .i64 (opI (q.tdiv 3)).kind,.int .i64 (opI (q.tdiv 3)).key,.int .i64 (opI (q.tdiv 3)).val])/\Below wa.heap.size wa w')):=LH (fun wa=>QgF _ wa d4 d5);go_wp2_with (fail);with_reducible refine (Q1J q 3 _ d0 d1 (by decide) (by decide)).mono ?_
   rintro e wz ⟨rfl,rfl⟩;by_cases g3:0<q%3
   ·cases hbz:(s.T.getD ti TH.nil).busy with
    |true=>
     rw[hbz] at e1
     rw[if_pos ⟨g3,hbz⟩] at HST
     obtain ⟨u0,u1⟩:=Q44 (q.tdiv 3) 24 (by decide);obtain ⟨nn,hnn⟩:∃nn:Nat,1+(q.tdiv 3)%24=nn:=⟨(1+(q.tdiv 3)%24).toNat,by omega⟩;have hnn2:(1+(q.tdiv 3)%24).toNat=nn:=by omega
     rw[hnn2] at HST
     have DO:Hid (∀wa,Below wr.heap.size wr wa->Calls Tryz.prog 172 #[.pointer (some ⟨xb,0,none⟩),.agg #[.int .i64 2,.int .i64 ti,.int .i64 nn,.int .i64 0,.int .i64 0,.int .i64 0]] wa (fun e w'=>e=.returned (.int .i64 0)/\IxPost own xb bm tbs (IX.picks N nn s ti) (1+j*2400+2400) wa w')):=LH (fun wa ha=>by
      have hnn3:nn*100<=2400:=by omega
      exact (QbM N (j*24) nn own xb bm tbs s (1+j*2400) ti wa (HIX.out.below ha) htl2 HOK.out (by omega) (by omega) (by omega) (by omega) (by omega)).mono fun e w' hp=>⟨hp.1,hp.2.le (by omega)⟩)
     go_wp2_with (fail);with_reducible refine (Q1J (q.tdiv 3) 24 _ d4 d5 (by decide) (by decide)).mono ?_
     rintro e wz ⟨rfl,rfl⟩;go_wp2_with (fail);with_reducible refine (DO.out _ (Below.refl _ _)).mono ?_
     rintro e wz ⟨rfl,hp⟩;have HR:=LH (FIN.out _ _ (Below.refl _ _) (by rw[HST.out];exact hp));clear hp;go_wp2_with (fail)
     go_roundw
     case rel=>exact (show ((j+1:Nat):Int)=(j:Int)+1 by omega)▸HR.out
     case measure=>simp[intOf];omega
    |false=>
     rw[hbz] at e1
     rw[if_neg (fun h=>by rw[hbz] at h;cases h.2)] at HST
     go_wp2_with (fail);with_reducible refine (OPA.out _).mono ?_
     rintro e wy ⟨rfl,hop⟩;have HOP:=LH hop;clear hop;go_wp2_with (fail);with_reducible refine (INV.out _ HOP.out).mono ?_
     rintro e wx hp;obtain ⟨⟨n9,rfl⟩,hp⟩:=hp;have HR:=LH (FIN.out _ _ HOP.out (by rw[HST.out];exact hp));clear hp;go_wp2_with (fail)
     go_roundw
     case rel=>exact (show ((j+1:Nat):Int)=(j:Int)+1 by omega)▸HR.out
     case measure=>simp[intOf];omega
   ·rw[if_neg (fun h=>g3 h.1)] at HST
    go_wp2_with (fail);with_reducible refine (OPA.out _).mono ?_
    rintro e wy ⟨rfl,hop⟩;have HOP:=LH hop;clear hop;go_wp2_with (fail);with_reducible refine (INV.out _ HOP.out).mono ?_
    rintro e wx hp;obtain ⟨⟨n9,rfl⟩,hp⟩:=hp;have HR:=LH (FIN.out _ _ HOP.out (by rw[HST.out];exact hp));clear hp;go_wp2_with (fail)
    go_roundw
    case rel=>exact (show ((j+1:Nat):Int)=(j:Int)+1 by omega)▸HR.out
    case measure=>simp[intOf];omega
  ·have hj:j=min l.length 70:=by omega
   have hs0:(Q1e cells T keys).T.length=T:=by rw[Q1e,(Q4a _ _).1];exact List.length_replicate
   have hok:=Q2O (Q3p N cells T keys) hs0 hT0 l j
   have HFIN:=LH (show Q6v N cells T keys l w (.returned (.pointer (some ⟨xb,0,none⟩))) wr from
    ⟨own,xb,bm,tbs,1+j*2400,rfl,htl,by omega,by unfold Q2N;rw[<-hj];exact hix,by unfold Q2N;rw[<-hj];exact hok.le (by omega),hown,hbl⟩)
   clear hix hown hbl hok hs0;by_cases hz:j<l.length
   ·have l3:(j:Int)<l.length:=by omega
    have l4:(70:Int)<=j:=by omega
    clear hj hlt hz;go_wp2_with (fail);go_ret;exact HFIN.out
   ·have l3:(l.length:Int)<=j:=by omega
    clear hj hlt hz;go_wp2_with (fail);go_ret;exact HFIN.out
theorem IX.pick_grow {N m:Nat} {s:IX} (h:s.Ok N m) {i:Nat} (hi:i<s.T.length):s.C.length<=(s.pick N i).C.length:=by
 unfold IX.pick
 split
 ·rename_i hb;exact (TH.step_cells (h.thr _ (Q2F (d:=TH.nil) hi) hb) h.cb h.fit h.max).2.2
 ·exact Nat.le_refl _
theorem IX.picks_grow {N:Nat}:∀(n:Nat) {m:Nat} {s:IX} (_:s.Ok N m) {i:Nat} (_:i<s.T.length),s.C.length<=(IX.picks N n s i).C.length/\(IX.picks N n s i).max=s.max
 |0,_,_,_,_,_=>⟨Nat.le_refl _,rfl⟩
 |n+1,m,s,h,i,hi=>by
  unfold IX.picks;have h1:=IX.pick_grow h hi
  split
  ·exact ⟨h1,IX.pick_max _ _ _⟩
  ·have h2:=IX.picks_grow n (h.pick hi) (i:=i) (by rw[IX.pick_len];exact hi);exact ⟨Nat.le_trans h1 h2.1,h2.2.trans (IX.pick_max _ _ _)⟩
theorem QaT {N T m:Nat} {s:IX} (h:s.Ok N m) (hT:s.T.length=T) (h0:0<T) (n:Int):s.C.length<=(stepW N T s n).C.length/\(stepW N T s n).max=s.max:=by
 have h1:=Int.emod_nonneg n (show (T:Int)≠0 by omega);have h2:=Int.emod_lt_of_pos n (show (0:Int)<T by omega);have hi:(n%T).toNat<s.T.length:=by omega
 unfold stepW;split
 ·exact IX.picks_grow _ h hi
 ·refine ⟨?_,IX.invoke_max _ _ _ _⟩;unfold IX.invoke;split<;>exact Nat.le_refl _
theorem Q58 {N T m:Nat} {s:IX} (h:s.Ok N m) (hT:s.T.length=T) (h0:0<T) (l:List Int):∀k,s.C.length<=(worldTo N T s l k).C.length/\(worldTo N T s l k).max=s.max
 |0=>⟨Nat.le_refl _,rfl⟩
 |k+1=>by
  have h1:=Q58 h hT h0 l k;have h2:=QaT (Q2O h hT h0 l k) ((Q2q _ _ _ _ _).trans hT) h0 (keyAt l k);exact ⟨Nat.le_trans h1.1 h2.1,h2.2.trans h1.2⟩
theorem Q5y (N:Nat) (cells:Int) (T:Nat) (hT:0<T) (keys l:List Int):7<=(Q2N N cells T keys l).C.length/\(Q2N N cells T keys l).max=150+cells%650:=by
 have hs0:(Q1e cells T keys).T.length=T:=by rw[Q1e,(Q4a _ _).1];exact List.length_replicate
 have h:=Q58 (Q3p N cells T keys) hs0 hT l (min l.length 70);refine ⟨Nat.le_trans ?_ h.1,h.2.trans (Q4a _ _).2⟩;unfold Q1e IX.loadR
 split
 ·show 7<=(wrC _ 6 _).length;have hl:=Q7M (keys.take 20);have hlc:=Q2W ((hpL (keys.take 20)).length+1) beginL (hpL (keys.take 20)) (by omega) (by omega);have hca:=Q31 (hpL (keys.take 20)).length;have h7:beginL.length=7:=rfl
  rw[Q21]
  show 7<=(Q0T ((hpL (keys.take 20)).length+1) beginL (hpL (keys.take 20))).1.length;omega
 ·exact Nat.le_refl 7
theorem QeF {B B' b:Nat} {v:Value} {C:List Int} {size count odd ref:Int} {w:World} (h:MemP B b v C size count odd ref w) (hB:B'<=B):MemP B' b v C size count odd ref w:=⟨h.blk,Q19 h.own hB,Nat.le_trans hB h.base⟩
def QaO (C:List Int) (size:Int) (w:World) (e:Ending) (w':World):Prop:=∃b v cn od rf,e=.returned (.pointer (some ⟨b,0,none⟩))/\MemP w.heap.size b v C size cn od rf w'/\Below w.heap.size w w'/\w.heap.size<=b/\∀g,v.ownBlock=some g->w.heap.size<=g
theorem QdG (F:Nat->Prop) (bm:Nat) (C:List Int) (size:Int) (w:World) (h:M7 F bm C size w) (h0:1<=C.length) (h1:(C.length:Int)<=size) (h2:size<=65536):
  Calls Tryz.prog 110 #[.pointer (some ⟨bm,0,none⟩)] w (QaO C size w):=by
 obtain ⟨mv,cnt,od,rf,hq⟩:=h;obtain ⟨A,c,rfl⟩:=Q06 hq.row;have m0:w.cell? ⟨bm,0,none⟩=some (.int .i64 size):=hq.blk.cell 0;have HQ:=LH hq;clear hq;go_enter Tryz.func110,Tryz.ntmps110;go_wp2_with (fail);with_reducible refine (Q6S size _ (by omega) h2).mono ?_
 rintro e w1 ⟨rfl,hm,hb⟩;have HM:=LH hm;have HB:=LH hb;have m1:w1.cell? ⟨bm,1,none⟩=some (.slice A C.length c):=(HQ.out.below hb).blk.cell 1;have HI:=LH (IntsAt.of_own (HQ.out.below hb).row).2
 have HA:=LH (show∀ad,A=some ad->ad.block≠w.heap.size from fun ad e=>by
  have:=Q0Z HQ.out.row ad.block (by rw[e];rfl);omega)
 clear hm hb;go_wp2_with (fail);with_reducible refine (Q9M w.heap.size w.heap.size (.slice none 0 0) [] size 0 0 0 _ HM.out (by simp;omega) h2 A c C C.length rfl HI.out HA.out (by omega) (by simp;omega)).mono ?_
 rintro e w2 hp;obtain ⟨rfl,v',hm2,hmv,hv'⟩:=hp;have hb2:=(Only.of_mvr (S:=[w.heap.size]) hmv (by simp) (fun g hg=>by simp[Value.ownBlock] at hg)).below (B:=w.heap.size) (by simp) HB.out.size
 have HFIN:=LH (show QaO C size w (.returned (.pointer (some ⟨w.heap.size,0,none⟩))) w2 from ⟨_,_,_,_,_,rfl,by simpa using hm2,HB.out.trans hb2,Nat.le_refl _,fun g hg=>by
  rcases hv' with e|⟨g',e,h⟩
  ·rw[e] at hg;simp[Value.ownBlock] at hg
  ·rw[e] at hg;injection hg with hg;have:=HB.out.size;omega⟩)
 clear hm2 hmv hv' hb2;go_wp2_with (fail);go_ret;exact HFIN.out
def QaK (N:Nat) (cells:Int) (keys l:List Int) (w:World) (e:Ending) (w':World):Prop:=∃y b v cn od rf own xb bm tbs k,e=.returned (.pointer (some ⟨y,0,none⟩))/\Blk w' y 84 #[.pointer (some ⟨b,0,none⟩),.pointer (some ⟨xb,0,none⟩)]/\
 MemP w.heap.size b v (Q2N N cells 3 keys l).C (Q2N N cells 3 keys l).max cn od rf w'/\tbs.length=3/\k<=200000/\IxP own xb bm tbs (Q2N N cells 3 keys l) k w'/\(Q2N N cells 3 keys l).Ok N 1680/\(∀z,own z≠0->w.heap.size<=z)/\w.heap.size<=y/\own y=0/\y≠b/\own b=0/\(∀g,v.ownBlock=some g->w.heap.size<=g/\own g=0/\g≠y)/\Below w.heap.size w w'
theorem Q9r (N:Nat) (cells:Int) (A:Option Addr) (c L:Nat) (keys:List Int) (A2:Option Addr) (c2 L2:Nat) (l:List Int) (w:World) (hN:5000<N)
  (hL:L=keys.length) (hL2:L2=l.length) (hc0:L<=c) (hc02:L2<=c2) (h0:-9223372036854775808<=cells) (h1:cells<=9223372036854775807)
  (hq:IntsAt w w.heap.size A keys) (hl:keys.length<=140737488351232) (hw:∀i,i<keys.length->-9223372036854775808<=keyAt keys i/\keyAt keys i<=9223372036854775807)
  (hq2:IntsAt w w.heap.size A2 l) (hl2:l.length<=140737488351232) (hw2:∀i,i<l.length->-9223372036854775808<=keyAt l i/\keyAt l i<=9223372036854775807):
  Calls Tryz.prog 48 #[.int .i64 cells,.slice A L c,.slice A2 L2 c2] w (QaK N cells keys l w):=by
 subst hL hL2;have WLD:Hid (Calls Tryz.prog 109 #[.int .i64 cells,.int .i64 3,.slice A keys.length c,.slice A2 l.length c2] w (Q6v N cells 3 keys l w)):=LH (Qc9 N cells 3 A c _ keys A2 c2 _ l w (by decide) (by decide) hN rfl rfl hc0 hc02 h0 h1 hq hl hw hq2 hl2 hw2);clear hq hw hq2 hw2;go_enter Tryz.func48,Tryz.ntmps48;go_wp2_with (fail);with_reducible refine (WLD.out).mono ?_
 rintro e w1 hp;obtain ⟨own,xb,bm,tbs,k,rfl,htl,hk,hix,hok,hown,hb⟩:=hp;obtain ⟨a0,a1,a2,tv,lv,ln,lxs,inv,picks,hx,hk2⟩:=hix;have e3:w1.cell? ⟨xb,3,none⟩=some (.pointer (some ⟨bm,0,none⟩)):=hx.blk.cell 3;obtain ⟨hc1,hmx⟩:=Q5y N cells 3 (by decide) keys l;obtain ⟨z0,z1⟩:=Q44 cells 650 (by decide);have HX:=LH hx;have HOK:=LH hok;have HOWN:=LH hown;have HB:=LH hb;have HK2:=LH hk2;clear hx hok hown hb;go_wp2_with (fail);with_reducible refine (QdG _ bm (Q2N N cells 3 keys l).C (Q2N N cells 3 keys l).max _ HX.out.mem (by omega) HOK.out.fit HOK.out.max).mono ?_
 rintro e w2 hp;obtain ⟨b,v,cn,od,rf,rfl,hm,hb2,hbb,hbg⟩:=hp;have hal:∀o,Below w2.heap.size w2 (w2.alloc o):=fun o=>(Below.refl _ _).alloc (Nat.le_refl _) o
 have HFIN:=LH (show QaK N cells keys l w (.returned (.pointer (some ⟨w2.heap.size,0,none⟩))) (w2.alloc (.cells #[.pointer (some ⟨b,0,none⟩),.pointer (some ⟨xb,0,none⟩)] 84)) from by
  have hs1:=HB.out.size;have hs2:=hb2.size;have hlb:=hm.blk.lt;refine ⟨w2.heap.size,b,v,cn,od,rf,fun z=>if z<w1.heap.size then own z else 0,xb,bm,tbs,k,rfl,Blk.new w2 _ _,QeF (hm.below (hal _)) HB.out.size,htl,hk,⟨_,_,_,_,_,_,_,_,_,((HX.out.reown (fun z hz=>if_pos hz)).below hb2).below (hal _),HK2.out⟩,HOK.out,fun z hz=> ?_,by omega,if_neg (by omega),by omega,if_neg (by omega),fun g hg=>⟨by have:=hbg g hg;omega,if_neg (by have:=hbg g hg;omega),by have:=Q0Z hm.own g hg;omega⟩,HB.out.trans (((Chg.of_below (F:=fun _=>False) hb2).below (fun y hy=>hy.elim) hs1).trans ((Chg.of_below (F:=fun _=>False) (hal _)).below (fun y hy=>hy.elim) (by omega)))⟩;have hz:(if z<w1.heap.size then own z else 0)≠0:=hz;by_cases e:z<w1.heap.size
  ·rw[if_pos e] at hz;exact HOWN.out z hz
  ·rw[if_neg e] at hz;exact absurd rfl hz)
 clear hm hb2 hbb hbg hal;go_wp2_with (fail);go_ret;exact HFIN.out
structure YardP (N m B y b:Nat) (v:Value) (own:Nat->Nat) (xb bm:Nat) (tbs:List Nat) (s:IX) (k:Nat) (w:World):Prop where
 blk:Blk w y 84 #[.pointer (some ⟨b,0,none⟩),.pointer (some ⟨xb,0,none⟩)]
 mem:∃cn od rf,MemP B b v s.C s.max cn od rf w
 ix:IxP own xb bm tbs s k w
 ok:s.Ok N m
 oy:own y=0
 yb:y≠b
 yv:v.ownBlock≠some y
 ob:own b=0
 ov:∀g,v.ownBlock=some g->own g=0
 c1:1<=s.C.length
 t0:1<=tbs.length
 t1:tbs.length<=64
def G0:GS where
 ty:=fun a=>if a=1 then 3 else if a=7 then 1 else 0
 deg:=fun _=>1
 lo:=fun _=>Q1A
 hi:=fun _=>Q2K
 ks:=fun _ i=>if i<=0 then Q1A else Q2K+1
 nd:=fun _=>0
 ix:=fun _=>0
 own:=fun _=>0
 k1:=fun _=>0
 v1:=fun _=>0
 tgt:=fun _=>0
 od:=fun _=>0
 nw:=fun _=>0
 gate:=fun _=>false
 sum:=fun _=>0
 key:=fun _ _=>0
 slot:=fun _ _=>57
 res:=fun _=>0
 out:=fun _=>0
 placed:=fun _=>false
 late:=fun _=>false
theorem Qdp (a:Int):G0.ty a=if a=1 then 3 else if a=7 then 1 else 0:=rfl
theorem QgI {a:Int} (h:G0.ty a=3):a=1:=by rw[Qdp] at h;split at h;assumption;split at h<;>omega
theorem Q8Y {a:Int} (h:G0.ty a≠0):(a=1/\G0.len a=6)\/(a=7/\G0.len a=1):=by
 rw[Qdp] at h
 by_cases e:a=1
 ·subst e;exact .inl ⟨rfl,rfl⟩
 ·by_cases e2:a=7
  ·subst e2;exact .inr ⟨rfl,rfl⟩
  ·rw[if_neg e,if_neg e2] at h;exact absurd rfl h
theorem Q9U {a k:Int} (hk:4<=k\/k=2):G0.ty a≠k:=by
 rw[Qdp];split
 ·omega
 ·split<;>omega
theorem Qg5:Q04 57=1/\wAt 57=7:=by decide
theorem Qh6:VR G0 Q1A Q2K 57:=by
 obtain ⟨h1,h2⟩:=Qg5;exact ⟨by omega,by omega,by rw[h2,h1];rfl,fun _=>⟨rfl,rfl⟩,fun h=>by omega,fun h=>by omega⟩
theorem Qfs:Ini G0:=by
 refine ⟨⟨fun a h=> ?_,⟨rfl,rfl,rfl,rfl,rfl,fun i _ _=>by show (57:Int)≠0;decide⟩,fun n hn=> ?_,fun r hr=>absurd hr (Q9U (.inl (by decide))),fun r hr=>absurd hr (Q9U (.inl (by decide)))⟩,fun a=> ?_,fun _=>rfl⟩
 ·rcases Q8Y h with ⟨rfl,h⟩|⟨rfl,h⟩<;>rw[h]<;>decide
 ·have e:=QgI hn;subst e;refine ⟨fun h=>absurd rfl h,rfl,rfl,fun i j i0 ij jd=> ?_,fun i i1 i2=> ?_,fun i i0 i1=> ?_,fun h=>absurd rfl h⟩
  ·have jd:j<=1:=jd;show (if i<=0 then Q1A else Q2K+1)<(if j<=0 then Q1A else Q2K+1)
   rw[if_pos (by omega),if_neg (by omega)];decide
  ·have i2:i<1:=i2;omega
  ·have i1:i<1:=i1;have:i=0:=by omega
   subst this;exact .inr (.inl (.inl Qh6))
 ·rw[Qdp];split
  ·decide
  ·split<;>decide
theorem Qfr:Rep beginL G0:=by
 refine ⟨by decide,fun a=> ?_,fun a h=> ?_,fun a h=> ?_,fun a b ha hb hab=> ?_,fun a h=>absurd h (Q9U (.inr rfl)),fun n h=> ?_,fun n h=> ?_,fun n h=> ?_,fun n i h i1 i2=> ?_,fun n i h=> ?_,fun r hr=>absurd hr (Q9U (.inl (by decide))),fun r hr=>absurd hr (Q9U (.inl (by decide))),fun r hr=>absurd hr (Q9U (.inl (by decide))),fun r hr=>absurd hr (Q9U (.inl (by decide)))⟩
 ·rw[Qdp];split
  ·decide
  ·split<;>decide
 ·rcases Q8Y h with ⟨rfl,h⟩|⟨rfl,h⟩<;>decide
 ·rcases Q8Y h with ⟨rfl,h⟩|⟨rfl,h⟩<;>rw[h]<;>decide
 ·rcases Q8Y ha with ⟨rfl,h⟩|⟨rfl,h⟩<;>rcases Q8Y hb with ⟨rfl,h'⟩|⟨rfl,h'⟩<;>rw[h]<;>omega
 ·have e:=QgI h;subst e;exact ⟨by decide,by decide⟩
 ·have e:=QgI h;subst e;decide
 ·have e:=QgI h;subst e;decide
 ·have i2:i<1:=i2;omega
 ·have e:=QgI h.ty;subst e;have i0:=h.i0;have i1:i<1:=h.i1;have:i=0:=by omega
  subst this;decide
theorem QeU {C:List Int} {G:GS} {w:Int} (h:Ini G) (r:Rep C G) (v:VR G Q1A Q2K w):Ini {G with slot:=Q59 G.slot 1 0 w}/\Rep (wrC C 6 w) {G with slot:=Q59 G.slot 1 0 w}:=by
 obtain ⟨a1,a2,a3,a4,a5,a6⟩:=h.inv.r1;have hat:G.At 1 0:=⟨a1,by decide,by omega⟩;have io:=h.inv.inn 1 a1;have k0:G.ks 1 0=Q1A:=io.k0.trans a3;have k1:G.ks 1 1-1=Q2K:=by have:=io.kd;rw[a2,a4] at this;omega
 have hw:w≠0:=fun e=>by have:=v.k0;rw[e,Q0Y] at this;omega
 have hcmp:∀n,n≠1->G.cmp n->GS.cmp {G with slot:=Q59 G.slot 1 0 w} n:=fun n hn hc i i0 i1=>by
  show Q59 G.slot 1 0 w n i≠0
  rw[Q1O _ _ (fun e=>hn e.1)];exact hc i i0 i1
 have hvr:∀{a b x:Int},VR G a b x->VR {G with slot:=Q59 G.slot 1 0 w} a b x:=fun hv=>⟨hv.k0,hv.k3,hv.ty,hv.e1,hv.e2,fun k=>⟨(hv.e3 k).1,(hv.e3 k).2.1,hcmp _ (hv.e3 k).2.2.2 (hv.e3 k).2.2.1,(hv.e3 k).2.2.2⟩⟩;have no:∀a k,4<=k->G.ty a≠k:=fun a k hk e=>by have:=h.ty a;omega
 refine ⟨⟨⟨h.inv.cap,⟨a1,a2,a3,a4,a5,fun i i0 i1=> ?_⟩,fun n hn=> ?_,fun a ha=>absurd ha (no a 4 (by decide)),fun a ha=>absurd ha (no a 5 (by decide))⟩,h.ty,h.sum⟩, ?_⟩
 ·have i1:i<G.deg 1:=i1;have:i=0:=by omega
  subst this;show Q59 G.slot 1 0 w 1 0≠0
  rw[Q1H];exact hw
 ·have io:=h.inv.inn n hn;refine ⟨io.d2,io.k0,io.kd,io.kk,fun i i1 i2=> ?_,fun i i0 i1=> ?_,fun e=>absurd (h.sum n) e⟩
  ·by_cases e:n=1/\i=0
   ·omega
   ·show G.key n i=G.ks n i\/Q59 G.slot 1 0 w n i=0
    rw[Q1O _ _ e];exact io.key i i1 i2
  ·show SW {G with slot:=Q59 G.slot 1 0 w} n i (Q59 G.slot 1 0 w n i);by_cases e:n=1/\i=0
   ·obtain ⟨rfl,rfl⟩:=e
    rw[Q1H]
    refine .inr (.inl (.inl ?_));show VR {G with slot:=Q59 G.slot 1 0 w} (G.ks 1 0) (G.ks 1 1-1) w
    rw[k0,k1];exact hvr v
   ·rw[Q1O _ _ e]
    rcases io.slot i i0 i1 with s|s|s
    ·exact .inl s
    ·rcases s with s|s
     ·exact .inr (.inl (.inl (hvr s)))
     ·exact absurd s.2.1 (no _ 4 (by decide))
    ·exact absurd s.2.1 (no _ 5 (by decide))
 ·have hr:=r.setSlot (x:=w) hat (pl:=G.placed) (la:=G.late);have e:G.sa 1 0=6:=by unfold GS.sa;omega
  rw[e] at hr
  exact hr
section
variable {N m:Nat} {s:IX} {G:GS}
theorem QfW (n:Int):Q1A<=(opI n).key/\(opI n).key<=Q2K:=(QfX n).key
theorem SysI.picks:∀(n:Nat) {m:Nat} {s:IX} {G:GS} {i:Nat} (_:SysI N s G) (_:s.Ok N m) (_:m+n<N) (_:i<s.T.length),∃G',SysI N (IX.picks N n s i) G'/\Ext G G'
 |0,_,_,G,_,h,_,_,_=>⟨G,h,Ext.refl _⟩
 |n+1,m,s,G,i,h,ok,hm,hi=>by
  unfold IX.picks;obtain ⟨G1,h1,x1⟩:=h.pick ok (by omega) hi
  split
  ·exact ⟨G1,h1,x1⟩
  ·obtain ⟨G2,h2,x2⟩:=SysI.picks n h1 (ok.pick hi) (by omega) (i:=i) (by rw[IX.pick_len];exact hi);exact ⟨G2,h2,x1.trans x2⟩
theorem SysI.stepW {T:Nat} (h:SysI N s G) (ok:s.Ok N m) (hm:m+24<N) (hT:s.T.length=T) (h0:0<T) (n:Int):∃G',SysI N (stepW N T s n) G'/\Ext G G':=by
 have h1:=Int.emod_nonneg n (show (T:Int)≠0 by omega);have h2:=Int.emod_lt_of_pos n (show (0:Int)<T by omega);have hi:(n%T).toNat<s.T.length:=by omega
 unfold Go.Proofs.YtblajeildolloaaGreat.stepW
 split
 ·exact h.picks _ ok (by omega) hi
 ·exact ⟨G,h.invoke hi (QfW _),Ext.refl _⟩
theorem SysI.worldTo {T:Nat} (h:SysI N s G) (ok:s.Ok N m) (hT:s.T.length=T) (h0:0<T) (l:List Int):∀k:Nat,m+k*24<N->∃G',SysI N (worldTo N T s l k) G'
 |0,_=>⟨G,h⟩
 |k+1,hk=>by
  obtain ⟨G1,h1⟩:=SysI.worldTo h ok hT h0 l k (by omega);obtain ⟨G2,h2,_⟩:=h1.stepW (Q2O ok hT h0 l k) (by omega) ((Q2q _ _ _ _ _).trans hT) h0 (keyAt l k);exact ⟨G2,h2⟩
theorem QeW (l:List Int):AscB Q1A Q2K (hpL l):=by
 have hlt:∀j k,j<k->k<(hpL l).length->Q16 (hpL l) j<Q16 (hpL l) k:=fun j k jk hk=>by
  have h:=Q7L l (min l.length 60);have:=List.pairwise_iff_getElem.1 h j k (by rw[Q1Z];show j<(hpL l).length;omega) (by rw[Q1Z];exact hk) jk;rw[<-Q5t (hpL l) j (by omega),<-Q5t (hpL l) k hk];unfold keyAt
  rw[List.getD_eq_getElem?_getD,List.getD_eq_getElem?_getD,List.getElem?_eq_getElem (by rw[Q1Z];omega),List.getElem?_eq_getElem (by rw[Q1Z];exact hk)]
  exact this
 have hbd:∀j,j<(hpL l).length->Q1A<=Q16 (hpL l) j/\Q16 (hpL l) j<=Q2K:=fun j hj=>by
  have:=(Qfq l ((hpL l)[j]) (List.getElem_mem hj)).1;have e:Q16 (hpL l) j=((hpL l)[j]).1:=by unfold Q16;rw[List.getD_eq_getElem?_getD,List.getElem?_eq_getElem hj];rfl
  rw[e];exact this
 exact ⟨hlt,fun j hj=>(hbd j hj).1,fun j hj=>(hbd j hj).2⟩
theorem Qb5 (N:Nat) (cells:Int) (T:Nat) (keys:List Int):∃G,SysI N (Q1e cells T keys) G:=by
 obtain ⟨z0,z1⟩:=Q44 cells 650 (by decide);have hT:=Q4a (Q2Y cells T) (hpL (keys.take 20));have ok:=Q3p N cells T keys;have hmx:(Q1e cells T keys).max=150+cells%650:=hT.2
 have hthr:∀i,i<(Q1e cells T keys).T.length->((Q1e cells T keys).T.getD i TH.nil).busy=true->False:=fun i hi hb=>by
  have hm:=Q2F (d:=TH.nil) hi;unfold Q1e at hm hb
  rw[hT.1] at hm hb
  have e:=List.eq_of_mem_replicate hm
  rw[e] at hb;cases hb
 have hrep:∃G,Ini G/\Rep (Q1e cells T keys).C G:=by
  unfold Q1e IX.loadR;have hl:=Q7M (keys.take 20)
  split
  ·rename_i hm;have hlc:=Q2W ((hpL (keys.take 20)).length+1) beginL (hpL (keys.take 20)) (by omega) (by omega);have hm:((beginL.length:Nat):Int)+Q0D (hpL (keys.take 20)).length<=150+cells%650:=hm;obtain ⟨G1,g1,r1,_,v1⟩:=Qd9 ((hpL (keys.take 20)).length+1) (hpL (keys.take 20)) Q1A Q2K beginL G0 Qfs Qfr (QeW _) (by omega) (by omega) (by omega);obtain ⟨g2,r2⟩:=QeU g1 r1 v1;exact ⟨_,g2,r2⟩
  ·exact ⟨G0,Qfs,Qfr⟩
 obtain ⟨G,g,r⟩:=hrep;exact ⟨G,g.inv,r,by rw[hmx];omega,ok.fit,fun i hi hb=>(hthr i hi hb).elim⟩
theorem QaP (N:Nat) (cells:Int) (T:Nat) (hT:0<T) (keys l:List Int) (hN:5000<N):∃G,SysI N (Q2N N cells T keys l) G:=by
 have hs0:(Q1e cells T keys).T.length=T:=by rw[Q1e,(Q4a _ _).1];exact List.length_replicate
 obtain ⟨G,h⟩:=Qb5 N cells T keys;exact h.worldTo (Q3p N cells T keys) hs0 hT l _ (by omega)
end
def RS.tree (s:RS):Prog (Int×Int):=
 if s.next=0 then Q1u s.n s.k
 else if s.next=1 then (Q08 (Q09 s.n 1)).bind fun first=>if s.k<first then .ret (s.degree,0) else if wrap64 (s.degree-1)=1 then .ret (s.degree,1) else
  (Q08 (Q09 s.n (wrap64 (s.degree-1)))).bind fun last=>if last<=s.k then .ret (s.degree,wrap64 (s.degree-1)) else Q23 s.n s.k s.degree (wrap64 (s.degree-1)) first last
 else if s.next=2 then (Q08 (Q09 s.n (wrap64 (s.degree-1)))).bind fun last=>if last<=s.k then .ret (s.degree,wrap64 (s.degree-1)) else Q23 s.n s.k s.degree (wrap64 (s.degree-1)) s.first last
 else if s.next=3 then (Q08 (Q09 s.n s.i)).bind fun q=>if s.k<q then Q1g s.n s.k s.degree s.i.toNat (s.i-1) else Q36 s.n s.k s.degree (wrap64 (s.degree-1)) (wrap64 (s.degree-1)-s.i).toNat (s.i+1)
 else if s.next=4 then Q36 s.n s.k s.degree (wrap64 (s.degree-1)) (wrap64 (s.degree-1)-s.i+1).toNat s.i
 else if s.next=5 then Q1g s.n s.k s.degree (s.i.toNat+1) s.i
 else .ret (s.degree,s.child)
structure RS.Doc (s:RS):Prop where
 d0:s.next≠0->s.next≠6->2<=s.degree/\s.degree<=65537
 i1:s.next=1->s.i=1
 i2:s.next=2->s.i=s.degree-1/\3<=s.degree/\s.first<=s.k
 i3:s.next=3->2<=s.i/\s.i<=s.degree-2
 i4:s.next=4->1<=s.i/\s.i<s.degree-1
 i5:s.next=5->1<s.i/\s.i<=s.degree-1
theorem Q5o {d:Int} (h0:2<=d) (h1:d<=65537):wrap64 (d-1)=d-1:=by unfold wrap64;omega
theorem Q8b (n k d m:Int) (f:Nat) (i:Int) (T:List Int):(Q36 n k d m (f+1) i).rest T=Prog.rest (if i<m/\false=false then (Q08 (Q09 n i)).bind fun q=>if k<q then .ret (d,i-1) else Q36 n k d m f (i+1) else .ret (d,m-1)) T:=rfl
theorem Q6i (n k d:Int) (f:Nat) (i:Int) (T:List Int):(Q1g n k d (f+1) i).rest T=Prog.rest (if 1<i/\false=false then (Q08 (Q09 n i)).bind fun q=>if q<=k then .ret (d,i) else Q1g n k d f (i-1) else .ret (d,1)) T:=rfl
theorem Q9S (n k d m first last:Int) (T:List Int):(Q23 n k d m first last).rest T=Prog.rest (if false=true\/Q0t first last k m<1 then .ret (d,0) else
 if 1<Q0t first last k m then (Q08 (Q09 n (Q0t first last k m))).bind fun q=>if k<q then Q1g n k d (Q0t first last k m).toNat (Q0t first last k m-1) else Q36 n k d m (m-Q0t first last k m).toNat (Q0t first last k m+1)
 else Q36 n k d m (m-Q0t first last k m).toNat (Q0t first last k m+1)) T:=rfl
theorem Qcd (s:RS) (i:Int) (h0:2<=s.degree) (h1:s.degree<=65537) (hi:1<=i):(s.up i).Doc/\(s.up i).tree.rest []=(Q36 s.n s.k s.degree (wrap64 (s.degree-1)) (wrap64 (s.degree-1)-i+1).toNat i).rest []:=by
 have hw:=Q5o h0 h1;unfold RS.up;by_cases c:s.degree-1<=i
 ·rw[if_pos c]
  refine ⟨⟨fun _ h=>absurd rfl h,fun h=> ?_,fun h=> ?_,fun h=> ?_,fun h=> ?_,fun h=> ?_⟩, ?_⟩<;>try (simp at h;done)
  rw[hw]
  generalize (s.degree-1-i+1).toNat=f
  cases f with
  |zero=>rfl
  |succ f=>
   rw[Q8b,if_neg (by omega)];rfl
 ·rw[if_neg c]
  exact ⟨⟨fun _ _=>⟨h0,h1⟩,fun h=>by simp at h,fun h=>by simp at h,fun h=>by simp at h,fun _=>⟨hi,by simp;omega⟩,fun h=>by simp at h⟩,rfl⟩
theorem Qax (s:RS) (i:Int) (h0:2<=s.degree) (h1:s.degree<=65537) (hi:i<=s.degree-1):(s.down i).Doc/\(s.down i).tree.rest []=(Q1g s.n s.k s.degree (i.toNat+1) i).rest []:=by
 unfold RS.down;by_cases c:i<=1
 ·rw[if_pos c]
  refine ⟨⟨fun _ h=>absurd rfl h,fun h=> ?_,fun h=> ?_,fun h=> ?_,fun h=> ?_,fun h=> ?_⟩, ?_⟩<;>try (simp at h;done)
  rw[Q6i,if_neg (by omega)];rfl
 ·rw[if_neg c]
  exact ⟨⟨fun _ _=>⟨h0,h1⟩,fun h=>by simp at h,fun h=>by simp at h,fun h=>by simp at h,fun h=>by simp at h,fun _=>⟨by simp;omega,hi⟩⟩,rfl⟩
theorem QgK (s:RS) (h:s.next=6):s.Doc/\s.tree=.ret (s.degree,s.child):=by
 refine ⟨⟨fun _ h'=>absurd h h',fun h'=>by omega,fun h'=>by omega,fun h'=>by omega,fun h'=>by omega,fun h'=>by omega⟩, ?_⟩;unfold RS.tree;rw[if_neg (by omega),if_neg (by omega),if_neg (by omega),if_neg (by omega),if_neg (by omega),if_neg (by omega)]
theorem Q7V (s:RS) (c:Int):(s.ende c).Doc/\(s.ende c).tree.rest []=.ret (s.degree,c):=by
 obtain ⟨h1,h2⟩:=QgK (s.ende c) rfl;exact ⟨h1,by rw[h2];rfl⟩
theorem Qdj (s:RS) (last:Int) (h0:3<=s.degree) (h1:s.degree<=65537) (h2:s.first<=s.k) (h3:s.k<last):(s.guess last).Doc/\(s.guess last).tree.rest []=(Q23 s.n s.k s.degree (wrap64 (s.degree-1)) s.first last).rest []:=by
 have hw:=Q5o (by omega) h1;obtain ⟨g0,g1⟩:=Q4w (f:=s.first) (l:=last) (k:=s.k) (n:=s.degree-1) (by omega) (by omega) h2 h3;unfold RS.guess
 rw[Q9S,hw]
 generalize Q0t s.first last s.k (s.degree-1)=g at g0 g1|-
 rw[if_neg (show ¬(false=true\/g<1) from by simp;omega)]
 by_cases c:1<g
 ·rw[if_pos c,if_pos c]
  refine ⟨⟨fun _ _=>⟨by simp;omega,h1⟩,fun h=>by simp at h,fun h=>by simp at h,fun _=>⟨by simp;omega,by simp;omega⟩,fun h=>by simp at h,fun h=>by simp at h⟩, ?_⟩;unfold RS.tree;simp only[hw];rfl
 ·rw[if_neg c,if_neg c]
  have e:g=1:=by omega
  subst e;obtain ⟨a,b⟩:=Qcd s 2 (by omega) h1 (by decide);refine ⟨a,b.trans ?_⟩
  rw[hw,show s.degree-1-2+1=s.degree-1-1 from by omega];rfl
theorem Qeo {R:Int->Int} (s:RS) (hI:s.Inv) (h:s.Doc) (h6:s.next≠6) (hR:s.next=0->1<=R s.n/\R s.n<=65537):
  (s.step R).Doc/\(s.tree.rest []).next=some ⟨1,s.addr,0,0,[],0⟩/\s.tree.rest [R s.addr]=(s.step R).tree.rest []:=by
 rcases hI.st with hn|hn|⟨a,b,-⟩
 ·obtain ⟨r0,r1⟩:=hR hn
  rw[RS.step0 hn]
  have ht:s.tree=Q1u s.n s.k:=by unfold RS.tree;rw[if_pos hn]
  have ha:s.addr=s.n:=by unfold RS.addr;rw[if_pos hn]
  rw[ht,ha]
  by_cases c:R s.n<2
  ·rw[if_pos c]
   obtain ⟨e1,e2⟩:=QgK {s with degree:=R s.n,i:=1,next:=6,child:=0} rfl;refine ⟨e1,rfl, ?_⟩
   rw[e2]
   show Prog.rest (α:=Int×Int) (if wrap64 (R s.n-1)<1 then _ else _) []=_
   rw[if_pos (by unfold wrap64;omega)]
  ·rw[if_neg c]
   refine ⟨⟨fun _ _=>⟨by simp;omega,r1⟩,fun _=>rfl,fun h=>by simp at h,fun h=>by simp at h,fun h=>by simp at h,fun h=>by simp at h⟩,rfl, ?_⟩;show Prog.rest (α:=Int×Int) (if wrap64 (R s.n-1)<1 then _ else _) []=_
   rw[if_neg (by rw[Q5o (by omega) r1];omega)];rfl
 ·exact absurd hn h6
 ·have hne:s.next≠0:=by omega
  obtain ⟨d0,d1⟩:=h.d0 hne h6;have hw:=Q5o d0 d1
  rw[RS.stepK hne h6]
  have ha:s.addr=Q09 s.n s.i:=by unfold RS.addr;rw[if_neg hne]
  rw[ha]
  generalize hv:R (Q09 s.n s.i)=v;have hc:s.next=1\/s.next=2\/s.next=3\/s.next=4\/s.next=5:=by omega
  rcases hc with hn|hn|hn|hn|hn
  ·rw[RS.key1 hn,h.i1 hn]
   have ht:s.tree=(Q08 (Q09 s.n 1)).bind fun first=>if s.k<first then .ret (s.degree,0) else if wrap64 (s.degree-1)=1 then .ret (s.degree,1) else
    (Q08 (Q09 s.n (wrap64 (s.degree-1)))).bind fun last=>if last<=s.k then .ret (s.degree,wrap64 (s.degree-1)) else Q23 s.n s.k s.degree (wrap64 (s.degree-1)) first last:=by
    unfold RS.tree;rw[if_neg hne,if_pos hn]
   rw[ht]
   by_cases c:s.k<v
   ·rw[if_pos c]
    obtain ⟨e1,e2⟩:=QgK {s with first:=v,i:=s.degree-1,next:=6,child:=0} rfl;refine ⟨e1,rfl, ?_⟩
    rw[e2]
    show Prog.rest (α:=Int×Int) (if s.k<v then _ else _) []=_
    rw[if_pos c]
   ·rw[if_neg c]
    by_cases c2:s.degree-1=1
    ·rw[if_pos c2]
     obtain ⟨e1,e2⟩:=QgK {s with first:=v,i:=s.degree-1,next:=6,child:=1} rfl;refine ⟨e1,rfl, ?_⟩
     rw[e2]
     show Prog.rest (α:=Int×Int) (if s.k<v then _ else _) []=_
     rw[if_neg c,if_pos (by rw[hw];exact c2)]
    ·rw[if_neg c2]
     refine ⟨⟨fun _ _=>⟨d0,d1⟩,fun h=>by simp at h,fun _=>⟨rfl,by simp;omega,by simp;omega⟩,fun h=>by simp at h,fun h=>by simp at h,fun h=>by simp at h⟩,rfl, ?_⟩;show Prog.rest (α:=Int×Int) (if s.k<v then _ else _) []=_
     rw[if_neg c,if_neg (by rw[hw];exact c2)];rfl
  ·obtain ⟨i2,i3,i4⟩:=h.i2 hn
   rw[RS.key2 hn]
   have ht:s.tree=(Q08 (Q09 s.n (wrap64 (s.degree-1)))).bind fun last=>if last<=s.k then .ret (s.degree,wrap64 (s.degree-1)) else Q23 s.n s.k s.degree (wrap64 (s.degree-1)) s.first last:=by
    unfold RS.tree;rw[if_neg hne,if_neg (by omega),if_pos hn]
   rw[hw] at ht
   rw[ht,i2]
   by_cases c:s.k<v
   ·rw[if_pos c]
    obtain ⟨e1,e2⟩:=Qdj s v i3 d1 i4 c;refine ⟨e1,rfl, ?_⟩
    rw[e2,hw]
    show Prog.rest (α:=Int×Int) (if v<=s.k then _ else _) []=_
    rw[if_neg (by omega)]
   ·rw[if_neg c]
    obtain ⟨e1,e2⟩:=Q7V s (s.degree-1);refine ⟨e1,rfl, ?_⟩
    rw[e2]
    show Prog.rest (α:=Int×Int) (if v<=s.k then _ else _) []=_
    rw[if_pos (by omega)];rfl
  ·obtain ⟨i2,i3⟩:=h.i3 hn
   rw[RS.key3 hn]
   have ht:s.tree=(Q08 (Q09 s.n s.i)).bind fun q=>if s.k<q then Q1g s.n s.k s.degree s.i.toNat (s.i-1) else Q36 s.n s.k s.degree (wrap64 (s.degree-1)) (wrap64 (s.degree-1)-s.i).toNat (s.i+1):=by
    unfold RS.tree;rw[if_neg hne,if_neg (by omega),if_neg (by omega),if_pos hn]
   rw[ht]
   by_cases c:s.k<v
   ·rw[if_pos c]
    obtain ⟨e1,e2⟩:=Qax s (s.i-1) d0 d1 (by omega);refine ⟨e1,rfl, ?_⟩
    rw[e2]
    show Prog.rest (α:=Int×Int) (if s.k<v then _ else _) []=_
    rw[if_pos c,show (s.i-1).toNat+1=s.i.toNat from by omega]
   ·rw[if_neg c]
    obtain ⟨e1,e2⟩:=Qcd s (s.i+1) d0 d1 (by omega);refine ⟨e1,rfl, ?_⟩
    rw[e2]
    show Prog.rest (α:=Int×Int) (if s.k<v then _ else _) []=_
    rw[if_neg c,show wrap64 (s.degree-1)-(s.i+1)+1=wrap64 (s.degree-1)-s.i from by omega]
  ·obtain ⟨i2,i3⟩:=h.i4 hn
   rw[RS.key4 hn]
   have ht:s.tree=Q36 s.n s.k s.degree (wrap64 (s.degree-1)) (wrap64 (s.degree-1)-s.i+1).toNat s.i:=by
    unfold RS.tree;rw[if_neg hne,if_neg (by omega),if_neg (by omega),if_neg (by omega),if_pos hn]
   obtain ⟨f,hf⟩:∃f,(wrap64 (s.degree-1)-s.i+1).toNat=f+1:=⟨(wrap64 (s.degree-1)-s.i).toNat,by omega⟩
   have hu:∀T,s.tree.rest T=((Q08 (Q09 s.n s.i)).bind fun q=>if s.k<q then .ret (s.degree,s.i-1) else Q36 s.n s.k s.degree (wrap64 (s.degree-1)) f (s.i+1)).rest T:=fun T=>by
    rw[ht,hf]
    rw[Q8b,if_pos ⟨by omega,rfl⟩]
   rw[hu,hu]
   by_cases c:s.k<v
   ·rw[if_pos c]
    obtain ⟨e1,e2⟩:=Q7V s (s.i-1);refine ⟨e1,rfl, ?_⟩
    rw[e2]
    show Prog.rest (α:=Int×Int) (if s.k<v then _ else _) []=_
    rw[if_pos c];rfl
   ·rw[if_neg c]
    obtain ⟨e1,e2⟩:=Qcd s (s.i+1) d0 d1 (by omega);refine ⟨e1,rfl, ?_⟩
    rw[e2]
    show Prog.rest (α:=Int×Int) (if s.k<v then _ else _) []=_
    rw[if_neg c,show (wrap64 (s.degree-1)-(s.i+1)+1).toNat=f from by omega]
  ·obtain ⟨i2,i3⟩:=h.i5 hn
   rw[RS.key5 hn]
   have ht:s.tree=Q1g s.n s.k s.degree (s.i.toNat+1) s.i:=by
    unfold RS.tree;rw[if_neg hne,if_neg (by omega),if_neg (by omega),if_neg (by omega),if_neg (by omega),if_pos hn]
   have hu:∀T,s.tree.rest T=((Q08 (Q09 s.n s.i)).bind fun q=>if q<=s.k then .ret (s.degree,s.i) else Q1g s.n s.k s.degree s.i.toNat (s.i-1)).rest T:=fun T=>by
    rw[ht]
    rw[Q6i,if_pos ⟨by omega,rfl⟩]
   rw[hu,hu]
   by_cases c:s.k<v
   ·rw[if_pos c]
    obtain ⟨e1,e2⟩:=Qax s (s.i-1) d0 d1 (by omega);refine ⟨e1,rfl, ?_⟩
    rw[e2]
    show Prog.rest (α:=Int×Int) (if v<=s.k then _ else _) []=_
    rw[if_neg (by omega),show (s.i-1).toNat+1=s.i.toNat from by omega]
   ·rw[if_neg c]
    obtain ⟨e1,e2⟩:=Q7V s s.i;refine ⟨e1,rfl, ?_⟩
    rw[e2]
    show Prog.rest (α:=Int×Int) (if v<=s.k then _ else _) []=_
    rw[if_pos (by omega)];rfl
section
variable {α β:Type}
theorem Q3W (f:α->Prog β):∀p:Prog α,(p.bind f).rest []=((p.rest []).bind f).rest []
 |.ret a=>rfl
 |.ask q k=>rfl
 |.chk k=>Q3W f (k false)
 |.stuck p=>by
  show Prog.stuck ((p.bind f).rest [])=Prog.stuck (((p.rest []).bind f).rest [])
  rw[Q3W f p]
theorem Q56 (f:α->Prog β) (v:Int):∀(p:Prog α),(p.next.isSome=true)->(p.bind f).rest [v]=((p.rest [v]).bind f).rest []
 |.ret a,h=>by cases h
 |.ask q k,_=>Q3W f (k v)
 |.chk k,h=>Q56 f v (k false) h
 |.stuck p,h=>by
  show Prog.stuck ((p.bind f).rest [v])=Prog.stuck (((p.rest [v]).bind f).rest [])
  rw[Q56 f v p h]
theorem Q3M:∀p:Prog α,(p.rest []).next=p.next
 |.ret a=>rfl
 |.ask q k=>rfl
 |.chk k=>Q3M (k false)
 |.stuck p=>Q3M p
theorem Q6r (f:α->Prog β) {q:Ask}:∀p:Prog α,p.next=some q->(p.bind f).next=some q
 |.ret a,h=>by cases h
 |.ask q k,h=>h
 |.chk k,h=>Q6r f (k false) h
 |.stuck p,h=>Q6r f p h
theorem Q9h {p p':Prog α} {q:Ask} {v:Int} (f:α->Prog β) (h:(p.rest []).next=some q) (e:p.rest [v]=p'.rest []):((p.bind f).rest []).next=some q/\(p.bind f).rest [v]=(p'.bind f).rest []:=by
 rw[Q3M] at h
 refine ⟨by rw[Q3M];exact Q6r f p h, ?_⟩
 rw[Q56 f v p (by rw[h];rfl),e]
 exact (Q3W f p').symm
end
def PS.tree (s:PS):Prog Int:=
 if s.next=0 then Q1y s.cell
 else if s.next=1 then (Q08 s.cell).bind fun o=>if o=1 then Q08 (s.at_+3) else Q08 (s.at_+2)
 else if s.next=2 then Q08 s.cell
 else .ret s.word
theorem QgD {R:Int->Int} (s:PS) (hI:s.Inv) (h3:s.next≠3):(s.tree.rest []).next=some ⟨1,s.cell,0,0,[],0⟩/\s.tree.rest [R s.cell]=(s.step R).tree.rest []:=by
 obtain ⟨nx,c,a,w⟩:=s;have hst:=hI.st;clear hI;have hst:nx=0\/nx=1\/nx=2\/nx=3:=hst
 rcases hst with e|e|e|e<;>subst e
 ·refine ⟨rfl, ?_⟩;show Prog.rest (if Q04 (R c)=5 then (Q08 (wAt (R c)+4)).bind fun o=>if o=1 then Q08 (wAt (R c)+3) else Q08 (wAt (R c)+2) else .ret (R c)) []=((if Q04 (R c)=5 then (⟨1,wAt (R c)+4,wAt (R c),w⟩:PS) else ⟨3,c,a,R c⟩).tree).rest [];by_cases h:Q04 (R c)=5
  ·rw[if_pos h,if_pos h];rfl
  ·rw[if_neg h,if_neg h];rfl
 ·refine ⟨rfl, ?_⟩;show Prog.rest (if R c=1 then Q08 (a+3) else Q08 (a+2)) []=((if R c=1 then (⟨2,a+3,a,w⟩:PS) else ⟨2,a+2,a,w⟩).tree).rest [];by_cases h:R c=1
  ·rw[if_pos h,if_pos h];rfl
  ·rw[if_neg h,if_neg h];rfl
 ·exact ⟨rfl,rfl⟩
 ·exact absurd rfl h3
theorem Q7J (n k:Int):(RS.init n k).Doc:=⟨fun h=>absurd rfl h,fun h=>(by cases h),fun h=>(by cases h),fun h=>(by cases h),fun h=>(by cases h),fun h=>(by cases h)⟩
def WS.q (s:WS):WQ:=⟨s.lo,s.hi,s.back,s.most,s.values⟩
def WS.st (s:WS):WAcc:=⟨s.pairs,s.spots⟩
def Qe6 (x:WQ) (e:(Int×Int×Int)×(Nat×Nat)) (r:WAcc×Bool):Prog (WAcc×Bool):=
 if r.2=true then .ret (r.1,true) else
 if x.back=true then (if e.1.2.2=0 then .ret (r.1,false) else (Q08 (Q09 e.1.1 e.1.2.2)).bind fun q=>if q<=x.lo then .ret (r.1,false) else Q0E x (Q0l x e.2.1) e.2.2 e.1.1 e.1.2.1 (wrap64 (e.1.2.2-1)) r.1)
 else if wrap64 (e.1.2.2+1)=e.1.2.1 then .ret (r.1,false) else (Q08 (Q09 e.1.1 (wrap64 (e.1.2.2+1)))).bind fun q=>if x.hi<q then .ret (r.1,false) else Q0E x (Q0l x e.2.1) e.2.2 e.1.1 e.1.2.1 (wrap64 (e.1.2.2+1)) r.1
def Q1o (x:WQ):List ((Int×Int×Int)×(Nat×Nat))->WAcc×Bool->Prog (WAcc×Bool)
 |[],r=>.ret r
 |e::L,r=>(Qe6 x e r).bind (Q1o x L)
def Qbw (x:WQ) (f:Nat) (st:WAcc) (w:Int):Prog (WAcc×Bool):=
 if Q04 w=2 then Q1D x (wAt w) st
 else if Q04 w=3 then Q0l x f (wAt w) st
 else if Q04 w=4 then (Q08 (wAt w)).bind fun t=>Q0l x f (wAt t) st
 else .ret (st,false)
def Q6t (x:WQ) (e:(Int×Int×Int)×(Nat×Nat)) (st:WAcc) (w:Int):Prog (WAcc×Bool):=
 .chk fun off2=>if off2=true then .ret (st,true) else (Qbw x e.2.1 ⟨st.pairs,st.spots++[(Q03 e.1.1 e.1.2.1 e.1.2.2,w)]⟩ w).bind (Qe6 x e)
theorem Q47 (x:WQ) (f g:Nat) (n d i:Int) (st:WAcc) (K:WAcc×Bool->Prog (WAcc×Bool)):
  ((Q0E x (Q0l x f) (g+1) n d i st).bind K).rest []=((Q1y (Q03 n d i)).bind fun w=>(Q6t x ((n,d,i),(f,g)) st w).bind K).rest []:=by
 rw[<-Q02];rfl
theorem Qa4 (x:WQ) (e:(Int×Int×Int)×(Nat×Nat)) (st:WAcc) (w:Int) (L:List ((Int×Int×Int)×(Nat×Nat))):
  ((Q6t x e st w).bind (Q1o x L)).rest []=((Qbw x e.2.1 ⟨st.pairs,st.spots++[(Q03 e.1.1 e.1.2.1 e.1.2.2,w)]⟩ w).bind (Q1o x (e::L))).rest []:=by
 show (((Qbw x e.2.1 ⟨st.pairs,st.spots++[(Q03 e.1.1 e.1.2.1 e.1.2.2,w)]⟩ w).bind (Qe6 x e)).bind (Q1o x L)).rest []=_
 rw[Q02]
 rfl
def WS.tree (L:List ((Int×Int×Int)×(Nat×Nat))) (F0:Nat) (b:Bool) (s:WS):Prog (WAcc×Bool):=
 if s.next=0 then s.route.tree.bind fun r=>(Q0E s.q (Q0l s.q F0) (F0+1) s.n r.1 r.2 s.st).bind (Q1o s.q L)
 else if s.next=1 then (match s.peek,L with
  |some p,e::L'=>p.tree.bind fun w=>(Q6t s.q e s.st w).bind (Q1o s.q L')
  |_,_=>.ret (s.st,b))
 else if s.next=2 then (Q1D s.q s.at_ s.st).bind (Q1o s.q L)
 else if s.next=3 then (Q08 (s.at_+1)).bind fun v=>Q1o s.q L (⟨s.pairs++[(s.key,v)],s.spots⟩,decide (0<s.most/\s.most<=((s.pairs++[(s.key,v)]).length:Int)))
 else if s.next=4 then (match L with
  |e::_=>(Q08 s.at_).bind fun t=>(Q0l s.q e.2.1 (wAt t) s.st).bind (Q1o s.q L)
  |[]=>.ret (s.st,b))
 else if s.next=5 then Q1o s.q L (s.st,false)
 else .ret (s.st,b)
section
variable {s:WS} {L:List ((Int×Int×Int)×(Nat×Nat))} {F0:Nat} {b:Bool}
theorem WS.tree0 (h:s.next=0):s.tree L F0 b=s.route.tree.bind fun r=>(Q0E s.q (Q0l s.q F0) (F0+1) s.n r.1 r.2 s.st).bind (Q1o s.q L):=if_pos h
theorem WS.tree1 (h:s.next=1) {p:PS} (hp:s.peek=some p) (e:(Int×Int×Int)×(Nat×Nat)):s.tree (e::L) F0 b=p.tree.bind fun w=>(Q6t s.q e s.st w).bind (Q1o s.q L):=by
 unfold WS.tree;rw[if_neg (by omega),if_pos h,hp]
theorem WS.tree2 (h:s.next=2):s.tree L F0 b=(Q1D s.q s.at_ s.st).bind (Q1o s.q L):=by unfold WS.tree;rw[if_neg (by omega),if_neg (by omega),if_pos h]
theorem WS.tree3 (h:s.next=3):s.tree L F0 b=(Q08 (s.at_+1)).bind fun v=>Q1o s.q L (⟨s.pairs++[(s.key,v)],s.spots⟩,decide (0<s.most/\s.most<=((s.pairs++[(s.key,v)]).length:Int))):=by unfold WS.tree;rw[if_neg (by omega),if_neg (by omega),if_neg (by omega),if_pos h]
theorem WS.tree4 (h:s.next=4) (e:(Int×Int×Int)×(Nat×Nat)):s.tree (e::L) F0 b=(Q08 s.at_).bind fun t=>(Q0l s.q e.2.1 (wAt t) s.st).bind (Q1o s.q (e::L)):=by unfold WS.tree;rw[if_neg (by omega),if_neg (by omega),if_neg (by omega),if_neg (by omega),if_pos h]
theorem WS.tree5 (h:s.next=5):s.tree L F0 b=Q1o s.q L (s.st,false):=by unfold WS.tree;rw[if_neg (by omega),if_neg (by omega),if_neg (by omega),if_neg (by omega),if_neg (by omega),if_pos h]
theorem WS.tree6 (h:s.next=6):s.tree L F0 b=.ret (s.st,b):=by unfold WS.tree;rw[if_neg (by omega),if_neg (by omega),if_neg (by omega),if_neg (by omega),if_neg (by omega),if_neg (by omega)]
end
theorem Q6V (x:WQ) (a:WAcc):∀L,Q1o x L (a,true)=.ret (a,true)
 |[]=>rfl
 |e::L=>Q6V x a L
def lvOk (l:Int×Int×Int):Prop:=0<=l.2.2/\l.2.2<l.2.1/\l.2.1<=65537
theorem Q1N {d:Int} (h0:-1<=d) (h1:d<=65538):wrap64 d=d:=by unfold wrap64;omega
theorem Qd2 (x:WQ) (e:(Int×Int×Int)×(Nat×Nat)) (a:WAcc) (h:lvOk e.1) (hm:more x.back e.1=false):Qe6 x e (a,false)=.ret (a,false):=by
 obtain ⟨h0,h1,h2⟩:=h;unfold more at hm;unfold Qe6
 rw[if_neg Bool.false_ne_true]
 by_cases hb:x.back=true
 ·rw[if_pos hb] at hm|-
  have:=of_decide_eq_false hm;exact if_pos (by omega)
 ·rw[if_neg hb] at hm|-
  have:=of_decide_eq_false hm
  rw[Q1N (by omega) (by omega)]
  exact if_pos (by omega)
theorem QcM (x:WQ) (a:WAcc):∀L:List ((Int×Int×Int)×(Nat×Nat)),(∀e∈L,lvOk e.1)->∃L',L'.map (·.1)=Q1F x.back (L.map (·.1))/\(∀e∈L',e∈L)/\Q1o x L (a,false)=Q1o x L' (a,false)
 |[],_=>⟨[],rfl,fun _ h=>h,rfl⟩
 |e::L,h=>by
  cases hm:more x.back e.1 with
  |true=>
   refine ⟨e::L, ?_,fun _ h=>h,rfl⟩;show e.1::L.map (·.1)=if more x.back e.1=true then e.1::L.map (·.1) else _
   rw[if_pos hm]
  |false=>
   obtain ⟨L',h1,h2,h3⟩:=QcM x a L (fun e he=>h e (List.mem_cons_of_mem _ he));refine ⟨L', ?_,fun e he=>List.mem_cons_of_mem _ (h2 e he), ?_⟩
   ·show _=if more x.back e.1=true then e.1::L.map (·.1) else Q1F x.back (L.map (·.1))
    rw[if_neg (by rw[hm];decide)];exact h1
   ·show (Qe6 x e (a,false)).bind (Q1o x L)=_
    rw[Qd2 x e a (h e (by simp)) hm];exact h3
theorem Q2U (s:WS) (L:List ((Int×Int×Int)×(Nat×Nat))) (F0:Nat) (hm:L.map (·.1)=s.levels) (hl:∀l∈s.levels,lvOk l):
  ∃L',L'.map (·.1)=s.onward.levels/\(∀e∈L',e∈L)/\(Q1o s.q L (s.st,false)).rest []=(s.onward.tree L' F0 false).rest []:=by
 obtain ⟨L',h1,h2,h3⟩:=QcM s.q s.st L (fun e he=>hl _ (by rw[<-hm];exact List.mem_map_of_mem he))
 rw[hm] at h1
 have h1:L'.map (·.1)=Q1F s.back s.levels:=h1;refine ⟨L',h1,h2, ?_⟩
 rw[h3]
 by_cases e:Q1F s.back s.levels=[]
 ·have h6:s.onward.next=6:=if_pos e
  rw[WS.tree6 h6]
  rw[e] at h1
  have:L'=[]:=by simpa using h1
  rw[this];rfl
 ·have h5:s.onward.next=5:=if_neg e
  rw[WS.tree5 h5];rfl
theorem Q8Z (s:WS) (v:Int) (L:List ((Int×Int×Int)×(Nat×Nat))) (F0:Nat) (hm:L.map (·.1)=s.levels) (hl:∀l∈s.levels,lvOk l):
  ∃L' b',L'.map (·.1)=(s.found v).levels/\(∀e∈L',e∈L)/\(Q1o s.q L (⟨s.pairs++[(s.key,v)],s.spots⟩,decide (0<s.most/\s.most<=((s.pairs++[(s.key,v)]).length:Int)))).rest []=((s.found v).tree L' F0 b').rest []:=by
 have hfl:WS.full {s with pairs:=s.pairs++[(s.key,v)]}=decide (0<s.most/\s.most<=((s.pairs++[(s.key,v)]).length:Int)):=(Bool.decide_and _ _).symm;unfold WS.found
 cases hf:WS.full {s with pairs:=s.pairs++[(s.key,v)]} with
 |true=>
  rw[if_pos rfl,<-hfl,hf,Q6V]
  exact ⟨L,true,hm,fun _ h=>h,by rw[WS.tree6 rfl];rfl⟩
 |false=>
  rw[if_neg (by decide),<-hfl,hf]
  obtain ⟨L',h1,h2,h3⟩:=Q2U {s with pairs:=s.pairs++[(s.key,v)]} L F0 hm hl;exact ⟨L',false,h1,h2,h3⟩
theorem Q48 (s:WS) (a:Int) (f:Nat) (L:List ((Int×Int×Int)×(Nat×Nat))) (b:Bool):((Q0l s.q (f+1) a s.st).bind (Q1o s.q L)).rest []=((s.enter a).tree L f b).rest []:=by
 rw[WS.tree0 (show (s.enter a).next=0 from rfl)]
 show Prog.rest (((Q1u a (if s.back=true then s.hi else s.lo)).bind fun r=>Q0E s.q (Q0l s.q f) (f+1) a r.1 r.2 s.st).bind (Q1o s.q L)) []=_
 rw[Q02]
 rfl
theorem Qed {R:Int->Int} (s:WS) (L:List ((Int×Int×Int)×(Nat×Nat))) (F0:Nat) (b:Bool) (f:Nat) (hI:s.Inv) (hd:s.next=0->s.route.Doc) (h6:s.next≠6) (hm:L.map (·.1)=s.levels) (hf:∀e∈L,f<=e.2.1/\f<=e.2.2) (hf0:s.next=0->f<=F0) (f2:2<=f)
  (hl:∀l∈s.levels,lvOk l) (h4:s.next=4->L≠[]) (hR:s.next=0->s.route.next=0->1<=R s.route.n/\R s.route.n<=65537):
  ∃L' F0' b' addr,s.acc=some addr/\((s.tree L F0 b).rest []).next=some ⟨1,addr,0,0,[],0⟩/\(s.tree L F0 b).rest [R addr]=((s.step R).tree L' F0' b').rest []/\L'.map (·.1)=(s.step R).levels/\(∀e∈L',f-1<=e.2.1/\f-1<=e.2.2)/\((s.step R).next=0->f-1<=F0'/\(s.step R).route.Doc):=by
 have hfw:∀e∈L,f-1<=e.2.1/\f-1<=e.2.2:=fun e he=>by have:=hf e he;omega
 rcases hI.st with ⟨e,e6⟩|⟨e,hlv,p,ep,hp,p3⟩|e|e|e|⟨e,l,ls,hll,hmo⟩|e
 ·obtain ⟨d1,d2,d3⟩:=Qeo s.route hI.rt (hd e) e6 (hR e);have ha:s.acc=some s.route.addr:=(WS.acc0 e).trans (if_neg e6);obtain ⟨b1,b2⟩:=Q9h (fun r=>(Q0E s.q (Q0l s.q F0) (F0+1) s.n r.1 r.2 s.st).bind (Q1o s.q L)) d2 d3;have hF:=hf0 e;by_cases c:(s.route.step R).next=6
  ·refine ⟨((s.n,(s.route.step R).degree,(s.route.step R).child),(F0,F0))::L,F0,b,s.route.addr,ha,by rw[WS.tree0 e];exact b1, ?_, ?_,fun e' he=> ?_, ?_⟩
   ·rw[WS.tree0 e,b2,(QgK _ c).2,WS.step0e e c]
    rw[WS.tree1 (s:=WS.look _) rfl rfl]
    exact Q47 s.q F0 F0 s.n (s.route.step R).degree (s.route.step R).child s.st (Q1o s.q L)
   ·rw[WS.step0e e c]
    show _::L.map (·.1)=_::s.levels
    rw[hm]
   ·rcases List.mem_cons.1 he with h|h
    ·rw[h];exact ⟨by show f-1<=F0;omega,by show f-1<=F0;omega⟩
    ·exact hfw e' h
   ·rw[WS.step0e e c]
    intro h;exact absurd (show (1:Int)=0 from h) (by decide)
  ·refine ⟨L,F0,b,s.route.addr,ha,by rw[WS.tree0 e];exact b1, ?_, ?_,hfw, ?_⟩
   ·rw[WS.tree0 e,b2,WS.step0 e c]
    rw[WS.tree0 (s:={s with route:=s.route.step R}) e];rfl
   ·rw[WS.step0 e c];exact hm
   ·rw[WS.step0 e c];exact fun _=>⟨by omega,d1⟩
 ·obtain ⟨d2,d3⟩:=QgD (R:=R) p hp p3;have ha:s.acc=some p.cell:=(WS.acc1 e ep).trans (if_neg p3)
  obtain ⟨t,L1,rfl⟩:∃t L1,L=t::L1:=by
   cases L with
   |nil=>exact absurd hm.symm hlv
   |cons t L1=>exact ⟨t,L1,rfl⟩
  obtain ⟨b1,b2⟩:=Q9h (fun w=>(Q6t s.q t s.st w).bind (Q1o s.q L1)) d2 d3;have ht:=hf t (by simp);have htop:s.top=t.1:=by unfold WS.top;rw[<-hm];rfl
  have hslot:s.slot=Q03 t.1.1 t.1.2.1 t.1.2.2:=by unfold WS.slot;rw[htop]
  by_cases c:(p.step R).next=3
  ·have htr:(s.tree (t::L1) F0 b).rest [R p.cell]=((Qbw s.q t.2.1 ⟨s.pairs,s.spots++[(s.slot,(p.step R).word)]⟩ (p.step R).word).bind (Q1o s.q (t::L1))).rest []:=by
    rw[WS.tree1 e ep,b2]
    have:(p.step R).tree=.ret (p.step R).word:=by unfold PS.tree;rw[if_neg (by omega),if_neg (by omega),if_neg (by omega)]
    rw[this,hslot]
    exact Qa4 s.q t s.st (p.step R).word L1
   have hs:=WS.step1e e ep c;generalize (p.step R).word=u at htr hs;generalize hS:({s with peek:=some (p.step R),spots:=s.spots++[(s.slot,u)]}:WS)=S at hs;have hSq:S.q=s.q:=by rw[<-hS];rfl
   have hSs:S.st=⟨s.pairs,s.spots++[(s.slot,u)]⟩:=by rw[<-hS];rfl
   have hSl:S.levels=s.levels:=by rw[<-hS]
   rw[hs]
   rw[<-hSq,<-hSs] at htr
   suffices H:∃L' F0' b',((Qbw S.q t.2.1 S.st u).bind (Q1o S.q (t::L1))).rest []=((S.meet u).tree L' F0' b').rest []/\L'.map (·.1)=(S.meet u).levels/\(∀e∈L',f-1<=e.2.1/\f-1<=e.2.2)/\((S.meet u).next=0->f-1<=F0'/\(S.meet u).route.Doc) by
    obtain ⟨L',F0',b',q1,q2,q3,q4⟩:=H;exact ⟨L',F0',b',p.cell,ha,by rw[WS.tree1 e ep];exact b1,htr.trans q1,q2,q3,q4⟩
   clear htr hs b1 b2;rw[<-hSl] at hm hl;unfold Qbw WS.meet;by_cases h2:Q04 u=2
   ·rw[if_pos h2,if_pos h2]
    exact ⟨t::L1,F0,b,by rw[WS.tree2 rfl];rfl,hm,hfw,fun h=>absurd (show (2:Int)=0 from h) (by decide)⟩
   ·rw[if_neg h2,if_neg h2]
    by_cases h3:Q04 u=3
    ·rw[if_pos h3,if_pos h3]
     obtain ⟨g,hg⟩:∃g,t.2.1=g+1:=⟨t.2.1-1,by omega⟩
     rw[hg]
     exact ⟨t::L1,g,b,Q48 {S with at_:=wAt u} (wAt u) g (t::L1) b,hm,hfw,fun _=>⟨by omega,Q7J _ _⟩⟩
    ·rw[if_neg h3,if_neg h3]
     by_cases h4:Q04 u=4
     ·rw[if_pos h4,if_pos h4]
      exact ⟨t::L1,F0,b,by rw[WS.tree4 rfl];rfl,hm,hfw,fun h=>absurd (show (4:Int)=0 from h) (by decide)⟩
     ·rw[if_neg h4,if_neg h4]
      obtain ⟨L',q1,q2,q3⟩:=Q2U {S with at_:=wAt u} (t::L1) F0 hm hl;refine ⟨L',F0,false,q3,q1,fun e he=>hfw e (q2 e he),fun h=> ?_⟩
      exfalso
      have h:(if Q1F S.back S.levels=[] then (6:Int) else 5)=0:=h
      split at h<;>cases h
  ·have hs:=WS.step1 (R:=R) e ep c;refine ⟨t::L1,F0,b,p.cell,ha,by rw[WS.tree1 e ep];exact b1, ?_,by rw[hs];exact hm,hfw, ?_⟩
   ·rw[WS.tree1 e ep,b2,hs,WS.tree1 (s:={s with peek:=some (p.step R)}) e rfl];rfl
   ·rw[hs];exact fun h=>absurd (show s.next=0 from h) (by omega)
 ·have ha:s.acc=some s.at_:=WS.acc2 e;have hs:=WS.step2 (R:=R) e;have htr:(s.tree L F0 b).rest [R s.at_]=((if R s.at_<s.lo\/s.hi<R s.at_ then .ret (s.st,false) else (if s.values=true then Q08 (s.at_+1) else .ret 0).bind fun v=>.ret (⟨s.pairs++[(R s.at_,v)],s.spots⟩,decide (0<s.most/\s.most<=((s.pairs++[(R s.at_,v)]).length:Int))):Prog (WAcc×Bool)).bind (Q1o s.q L)).rest []:=by rw[WS.tree2 e];rfl
  have hnx:((s.tree L F0 b).rest []).next=some ⟨1,s.at_,0,0,[],0⟩:=by rw[WS.tree2 e];rfl
  rw[hs]
  by_cases c:R s.at_<s.lo\/s.hi<R s.at_
  ·rw[if_pos c] at htr|-
   obtain ⟨L',q1,q2,q3⟩:=Q2U {s with key:=R s.at_} L F0 hm hl;refine ⟨L',F0,false,s.at_,ha,hnx,htr.trans q3,q1,fun e he=>hfw e (q2 e he),fun h=> ?_⟩
   exfalso
   have h:(if Q1F s.back s.levels=[] then (6:Int) else 5)=0:=h
   split at h<;>cases h
  ·rw[if_neg c] at htr|-
   by_cases v:s.values=true
   ·rw[if_pos v] at htr|-
    refine ⟨L,F0,b,s.at_,ha,hnx,htr.trans ?_,hm,hfw,fun h=>absurd (show (3:Int)=0 from h) (by decide)⟩
    rw[WS.tree3 rfl,Q02];rfl
   ·rw[if_neg v] at htr|-
    obtain ⟨L',b',q1,q2,q3⟩:=Q8Z {s with key:=R s.at_} 0 L F0 hm hl;refine ⟨L',F0,b',s.at_,ha,hnx,htr.trans q3,q1,fun e he=>hfw e (q2 e he),fun h=> ?_⟩
    exfalso
    unfold WS.found at h
    split at h
    ·exact absurd (show (6:Int)=0 from h) (by decide)
    ·have h:(if Q1F s.back s.levels=[] then (6:Int) else 5)=0:=h
     split at h<;>cases h
 ·have ha:s.acc=some (s.at_+1):=WS.acc3 e;have hs:=WS.step3 (R:=R) e;obtain ⟨L',b',q1,q2,q3⟩:=Q8Z s (R (s.at_+1)) L F0 hm hl
  rw[hs]
  refine ⟨L',F0,b',s.at_+1,ha,by rw[WS.tree3 e];rfl,Eq.trans (by rw[WS.tree3 e];rfl) q3,q1,fun e he=>hfw e (q2 e he),fun h=> ?_⟩
  exfalso
  unfold WS.found at h
  split at h
  ·exact absurd (show (6:Int)=0 from h) (by decide)
  ·have h:(if Q1F s.back s.levels=[] then (6:Int) else 5)=0:=h
   split at h<;>cases h
 ·have ha:s.acc=some s.at_:=WS.acc4 e;have hs:=WS.step4 (R:=R) e
  obtain ⟨t,L1,rfl⟩:∃t L1,L=t::L1:=by
   cases L with
   |nil=>exact absurd rfl (h4 e)
   |cons t L1=>exact ⟨t,L1,rfl⟩
  have ht:=hf t (by simp);obtain ⟨g,hg⟩:∃g,t.2.1=g+1:=⟨t.2.1-1,by omega⟩
  rw[hs]
  refine ⟨t::L1,g,b,s.at_,ha,by rw[WS.tree4 e];rfl,Eq.trans ?_ (Q48 s (wAt (R s.at_)) g (t::L1) b),hm,hfw,fun _=>⟨by omega,Q7J _ _⟩⟩
  rw[WS.tree4 e,hg];rfl
 ·have ha:s.acc=some s.ahead:=WS.acc5 e;have hs:=WS.step5 (R:=R) e
  obtain ⟨t,L1,rfl⟩:∃t L1,L=t::L1:=by
   cases L with
   |nil=>rw[hll] at hm;cases hm
   |cons t L1=>exact ⟨t,L1,rfl⟩
  have ht:=hf t (by simp);have htl:t.1=l/\L1.map (·.1)=ls:=by rw[hll] at hm;exact List.cons.inj hm
  have hlo:lvOk t.1:=hl t.1 (by rw[<-hm];simp);have htop:s.top=t.1:=by unfold WS.top;rw[<-hm];rfl
  have htail:s.levels.tail=L1.map (·.1):=by rw[<-hm];rfl
  obtain ⟨g,hg⟩:∃g,t.2.2=g+1:=⟨t.2.2-1,by omega⟩;obtain ⟨l0,l1,l2⟩:=hlo;have hmo:more s.back t.1=true:=by rw[htl.1];exact hmo
  have hl1:∀l∈L1.map (·.1),lvOk l:=fun l h=>hl l (by rw[<-hm];exact List.mem_cons_of_mem _ h);have hf1:∀e∈L1,f-1<=e.2.1/\f-1<=e.2.2:=fun e he=>hfw e (List.mem_cons_of_mem _ he)
  rw[hs]
  unfold more at hmo;unfold WS.bound
  rw[htop,htail]
  have hah:s.ahead=if s.back=true then Q09 t.1.1 t.1.2.2 else Q09 t.1.1 (t.1.2.2+1):=by unfold WS.ahead;rw[htop]
  by_cases hb:s.back=true
  ·rw[if_pos hb] at hmo hah|-
   have hmo:=of_decide_eq_true hmo
   have hlk:Qe6 s.q t (s.st,false)=(Q08 (Q09 t.1.1 t.1.2.2)).bind fun q=>if q<=s.lo then .ret (s.st,false) else Q0E s.q (Q0l s.q t.2.1) (g+1) t.1.1 t.1.2.1 (wrap64 (t.1.2.2-1)) s.st:=by
    unfold Qe6
    rw[if_neg Bool.false_ne_true,if_pos (show s.q.back=true from hb),if_neg (by omega),hg];rfl
   have htr:s.tree (t::L1) F0 b=((Q08 (Q09 t.1.1 t.1.2.2)).bind fun q=>if q<=s.lo then .ret (s.st,false) else Q0E s.q (Q0l s.q t.2.1) (g+1) t.1.1 t.1.2.1 (wrap64 (t.1.2.2-1)) s.st).bind (Q1o s.q L1):=by
    rw[WS.tree5 e,<-hlk];rfl
   have hw:wrap64 (t.1.2.2-1)=t.1.2.2-1:=Q1N (by omega) (by omega)
   rw[hw] at htr
   rw[hah] at ha|-
   have hnx:((s.tree (t::L1) F0 b).rest []).next=some ⟨1,Q09 t.1.1 t.1.2.2,0,0,[],0⟩:=by rw[htr];rfl
   by_cases c:s.lo<R (Q09 t.1.1 t.1.2.2)
   ·rw[if_pos c]
    refine ⟨((t.1.1,t.1.2.1,t.1.2.2-1),(t.2.1,g))::L1,F0,b,_,ha,hnx, ?_,rfl,fun e' he=> ?_,fun h=>absurd (show (1:Int)=0 from h) (by decide)⟩
    ·rw[htr,WS.tree1 (s:=WS.look _) rfl rfl]
     show ((if R (Q09 t.1.1 t.1.2.2)<=s.lo then .ret (s.st,false) else Q0E s.q (Q0l s.q t.2.1) (g+1) t.1.1 t.1.2.1 (t.1.2.2-1) s.st:Prog (WAcc×Bool)).bind (Q1o s.q L1)).rest []=_
     rw[if_neg (by omega)]
     exact Q47 s.q t.2.1 g t.1.1 t.1.2.1 (t.1.2.2-1) s.st (Q1o s.q L1)
    ·rcases List.mem_cons.1 he with h|h
     ·rw[h];exact ⟨by show f-1<=t.2.1;omega,by show f-1<=g;omega⟩
     ·exact hf1 e' h
   ·rw[if_neg c]
    obtain ⟨L',q1,q2,q3⟩:=Q2U {s with levels:=L1.map (·.1)} L1 F0 rfl hl1;refine ⟨L',F0,false,_,ha,hnx,Eq.trans ?_ q3,q1,fun e he=>hf1 e (q2 e he),fun h=> ?_⟩
    ·rw[htr]
     show ((if R (Q09 t.1.1 t.1.2.2)<=s.lo then .ret (s.st,false) else Q0E s.q (Q0l s.q t.2.1) (g+1) t.1.1 t.1.2.1 (t.1.2.2-1) s.st:Prog (WAcc×Bool)).bind (Q1o s.q L1)).rest []=_
     rw[if_pos (by omega)];rfl
    ·exfalso
     have h:(if Q1F s.back (L1.map (·.1))=[] then (6:Int) else 5)=0:=h
     split at h<;>cases h
  ·rw[if_neg hb] at hmo hah|-
   have hmo:=of_decide_eq_true hmo;have hw:wrap64 (t.1.2.2+1)=t.1.2.2+1:=Q1N (by omega) (by omega)
   have hlk:Qe6 s.q t (s.st,false)=(Q08 (Q09 t.1.1 (t.1.2.2+1))).bind fun q=>if s.hi<q then .ret (s.st,false) else Q0E s.q (Q0l s.q t.2.1) (g+1) t.1.1 t.1.2.1 (t.1.2.2+1) s.st:=by
    unfold Qe6
    rw[if_neg Bool.false_ne_true,if_neg (show ¬s.q.back=true from hb),hw,if_neg (by omega),hg];rfl
   have htr:s.tree (t::L1) F0 b=((Q08 (Q09 t.1.1 (t.1.2.2+1))).bind fun q=>if s.hi<q then .ret (s.st,false) else Q0E s.q (Q0l s.q t.2.1) (g+1) t.1.1 t.1.2.1 (t.1.2.2+1) s.st).bind (Q1o s.q L1):=by
    rw[WS.tree5 e,<-hlk];rfl
   rw[hah] at ha|-
   have hnx:((s.tree (t::L1) F0 b).rest []).next=some ⟨1,Q09 t.1.1 (t.1.2.2+1),0,0,[],0⟩:=by rw[htr];rfl
   by_cases c:R (Q09 t.1.1 (t.1.2.2+1))<=s.hi
   ·rw[if_pos c]
    refine ⟨((t.1.1,t.1.2.1,t.1.2.2+1),(t.2.1,g))::L1,F0,b,_,ha,hnx, ?_,rfl,fun e' he=> ?_,fun h=>absurd (show (1:Int)=0 from h) (by decide)⟩
    ·rw[htr,WS.tree1 (s:=WS.look _) rfl rfl]
     show ((if s.hi<R (Q09 t.1.1 (t.1.2.2+1)) then .ret (s.st,false) else Q0E s.q (Q0l s.q t.2.1) (g+1) t.1.1 t.1.2.1 (t.1.2.2+1) s.st:Prog (WAcc×Bool)).bind (Q1o s.q L1)).rest []=_
     rw[if_neg (by omega)]
     exact Q47 s.q t.2.1 g t.1.1 t.1.2.1 (t.1.2.2+1) s.st (Q1o s.q L1)
    ·rcases List.mem_cons.1 he with h|h
     ·rw[h];exact ⟨by show f-1<=t.2.1;omega,by show f-1<=g;omega⟩
     ·exact hf1 e' h
   ·rw[if_neg c]
    obtain ⟨L',q1,q2,q3⟩:=Q2U {s with levels:=L1.map (·.1)} L1 F0 rfl hl1;refine ⟨L',F0,false,_,ha,hnx,Eq.trans ?_ q3,q1,fun e he=>hf1 e (q2 e he),fun h=> ?_⟩
    ·rw[htr]
     show ((if s.hi<R (Q09 t.1.1 (t.1.2.2+1)) then .ret (s.st,false) else Q0E s.q (Q0l s.q t.2.1) (g+1) t.1.1 t.1.2.1 (t.1.2.2+1) s.st:Prog (WAcc×Bool)).bind (Q1o s.q L1)).rest []=_
     rw[if_pos (by omega)];rfl
    ·exfalso
     have h:(if Q1F s.back (L1.map (·.1))=[] then (6:Int) else 5)=0:=h
     split at h<;>cases h
 ·exact absurd e h6
theorem QeL (s:RS) (q:Int):(s.key q).n=s.n/\(s.key q).k=s.k/\(s.key q).degree=s.degree:=by
 unfold RS.key RS.guess RS.up RS.down RS.ende
 repeat' split
 all_goals exact ⟨rfl,rfl,rfl⟩
theorem Qdc (s:RS) (q:Int) (n0:1<=s.next) (n1:s.next<=5) (d0:2<=s.degree) (i0:1<=s.i) (i1:s.i<=s.degree-1):(s.key q).next=6->0<=(s.key q).child/\(s.key q).child<s.degree:=by
 unfold RS.key RS.guess RS.up RS.down RS.ende
 repeat' split
 all_goals
  intro h
  first
   |(exact absurd h (by decide))
   |(dsimp only;omega)
   |(exfalso;dsimp only at h;omega)
   |omega
theorem Qbf {R:Int->Int} (s:RS) (hI:s.Inv) (h6:s.next≠6) (d:Int) (h0:R s.n=d) (d0:1<=d) (hd:s.next≠0->s.degree=d):
  (s.step R).n=s.n/\(s.step R).k=s.k/\(s.step R).degree=d/\(s.step R).next≠0/\((s.step R).next=6->0<=(s.step R).child/\(s.step R).child<d):=by
 rcases hI.st with e|e|⟨a,b,c,_,i0,i1⟩
 ·rw[RS.step0 e]
  by_cases c:R s.n<2
  ·rw[if_pos c]
   exact ⟨rfl,rfl,h0,by show (6:Int)≠0;decide,fun _=>⟨Int.le_refl 0,by show (0:Int)<d;omega⟩⟩
  ·rw[if_neg c]
   exact ⟨rfl,rfl,h0,by show (1:Int)≠0;decide,fun h=>absurd (show (1:Int)=6 from h) (by decide)⟩
 ·exact absurd e h6
 ·rw[RS.stepK (by omega) h6]
  obtain ⟨k1,k2,k3⟩:=QeL s (R (Q09 s.n s.i));have hdd:=hd (by omega);refine ⟨k1,k2,k3.trans hdd, ?_,fun h=> ?_⟩
  ·unfold RS.key RS.guess RS.up RS.down RS.ende
   repeat' split
   all_goals first
    |(show (6:Int)≠0;decide)
    |(dsimp only;omega)
    |omega
  ·rw[<-hdd];exact Qdc s _ a b c i0 i1 h
section
variable {C:List Int} {G:GS}
theorem Q7E {x:Int} (h0:0<=x) (h1:x<=1099511627776):Q1a x=true:=by unfold Q1a;rw[decide_eq_true h0,decide_eq_true h1];rfl
theorem QaH (r:Rep C G) {n i:Int} (h:G.At n i):Q03 n (G.deg n) i=G.sa n i:=by
 have t0:G.ty n≠0:=by rw[h.ty];decide
 have l:=r.low n t0;have u:=r.top n t0;have b:=r.big;have hl:=Q3v h.ty;have i0:=h.i0;have i1:=h.i1;unfold Q03
 rw[if_pos ⟨Q7E (by omega) (by omega),Q7E (by omega) (by omega),Q7E (by omega) (by omega)⟩]
 rfl
end
structure PSOk (G:GS) (n i:Int) (p:PS):Prop where
 hat:G.At n i
 c0:p.next=0->p.cell=G.sa n i
 c12:p.next=1\/p.next=2->G.ty p.at_=5/\G.nd p.at_=n/\G.ix p.at_=i
 c1:p.next=1->p.cell=p.at_+4
 c2:p.next=2->p.cell=p.at_+2\/p.cell=p.at_+3
section
variable {C:List Int} {G G':GS} {n i:Int} {p:PS}
theorem PSOk.init (r:Rep C G) (h:G.At n i) {d:Int} (hd:d=G.deg n):PSOk G n i (PS.init (Q03 n d i)):=
 ⟨h,fun _=>by rw[hd];exact QaH r h,fun e=>by rcases e with e|e<;>exact absurd (show (0:Int)=_ from e) (by decide),fun e=>absurd (show (0:Int)=1 from e) (by decide),fun e=>absurd (show (0:Int)=2 from e) (by decide)⟩
theorem PSOk.step (h:PSOk G n i p) (hG:Inv G) (r:Rep C G) (hp:p.Inv) (p3:p.next≠3):
  ((p.step (rdC C)).next=3->(p.step (rdC C)).word=0\/VW G n i (p.step (rdC C)).word)/\((p.step (rdC C)).next≠3->PSOk G n i (p.step (rdC C))):=by
 obtain ⟨hat,h1,h2,h3,h4⟩:=h;have hsw:=(hG.inn n hat.ty).slot i hat.i0 hat.i1;have hsl:=r.slot n i hat;obtain ⟨nx,c,a,w⟩:=p;have hst:nx=0\/nx=1\/nx=2\/nx=3:=hp.st
 rcases hst with e0|e0|e0|e0<;>subst e0
 ·have hc:c=G.sa n i:=h1 rfl;subst hc;by_cases k:Q04 (rdC C (G.sa n i))=5
  ·have hps:PS.step (rdC C) ⟨0,G.sa n i,a,w⟩=⟨1,wAt (rdC C (G.sa n i))+4,wAt (rdC C (G.sa n i)),w⟩:=if_pos k
   rw[hps]
   refine ⟨fun e=>absurd (show (1:Int)=3 from e) (by decide),fun _=>⟨hat,fun e=>(by cases e),fun _=> ?_,fun _=>rfl,fun e=>(by cases e)⟩⟩
   rw[hsl] at k|-
   rcases hsw with q|q|q
   ·rw[q,Q0Y] at k;cases k
   ·rcases q with q|q
    ·have:=q.k3;omega
    ·have:=q.1;omega
   ·exact ⟨q.2.1,q.2.2.1,q.2.2.2.1⟩
  ·have hps:PS.step (rdC C) ⟨0,G.sa n i,a,w⟩=⟨3,G.sa n i,a,rdC C (G.sa n i)⟩:=if_neg k
   rw[hps]
   refine ⟨fun _=> ?_,fun e=>absurd rfl e⟩;show rdC C (G.sa n i)=0\/VW G n i (rdC C (G.sa n i))
   rw[hsl] at k|-
   rcases hsw with q|q|q
   ·exact .inl q
   ·exact .inr q
   ·exact absurd q.1 k
 ·have ha:=h2 (.inl rfl);have hps:PS.step (rdC C) ⟨1,c,a,w⟩=if rdC C c=1 then ⟨2,a+3,a,w⟩ else ⟨2,a+2,a,w⟩:=rfl
  rw[hps]
  by_cases k:rdC C c=1
  ·rw[if_pos k]
   exact ⟨fun e=>absurd (show (2:Int)=3 from e) (by decide),fun _=>⟨hat,fun e=>(by cases e),fun _=>ha,fun e=>(by cases e),fun _=>.inr rfl⟩⟩
  ·rw[if_neg k]
   exact ⟨fun e=>absurd (show (2:Int)=3 from e) (by decide),fun _=>⟨hat,fun e=>(by cases e),fun _=>ha,fun e=>(by cases e),fun _=>.inl rfl⟩⟩
 ·obtain ⟨t5,nd,ix⟩:=h2 (.inr rfl);have t5:G.ty a=5:=t5;have nd:G.nd a=n:=nd;have ix:G.ix a=i:=ix;have hps:PS.step (rdC C) ⟨2,c,a,w⟩=⟨3,c,a,rdC C c⟩:=rfl
  rw[hps]
  have dk:=hG.dcs a t5;have dr:=r.dcs a t5;have od:=dk.old;have nw:=dk.new
  rw[nd,ix] at od nw
  refine ⟨fun _=>.inr ?_,fun e=>absurd rfl e⟩;show VW G n i (rdC C c)
  rcases h4 rfl with hc|hc
  ·have hc:c=a+2:=hc
   rw[hc,dr.2.2.1];exact od
  ·have hc:c=a+3:=hc
   rw[hc,dr.2.2.2.1];exact nw
 ·exact absurd rfl p3
theorem Qef {w:Int} (h:w=0\/VW G n i w):(Q04 w=3->G.ty (wAt w)=3)/\(Q04 w=4->G.ty (wAt w)=4):=by
 refine ⟨fun k=> ?_,fun k=> ?_⟩
 ·rcases h with h|h|h
  ·rw[h,Q0Y] at k;cases k
  ·rw[h.ty];exact k
  ·rw[h.1] at k;cases k
 ·rcases h with h|h|h
  ·rw[h,Q0Y] at k;cases k
  ·have:=h.k3;omega
  ·exact h.2.1
structure WSOk (G:GS) (s:WS):Prop where
 at0:s.next=0->G.ty s.n=3/\s.route.n=s.n/\(s.route.next≠0->s.route.degree=G.deg s.n)
 lv:∀l∈s.levels,G.At l.1 l.2.2/\l.2.1=G.deg l.1
 at1:s.next=1->s.levels≠[]/\∃p,s.peek=some p/\PSOk G s.top.1 s.top.2.2 p
 at4:s.next=4->s.levels≠[]/\G.ty s.at_=4
variable {s:WS}
theorem WSOk.onward (hl:∀l∈s.levels,G.At l.1 l.2.2/\l.2.1=G.deg l.1):WSOk G s.onward:=by
 have hn:s.onward.next=5\/s.onward.next=6:=by
  by_cases e:Q1F s.back s.levels=[]
  ·exact .inr (if_pos e)
  ·exact .inl (if_neg e)
 exact ⟨fun e=>by omega,fun l h=>hl l (Q5W h),fun e=>by omega,fun e=>by omega⟩
theorem WSOk.look (r:Rep C G) (l:Int×Int×Int) (ls:List (Int×Int×Int)) (e:s.levels=l::ls) (hl:∀l∈s.levels,G.At l.1 l.2.2/\l.2.1=G.deg l.1):WSOk G s.look:=by
 have ht:s.top=l:=by unfold WS.top;rw[e];rfl
 obtain ⟨h1,h2⟩:=hl l (by rw[e];simp);refine ⟨fun e=>absurd (show (1:Int)=0 from e) (by decide),hl,fun _=>⟨by show s.levels≠[];rw[e];simp,_,rfl, ?_⟩,fun e=>absurd (show (1:Int)=4 from e) (by decide)⟩;show PSOk G s.top.1 s.top.2.2 (PS.init (Q03 s.top.1 s.top.2.1 s.top.2.2))
 rw[ht]
 exact PSOk.init r h1 h2
theorem WSOk.enter (hl:∀l∈s.levels,G.At l.1 l.2.2/\l.2.1=G.deg l.1) {n:Int} (h:G.ty n=3):WSOk G (s.enter n):=
 ⟨fun _=>⟨h,rfl,fun e=>absurd rfl e⟩,hl,fun e=>absurd (show (0:Int)=1 from e) (by decide),fun e=>absurd (show (0:Int)=4 from e) (by decide)⟩
theorem WSOk.found (hl:∀l∈s.levels,G.At l.1 l.2.2/\l.2.1=G.deg l.1) (v:Int):WSOk G (s.found v):=by
 unfold WS.found
 split
 ·exact ⟨fun e=>absurd (show (6:Int)=0 from e) (by decide),hl,fun e=>absurd (show (6:Int)=1 from e) (by decide),fun e=>absurd (show (6:Int)=4 from e) (by decide)⟩
 ·exact WSOk.onward (s:={s with pairs:=s.pairs++[(s.key,v)]}) hl
theorem WSOk.meet (hl:∀l∈s.levels,G.At l.1 l.2.2/\l.2.1=G.deg l.1) (h0:s.levels≠[]) {w n i:Int} (h:w=0\/VW G n i w):WSOk G (s.meet w):=by
 obtain ⟨k3,k4⟩:=Qef h;unfold WS.meet;by_cases h2:Q04 w=2
 ·rw[if_pos h2]
  exact ⟨fun e=>absurd (show (2:Int)=0 from e) (by decide),hl,fun e=>absurd (show (2:Int)=1 from e) (by decide),fun e=>absurd (show (2:Int)=4 from e) (by decide)⟩
 ·rw[if_neg h2]
  by_cases h3:Q04 w=3
  ·rw[if_pos h3];exact WSOk.enter (s:={s with at_:=wAt w}) hl (k3 h3)
  ·rw[if_neg h3]
   by_cases h4:Q04 w=4
   ·rw[if_pos h4]
    exact ⟨fun e=>absurd (show (4:Int)=0 from e) (by decide),hl,fun e=>absurd (show (4:Int)=1 from e) (by decide),fun _=>⟨h0,k4 h4⟩⟩
   ·rw[if_neg h4];exact WSOk.onward (s:={s with at_:=wAt w}) hl
theorem WSOk.init (hG:Inv G) (lo hi:Int) (back:Bool) (most:Int) (values:Bool):WSOk G (WS.init lo hi back most values):=
 ⟨fun _=>⟨hG.r1.1,rfl,fun e=>absurd rfl e⟩,fun l hl=>absurd hl (by simp[WS.init]),fun e=>absurd (show (0:Int)=1 from e) (by decide),fun e=>absurd (show (0:Int)=4 from e) (by decide)⟩
theorem Q6j (r:Rep C G) {n:Int} (h:G.ty n=3):1<=G.deg n/\G.deg n<=65537/\rdC C n=G.deg n:=by
 have hd:=r.deg n h;have t0:G.ty n≠0:=by rw[h];decide
 have l:=r.low n t0;have u:=r.top n t0;have b:=r.big;have hl:=Q3v h;exact ⟨hd.1,by omega,hd.2⟩
theorem WSOk.lvOk (h:WSOk G s) (r:Rep C G):∀l∈s.levels,lvOk l:=fun l hl=>by
 obtain ⟨h1,h2⟩:=h.lv l hl;have:=Q6j r h1.ty;exact ⟨h1.i0,by rw[h2];exact h1.i1,by rw[h2];exact this.2.1⟩
theorem WSOk.deg (h:WSOk G s) (r:Rep C G) (e:s.next=0):1<=rdC C s.route.n/\rdC C s.route.n<=65537:=by
 obtain ⟨h1,h2,_⟩:=h.at0 e;have:=Q6j r h1
 rw[h2,this.2.2];exact ⟨this.1,this.2.1⟩
theorem WSOk.step (h:WSOk G s) (hG:Inv G) (r:Rep C G) (hI:s.Inv) (h6:s.next≠6):WSOk G (s.step (rdC C)):=by
 rcases hI.st with ⟨e,e6⟩|⟨e,hlv,p,ep,hp,p3⟩|e|e|e|⟨e,l,ls,hll,hmo⟩|e
 ·obtain ⟨h1,h2,h3⟩:=h.at0 e;have hd:=r.deg s.n h1;obtain ⟨k1,k2,k3,k4,k5⟩:=Qbf (R:=rdC C) s.route hI.rt e6 (G.deg s.n) (by rw[h2];exact hd.2) hd.1 h3;by_cases c:(s.route.step (rdC C)).next=6
  ·rw[WS.step0e e c]
   refine WSOk.look r _ _ rfl (fun l hl=> ?_)
   rcases List.mem_cons.1 hl with hl|hl
   ·rw[hl];exact ⟨⟨h1,(k5 c).1,(k5 c).2⟩,k3⟩
   ·exact h.lv l hl
  ·rw[WS.step0 e c]
   exact ⟨fun _=>⟨h1,k1.trans h2,fun _=>k3⟩,h.lv,fun e2=>absurd (show s.next=1 from e2) (by omega),fun e2=>absurd (show s.next=4 from e2) (by omega)⟩
 ·obtain ⟨_,p',ep',hk⟩:=h.at1 e
  rw[ep] at ep'
  injection ep' with ep';subst ep';obtain ⟨g1,g2⟩:=hk.step hG r hp p3;by_cases c:(p.step (rdC C)).next=3
  ·rw[WS.step1e e ep c]
   exact WSOk.meet (s:={s with peek:=some (p.step (rdC C)),spots:=s.spots++[(s.slot,(p.step (rdC C)).word)]}) h.lv hlv (g1 c)
  ·rw[WS.step1 e ep c]
   exact ⟨fun e2=>absurd (show s.next=0 from e2) (by omega),h.lv,fun _=>⟨hlv,_,rfl,g2 c⟩,fun e2=>absurd (show s.next=4 from e2) (by omega)⟩
 ·rw[WS.step2 e]
  split
  ·exact WSOk.onward (s:={s with key:=_}) h.lv
  ·split
   ·exact ⟨fun e=>absurd (show (3:Int)=0 from e) (by decide),h.lv,fun e=>absurd (show (3:Int)=1 from e) (by decide),fun e=>absurd (show (3:Int)=4 from e) (by decide)⟩
   ·exact WSOk.found (s:={s with key:=rdC C s.at_}) h.lv 0
 ·rw[WS.step3 e];exact WSOk.found h.lv _
 ·obtain ⟨_,t4⟩:=h.at4 e;have rk:=hG.reb s.at_ t4
  rw[WS.step4 e,(r.reb s.at_ t4).1,rk.k.2]
  have ht:G.ty (G.tgt s.at_)=3:=by have:=rk.v.ty;rw[rk.k.1,rk.k.2] at this;exact this
  exact WSOk.enter h.lv ht
 ·rw[WS.step5 e]
  have htop:s.top=l:=by unfold WS.top;rw[hll];rfl
  have htl:s.levels.tail=ls:=by rw[hll];rfl
  obtain ⟨⟨a0,a1,a2⟩,hd⟩:=h.lv l (by rw[hll];simp);have hls:∀l∈ls,G.At l.1 l.2.2/\l.2.1=G.deg l.1:=fun l hl=>h.lv l (by rw[hll];exact List.mem_cons_of_mem _ hl);unfold WS.bound
  rw[htop,htl]
  unfold more at hmo
  split
  ·rename_i hbk
   rw[if_pos hbk] at hmo
   have hmo:=of_decide_eq_true hmo
   split
   ·refine WSOk.look r _ _ rfl (fun x hx=> ?_)
    rcases List.mem_cons.1 hx with hx|hx
    ·rw[hx];exact ⟨⟨a0,by show 0<=l.2.2-1;omega,by show l.2.2-1<G.deg l.1;omega⟩,hd⟩
    ·exact hls x hx
   ·exact WSOk.onward (s:={s with levels:=ls}) hls
  ·rename_i hbk
   rw[if_neg hbk] at hmo
   have hmo:=of_decide_eq_true hmo
   split
   ·refine WSOk.look r _ _ rfl (fun x hx=> ?_)
    rcases List.mem_cons.1 hx with hx|hx
    ·rw[hx];exact ⟨⟨a0,by show 0<=l.2.2+1;omega,by show l.2.2+1<G.deg l.1;omega⟩,hd⟩
    ·exact hls x hx
   ·exact WSOk.onward (s:={s with levels:=ls}) hls
 ·exact absurd e h6
end
theorem QgC (s:WS) (w:Int):(s.meet w).q=s.q:=by
 unfold WS.meet
 split
 ·rfl
 ·split
  ·rfl
  ·split<;>rfl
theorem QcJ (s:WS) (v:Int):(s.found v).q=s.q:=by
 unfold WS.found;split<;>rfl
theorem QfP (s:WS) (v:Int):(s.bound v).q=s.q:=by
 unfold WS.bound
 split
 ·split<;>rfl
 ·split<;>rfl
theorem QfH {R:Int->Int} (s:WS):(s.step R).q=s.q:=by
 unfold WS.step
 split
 ·split<;>rfl
 ·split
  ·split
   ·split
    ·exact QgC _ _
    ·rfl
   ·rfl
  ·split
   ·split
    ·rfl
    ·split
     ·rfl
     ·exact QcJ _ _
   ·split
    ·exact QcJ _ _
    ·split
     ·rfl
     ·split
      ·exact QfP _ _
      ·rfl
structure LenW (s s':WS):Prop where
 l:s'.levels.length<=s.levels.length+1
 p:s'.pairs.length<=s.pairs.length+1
 s:s'.spots.length<=s.spots.length+1
theorem Q3Q (s:WS):s.onward.levels.length<=s.levels.length:=Q8D s.back s.levels
theorem QeI (s:WS) (w:Int):(s.meet w).levels.length<=s.levels.length/\(s.meet w).pairs=s.pairs/\(s.meet w).spots=s.spots:=by
 have h:=Q3Q {s with at_:=wAt w};unfold WS.meet
 split
 ·exact ⟨Nat.le_refl _,rfl,rfl⟩
 ·split
  ·exact ⟨Nat.le_refl _,rfl,rfl⟩
  ·split
   ·exact ⟨Nat.le_refl _,rfl,rfl⟩
   ·exact ⟨h,rfl,rfl⟩
theorem Q8N (s:WS) (v:Int):LenW s (s.found v):=by
 have h:=Q3Q {s with pairs:=s.pairs++[(s.key,v)]};have h:(WS.onward {s with pairs:=s.pairs++[(s.key,v)]}).levels.length<=s.levels.length:=h;have e:(s.pairs++[(s.key,v)]).length<=s.pairs.length+1:=by simp
 unfold WS.found
 split
 ·exact ⟨Nat.le_succ _,e,Nat.le_succ _⟩
 ·exact ⟨Nat.le_trans h (Nat.le_succ _),e,Nat.le_succ _⟩
theorem Qd5 (s:WS) (v:Int):LenW s (s.bound v):=by
 have h:=Q3Q {s with levels:=s.levels.tail};have h:(WS.onward {s with levels:=s.levels.tail}).levels.length<=s.levels.tail.length:=h;have ht:s.levels.tail.length<=s.levels.length:=by rw[List.length_tail];omega
 have hc:∀x:Int×Int×Int,(x::s.levels.tail).length<=s.levels.length+1:=fun x=>by simp
 unfold WS.bound
 split
 ·split
  ·exact ⟨hc _,Nat.le_succ _,Nat.le_succ _⟩
  ·exact ⟨by omega,Nat.le_succ _,Nat.le_succ _⟩
 ·split
  ·exact ⟨hc _,Nat.le_succ _,Nat.le_succ _⟩
  ·exact ⟨by omega,Nat.le_succ _,Nat.le_succ _⟩
theorem Q4E {R:Int->Int} (s:WS):LenW s (s.step R):=by
 have e0:∀x:Int×Int×Int,(x::s.levels).length<=s.levels.length+1:=fun x=>by simp
 have e1:∀x:Int×Int,(s.spots++[x]).length<=s.spots.length+1:=fun x=>by simp
 unfold WS.step
 split
 ·split
  ·exact ⟨e0 _,Nat.le_succ _,Nat.le_succ _⟩
  ·exact ⟨Nat.le_succ _,Nat.le_succ _,Nat.le_succ _⟩
 ·split
  ·split
   ·rename_i p _
    split
    ·obtain ⟨a,b,c⟩:=QeI {s with peek:=some (p.step R),spots:=s.spots++[(s.slot,(p.step R).word)]} (p.step R).word;exact ⟨Nat.le_trans a (Nat.le_succ _),by rw[b];exact Nat.le_succ _,by rw[c];exact e1 _⟩
    ·exact ⟨Nat.le_succ _,Nat.le_succ _,Nat.le_succ _⟩
   ·exact ⟨Nat.le_succ _,Nat.le_succ _,Nat.le_succ _⟩
  ·split
   ·split
    ·exact ⟨Nat.le_trans (Q3Q {s with key:=R s.at_}) (Nat.le_succ _),Nat.le_succ _,Nat.le_succ _⟩
    ·split
     ·exact ⟨Nat.le_succ _,Nat.le_succ _,Nat.le_succ _⟩
     ·obtain ⟨a,b,c⟩:=Q8N {s with key:=R s.at_} 0;exact ⟨a,b,c⟩
   ·split
    ·exact Q8N s _
    ·split
     ·exact ⟨Nat.le_succ _,Nat.le_succ _,Nat.le_succ _⟩
     ·split
      ·exact Qd5 s _
      ·exact ⟨Nat.le_succ _,Nat.le_succ _,Nat.le_succ _⟩
theorem Qca {R:Int->Int} (s:WS):(s.step R).levels.length<=s.levels.length+1/\(s.step R).pairs.length<=s.pairs.length+1/\(s.step R).spots.length<=s.spots.length+1:=
 ⟨(Q4E s).l,(Q4E s).p,(Q4E s).s⟩
theorem Q5v {α:Type}:∀p:Prog α,p.bind .ret=p
 |.ret a=>rfl
 |.ask q k=>by show Prog.ask q (fun v=>(k v).bind .ret)=_;congr 1;funext v;exact Q5v (k v)
 |.chk k=>by show Prog.chk (fun v=>(k v).bind .ret)=_;congr 1;funext v;exact Q5v (k v)
 |.stuck p=>by show Prog.stuck (p.bind .ret)=_;rw[Q5v p]
structure WalkJ (x:WQ) (G:GS) (i f:Nat) (s:WS) (q:Prog (WAcc×Bool)):Prop where
 ok:WSOk G s
 inv:s.Inv
 doc:s.next=0->s.route.Doc
 lv:∀l∈s.levels,lvOk l
 ll:s.levels.length<=i
 lp:s.pairs.length<=i
 ls:s.spots.length<=i
 x:s.q=x
 q:∃L F0 b,L.map (·.1)=s.levels/\(∀e∈L,f<=e.2.1/\f<=e.2.2)/\(s.next=0->f<=F0)/\q=s.tree L F0 b
theorem WS.acc_bd {s:WS} (h:s.Inv) {a:Int} (ha:s.acc=some a):i64B a:=by
 rcases h.st with ⟨e,e6⟩|⟨e,hlv,p,ep,hp,p3⟩|e|e|e|⟨e,l,ls,hll,hmo⟩|e
 ·rw[WS.acc0 e] at ha
  unfold RS.acc at ha
  rw[if_neg e6] at ha
  injection ha with ha;subst ha;unfold RS.addr
  split
  ·exact ⟨h.rt.n0,h.rt.n1⟩
  ·have:=Q69 (n:=s.route.n) (i:=s.route.i);exact i64B.of (by omega) (by omega)
 ·rw[WS.acc1 e ep] at ha
  unfold PS.acc at ha
  rw[if_neg p3] at ha
  injection ha with ha;subst ha;exact ⟨hp.c0,hp.c1⟩
 ·rw[WS.acc2 e] at ha;injection ha with ha;subst ha;have:=h.a0;have:=h.a1;exact i64B.of (by omega) (by omega)
 ·rw[WS.acc3 e] at ha;injection ha with ha;subst ha;have:=h.a0;have:=h.a1;exact i64B.of (by omega) (by omega)
 ·rw[WS.acc4 e] at ha;injection ha with ha;subst ha;have:=h.a0;have:=h.a1;exact i64B.of (by omega) (by omega)
 ·rw[WS.acc5 e] at ha;injection ha with ha;subst ha;exact s.ahead_bd
 ·rw[WS.acc6 e] at ha;cases ha
section
variable {x:WQ} {G G':GS} {i f:Nat} {s:WS} {q:Prog (WAcc×Bool)} {C:List Int}
theorem WalkJ.step (h:WalkJ x G i f s q) (hG:Inv G) (r:Rep C G) (hcb:∀x∈C,i64B x) (h6:s.next≠6) (hf:2<=f):∃f' a q',f<=f'+1/\i64B a/\(q.rest []).next=some ⟨1,a,0,0,[],0⟩/\q.rest [rdC C a]=q'.rest []/\WalkJ x G (i+1) f' (s.step (rdC C)) q':=by
 obtain ⟨L,F0,b,g1,g2,g3,rfl⟩:=h.q;obtain ⟨L',F0',b',a,k1,k2,k3,k4,k5,k6⟩:=Qed (R:=rdC C) s L F0 b f h.inv h.doc h6 g1 g2 g3 hf h.lv (fun e hL=>by have:=(h.ok.at4 e).1;rw[hL] at g1;exact this g1.symm) (fun e _=>h.ok.deg r e);have hok:=h.ok.step hG r h.inv h6;obtain ⟨l1,l2,l3⟩:=Qca (R:=rdC C) s;have:=h.ll;have:=h.lp;have:=h.ls;exact ⟨f-1,a,_,by omega,WS.acc_bd h.inv k1,k2,k3,hok,h.inv.step (Q5T (Qf9 hcb)),fun e=>(k6 e).2,hok.lvOk r,by omega,by omega,by omega,(QfH s).trans h.x,L',F0',b',k4,k5,fun e=>(k6 e).1,rfl⟩
theorem WalkJ.last (h:WalkJ x G i f s q) (h6:s.next=6):∃b,q=.ret (s.st,b):=by
 obtain ⟨L,F0,b,g1,g2,g3,rfl⟩:=h.q;exact ⟨b,WS.tree6 h6⟩
end
theorem Q7o (x:WQ) (N:Nat) (hN:1<N) (b:Bool) (s:WS) (e:s.enter 1=s) (ex:s.q=x) (es:s.st=⟨[],[]⟩):(Q0l x N 1 ⟨[],[]⟩).rest []=(s.tree [] (N-1) b).rest []:=by
 obtain ⟨n,rfl⟩:∃n,N=n+1:=⟨N-1,by omega⟩;subst ex;have h:=Q48 s 1 n [] b
 rw[es,e] at h
 show _=(s.tree [] n b).rest [];rw[<-h,show Q1o s.q []=Prog.ret from rfl,Q5v]
theorem WalkJ.start {G:GS} (hG:Inv G) (lo hi:Int) (back:Bool) (most:Int) (values:Bool) (N:Nat) (hI:(WS.init lo hi back most values).Inv) (x:WQ) (hx:x=⟨lo,hi,back,most,values⟩) (i:Nat):WalkJ x G i (N-1) (WS.init lo hi back most values) ((WS.init lo hi back most values).tree [] (N-1) false):=
 ⟨WSOk.init hG lo hi back most values,hI,fun _=>Q7J _ _,fun l hl=>absurd hl (by simp[WS.init]),Nat.zero_le _,Nat.zero_le _,Nat.zero_le _,hx.symm,[],N-1,false,rfl,fun e he=>absurd he (by simp),fun _=>Nat.le_refl _,rfl⟩
theorem Q7s (A A2:Option Addr) (c c2 N N2 B:Nat) (q:List (Int×Int)) (w:World) (hN:N=q.length) (hN2:N2=q.length) (h1:PairsAt w B A q) (h2:PairsAt w B A2 q) (hl:q.length<=1000000):
  Calls Tryz.prog 65 #[.slice A N c,.slice A2 N2 c2] w fun e w'=>e=.returned (.bool true)/\Drawn w w':=by
 subst hN;subst hN2;have H1:=LH h1;have H2:=LH h2;clear h1 h2;go_enter Tryz.func65,Tryz.ntmps65;go_wp2_with (fail)
 go_loopw [5] (fun v wr=>∃(i m:Nat),i<=q.length/\v=.int .i64 i/\wr=w.drewN m) (fun v _=>q.length-(intOf v).toNat)
 case atStart=>exact ⟨0,0,by omega,rfl,rfl⟩
 case round=>
  obtain ⟨i,m,i1,rfl,rfl⟩:=hrel;by_cases hlt:i<q.length
  ·obtain ⟨ad,rfl,_,hc⟩:=H1.out.both (by omega);obtain ⟨k1,v1⟩:=hc i hlt;clear hc;obtain ⟨ad2,rfl,_,hc⟩:=H2.out.both (by omega);obtain ⟨k2,v2⟩:=hc i hlt;clear hc;generalize Q16 q i=x at k1 k2;generalize Q42 q i=y at v1 v2;have u1:w.cell? {block:=(ad.add (i*2)).block,off:=(ad.add (i*2)).off+1}=some (.int .i64 y):=by rw[<-Addr.add_add] at v1;exact v1
   have u2:w.cell? {block:=(ad2.add (i*2)).block,off:=(ad2.add (i*2)).off+1}=some (.int .i64 y):=by rw[<-Addr.add_add] at v2;exact v2
   go_wp2_with (fail)
   go_quiet (fail)
   go_wp2_with (fail)
   go_roundw
   case rel=>exact ⟨i+1,_,by omega,by go_num,rfl⟩
   case measure=>simp[intOf];omega
  ·go_wp2_with (fail);go_ret;exact ⟨rfl,Drawn.of _ _⟩
def Q4C (L:List (Int×Int)) (w:World) (e:Ending) (w':World):Prop:=∃A c,e=.returned (.slice A L.length c)/\PairsAt w' w'.heap.size A L/\Below w.heap.size w w'
theorem SomeOwnP.list {T:TypeId} {L:List (Int×Int)} {w w':World} {e:Ending} (h:SomeOwnP T L w e w'):Q4C L w e w':=by
 obtain ⟨v,he,hO,hb⟩:=h;obtain ⟨A,c,rfl⟩:=Q06 hO;exact ⟨A,c,he,Reads.of_own hO,hb⟩
def Prog.sv {α:Type} (R:Int->Int):Prog α->α
 |.ret a=>a
 |.ask q k=>(k (R q.a)).sv R
 |.chk k=>(k false).sv R
 |.stuck p=>p.sv R
def Prog.sc {α:Type} (R:Int->Int):Prog α->Nat
 |.ret _=>0
 |.ask q k=>(k (R q.a)).sc R+1
 |.chk k=>(k false).sc R
 |.stuck p=>p.sc R
section
variable {α β:Type} (R:Int->Int)
theorem Q49 (f:α->Prog β):∀p:Prog α,(p.bind f).sv R=(f (p.sv R)).sv R
 |.ret a=>rfl
 |.ask q k=>Q49 f (k (R q.a))
 |.chk k=>Q49 f (k false)
 |.stuck p=>Q49 f p
theorem Q2I (f:α->Prog β):∀p:Prog α,(p.bind f).sc R=p.sc R+(f (p.sv R)).sc R
 |.ret a=>(Nat.zero_add _).symm
 |.ask q k=>by
  show ((k (R q.a)).bind f).sc R+1=(k (R q.a)).sc R+1+(f ((k (R q.a)).sv R)).sc R
  rw[Q2I f (k (R q.a))];omega
 |.chk k=>Q2I f (k false)
 |.stuck p=>Q2I f p
theorem Q3J:∀p:Prog α,(p.rest []).sv R=p.sv R
 |.ret a=>rfl
 |.ask q k=>rfl
 |.chk k=>Q3J (k false)
 |.stuck p=>Q3J p
theorem Q3L:∀p:Prog α,(p.rest []).sc R=p.sc R
 |.ret a=>rfl
 |.ask q k=>rfl
 |.chk k=>Q3L (k false)
 |.stuck p=>Q3L p
theorem Qh2 {p q:Prog α} (h:p.rest []=q.rest []):p.sv R=q.sv R/\p.sc R=q.sc R:=⟨by rw[<-Q3J R p,h,Q3J],by rw[<-Q3L R p,h,Q3L]⟩
theorem Q7q {a:Int}:∀{q:Prog α},(q.rest []).next=some ⟨1,a,0,0,[],0⟩->q.sv R=(q.rest [R a]).sv R/\q.sc R=(q.rest [R a]).sc R+1
 |.ret a,h=>by cases h
 |.ask q k,h=>by
  have hq:q=⟨1,a,0,0,[],0⟩:=by injection h
  have ha:q.a=a:=by rw[hq]
  show (k (R q.a)).sv R=((k (R a)).rest []).sv R/\(k (R q.a)).sc R+1=((k (R a)).rest []).sc R+1
  rw[ha,Q3J,Q3L];exact ⟨rfl,rfl⟩
 |.chk k,h=>Q7q (q:=k false) h
 |.stuck p,h=>Q7q (q:=p) h
theorem Qck {q q':Prog α} {a:Int} (h:(q.rest []).next=some ⟨1,a,0,0,[],0⟩) (e:q.rest [R a]=q'.rest []):q.sv R=q'.sv R/\q.sc R=q'.sc R+1:=by
 obtain ⟨h1,h2⟩:=Q7q R h
 rw[e,Q3J] at h1
 rw[e,Q3L] at h2
 exact ⟨h1,h2⟩
end
def Q2R (f:Nat->Nat):Nat->Nat
 |0=>0
 |k+1=>Q2R f k+f k
theorem Q7r (f g:Nat->Nat):∀k,Q2R (fun i=>f i+g i) k=Q2R f k+Q2R g k
 |0=>rfl
 |k+1=>by unfold Q2R;rw[Q7r f g k];omega
theorem Q9w {f:Nat->Nat} {i k:Nat} (h:i<=k):Q2R f i<=Q2R f k:=by
 induction h with
 |refl=>exact Nat.le_refl _
 |step _ ih=>exact Nat.le_trans ih (Nat.le_add_right _ _)
def wT (G:GS) (a b:Int) (r:Int):Nat:=if G.ty r=3/\r≠1/\a<=G.lo r/\G.hi r<=b then (G.len r).toNat else 0
def wS (G:GS) (a b:Int):Nat->Nat
 |0=>0
 |m+1=>wS G a b m+wT G a b ((m:Int)+1)
section
variable {C:List Int} {G:GS}
theorem Qgw (a b r:Int):wT G a b r<=(G.len r).toNat:=by unfold wT;split<;>omega
theorem Q7l (r:Rep C G) (a b:Int):∀(m:Nat) (e:Int),(0<=e)->(∀x,G.ty x≠0->x<=m->x+G.len x<=e+1)->(wS G a b m:Int)<=e
 |0,e,h0,_=>by show ((0:Nat):Int)<=e;omega
 |m+1,e,h0,h=>by
  unfold wS;by_cases t:G.ty ((m:Int)+1)=3
  ·have h1:=Q7l r a b m (m:Int) (by omega) (fun x tx hx=>by have:=r.dis x ((m:Int)+1) tx (by rw[t];decide) (by omega);omega);have h2:=h ((m:Int)+1) (by rw[t];decide) (by omega);have h3:=Qgw (G:=G) a b ((m:Int)+1);have hl:=Q3v t;have hd:=(r.deg _ t).1;omega
  ·have h1:=Q7l r a b m e h0 (fun x tx hx=>h x tx (by omega));have:wT G a b ((m:Int)+1)=0:=if_neg (fun hh=>t hh.1)
   rw[this];omega
theorem Qgx (r:Rep C G) (a b:Int) (m:Nat):(wS G a b m:Int)<=C.length:=Q7l r a b m C.length (by omega) (fun x tx _=>r.top x tx)
theorem QeR (h:Inv G) {n:Int} (t:G.ty n=3) (d1:1<=G.deg n):G.lo n<=G.hi n:=by
 have i:=h.inn n t;have:=i.kk 0 (G.deg n) (by omega) (by omega) (by omega)
 rw[i.k0,i.kd] at this
 omega
theorem Qac (h:Inv G) (rp:Rep C G) (K:Int->Int) (r:Int):∀d:Nat,(∀i j:Int,0<=i->i<j->j<=d->K i<K j)->Q2R (fun i=>wT G (K i) (K ((i:Int)+1)-1) r) d<=wT G (K 0) (K d-1) r
 |0,_=>Nat.zero_le _
 |d+1,hK=>by
  unfold Q2R;have ih:=Qac h rp K r d (fun i j a b c=>hK i j a b (by omega));have c1:((d+1:Nat):Int)=(d:Int)+1:=by omega
  rw[c1]
  have hk1:=hK d ((d:Int)+1) (by omega) (by omega) (by omega)
  have hk0:K 0<=K d:=by
   by_cases e:d=0
   ·subst e;exact Int.le_refl _
   ·have:=hK 0 d (by omega) (by omega) (by omega);omega
  by_cases t:G.ty r=3
  ·have hlh:=QeR h t (rp.deg r t).1;by_cases e:G.ty r=3/\r≠1/\K d<=G.lo r/\G.hi r<=K ((d:Int)+1)-1
   ·have e1:wT G (K d) (K ((d:Int)+1)-1) r=(G.len r).toNat:=if_pos e;have e2:wT G (K 0) (K ((d:Int)+1)-1) r=(G.len r).toNat:=if_pos ⟨e.1,e.2.1,by omega,e.2.2.2⟩;have e3:wT G (K 0) (K d-1) r=0:=if_neg (fun hh=>by have:=hh.2.2.2;omega);omega
   ·have e1:wT G (K d) (K ((d:Int)+1)-1) r=0:=if_neg e;by_cases e4:G.ty r=3/\r≠1/\K 0<=G.lo r/\G.hi r<=K d-1
    ·have e2:wT G (K 0) (K ((d:Int)+1)-1) r=(G.len r).toNat:=if_pos ⟨e4.1,e4.2.1,e4.2.2.1,by omega⟩;have:=Qgw (G:=G) (K 0) (K d-1) r;omega
    ·have e2:wT G (K 0) (K d-1) r=0:=if_neg e4;omega
  ·have e1:wT G (K d) (K ((d:Int)+1)-1) r=0:=if_neg (fun hh=>t hh.1);have e2:wT G (K 0) (K d-1) r=0:=if_neg (fun hh=>t hh.1);omega
theorem Q5E {f:Nat->Nat}:∀k,(∀i,i<k->f i=0)->Q2R f k=0
 |0,_=>rfl
 |k+1,h=>by unfold Q2R;rw[Q5E k (fun i hi=>h i (by omega)),h k (by omega)]
theorem Qgv (h:Inv G) (rp:Rep C G) {n:Int} (t:G.ty n=3) (n1:n≠1) (r:Int):
  Q2R (fun i=>wT G (G.ks n i) (G.ks n ((i:Int)+1)-1) r) (G.deg n).toNat+(if r=n then (G.len n).toNat else 0)<=wT G (G.lo n) (G.hi n) r:=by
 have i:=h.inn n t;have d2:=i.d2 n1;have hcast:(((G.deg n).toNat:Nat):Int)=G.deg n:=by omega
 by_cases e:r=n
 ·subst e
  rw[if_pos rfl]
  have e1:wT G (G.lo r) (G.hi r) r=(G.len r).toNat:=if_pos ⟨t,n1,Int.le_refl _,Int.le_refl _⟩
  have hz:Q2R (fun i=>wT G (G.ks r i) (G.ks r ((i:Int)+1)-1) r) (G.deg r).toNat=0:=Q5E _ (fun j hj=>if_neg (fun hh=>by
   have h1:=hh.2.2.1;have h2:=hh.2.2.2;rw[<-i.k0] at h1;have h3:G.hi r=G.ks r (G.deg r)-1:=by rw[i.kd];omega
   by_cases j0:j=0
   ·subst j0;have:=i.kk 1 (G.deg r) (by omega) (by omega) (by omega);have h2:G.hi r<=G.ks r (((0:Nat):Int)+1)-1:=h2
    rw[show ((0:Nat):Int)+1=1 from rfl] at h2
    omega
   ·have:=i.kk 0 j (by omega) (by omega) (by omega);omega))
  rw[e1,hz]
  omega
 ·rw[if_neg e]
  have:=Qac h rp (G.ks n) r (G.deg n).toNat (fun a b c d e=>i.kk a b c d (by omega))
  rw[hcast,i.k0,i.kd] at this
  rw[show G.hi n+1-1=G.hi n from by omega] at this
  omega
theorem Qfm (h:Inv G) (rp:Rep C G) {n:Int} (t:G.ty n=3) (n1:n≠1):∀m:Nat,
  Q2R (fun i=>wS G (G.ks n i) (G.ks n ((i:Int)+1)-1) m) (G.deg n).toNat+(if n<=m then (G.len n).toNat else 0)<=wS G (G.lo n) (G.hi n) m
 |0=>by
  have n0:=rp.low n (by rw[t];decide);have hz:Q2R (fun i=>wS G (G.ks n i) (G.ks n ((i:Int)+1)-1) 0) (G.deg n).toNat=0:=Q5E _ (fun _ _=>rfl)
  rw[if_neg (by omega),hz]
  exact Nat.zero_le _
 |m+1=>by
  have ih:=Qfm h rp t n1 m;have hw:=Qgv h rp t n1 ((m:Int)+1);have hs:Q2R (fun i=>wS G (G.ks n i) (G.ks n ((i:Int)+1)-1) (m+1)) (G.deg n).toNat=Q2R (fun i=>wS G (G.ks n i) (G.ks n ((i:Int)+1)-1) m) (G.deg n).toNat+Q2R (fun i=>wT G (G.ks n i) (G.ks n ((i:Int)+1)-1) ((m:Int)+1)) (G.deg n).toNat:=Q7r _ _ _
  rw[hs]
  show _<=wS G (G.lo n) (G.hi n) m+wT G (G.lo n) (G.hi n) ((m:Int)+1);have c1:((m+1:Nat):Int)=(m:Int)+1:=by omega
  rw[c1]
  by_cases e:n<=m
  ·rw[if_pos e] at ih
   rw[if_pos (by omega)]
   rw[if_neg (by omega)] at hw
   omega
  ·rw[if_neg e] at ih
   by_cases e2:(m:Int)+1=n
   ·rw[if_pos e2] at hw
    rw[if_pos (by omega)]
    omega
   ·rw[if_neg e2] at hw
    rw[if_neg (by omega)]
    omega
theorem Q9u (R:Int->Int) (n k d m:Int):∀(f:Nat) (i:Int),(Q36 n k d m f i).sc R<=f
 |0,_=>Nat.le_refl _
 |f+1,i=>by
  show (if i<m/\false=false then (Q08 (Q09 n i)).bind fun q=>if k<q then .ret (d,i-1) else Q36 n k d m f (i+1) else .ret (d,m-1):Prog (Int×Int)).sc R<=f+1
  split
  ·show (if k<R (Q09 n i) then .ret (d,i-1) else Q36 n k d m f (i+1):Prog (Int×Int)).sc R+1<=f+1
   split
   ·exact Nat.succ_le_succ (Nat.zero_le _)
   ·exact Nat.succ_le_succ (Q9u R n k d m f (i+1))
  ·exact Nat.zero_le _
theorem Q94 (R:Int->Int) (n k d:Int):∀(f:Nat) (i:Int),(Q1g n k d f i).sc R<=f
 |0,_=>Nat.le_refl _
 |f+1,i=>by
  show (if 1<i/\false=false then (Q08 (Q09 n i)).bind fun q=>if q<=k then .ret (d,i) else Q1g n k d f (i-1) else .ret (d,1):Prog (Int×Int)).sc R<=f+1
  split
  ·show (if R (Q09 n i)<=k then .ret (d,i) else Q1g n k d f (i-1):Prog (Int×Int)).sc R+1<=f+1
   split
   ·exact Nat.succ_le_succ (Nat.zero_le _)
   ·exact Nat.succ_le_succ (Q94 R n k d f (i-1))
  ·exact Nat.zero_le _
theorem Qdk (R:Int->Int) (n k d m first last:Int) (h1:1<=m):(Q23 n k d m first last).sc R<=m.toNat+1:=by
 show (if false=true\/Q0t first last k m<1 then .ret (d,0) else
  if 1<Q0t first last k m then (Q08 (Q09 n (Q0t first last k m))).bind fun q=>if k<q then Q1g n k d (Q0t first last k m).toNat (Q0t first last k m-1) else Q36 n k d m (m-Q0t first last k m).toNat (Q0t first last k m+1)
  else Q36 n k d m (m-Q0t first last k m).toNat (Q0t first last k m+1):Prog (Int×Int)).sc R<=m.toNat+1
 have hg:=Q2X first last k m h1;generalize Q0t first last k m=g at hg|-
 split
 ·exact Nat.zero_le _
 ·rename_i hh;have hh:¬g<1:=fun e=>hh (.inr e)
  split
  ·rename_i h2;have:=hg.2 h2;show (if k<R (Q09 n g) then Q1g n k d g.toNat (g-1) else Q36 n k d m (m-g).toNat (g+1):Prog (Int×Int)).sc R+1<=m.toNat+1
   split
   ·have:=Q94 R n k d g.toNat (g-1);omega
   ·have:=Q9u R n k d m (m-g).toNat (g+1);omega
  ·have:=Q9u R n k d m (m-g).toNat (g+1);omega
theorem QcC (R:Int->Int) (n k:Int) (d0:1<=R n) (d1:R n<=65537):(Q1u n k).sc R<=(R n).toNat+3:=by
 have hw:wrap64 (R n-1)=R n-1:=Q1N (by omega) (by omega)
 show (if wrap64 (R n-1)<1 then .ret (R n,0) else
  (Q08 (Q09 n 1)).bind fun first=>if k<first then .ret (R n,0) else if wrap64 (R n-1)=1 then .ret (R n,1) else
  (Q08 (Q09 n (wrap64 (R n-1)))).bind fun last=>if last<=k then .ret (R n,wrap64 (R n-1)) else Q23 n k (R n) (wrap64 (R n-1)) first last:Prog (Int×Int)).sc R+1<=_
 rw[hw]
 split
 ·show 0+1<=_;omega
 ·show (if k<R (Q09 n 1) then .ret (R n,0) else if R n-1=1 then .ret (R n,1) else
   (Q08 (Q09 n (R n-1))).bind fun last=>if last<=k then .ret (R n,R n-1) else Q23 n k (R n) (R n-1) (R (Q09 n 1)) last:Prog (Int×Int)).sc R+1+1<=_
  split
  ·show 0+1+1<=_;omega
  ·split
   ·show 0+1+1<=_;omega
   ·show (if R (Q09 n (R n-1))<=k then .ret (R n,R n-1) else Q23 n k (R n) (R n-1) (R (Q09 n 1)) (R (Q09 n (R n-1))):Prog (Int×Int)).sc R+1+1+1<=_
    split
    ·show 0+1+1+1<=_;omega
    ·have:=Qdk R n k (R n) (R n-1) (R (Q09 n 1)) (R (Q09 n (R n-1))) (by omega);omega
theorem Qey (R:Int->Int) (s:Int):(Q1y s).sc R=if Q04 (R s)=5 then 3 else 1:=by
 show (if Q04 (R s)=5 then (Q08 (wAt (R s)+4)).bind fun o=>if o=1 then Q08 (wAt (R s)+3) else Q08 (wAt (R s)+2) else .ret (R s):Prog Int).sc R+1=_
 split
 ·show (if R (wAt (R s)+4)=1 then Q08 (wAt (R s)+3) else Q08 (wAt (R s)+2):Prog Int).sc R+1+1=3
  split<;>rfl
 ·rfl
theorem Qez (h:Inv G) (r:Rep C G) {n i:Int} (a:G.At n i):(Q1y (G.sa n i)).sv (rdC C)=G.lg n i:=by
 have hs:=r.slot n i a;show (if Q04 (rdC C (G.sa n i))=5 then (Q08 (wAt (rdC C (G.sa n i))+4)).bind fun o=>if o=1 then Q08 (wAt (rdC C (G.sa n i))+3) else Q08 (wAt (rdC C (G.sa n i))+2) else .ret (rdC C (G.sa n i)):Prog Int).sv (rdC C)=_
 rw[hs]
 unfold GS.lg GS.lw;by_cases k:Q04 (G.slot n i)=5
 ·rw[if_pos k,if_pos k]
  show (if rdC C (wAt (G.slot n i)+4)=1 then Q08 (wAt (G.slot n i)+3) else Q08 (wAt (G.slot n i)+2):Prog Int).sv (rdC C)=_
  have t5:G.ty (wAt (G.slot n i))=5:=by
   rcases h.sw a with q|q|q
   ·rw[q,Q0Y] at k;cases k
   ·have:=q.ne;omega
   ·exact q.2.1
  have dr:=r.dcs _ t5
  rw[dr.2.2.2.2]
  split
  ·exact dr.2.2.2.1
  ·exact dr.2.2.1
 ·rw[if_neg k,if_neg k];rfl
theorem Qh5 (h:Inv G) {n i:Int} (a:G.At n i):G.lg n i=0\/VW G n i (G.lg n i):=by
 by_cases z:G.slot n i=0
 ·exact .inl (h.lg0 a z)
 ·exact .inr (h.lgv a z)
variable {M:Nat}
theorem Qgy (h:Inv G) (rp:Rep C G) (hM:16384<=M) {n:Int} (t:G.ty n=3) (n1:n≠1):Q2R (fun i=>wS G (G.ks n i) (G.ks n ((i:Int)+1)-1) M) (G.deg n).toNat+(G.len n).toNat<=wS G (G.lo n) (G.hi n) M:=by
 have h1:=Qfm h rp t n1 M;have hcap:=h.cap n (by rw[t];decide)
 rw[if_pos (show n<=((M:Nat):Int) by omega)] at h1
 exact h1
def wC (M:Nat) (G:GS) (n:Int) (j:Nat):Nat:=7+4*wS G (G.ks n j) (G.ks n ((j:Int)+1)-1) M
theorem Q5A (h:Inv G) (r:Rep C G) (x:WQ) (thr:Int->WAcc->Prog (WAcc×Bool)) {n:Int} (t:G.ty n=3) (ht:∀m st,G.ty m=3->m≠1->(thr m st).sc (rdC C)<=4*wS G (G.lo m) (G.hi m) M):
  ∀(g:Nat) (i:Nat) (st:WAcc),(i:Int)<G.deg n->(x.back=true->(Q0E x thr g n (G.deg n) i st).sc (rdC C)<=Q2R (wC M G n) (i+1))/\(x.back=false->(Q0E x thr g n (G.deg n) i st).sc (rdC C)+Q2R (wC M G n) i<=Q2R (wC M G n) (G.deg n).toNat)
 |0,i,st,hi=>⟨fun _=>Nat.zero_le _,fun _=>by
   show 0+_<=_
   rw[Nat.zero_add];exact Q9w (by omega)⟩
 |g+1,i,st,hi=>by
  have hcl:¬((i+1:Nat):Int)=G.deg n->((i+1:Nat):Int)<G.deg n:=fun h=>by omega
  have hat:G.At n i:=⟨t,by omega,hi⟩;have hdb:=Q6j r t;have hsa:=QaH r hat;have hlg:=Qez h r hat;have hpc:(Q1y (Q03 n (G.deg n) i)).sc (rdC C)<=3:=by rw[Qey];split<;>omega
  have hkind:∀(st':WAcc) (w:Int),(w=0\/VW G n i w)->(if Q04 w=2 then Q1D x (wAt w) st' else if Q04 w=3 then thr (wAt w) st' else if Q04 w=4 then (Q08 (wAt w)).bind fun t=>thr (wAt t) st' else .ret (st',false):Prog (WAcc×Bool)).sc (rdC C)<=3+4*wS G (G.ks n i) (G.ks n ((i:Int)+1)-1) M:=fun st' w hw=>by
   by_cases k2:Q04 w=2
   ·rw[if_pos k2]
    show (if rdC C (wAt w)<x.lo\/x.hi<rdC C (wAt w) then .ret (st',false) else (if x.values=true then Q08 (wAt w+1) else .ret 0).bind fun v=>.ret (⟨st'.pairs++[(rdC C (wAt w),v)],st'.spots⟩,decide (0<x.most/\x.most<=((st'.pairs++[(rdC C (wAt w),v)]).length:Int))):Prog (WAcc×Bool)).sc (rdC C)+1<=_
    split
    ·show 0+1<=_;omega
    ·split
     ·show 0+1+1<=_;omega
     ·show 0+1<=_;omega
   ·rw[if_neg k2]
    by_cases k3:Q04 w=3
    ·rw[if_pos k3]
     rcases hw with hw|hw|hw
     ·rw[hw,Q0Y] at k3;cases k3
     ·obtain ⟨e1,e2,_,e4⟩:=hw.e3 k3;have:=ht (wAt w) st' (by rw[hw.ty];exact k3) e4
      rw[e1,e2] at this
      omega
     ·have:=hw.1;omega
    ·rw[if_neg k3]
     by_cases k4:Q04 w=4
     ·rw[if_pos k4]
      rcases hw with hw|hw|hw
      ·rw[hw,Q0Y] at k4;cases k4
      ·have:=hw.k3;omega
      ·have rk:=h.reb _ hw.2.1;have rr:=(r.reb _ hw.2.1).1;obtain ⟨e1,e2,_,e4⟩:=rk.v.e3 rk.k.1
       rw[rk.k.2] at e1 e2 e4
       have ty3:G.ty (G.tgt (wAt w))=3:=by have:=rk.v.ty;rw[rk.k.1,rk.k.2] at this;exact this
       have hth:=ht (G.tgt (wAt w)) st' ty3 e4
       rw[e1,e2,hw.2.2.1,hw.2.2.2] at hth
       show (thr (wAt (rdC C (wAt w))) st').sc (rdC C)+1<=_
       rw[rr,rk.k.2]
       omega
     ·rw[if_neg k4];exact Nat.zero_le _
  have hcost:∀(K:WAcc×Bool->Prog (WAcc×Bool)) (B:Nat),(∀u,(K u).sc (rdC C)<=B)->((Q1y (Q03 n (G.deg n) i)).bind fun w=>.chk fun off2=>if off2=true then .ret (st,true) else
    (if Q04 w=2 then Q1D x (wAt w) ⟨st.pairs,st.spots++[(Q03 n (G.deg n) i,w)]⟩
     else if Q04 w=3 then thr (wAt w) ⟨st.pairs,st.spots++[(Q03 n (G.deg n) i,w)]⟩
     else if Q04 w=4 then (Q08 (wAt w)).bind fun t=>thr (wAt t) ⟨st.pairs,st.spots++[(Q03 n (G.deg n) i,w)]⟩
     else .ret (⟨st.pairs,st.spots++[(Q03 n (G.deg n) i,w)]⟩,false)).bind K:Prog (WAcc×Bool)).sc (rdC C)<=6+4*wS G (G.ks n i) (G.ks n ((i:Int)+1)-1) M+B:=fun K B hB=>by
   rw[Q2I]
   rw[hsa] at hpc|-
   rw[hlg]
   have hk:=hkind ⟨st.pairs,st.spots++[(G.sa n i,G.lg n i)]⟩ (G.lg n i) (Qh5 h hat);show _+((if Q04 (G.lg n i)=2 then Q1D x (wAt (G.lg n i)) ⟨st.pairs,st.spots++[(G.sa n i,G.lg n i)]⟩ else if Q04 (G.lg n i)=3 then thr (wAt (G.lg n i)) ⟨st.pairs,st.spots++[(G.sa n i,G.lg n i)]⟩ else if Q04 (G.lg n i)=4 then (Q08 (wAt (G.lg n i))).bind fun t=>thr (wAt t) ⟨st.pairs,st.spots++[(G.sa n i,G.lg n i)]⟩ else .ret (⟨st.pairs,st.spots++[(G.sa n i,G.lg n i)]⟩,false):Prog (WAcc×Bool)).bind K).sc (rdC C)<=_
   rw[Q2I]
   have:=hB ((if Q04 (G.lg n i)=2 then Q1D x (wAt (G.lg n i)) ⟨st.pairs,st.spots++[(G.sa n i,G.lg n i)]⟩ else if Q04 (G.lg n i)=3 then thr (wAt (G.lg n i)) ⟨st.pairs,st.spots++[(G.sa n i,G.lg n i)]⟩ else if Q04 (G.lg n i)=4 then (Q08 (wAt (G.lg n i))).bind fun t=>thr (wAt t) ⟨st.pairs,st.spots++[(G.sa n i,G.lg n i)]⟩ else .ret (⟨st.pairs,st.spots++[(G.sa n i,G.lg n i)]⟩,false):Prog (WAcc×Bool)).sv (rdC C));omega
  have hwc:wC M G n i=7+4*wS G (G.ks n i) (G.ks n ((i:Int)+1)-1) M:=rfl;refine ⟨fun hb=> ?_,fun hb=> ?_⟩
  ·have hB:=hcost (fun u=>if u.2=true then .ret (u.1,true) else
    if x.back=true then (if (i:Int)=0 then .ret (u.1,false) else (Q08 (Q09 n i)).bind fun q=>if q<=x.lo then .ret (u.1,false) else Q0E x thr g n (G.deg n) (wrap64 ((i:Int)-1)) u.1)
    else if wrap64 ((i:Int)+1)=G.deg n then .ret (u.1,false) else (Q08 (Q09 n (wrap64 ((i:Int)+1)))).bind fun q=>if x.hi<q then .ret (u.1,false) else Q0E x thr g n (G.deg n) (wrap64 ((i:Int)+1)) u.1) (1+Q2R (wC M G n) i) (fun u=>by
     by_cases r2:u.2=true
     ·rw[if_pos r2];exact Nat.zero_le _
     ·rw[if_neg r2,if_pos hb]
      by_cases i0:(i:Int)=0
      ·rw[if_pos i0];exact Nat.zero_le _
      ·rw[if_neg i0]
       obtain ⟨j,rfl⟩:∃j,i=j+1:=⟨i-1,by omega⟩;have hw:wrap64 (((j+1:Nat):Int)-1)=(j:Int):=by rw[Q1N (by omega) (by omega)];omega
       rw[hw]
       show (if rdC C (Q09 n ((j+1:Nat):Int))<=x.lo then .ret (u.1,false) else Q0E x thr g n (G.deg n) j u.1:Prog (WAcc×Bool)).sc (rdC C)+1<=_
       split
       ·show 0+1<=_;omega
       ·have:=(Q5A h r x thr t ht g j u.1 (by omega)).1 hb;omega)
   refine Nat.le_trans hB ?_;show _<=Q2R (wC M G n) i+wC M G n i;omega
  ·have hbn:¬x.back=true:=by rw[hb];decide
   have hle:Q2R (wC M G n) (i+1)<=Q2R (wC M G n) (G.deg n).toNat:=Q9w (by omega);have hs1:Q2R (wC M G n) (i+1)=Q2R (wC M G n) i+wC M G n i:=rfl
   have hB:=hcost (fun u=>if u.2=true then .ret (u.1,true) else
    if x.back=true then (if (i:Int)=0 then .ret (u.1,false) else (Q08 (Q09 n i)).bind fun q=>if q<=x.lo then .ret (u.1,false) else Q0E x thr g n (G.deg n) (wrap64 ((i:Int)-1)) u.1)
    else if wrap64 ((i:Int)+1)=G.deg n then .ret (u.1,false) else (Q08 (Q09 n (wrap64 ((i:Int)+1)))).bind fun q=>if x.hi<q then .ret (u.1,false) else Q0E x thr g n (G.deg n) (wrap64 ((i:Int)+1)) u.1) (1+(Q2R (wC M G n) (G.deg n).toNat-Q2R (wC M G n) (i+1))) (fun u=>by
     by_cases r2:u.2=true
     ·rw[if_pos r2];exact Nat.zero_le _
     ·rw[if_neg r2,if_neg hbn]
      have hw:wrap64 ((i:Int)+1)=((i+1:Nat):Int):=by rw[Q1N (by omega) (by omega)];omega
      rw[hw]
      by_cases i0:((i+1:Nat):Int)=G.deg n
      ·rw[if_pos i0];exact Nat.zero_le _
      ·rw[if_neg i0]
       show (if x.hi<rdC C (Q09 n ((i+1:Nat):Int)) then .ret (u.1,false) else Q0E x thr g n (G.deg n) ((i+1:Nat):Int) u.1:Prog (WAcc×Bool)).sc (rdC C)+1<=_
       split
       ·show 0+1<=_;omega
       ·have:=(Q5A h r x thr t ht g (i+1) u.1 (hcl i0)).2 hb;omega)
   refine Nat.le_trans (Nat.add_le_add_right hB _) ?_;omega
end
section
variable (R:Int->Int)
theorem Q9t (n k d m:Int) (m1:1<=m):∀(f:Nat) (i:Int),1<=i->i<=m->∃c,(Q36 n k d m f i).sv R=(d,c)/\0<=c/\c<=m
 |0,i,_,_=>⟨m-1,rfl,by omega,by omega⟩
 |f+1,i,h1,h2=>by
  show∃c,(if i<m/\false=false then (Q08 (Q09 n i)).bind fun q=>if k<q then .ret (d,i-1) else Q36 n k d m f (i+1) else .ret (d,m-1):Prog (Int×Int)).sv R=(d,c)/\_
  split
  ·show∃c,(if k<R (Q09 n i) then .ret (d,i-1) else Q36 n k d m f (i+1):Prog (Int×Int)).sv R=(d,c)/\_
   split
   ·exact ⟨i-1,rfl,by omega,by omega⟩
   ·exact Q9t n k d m m1 f (i+1) (by omega) (by omega)
  ·exact ⟨m-1,rfl,by omega,by omega⟩
theorem Q93 (n k d m:Int) (m1:1<=m):∀(f:Nat) (i:Int),i<=m->∃c,(Q1g n k d f i).sv R=(d,c)/\0<=c/\c<=m
 |0,i,_=>⟨1,rfl,by omega,by omega⟩
 |f+1,i,h2=>by
  show∃c,(if 1<i/\false=false then (Q08 (Q09 n i)).bind fun q=>if q<=k then .ret (d,i) else Q1g n k d f (i-1) else .ret (d,1):Prog (Int×Int)).sv R=(d,c)/\_
  split
  ·show∃c,(if R (Q09 n i)<=k then .ret (d,i) else Q1g n k d f (i-1):Prog (Int×Int)).sv R=(d,c)/\_
   split
   ·exact ⟨i,rfl,by omega,by omega⟩
   ·exact Q93 n k d m m1 f (i-1) (by omega)
  ·exact ⟨1,rfl,by omega,by omega⟩
theorem QcB (n k:Int) (d0:1<=R n) (d1:R n<=65537):∃c,(Q1u n k).sv R=(R n,c)/\0<=c/\c<R n:=by
 have hw:wrap64 (R n-1)=R n-1:=Q1N (by omega) (by omega)
 show∃c,(if wrap64 (R n-1)<1 then .ret (R n,0) else
  (Q08 (Q09 n 1)).bind fun first=>if k<first then .ret (R n,0) else if wrap64 (R n-1)=1 then .ret (R n,1) else
  (Q08 (Q09 n (wrap64 (R n-1)))).bind fun last=>if last<=k then .ret (R n,wrap64 (R n-1)) else Q23 n k (R n) (wrap64 (R n-1)) first last:Prog (Int×Int)).sv R=(R n,c)/\_
 rw[hw]
 split
 ·exact ⟨0,rfl,by omega,by omega⟩
 ·show∃c,(if k<R (Q09 n 1) then .ret (R n,0) else if R n-1=1 then .ret (R n,1) else
   (Q08 (Q09 n (R n-1))).bind fun last=>if last<=k then .ret (R n,R n-1) else Q23 n k (R n) (R n-1) (R (Q09 n 1)) last:Prog (Int×Int)).sv R=(R n,c)/\_
  split
  ·exact ⟨0,rfl,by omega,by omega⟩
  ·split
   ·exact ⟨1,rfl,by omega,by omega⟩
   ·show∃c,(if R (Q09 n (R n-1))<=k then .ret (R n,R n-1) else Q23 n k (R n) (R n-1) (R (Q09 n 1)) (R (Q09 n (R n-1))):Prog (Int×Int)).sv R=(R n,c)/\_
    split
    ·exact ⟨R n-1,rfl,by omega,by omega⟩
    ·generalize R (Q09 n 1)=first;generalize R (Q09 n (R n-1))=last
     show∃c,(if false=true\/Q0t first last k (R n-1)<1 then .ret (R n,0) else
      if 1<Q0t first last k (R n-1) then (Q08 (Q09 n (Q0t first last k (R n-1)))).bind fun q=>if k<q then Q1g n k (R n) (Q0t first last k (R n-1)).toNat (Q0t first last k (R n-1)-1) else Q36 n k (R n) (R n-1) (R n-1-Q0t first last k (R n-1)).toNat (Q0t first last k (R n-1)+1)
      else Q36 n k (R n) (R n-1) (R n-1-Q0t first last k (R n-1)).toNat (Q0t first last k (R n-1)+1):Prog (Int×Int)).sv R=(R n,c)/\_
     have hg:=Q2X first last k (R n-1) (by omega);generalize Q0t first last k (R n-1)=g at hg|-
     split
     ·exact ⟨0,rfl,by omega,by omega⟩
     ·rename_i h1 h2 hh;have hh:¬g<1:=fun e=>hh (.inr e)
      split
      ·rename_i h3;have h4:=hg.2 h3;show∃c,(if k<R (Q09 n g) then Q1g n k (R n) g.toNat (g-1) else Q36 n k (R n) (R n-1) (R n-1-g).toNat (g+1):Prog (Int×Int)).sv R=(R n,c)/\_
       split
       ·obtain ⟨c,e,c0,c1⟩:=Q93 R n k (R n) (R n-1) (by omega) g.toNat (g-1) (by omega);exact ⟨c,e,c0,by omega⟩
       ·obtain ⟨c,e,c0,c1⟩:=Q9t R n k (R n) (R n-1) (by omega) (R n-1-g).toNat (g+1) (by omega) (by omega);exact ⟨c,e,c0,by omega⟩
      ·by_cases e2:2<=R n-1
       ·obtain ⟨c,e,c0,c1⟩:=Q9t R n k (R n) (R n-1) (by omega) (R n-1-g).toNat (g+1) (by omega) (by omega);exact ⟨c,e,c0,by omega⟩
       ·exfalso;omega
end
theorem Qad (f:Nat->Nat) (c:Nat):∀k,Q2R (fun i=>c*f i) k=c*Q2R f k
 |0=>rfl
 |k+1=>by unfold Q2R;rw[Qad f c k,Nat.mul_add]
theorem Q6G (c:Nat):∀k,Q2R (fun _=>c) k=c*k
 |0=>rfl
 |k+1=>by unfold Q2R;rw[Q6G c k,Nat.mul_succ]
section
variable {C:List Int} {G:GS} {M:Nat}
theorem Qao (h:Inv G) (r:Rep C G) (x:WQ) (thr:Int->WAcc->Prog (WAcc×Bool)) (g:Nat) {n:Int} (t:G.ty n=3) (st:WAcc) (ht:∀m st,G.ty m=3->m≠1->(thr m st).sc (rdC C)<=4*wS G (G.lo m) (G.hi m) M):
  ((Q1u n (if x.back=true then x.hi else x.lo)).bind fun r=>Q0E x thr g n r.1 r.2 st).sc (rdC C)<=8*(G.deg n).toNat+3+4*Q2R (fun j=>wS G (G.ks n j) (G.ks n ((j:Int)+1)-1) M) (G.deg n).toNat:=by
 have hdb:=Q6j r t;obtain ⟨c,hc,c0,c1⟩:=QcB (rdC C) n (if x.back=true then x.hi else x.lo) (by rw[hdb.2.2];omega) (by rw[hdb.2.2];omega);have hrs:=QcC (rdC C) n (if x.back=true then x.hi else x.lo) (by rw[hdb.2.2];omega) (by rw[hdb.2.2];omega)
 rw[Q2I,hc]
 rw[hdb.2.2] at hrs c1|-
 obtain ⟨i,rfl⟩:∃i:Nat,c=i:=⟨c.toNat,by omega⟩;have hw:=Q5A h r x thr t ht g i st c1
 have hs:Q2R (wC M G n) (G.deg n).toNat=7*(G.deg n).toNat+4*Q2R (fun j=>wS G (G.ks n j) (G.ks n ((j:Int)+1)-1) M) (G.deg n).toNat:=by
  rw[<-Qad,<-Q6G 7,<-Q7r];rfl
 have hle:Q2R (wC M G n) (i+1)<=Q2R (wC M G n) (G.deg n).toNat:=Q9w (by omega);show _+(Q0E x thr g n (G.deg n) i st).sc (rdC C)<=_
 cases hb:x.back with
 |true=>rw[hb] at hrs;have:=hw.1 hb;omega
 |false=>rw[hb] at hrs;have:=hw.2 hb;omega
theorem Q5D (h:Inv G) (r:Rep C G) (hM:16384<=M) (x:WQ):∀(f:Nat) (n:Int) (st:WAcc),G.ty n=3->n≠1->(Q0l x f n st).sc (rdC C)<=4*wS G (G.lo n) (G.hi n) M
 |0,n,st,_,_=>Nat.zero_le _
 |f+1,n,st,t,n1=>by
  have hl:=Qao h r x (Q0l x f) (f+1) t st (fun m st tm m1=>Q5D h r hM x f m st tm m1);have ho:=Qgy h r hM t n1;have hl3:=Q3v t;have hdb:=Q6j r t;refine Nat.le_trans hl ?_;omega
theorem Qec (h:Inv G) (r:Rep C G) (hM:16384<=M) (x:WQ) (f:Nat) (st:WAcc):(Q0l x f 1 st).sc (rdC C)<=11+4*C.length:=by
 cases f with
 |zero=>exact Nat.zero_le _
 |succ f=>
  have hl:=Qao h r x (Q0l x f) (f+1) h.r1.1 st (fun m st tm m1=>Q5D h r hM x f m st tm m1)
  rw[h.r1.2.1] at hl
  have hw:=Qgx r (G.ks 1 ((0:Nat):Int)) (G.ks 1 (((0:Nat):Int)+1)-1) M;have e:Q2R (fun j=>wS G (G.ks 1 j) (G.ks 1 ((j:Int)+1)-1) M) (1:Int).toNat=wS G (G.ks 1 ((0:Nat):Int)) (G.ks 1 (((0:Nat):Int)+1)-1) M:=Nat.zero_add _
  rw[e] at hl
  refine Nat.le_trans hl ?_;show 8*1+3+_<=_;omega
end
theorem Q9s {C:List Int} {G:GS} (h:Inv G) (r:Rep C G) (x:WQ) (f:Nat) (st:WAcc):(Q0l x f 1 st).sc (rdC C)<=11+4*C.length:=Qec h r (Nat.le_refl _) x f st
def Rl (R:Int->Int) (st st':WAcc) (p q:Prog (WAcc×Bool)):Prop:=∃P S b,p.sv R=(⟨st.pairs++P,st.spots++S⟩,b)/\q.sv R=(⟨st'.pairs++P.map (fun e=>(e.1,0)),st'.spots++S⟩,b)/\p.sc R=q.sc R+P.length/\∀e∈S,e.2=(Q1y e.1).sv R
section
variable {R:Int->Int}
theorem Rl.ret (st st':WAcc) (b:Bool):Rl R st st' (.ret (st,b)) (.ret (st',b)):=⟨[],[],b,by simp[Prog.sv],by simp[Prog.sv],rfl,fun e h=>absurd h (by simp)⟩
theorem Rl.bind {st st':WAcc} {p q:Prog (WAcc×Bool)} {f f':WAcc×Bool->Prog (WAcc×Bool)} (h:Rl R st st' p q) (k:∀u u' b,Rl R u u' (f (u,b)) (f' (u',b))):Rl R st st' (p.bind f) (q.bind f'):=by
 obtain ⟨P,S,b,h1,h2,h3,h4⟩:=h;obtain ⟨P',S',b',k1,k2,k3,k4⟩:=k ⟨st.pairs++P,st.spots++S⟩ ⟨st'.pairs++P.map (fun e=>(e.1,0)),st'.spots++S⟩ b;refine ⟨P++P',S++S',b', ?_, ?_, ?_,fun e he=> ?_⟩
 ·rw[Q49,h1,k1];simp
 ·rw[Q49,h2,k2];simp
 ·rw[Q2I,Q2I,h1,h2,k3,h3];simp;omega
 ·rcases List.mem_append.1 he with he|he
  ·exact h4 e he
  ·exact k4 e he
theorem Rl.same {α:Type} {st st':WAcc} (p:Prog α) {f f':α->Prog (WAcc×Bool)} (k:Rl R st st' (f (p.sv R)) (f' (p.sv R))):Rl R st st' (p.bind f) (p.bind f'):=by
 obtain ⟨P,S,b,h1,h2,h3,h4⟩:=k;exact ⟨P,S,b,by rw[Q49,h1],by rw[Q49,h2],by rw[Q2I,Q2I,h3];omega,h4⟩
theorem Rl.spot {st st':WAcc} {p q:Prog (WAcc×Bool)} {s:Int} (h:Rl R ⟨st.pairs,st.spots++[(s,(Q1y s).sv R)]⟩ ⟨st'.pairs,st'.spots++[(s,(Q1y s).sv R)]⟩ p q):Rl R st st' p q:=by
 obtain ⟨P,S,b,h1,h2,h3,h4⟩:=h;refine ⟨P,(s,(Q1y s).sv R)::S,b,by rw[h1];simp,by rw[h2];simp,h3,fun e he=> ?_⟩
 rcases List.mem_cons.1 he with he|he
 ·rw[he]
 ·exact h4 e he
variable (lo hi:Int) (back:Bool)
theorem QeG (a:Int) (st st':WAcc):Rl R st st' (Q1D ⟨lo,hi,back,0,true⟩ a st) (Q1D ⟨lo,hi,back,0,false⟩ a st'):=by
 refine Rl.same (Q08 a) ?_;show Rl R st st' (if R a<lo\/hi<R a then .ret (st,false) else (Q08 (a+1)).bind fun v=>.ret (⟨st.pairs++[(R a,v)],st.spots⟩,decide (0<(0:Int)/\(0:Int)<=((st.pairs++[(R a,v)]).length:Int)))) (if R a<lo\/hi<R a then .ret (st',false) else .ret (⟨st'.pairs++[(R a,0)],st'.spots⟩,decide (0<(0:Int)/\(0:Int)<=((st'.pairs++[(R a,0)]).length:Int))))
 split
 ·exact Rl.ret _ _ _
 ·refine ⟨[(R a,R (a+1))],[],false, ?_, ?_,rfl,fun e h=>absurd h (by simp)⟩
  ·show (({pairs:=st.pairs++[(R a,R (a+1))],spots:=st.spots}:WAcc),decide (0<(0:Int)/\_))=_
   rw[decide_eq_false (by omega)];simp
  ·show (({pairs:=st'.pairs++[(R a,0)],spots:=st'.spots}:WAcc),decide (0<(0:Int)/\_))=_
   rw[decide_eq_false (by omega)];simp
theorem Qg3 (thr thr':Int->WAcc->Prog (WAcc×Bool)) (ht:∀m st st',Rl R st st' (thr m st) (thr' m st')) (n d:Int):∀(g:Nat) (i:Int) (st st':WAcc),Rl R st st' (Q0E ⟨lo,hi,back,0,true⟩ thr g n d i st) (Q0E ⟨lo,hi,back,0,false⟩ thr' g n d i st')
 |0,i,st,st'=>Rl.ret st st' true
 |g+1,i,st,st'=>by
  show Rl R st st' ((Q1y (Q03 n d i)).bind fun w=>.chk fun off2=>if off2=true then .ret (st,true) else
   (if Q04 w=2 then Q1D ⟨lo,hi,back,0,true⟩ (wAt w) ⟨st.pairs,st.spots++[(Q03 n d i,w)]⟩
    else if Q04 w=3 then thr (wAt w) ⟨st.pairs,st.spots++[(Q03 n d i,w)]⟩
    else if Q04 w=4 then (Q08 (wAt w)).bind fun t=>thr (wAt t) ⟨st.pairs,st.spots++[(Q03 n d i,w)]⟩
    else .ret (⟨st.pairs,st.spots++[(Q03 n d i,w)]⟩,false)).bind fun r=>
   if r.2=true then .ret (r.1,true) else
   if back=true then (if i=0 then .ret (r.1,false) else (Q08 (Q09 n i)).bind fun q=>if q<=lo then .ret (r.1,false) else Q0E ⟨lo,hi,back,0,true⟩ thr g n d (wrap64 (i-1)) r.1)
   else if wrap64 (i+1)=d then .ret (r.1,false) else (Q08 (Q09 n (wrap64 (i+1)))).bind fun q=>if hi<q then .ret (r.1,false) else Q0E ⟨lo,hi,back,0,true⟩ thr g n d (wrap64 (i+1)) r.1)
   ((Q1y (Q03 n d i)).bind fun w=>.chk fun off2=>if off2=true then .ret (st',true) else
   (if Q04 w=2 then Q1D ⟨lo,hi,back,0,false⟩ (wAt w) ⟨st'.pairs,st'.spots++[(Q03 n d i,w)]⟩
    else if Q04 w=3 then thr' (wAt w) ⟨st'.pairs,st'.spots++[(Q03 n d i,w)]⟩
    else if Q04 w=4 then (Q08 (wAt w)).bind fun t=>thr' (wAt t) ⟨st'.pairs,st'.spots++[(Q03 n d i,w)]⟩
    else .ret (⟨st'.pairs,st'.spots++[(Q03 n d i,w)]⟩,false)).bind fun r=>
   if r.2=true then .ret (r.1,true) else
   if back=true then (if i=0 then .ret (r.1,false) else (Q08 (Q09 n i)).bind fun q=>if q<=lo then .ret (r.1,false) else Q0E ⟨lo,hi,back,0,false⟩ thr' g n d (wrap64 (i-1)) r.1)
   else if wrap64 (i+1)=d then .ret (r.1,false) else (Q08 (Q09 n (wrap64 (i+1)))).bind fun q=>if hi<q then .ret (r.1,false) else Q0E ⟨lo,hi,back,0,false⟩ thr' g n d (wrap64 (i+1)) r.1)
  refine Rl.same (Q1y (Q03 n d i)) ?_;refine Rl.spot (s:=Q03 n d i) ?_;generalize (Q1y (Q03 n d i)).sv R=w
  refine Rl.bind (p:=(if Q04 w=2 then Q1D ⟨lo,hi,back,0,true⟩ (wAt w) ⟨st.pairs,st.spots++[(Q03 n d i,w)]⟩
    else if Q04 w=3 then thr (wAt w) ⟨st.pairs,st.spots++[(Q03 n d i,w)]⟩
    else if Q04 w=4 then (Q08 (wAt w)).bind fun t=>thr (wAt t) ⟨st.pairs,st.spots++[(Q03 n d i,w)]⟩
    else .ret (⟨st.pairs,st.spots++[(Q03 n d i,w)]⟩,false))) (q:=(if Q04 w=2 then Q1D ⟨lo,hi,back,0,false⟩ (wAt w) ⟨st'.pairs,st'.spots++[(Q03 n d i,w)]⟩
    else if Q04 w=3 then thr' (wAt w) ⟨st'.pairs,st'.spots++[(Q03 n d i,w)]⟩
    else if Q04 w=4 then (Q08 (wAt w)).bind fun t=>thr' (wAt t) ⟨st'.pairs,st'.spots++[(Q03 n d i,w)]⟩
    else .ret (⟨st'.pairs,st'.spots++[(Q03 n d i,w)]⟩,false))) ?_ (fun u u' b=> ?_)
  ·by_cases k2:Q04 w=2
   ·rw[if_pos k2,if_pos k2];exact QeG lo hi back _ _ _
   ·rw[if_neg k2,if_neg k2]
    by_cases k3:Q04 w=3
    ·rw[if_pos k3,if_pos k3];exact ht _ _ _
    ·rw[if_neg k3,if_neg k3]
     by_cases k4:Q04 w=4
     ·rw[if_pos k4,if_pos k4];exact Rl.same (Q08 (wAt w)) (ht _ _ _)
     ·rw[if_neg k4,if_neg k4];exact Rl.ret _ _ _
  ·cases b with
   |true=>exact Rl.ret u u' true
   |false=>
    show Rl R u u' (if back=true then (if i=0 then .ret (u,false) else (Q08 (Q09 n i)).bind fun q=>if q<=lo then .ret (u,false) else Q0E ⟨lo,hi,back,0,true⟩ thr g n d (wrap64 (i-1)) u)
     else if wrap64 (i+1)=d then .ret (u,false) else (Q08 (Q09 n (wrap64 (i+1)))).bind fun q=>if hi<q then .ret (u,false) else Q0E ⟨lo,hi,back,0,true⟩ thr g n d (wrap64 (i+1)) u)
     (if back=true then (if i=0 then .ret (u',false) else (Q08 (Q09 n i)).bind fun q=>if q<=lo then .ret (u',false) else Q0E ⟨lo,hi,back,0,false⟩ thr' g n d (wrap64 (i-1)) u')
     else if wrap64 (i+1)=d then .ret (u',false) else (Q08 (Q09 n (wrap64 (i+1)))).bind fun q=>if hi<q then .ret (u',false) else Q0E ⟨lo,hi,back,0,false⟩ thr' g n d (wrap64 (i+1)) u')
    split
    ·split
     ·exact Rl.ret _ _ _
     ·refine Rl.same (Q08 (Q09 n i)) ?_
      split
      ·exact Rl.ret _ _ _
      ·exact Qg3 thr thr' ht n d g _ _ _
    ·split
     ·exact Rl.ret _ _ _
     ·refine Rl.same (Q08 (Q09 n (wrap64 (i+1)))) ?_
      split
      ·exact Rl.ret _ _ _
      ·exact Qg3 thr thr' ht n d g _ _ _
theorem Q6E:∀(f:Nat) (n:Int) (st st':WAcc),Rl R st st' (Q0l ⟨lo,hi,back,0,true⟩ f n st) (Q0l ⟨lo,hi,back,0,false⟩ f n st')
 |0,n,st,st'=>Rl.ret st st' true
 |f+1,n,st,st'=>Rl.same (Q1u n (if back=true then hi else lo)) (Qg3 lo hi back _ _ (fun m st st'=>Q6E f m st st') n _ (f+1) _ _ _)
end
def QaG (c:Int):Nat->Int
 |0=>c
 |t+1=>Q2m (QaG c t)
theorem QaF (c:Int):∀t:Nat,∃k:Int,QaG c t=c+t+18446744073709551616*k
 |0=>⟨0,by show c=_;omega⟩
 |t+1=>by
  obtain ⟨k,hk⟩:=QaF c t;show∃k,Q2m (QaG c t)=_;unfold Q2m wrap64
  rw[hk]
  refine ⟨k-(c+t+18446744073709551616*k+1+9223372036854775808)/18446744073709551616, ?_⟩;omega
theorem Q9c (c:Int) (t:Nat) (h:t<=1000000):wrap64 (QaG c t-c)=t:=by
 obtain ⟨k,hk⟩:=QaF c t
 rw[hk]
 unfold wrap64;omega
def QfG (x:WQ) (G:GS) (B b fb lo:Nat) (v:Value) (C:List Int) (size cn rf:Int) (S:Nat) (V:WAcc×Bool) (w0:World) (nv:Value) (wr:World):Prop:=
 ∃(t:Nat) (st:WS) (f:Nat) (q:Prog (WAcc×Bool)) (od:Int),nv=.int .i64 t/\WalkJ x G t f st q/\st.next≠6/\q.sc (rdC C)+t=S/\q.sv (rdC C)=V/\100000<=f+t+10/\WalkP (fun z=>lo<=z) fb st wr/\MemP B b v C size (QaG cn t) od rf wr/\lo<=wr.heap.size/\Chg (fun z=>z=b) w0 wr
def Qe3 (x:WQ) (B b:Nat) (v:Value) (C:List Int) (size cn rf:Int) (w:World) (e:Ending) (w':World):Prop:=
 e=.returned (.pointer (some ⟨w.heap.size,0,none⟩))/\∃st od,WalkP (fun z=>w.heap.size<=z) w.heap.size st w'/\st.next=6/\st.st=((Q0l x 100000 1 ⟨[],[]⟩).sv (rdC C)).1/\st.pairs.length<=20000/\st.spots.length<=20000/\MemP B b v C size (QaG cn ((Q0l x 100000 1 ⟨[],[]⟩).sc (rdC C))) od rf w'/\Chg (fun z=>z=b) w w'
theorem Q7h (lo hi:Int) (back:Bool) (most:Int) (values:Bool) (G:GS) (B b:Nat) (v:Value) (C:List Int) (size cn od rf:Int) (w:World) (hm:MemP B b v C size cn od rf w) (hG:Inv G) (hr:Rep C G) (hC:C.length<=2000) (hw:∀x∈C,i64B x) (hlo:i64B lo) (hhi:i64B hi) (hmo:i64B most):
  Calls Tryz.prog 68 #[.pointer (some ⟨b,0,none⟩),.int .i64 lo,.int .i64 hi,.bool back,.int .i64 most,.bool values] w (Qe3 ⟨lo,hi,back,most,values⟩ B b v C size cn rf w):=by
 have hblt:=hm.blk.lt;have hvlt:∀g,v.ownBlock=some g->g<w.heap.size:=Q0Z hm.own;have hj:=WalkJ.start hG lo hi back most values 100000 (WS.Inv.init hlo.1 hlo.2 hhi.1 hhi.2 hmo.1 hmo.2) ⟨lo,hi,back,most,values⟩ rfl 0;have hst:=Q7o ⟨lo,hi,back,most,values⟩ 100000 (by decide) false (WS.init lo hi back most values) rfl rfl rfl;obtain ⟨e1,e2⟩:=Qh2 (rdC C) hst;have hsc:=Q9s hG hr ⟨lo,hi,back,most,values⟩ 100000 ⟨[],[]⟩;generalize hV:(Q0l ⟨lo,hi,back,most,values⟩ 100000 1 ⟨[],[]⟩).sv (rdC C)=V at e1;generalize hS:(Q0l ⟨lo,hi,back,most,values⟩ 100000 1 ⟨[],[]⟩).sc (rdC C)=S at e2 hsc;have HEND:Hid (∀(e:Ending) (w':World) (st:WS) (od:Int),e=.returned (.pointer (some ⟨w.heap.size,0,none⟩))->WalkP (fun z=>w.heap.size<=z) w.heap.size st w'->st.next=6->st.st=V.1->st.pairs.length<=20000->st.spots.length<=20000->MemP B b v C size (QaG cn S) od rf w'->Chg (fun z=>z=b) w w'->Qe3 ⟨lo,hi,back,most,values⟩ B b v C size cn rf w e w'):=LH (fun e w' st od h1 h2 h3 h4 h5 h6 h7 h8=>⟨h1,st,od,h2,h3,by rw[hV];exact h4,h5,h6,by rw[hS];exact h7,h8⟩);have hSl:S<=9000:=by omega
 have h6:(WS.init lo hi back most values).next≠6:=by show (0:Int)≠6;decide
 have HJ:=LH hj;have HE:=LH (And.intro e1 e2);have HM:=LH hm;have HW:=LH hw;have HG:=LH (And.intro hG hr);have HVL:=LH hvlt;clear hj hst e1 e2 hm hw hG hr hV hS hsc hlo hhi hmo hvlt;go_enter Tryz.func68,Tryz.ntmps68;go_wp2_with (fail);with_reducible refine (Qal lo hi back most values _).mono ?_
 rintro e w1 ⟨rfl,hs,hb⟩;have HR0:Hid (QfG ⟨lo,hi,back,most,values⟩ G B b w.heap.size w.heap.size v C size cn rf S V w (.int .i64 0) w1):=LH ⟨0,_,100000-1,_,od,rfl,HJ.out,h6,HE.out.2.symm,HE.out.1.symm,by omega,hs,HM.out.below hb,hb.size,Chg.of_below hb⟩;clear hs hb HM HJ HE h6;obtain ⟨lo2,hlo2⟩:∃l,w.heap.size=l:=⟨_,rfl⟩;have HLO:=LH hlo2
 rw[hlo2] at HR0 HEND hblt HVL|-
 clear hlo2;go_wp2_with (fail)
 go_loopw [14] (fun nv wr=>QfG ⟨lo,hi,back,most,values⟩ G B b lo2 lo2 v C size cn rf S V w nv wr) (fun nv _=>20000-(intOf nv).toNat)
 case atStart=>exact HR0.out
 case round=>
  clear HR0;obtain ⟨t,st,f,q,od1,rfl,hj,h6,hsc,hsv,hf,hp,hm,hlo,hc⟩:=hrel
  have hpos:0<q.sc (rdC C):=by
   obtain ⟨f',a,q',g1,g2,g3,g4,g5⟩:=hj.step HG.out.1 HG.out.2 HW.out h6 (by omega);have:=(Qck (rdC C) g3 g4).2;omega
  have htl:(t:Int)<20000:=by omega
  obtain ⟨f',a0,q',g1,g2,g3,g4,g5⟩:=hj.step HG.out.1 HG.out.2 HW.out h6 (by omega);obtain ⟨k1,k2⟩:=Qck (rdC C) g3 g4
  have hacc:∃a,st.acc=some a:=by
   rcases hj.inv.st with ⟨e,e6⟩|⟨e,hlv,p,ep,hp,p3⟩|e|e|e|⟨e,l,ls,hll,hmo⟩|e
   ·exact ⟨_,(WS.acc0 e).trans (if_neg e6)⟩
   ·exact ⟨_,(WS.acc1 e ep).trans (if_neg p3)⟩
   ·exact ⟨_,WS.acc2 e⟩
   ·exact ⟨_,WS.acc3 e⟩
   ·exact ⟨_,WS.acc4 e⟩
   ·exact ⟨_,WS.acc5 e⟩
   ·exact absurd e h6
  obtain ⟨a,ha⟩:=hacc;have hll:=hj.ll;have hlp:=hj.lp;have hls:=hj.ls;have HI:=LH hj.inv;have HP:=LH hp;have HM:=LH hm;have HC:=LH hc;have H5:=LH g5;have HA:=LH ha;clear hp hm hc hj g3 g4 g2 g5 ha;have hlv:st.levels.length<1000000:=by omega
  have hsl:st.spots.length<=1000000:=by omega
  have hpl:st.pairs.length<=1000000:=by omega
  have HOF:Hid (Off (fun z=>lo2<=z) b v):=LH ⟨fun e=>by omega,fun g hg e=>by have:=HVL.out g hg;omega⟩;have HBW:=LH (Qf9 HW.out);go_wp2_with (fail);with_reducible refine (Q8g (fun z=>lo2<=z) lo2 b st B v C size (QaG cn t) od1 rf _ HP.out HM.out HOF.out HI.out (by omega) HBW.out hlv hsl hpl).mono ?_
  rintro e w4 ⟨rfl,hs,hm,hch⟩;have HS4:=LH (hs.mono (fun z hz=>hz.elim id (fun e=>Nat.le_trans hlo e)))
  rw[HA.out] at hm
  have HM4:Hid (MemP B b v C size (QaG cn (t+1)) (QfY C (some a) od1) rf w4):=LH hm;have HC4:=LH (HC.out.grow hch (fun z hz=>hz.elim (fun e=>.inr (by rw[HLO.out];exact e)) .inl));have hz4:lo2<=w4.heap.size:=Nat.le_trans hlo hch.size;clear hs hm hch HP HM HC HOF HBW HI HA;by_cases h6':(st.step (rdC C)).next=6
  ·have e5:((st.step (rdC C)).next==6)=true:=by simpa using h6'
   rw[e5]
   obtain ⟨bb,hq⟩:=H5.out.last h6';have hsc0:q'.sc (rdC C)=0:=by rw[hq];rfl
   have hsv0:q'.sv (rdC C)=((st.step (rdC C)).st,bb):=by rw[hq];rfl
   have hSt:S=t+1:=by omega
   have hlp2:=H5.out.lp;have hls2:=H5.out.ls;have HFIN:=LH (fun e w' he hw'=>HEND.out e w' (st.step (rdC C)) (QfY C (some a) od1) he hw' h6' (by rw[<-hsv,k1,hsv0]) (by omega) (by omega));have HM5:Hid (MemP B b v C size (QaG cn S) (QfY C (some a) od1) rf w4):=LH (by rw[hSt];exact HM4.out);clear e5 hq hsc0 hsv0 k1 k2 hsv hsc HEND;go_wp2_with (fail);go_ret;exact HFIN.out _ _ rfl HS4.out HM5.out HC4.out
  ·have e5:((st.step (rdC C)).next==6)=false:=by simpa using h6'
   rw[e5]
   clear e5;go_wp2_with (fail)
   go_roundw
   case rel=>exact ⟨t+1,st.step (rdC C),f',q',_,by go_num,H5.out,h6',by omega,by rw[<-k1];exact hsv,by omega,HS4.out,HM4.out,hz4,HC4.out⟩
   case measure=>simp[intOf];omega
theorem Qhv:((WS.init 0 9 false 0 true).step (rdC beginL)).next=1/\(((WS.init 0 9 false 0 true).step (rdC beginL)).step (rdC beginL)).next=6/\(((WS.init 0 9 false 0 true).step (rdC beginL)).step (rdC beginL)).pairs=[]/\(((WS.init 0 9 false 0 true).step (rdC beginL)).step (rdC beginL)).spots=[(6,57)]/\((WS.init 0 9 false 0 true).step (rdC beginL)).levels.length<1000/\((WS.init 0 9 false 0 true).step (rdC beginL)).pairs.length<1000/\((WS.init 0 9 false 0 true).step (rdC beginL)).spots.length<1000:=by decide+kernel
theorem Q9Q (w:World):Calls Tryz.prog 60 #[] w fun e w'=>e=.returned (.bool true)/\Below w.heap.size w w':=by
 go_enter Tryz.func60,Tryz.ntmps60;go_wp2_with (fail);with_reducible refine (Q6S 9 _ (by decide) (by decide)).mono ?_
 rintro e w1 ⟨rfl,hm,hb⟩;have hB1:=hb;have HM:=LH hm;clear hm hb;obtain ⟨b,hbe⟩:∃b,w.heap.size=b:=⟨_,rfl⟩
 rw[hbe] at HM hB1|-
 go_wp2_with (fail);with_reducible refine (QdP b b 9 0 0 0 _ HM.out (by decide) (by decide)).mono ?_
 rintro e w2 ⟨rfl,v,hm,ho,_⟩;have hz2:b<w2.heap.size:=by have:=hB1.size;have:=ho.size;have:=HM.out.blk.lt;omega
 have hB2:=hB1.trans (ho.below (B:=b) (by simp) (by have:=HM.out.blk.lt;omega))
 have HM2:Hid (MemP b b v beginL 9 2 0 0 w2):=LH (by rw[show Q2m (Q2m 0)=2 from by kernel_rfl] at hm;exact hm)
 clear hm ho HM hB1;have HC2:Hid (MemC b beginL 9 w2):=LH ⟨v,_,_,HM2.out⟩;clear HM2;obtain ⟨q1,q2,q3,q4,q5,q6,q7⟩:=Qhv;have hbd:∀x∈beginL,-9223372036854775808<=x/\x<=9223372036854775807:=by decide
 have HI0:=LH (WS.Inv.init (lo:=0) (hi:=9) (most:=0) (back:=false) (values:=true) (by decide) (by decide) (by decide) (by decide) (by decide) (by decide));have HI1:=LH (WS.Inv.step HI0.out (Q5T (Qf9 hbd)));have l0:(WS.init 0 9 false 0 true).levels.length<1000/\(WS.init 0 9 false 0 true).pairs.length<1000/\(WS.init 0 9 false 0 true).spots.length<1000:=by decide
 have HBD:=LH hbd;have Q1:=LH q1;have Q2:=LH q2;have Q3:=LH q3;have Q4:=LH q4;have Q5:=LH q5;have Q6:=LH q6;have Q7:=LH q7;have L0:=LH l0;clear hbd q1 q2 q3 q4 q5 q6 q7 l0;go_wp2_with (fail);with_reducible refine (Qal 0 9 false 0 true _).mono ?_
 rintro e w3 ⟨rfl,hs,hb⟩;have HC3:=LH (HC2.out.l.below hb);have HS3:=LH hs;have hB3:=hB2.trans (hb.mono (by omega));have hz3:=hb.size;clear hs hb HC2 hB2;generalize w2.heap.size=lo at HS3 HC3 hz2 hz3|-;generalize WS.init 0 9 false 0 true=s0 at HS3 HI0 HI1 Q1 Q2 Q3 Q4 Q5 Q6 Q7 L0;go_wp2_with (fail);with_reducible refine (Q8h b lo lo beginL 9 _ _ HS3.out HC3.out HI0.out hz3 (by decide) HBD.out L0.out.1 L0.out.2.1 L0.out.2.2).mono ?_
 rintro e w4 ⟨rfl,hs,hc,hb⟩;generalize s0.step (rdC beginL)=s1 at hs HI1 Q1 Q2 Q3 Q4 Q5 Q6 Q7|-
 rw[Q1.out]
 have HS4:=LH hs;have HC4:=LH hc;have hB4:=hB3.trans (hb.below (B:=b) (fun x hx=>by omega) (by omega));have hz4:=hb.size;clear hs hc hb HS3 HC3 hB3;go_wp2_with (fail);with_reducible refine (Q8h b lo lo beginL 9 _ _ HS4.out HC4.out HI1.out (by omega) (by decide) HBD.out Q5.out Q6.out Q7.out).mono ?_
 rintro e w5 ⟨rfl,hs,hc,hb⟩;generalize s1.step (rdC beginL)=s2 at hs Q2 Q3 Q4|-
 rw[Q2.out]
 have HS5:=LH hs;have hB5:=hB4.trans (hb.below (B:=b) (fun x hx=>by omega) (by omega));have hz5:=hb.size;clear hs hc hb HS4 HC4 hB4;go_wp2_with (fail);with_reducible refine (Q4H _ _ _ _ HS5.out Q2.out (by rw[Q4.out];decide)).mono ?_
 rintro e w6 ⟨v6,rfl,hO,hb⟩
 rw[Q4.out] at hO
 obtain ⟨g,c,rfl,_,hlt⟩:=hO.form (by decide);have HO:=LH hO;have HS6:=LH (HS5.out.below hb);have hB6:=hB5.trans (hb.mono (by omega));have hz6:=hb.size;clear hO hb HS5 hB5 hlt;go_wp2_with (fail);with_reducible refine (Q13 _ _ _ _ HS6.out).mono ?_
 rintro e w7 ⟨rfl,rfl⟩
 rw[Q2.out]
 go_wp2_with (fail);with_reducible refine (Q4R _ _ _ _ HS6.out Q2.out (by rw[Q3.out];decide)).mono ?_
 rintro e w7 ⟨v7,rfl,hO7,hb⟩
 rw[Q3.out] at hO7
 obtain ⟨A7,c7,rfl⟩:=Q06 hO7;have hO:=Q0p HO.out hb;have c0:w7.cell? ⟨g,0,none⟩=some (.int .i64 6):=hO.cellAt 0 (by decide);have c1:w7.cell? ⟨g,1,none⟩=some (.int .i64 57):=hO.cellAt 1 (by decide);have hB7:=hB6.trans (hb.mono (by omega));have HB7:=LH (hbe▸hB7);clear hO hO7 hb HS6 hB6 hB7;go_wp2_with (fail);go_ret;exact ⟨rfl,HB7.out⟩
def Qhb (B:Nat) (w:World) (e:Ending) (w':World):Prop:=∃y b xb bm tbs s G v own,e=.returned (.pointer (some ⟨y,0,none⟩))/\YardP 100000 1680 B y b v own xb bm tbs s 200000 w'/\SysI 100000 s G/\(∀z,own z≠0->B<=z)/\s.max<=800/\Below B w w'
theorem Qc8 (cells:Int) (A:Option Addr) (c:Nat) (keys:List Int) (A2:Option Addr) (c2:Nat) (l:List Int) (w:World)
  (hc0:keys.length<=c) (hc02:l.length<=c2) (h0:-9223372036854775808<=cells) (h1:cells<=9223372036854775807)
  (hq:IntsAt w w.heap.size A keys) (hl:keys.length*8<=140737488351232) (hw:∀i,i<keys.length->-9223372036854775808<=keyAt keys i/\keyAt keys i<=9223372036854775807)
  (hq2:IntsAt w w.heap.size A2 l) (hl2:l.length*8<=140737488351232) (hw2:∀i,i<l.length->-9223372036854775808<=keyAt l i/\keyAt l i<=9223372036854775807):
  Calls Tryz.prog 48 #[.int .i64 cells,.slice A keys.length c,.slice A2 l.length c2] w (Qhb w.heap.size w):=by
 refine (Q9r 100000 cells A c _ keys A2 c2 _ l w (by decide) rfl rfl hc0 hc02 h0 h1 hq (by omega) hw hq2 (by omega) hw2).mono fun e w' hp=> ?_;obtain ⟨y,b,v,cn,od,rf,own,xb,bm,tbs,k,he,hy,hm,htl,hk,hix,hok,hown,hyB,hoy,hyb,hob,hov,hb⟩:=hp;obtain ⟨G,hs⟩:=QaP 100000 cells 3 (by decide) keys l (by decide);have hg:=Q5y 100000 cells 3 (by decide) keys l;obtain ⟨z0,z1⟩:=Q44 cells 650 (by decide);exact ⟨y,b,xb,bm,tbs,_,G,v,own,he,⟨hy,⟨cn,od,rf,hm⟩,hix.le hk,hok,hoy,hyb,fun e=>(hov y e).2.2 rfl,hob,fun g hg=>(hov g hg).2.1,by omega,by omega,by omega⟩,hs,hown,by omega,hb⟩
theorem QcO (P:List (Int×Int)) (i:Nat):Q16 (P.map fun e=>(e.1,0)) i=Q16 P i:=by
 unfold Q16
 rw[List.getD_eq_getElem?_getD,List.getD_eq_getElem?_getD,List.getElem?_map]
 cases P[i]? <;>rfl
theorem QcK (P:List (Int×Int)) (i:Nat):Q42 (P.map fun e=>(e.1,0)) i=0:=by
 unfold Q42
 rw[List.getD_eq_getElem?_getD,List.getElem?_map]
 cases P[i]? <;>rfl
theorem walkValues_walk (cells:Int) (A1:Option Addr) (c1:Nat) (keys:List Int) (A2:Option Addr) (c2:Nat) (l:List Int) (lo hi:Int) (back:Bool) {w:World} (wcells:(Lit.int .i64 cells).wf=true)
  (hq1:IntsAt w w.heap.size A1 keys) (hl1:keys.length*8<=140737488351232) (hc1:keys.length<=c1) (hw1:∀i,i<keys.length->-9223372036854775808<=keyAt keys i/\keyAt keys i<=9223372036854775807)
  (hq2:IntsAt w w.heap.size A2 l) (hl2:l.length*8<=140737488351232) (hc2:l.length<=c2) (hw2:∀i,i<l.length->-9223372036854775808<=keyAt l i/\keyAt l i<=9223372036854775807)
  (wlo:(Lit.int .i64 lo).wf=true) (whi:(Lit.int .i64 hi).wf=true):
  Calls Tryz.prog 10 #[.int .i64 cells,.slice A1 keys.length c1,.slice A2 l.length c2,.int .i64 lo,.int .i64 hi,.bool back] w fun e w'=>e=.returned (.bool true)/\Below w.heap.size w w':=by
 obtain ⟨ca0,ca1⟩:=Go.bounds_i64 wcells;obtain ⟨lo0,lo1⟩:=Go.bounds_i64 wlo;obtain ⟨hi0,hi1⟩:=Go.bounds_i64 whi;have HQ1:=LH hq1;have HW1:=LH hw1;have HQ2:=LH hq2;have HW2:=LH hw2;clear hq1 hw1 hq2 hw2 wcells wlo whi;obtain ⟨z0,z1⟩:=Q44 lo 80 (by decide);obtain ⟨z2,z3⟩:=Q44 hi 80 (by decide);go_enter Tryz.func10,Tryz.ntmps10;go_wp2_with (fail);with_reducible refine (Qc8 cells A1 c1 keys A2 c2 l _ hc1 hc2 ca0 ca1 HQ1.out hl1 HW1.out HQ2.out hl2 HW2.out).mono ?_
 rintro e w1 hp;obtain ⟨y,b,xb,bm,tbs,s,G0,v,own,rfl,hy,hsys,hown,hmax,hb1⟩:=hp;obtain ⟨cn,od,rf,hm⟩:=hy.mem;have hyb:=hy.yb;have hyl:=hy.blk.lt;have hfit:=hy.ok.fit;have y0:w1.cell? ⟨y,0,none⟩=some (.pointer (some ⟨b,0,none⟩)):=hy.blk.cell 0;have HYB:=LH hy.blk;have HM:=LH hm;have HS:=LH hsys;have HCB:Hid (∀x∈s.C,i64B x):=LH hy.ok.cb;have HB1:=LH hb1;have hbB:=hm.base;have hbl:=hm.blk.lt;clear hy hsys hown hb1 HQ1 HQ2 HW1 HW2 hm;go_wp2_with (fail);with_reducible refine (Q1J lo 80 _ lo0 lo1 (by decide) (by decide)).mono ?_
 rintro e w2 ⟨rfl,rfl⟩;go_wp2_with (fail);with_reducible refine (Q1J hi 80 _ hi0 hi1 (by decide) (by decide)).mono ?_
 rintro e w2 ⟨rfl,rfl⟩;go_wp2_with (fail);with_reducible refine (Q6k _ _ _ _ _ _ _ _ _ HM.out).mono ?_
 rintro e w2 ⟨rfl,rfl⟩;have ha:i64B (lo%80-30):=i64B.of (by omega) (by omega);have ha2:i64B (hi%80-30):=i64B.of (by omega) (by omega);generalize lo%80-30=a at ha|-;generalize hi%80-30=a2 at ha2|-;obtain ⟨P,S,bb,r1,r2,r3,_⟩:=Q6E (R:=rdC s.C) a a2 back 100000 1 ⟨[],[]⟩ ⟨[],[]⟩;have HR:=LH (And.intro r1 (And.intro r2 r3));have HAA:=LH (And.intro ha ha2);have hsc1:=Q9s HS.out.inv HS.out.rep ⟨a,a2,back,0,true⟩ 100000 ⟨[],[]⟩;have hsc2:=Q9s HS.out.inv HS.out.rep ⟨a,a2,back,0,false⟩ 100000 ⟨[],[]⟩;obtain ⟨S1,hS1⟩:∃n,(Q0l ⟨a,a2,back,0,true⟩ 100000 1 ⟨[],[]⟩).sc (rdC s.C)=n:=⟨_,rfl⟩;obtain ⟨S2,hS2⟩:∃n,(Q0l ⟨a,a2,back,0,false⟩ 100000 1 ⟨[],[]⟩).sc (rdC s.C)=n:=⟨_,rfl⟩
 rw[hS1] at hsc1 r3
 rw[hS2] at hsc2 r3
 have HSS:=LH (And.intro hS1 hS2);have HR3:=LH r3;clear r1 r2 r3 ha ha2 hS1 hS2;go_wp2_with (fail);with_reducible refine (Q7h a a2 back 0 true G0 _ b v s.C s.max cn od rf _ HM.out HS.out.inv HS.out.rep (by omega) HCB.out HAA.out.1 HAA.out.2 Q0g).mono ?_
 rintro e w2 hp;obtain ⟨rfl,st1,od1,hp1,h61,hst1,hlp1,hls1,hm1,hch1⟩:=hp;have e1:st1.pairs=P/\st1.spots=S:=by rw[HR.out.1] at hst1;exact ⟨congrArg WAcc.pairs hst1,congrArg WAcc.spots hst1⟩
 rw[HSS.out.1] at hm1
 rw[e1.1] at hlp1
 rw[e1.2] at hls1
 have HYB2:=LH (hch1.blk HYB.out hyb);have y0b:w2.cell? ⟨y,0,none⟩=some (.pointer (some ⟨b,0,none⟩)):=HYB2.out.cell 0;have HM1:=LH hm1;have HP1:=LH hp1;have HE1:=LH e1;have HBB1:Hid (Below w.heap.size w w2):=LH (HB1.out.trans (hch1.below (B:=w.heap.size) (fun z hz=>by rw[hz];exact hbB) HB1.out.size));have hz12:w1.heap.size<=w2.heap.size:=hch1.size;clear hst1 hm1 hp1 e1 hch1 HM HYB y0;go_wp2_with (fail);with_reducible refine (Q6k _ _ _ _ _ _ _ _ _ HM1.out).mono ?_
 rintro e w2b ⟨rfl,rfl⟩;go_wp2_with (fail);with_reducible refine (Q7h a a2 back 0 false G0 _ b v s.C s.max (QaG cn S1) od1 rf _ HM1.out HS.out.inv HS.out.rep (by omega) HCB.out HAA.out.1 HAA.out.2 Q0g).mono ?_
 rintro e w3 hp;obtain ⟨rfl,st2,od2,hp2,h62,hst2,hlp2,hls2,hm2,hch2⟩:=hp;have e2:st2.pairs=P.map (fun e=>(e.1,0))/\st2.spots=S:=by rw[HR.out.2.1] at hst2;exact ⟨congrArg WAcc.pairs hst2,congrArg WAcc.spots hst2⟩
 rw[HSS.out.2] at hm2
 have HYB3:=LH (hch2.blk HYB2.out hyb);have HM2:=LH hm2;have HP2:=LH hp2;have HE2:=LH e2;have HP1b:=LH ((WalkP.within HP1.out).chg hch2 (fun z h1 h2=>by have h2:z=b:=h2;omega));have HBB2:Hid (Below w.heap.size w w3):=LH (HBB1.out.trans (hch2.below (B:=w.heap.size) (fun z hz=>by rw[hz];exact hbB) HBB1.out.size));have hz23:w2.heap.size<=w3.heap.size:=hch2.size;have h61b:(st1.next==6)=true:=by simpa using h61
 have h62b:(st2.next==6)=true:=by simpa using h62
 have HNX:=LH (And.intro (And.intro h61 h61b) (And.intro h62 h62b));clear hst2 hm2 hp2 e2 hch2 HM1 HYB2 HBB1 HP1 y0b h61 h62 h61b h62b HR HCB HS HSS HAA HB1;have HPR1:Hid (∀w',Below w3.heap.size w3 w'->Calls Tryz.prog 64 #[.pointer (some ⟨w1.heap.size,0,none⟩)] w' (Q4C P w')):=LH (fun w' hb=>(Q4R _ _ st1 w' (HP1b.out.below hb) HNX.out.1.1 (by rw[HE1.out.1];omega)).mono fun e w2 h=>by rw[HE1.out.1] at h;exact h.list);have HPR2:Hid (∀w',Below w3.heap.size w3 w'->Calls Tryz.prog 64 #[.pointer (some ⟨w2.heap.size,0,none⟩)] w' (Q4C (P.map fun e=>(e.1,0)) w')):=LH (fun w' hb=>(Q4R _ _ st2 w' (HP2.out.below hb) HNX.out.2.1 (by omega)).mono fun e w2 h=>by rw[HE2.out.1] at h;exact h.list);have HSP1:Hid (∀w',Below w3.heap.size w3 w'->Calls Tryz.prog 66 #[.pointer (some ⟨w1.heap.size,0,none⟩)] w' (Q4C S w')):=LH (fun w' hb=>(Q4H _ _ st1 w' (HP1b.out.below hb) HNX.out.1.1 (by rw[HE1.out.2];omega)).mono fun e w2 h=>by rw[HE1.out.2] at h;exact h.list);have HSP2:Hid (∀w',Below w3.heap.size w3 w'->Calls Tryz.prog 66 #[.pointer (some ⟨w2.heap.size,0,none⟩)] w' (Q4C S w')):=LH (fun w' hb=>(Q4H _ _ st2 w' (HP2.out.below hb) HNX.out.2.1 (by omega)).mono fun e w2 h=>by rw[HE2.out.2] at h;exact h.list);have HDN1:Hid (∀w',Below w3.heap.size w3 w'->Calls Tryz.prog 62 #[.pointer (some ⟨w1.heap.size,0,none⟩)] w' fun e w2=>e=.returned (.bool true)/\w'=w2):=LH (fun w' hb=>by have h:=Q13 _ _ st1 w' (HP1b.out.below hb);rw[HNX.out.1.2] at h;exact h);have HDN2:Hid (∀w',Below w3.heap.size w3 w'->Calls Tryz.prog 62 #[.pointer (some ⟨w2.heap.size,0,none⟩)] w' fun e w2=>e=.returned (.bool true)/\w'=w2):=LH (fun w' hb=>by have h:=Q13 _ _ st2 w' (HP2.out.below hb);rw[HNX.out.2.2] at h;exact h);have HCT:Hid (∀w',Below w3.heap.size w3 w'->w'.cell? ⟨y,0,none⟩=some (.pointer (some ⟨b,0,none⟩))/\Calls Tryz.prog 69 #[.pointer (some ⟨b,0,none⟩)] w' fun e w2=>e=.returned (.int .i64 (QaG (QaG cn S1) S2))/\w'=w2):=LH (fun w' hb=>⟨(HYB3.out.below hb HYB3.out.lt).cell 0,Q6k _ _ _ _ _ _ _ _ _ (HM2.out.below hb)⟩);clear HP1b HP2 HE1 HE2 HNX HYB3 HM2;have HB30:Hid (Below w3.heap.size w3 w3):=LH (Below.refl _ _);go_wp2_with (fail);with_reducible refine (HPR1.out _ HB30.out).mono ?_
 rintro e w4 ⟨A7,c7,rfl,hp4,hb4⟩;have HB4:=LH hb4;have HPA:=LH hp4;clear hp4 hb4 HB30;go_wp2_with (fail);with_reducible refine (HPR2.out _ HB4.out).mono ?_
 rintro e w5 ⟨A8,c8,rfl,hp5,hb5⟩;have HB5:=LH (HB4.out.trans (hb5.mono HB4.out.size));have HPB:=LH hp5;have HPA5:=LH (show PairsAt w5 w5.heap.size A7 P from Reads.more (Reads.below HPA.out hb5) hb5.size);clear hp5 hb5 HPA;have hlen:((P.map fun e=>(e.1,(0:Int))).length:Int)=P.length:=by simp
 go_wp2_with (fail);with_reducible refine (HDN1.out _ HB5.out).mono ?_
 rintro e w6 ⟨rfl,rfl⟩;go_wp2_with (fail);with_reducible refine (HDN2.out _ HB5.out).mono ?_
 rintro e w6 ⟨rfl,rfl⟩;go_wp2_with (fail)
 go_loopw [22] (fun iv wr=>∃(i m:Nat),i<=P.length/\iv=.int .i64 i/\wr=w5.drewN m) (fun iv _=>P.length+1-(intOf iv).toNat)
 case atStart=>exact ⟨0,0,Nat.zero_le _,rfl,rfl⟩
 case round=>
  obtain ⟨i,m,hi,rfl,rfl⟩:=hrel;by_cases hlt:i<P.length
  ·obtain ⟨ad,rfl,_,hcc⟩:=HPA5.out.both (by omega);obtain ⟨k1,v1⟩:=hcc i hlt;clear hcc;obtain ⟨ad2,rfl,_,hcc⟩:=HPB.out.both (by simp;omega);obtain ⟨k2,v2⟩:=hcc i (by simp;omega)
   rw[QcO] at k2
   rw[QcK] at v2
   clear hcc;generalize Q16 P i=kk at k1 k2;have u2:w5.cell? {block:=(ad2.add (i*2)).block,off:=(ad2.add (i*2)).off+1}=some (.int .i64 0):=by rw[<-Addr.add_add] at v2;exact v2
   have hil:(i:Int)<P.length:=by omega
   go_wp2_with (fail)
   go_quiet (fail)
   go_wp2_with (fail)
   go_roundw
   case rel=>exact ⟨i+1,_,by omega,by go_num,rfl⟩
   case measure=>simp[intOf];omega
  ·have HB6:=LH (HB5.out.trans (Q0d (Drawn.of w5 m) _));have hil:¬(i:Int)<P.length:=by omega
   go_wp2_with (fail);with_reducible refine (Q9Q _).mono ?_
   rintro e w7 ⟨rfl,hb7⟩;have HB7:=LH (HB6.out.trans (hb7.mono HB6.out.size));have y0:w7.cell? ⟨y,0,none⟩=some (.pointer (some ⟨b,0,none⟩)):=(HCT.out _ HB7.out).1;have HC7:=LH (HCT.out _ HB7.out).2;clear hb7;go_wp2_with (fail);with_reducible refine (HC7.out).mono ?_
   rintro e w8 ⟨rfl,rfl⟩;have d1:=Q9c cn S1 (by omega);have d2:=Q9c (QaG cn S1) S2 (by omega);have d3:(S1:Int)-(S2:Int)=(P.length:Int):=by have h:=HR3.out;omega
   go_wp2_with (fail);with_reducible refine (HSP1.out _ HB7.out).mono ?_
   rintro e w8 ⟨A9,c9,rfl,hp8,hb8⟩;have HB8:=LH (HB7.out.trans (hb8.mono HB7.out.size));have HSA:=LH hp8;clear hp8 hb8;go_wp2_with (fail);with_reducible refine (HSP2.out _ HB8.out).mono ?_
   rintro e w9 ⟨A10,c10,rfl,hp9,hb9⟩;have HB9:=LH (HB8.out.trans (hb9.mono HB8.out.size));have HSB:=LH hp9;have HSA9:=LH (show PairsAt w9 w9.heap.size A9 S from Reads.more (Reads.below HSA.out hb9) hb9.size);clear hp9 hb9 HSA;go_wp2_with (fail);with_reducible refine (Q7s _ _ _ _ _ _ _ S _ rfl rfl HSA9.out HSB.out (by omega)).mono ?_
   rintro e w10 ⟨rfl,hd⟩;have HB10:=LH (HB9.out.trans (Q0d hd _));have HFIN:=LH (HBB2.out.trans (HB10.out.mono HBB2.out.size));clear hd;go_wp2_with (fail);go_ret;exact ⟨rfl,HFIN.out⟩
end Go.Proofs.YtblajeildolloaaGreat
