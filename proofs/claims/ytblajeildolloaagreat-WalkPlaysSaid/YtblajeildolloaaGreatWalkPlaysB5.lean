/- Part 5 of what the statement of WalkPlays needs. No condition. -/
import Derived.Test.YtblajeildolloaaGreatWalkPlaysB4
import Derived.Deep.RegionLaw
import Derived.Deep.CutRange
import Derived.Deep.RegionHeld3
import Derived.Laws.OwnMore
import Derived.Lib.SliceRun
namespace Go.Proofs.YtblajeildolloaaGreat
set_option linter.unusedVariables false
set_option linter.unusedSimpArgs false
open Go.RowKit
set_option maxRecDepth 100000
set_option maxHeartbeats 8000000
theorem Qbz:(Tryz.prog.info? 4).map (fun i=>(i.zero,i.size,i.bytes))=some (some (.bool false),1,1):=by kernel_rfl
theorem Qbp (n:Nat):madeCells #[Value.bool false] n=BB (List.replicate n false):=by
 apply Array.ext
 ·simp[madeCells,BB]
 ·intro i h1 h2;simp[madeCells,Nat.mod_one,BB]
theorem Qbn (n:Nat) (d:Int) (hd:d=n) (h1:n<=1000000):∀u:World,(Instr.makeSlice 112 (.int .i64 d) (.int .i64 d)).run Tryz.prog u=.ok (.slice (some ⟨u.heap.size,0,none⟩) n n) (u.alloc (.cells (BB (List.replicate n false)) 4)):=by
 intro u;subst hd;obtain ⟨i0,hi0,hz0,hz1,hz2⟩:=info_parts Qbz;have:=run_make (P:=Tryz.prog) u 112 4 i0 (.bool false) Tryz.underlying112 hi0 hz0 .i64 .i64 (n:Int) (n:Int) (by omega) (Int.le_refl _) (by rw[hz2];omega) (by omega)
 rw[hz1,Nat.mul_one,Int.toNat_natCast] at this
 have e2:(Value.bool false).cells=#[Value.bool false]:=rfl
 rw[e2,Qbp] at this
 exact this
def Qc4 (C:List Int) (k:Nat):List Bool:=false::(List.replicate k true++List.replicate (C.length-k) false)
theorem Q7F (C:List Int) (k:Nat) (h:k<=C.length):(Qc4 C k).length=C.length+1:=by unfold Qc4;simp;omega
theorem QcV (C:List Int):Qc4 C 0=List.replicate (C.length+1) false:=by unfold Qc4;simp[List.replicate_succ]
theorem QcW (C:List Int) (k:Nat) (h:k<C.length):(Qc4 C k).set (k+1) true=Qc4 C (k+1):=by
 obtain ⟨m,e1⟩:∃m,C.length-k=m+1:=⟨C.length-k-1,by omega⟩;have e2:C.length-(k+1)=m:=by omega
 unfold Qc4
 rw[e1,e2,List.set_cons_succ,List.set_append_right _ _ (by simp),List.length_replicate,Nat.sub_self,List.replicate_succ (n:=m),List.set_cons_zero,List.replicate_succ' (n:=k)]
 simp
structure SoundB (C:List Int):Prop where
 len:6<=C.length
 c0:keyAt C 0=1
 c2:keyAt C 2=0
 ok:∃f met',Q5q C (Q9m C f) 6 (-9223372036854775808) 9223372036854775807 (Qc4 C 6)=some met'
def Qh5 (mb:Nat) (C:List Int) (w0:World) (iv:Value) (wr:World):Prop:=∃i:Nat,iv=.int .i64 ((i:Int)+1)/\i<=6/\Blk wr mb 4 (BB (Qc4 C i))/\Chg (fun y=>y=mb) w0 wr
section
variable (F:Nat->Prop) (bm:Nat) (C:List Int) (max:Int)
theorem Qb3 (w:World) (h:M7 F bm C max w) (hC:C.length<=65536) (hb:CB C) (hs:SoundB C):
  Calls Tryz.prog 179 #[.pointer (some ⟨bm,0,none⟩)] w fun e w'=>e=.returned (.bool true)/\Below w.heap.size w w':=by
 obtain ⟨hl,hc0,hc2,f,met',hok⟩:=hs;have hwi:=h.within;obtain ⟨v,cnt,odd,rf,hq⟩:=h;obtain ⟨g,cc,rfl,_,_⟩:=hq.row.form (by omega);have d1:w.cell? ⟨bm,1,none⟩=some (.slice (some ⟨g,0,none⟩) C.length cc):=hq.blk.cell 1
 have hx:∀k,k<C.length->w.cell? ⟨g,k,none⟩=some (.int .i64 (keyAt C k)):=fun k hk=>by
  rw[hq.row.cellAt k (by simp;omega),List.getElem?_map,List.getElem?_eq_getElem hk]
  unfold keyAt
  rw[List.getD_eq_getElem?_getD,List.getElem?_eq_getElem hk];rfl
 have x0:=hx 0 (by omega);have x2:=hx 2 (by omega)
 rw[hc0] at x0
 rw[hc2] at x2
 clear hx;have hl0:(0:Int)<C.length:=by omega
 have hl2:(2:Int)<C.length:=by omega
 have hl6:¬(C.length:Int)<6:=by omega
 have hmk:=Qbn (C.length+1) ((C.length:Int)+1) (by omega) (by omega);have HWI:=LH hwi;have HOK:=LH hok;have HB:=LH hb;have HCL:=LH hl;have HNB:=LH (Blk.new w 4 (BB (List.replicate (C.length+1) false)));have HAL:=LH ((Below.refl w.heap.size w).alloc (Nat.le_refl _) (.cells (BB (List.replicate (C.length+1) false)) 4));clear hwi hok hb hq hc0 hc2;go_enter Tryz.func179,Tryz.ntmps179;go_wp2_with (fail);generalize w.alloc (.cells (BB (List.replicate (C.length+1) false)) 4)=w1 at HNB HAL|-
 go_loopw [4] (fun iv wr=>Qh5 w.heap.size C w1 iv wr) (fun iv _=>7-(intOf iv).toNat)
 case atStart=>unfold Qh5;exact ⟨0,rfl,by omega,by rw[QcV];exact HNB.out,Chg.refl _ _⟩
 case round=>
  obtain ⟨i,rfl,hi6,hbk,hc⟩:=hrel;by_cases hi:i<6
  ·have e1:(i:Int)+1<=6:=by omega
   have e2:(i:Int)+1<(C.length:Int)+1:=by omega
   have fi:=hbk.frozen (i+1);have ci:wr.cell? ⟨w.heap.size,i+1,none⟩=some (.bool ((Qc4 C i).getD (i+1) false)):=by rw[hbk.cell (i+1),QfG _ _ (by rw[Q7F C i (by omega)];omega)]
   have HB2:=LH (show Blk (wr.setCell ⟨w.heap.size,i+1,none⟩ (.bool true)) w.heap.size 4 (BB (Qc4 C (i+1))) by have:=hbk.set_ (i+1) (.bool true);rw[QfF,QcW C i (by omega)] at this;exact this);have HC2:=LH (hc.trans (Chg.set1 wr w.heap.size (i+1) (.bool true)));clear hbk hc;go_wp2_with (fail)
   go_roundw
   case rel=>unfold Qh5;exact ⟨i+1,by go_num,by omega,HB2.out,HC2.out⟩
   case measure=>simp[intOf];omega
  ·have e6:i=6:=by omega
   subst e6;have hF:¬(F w.heap.size/\w.heap.size<w.heap.size):=fun h=>Nat.lt_irrefl _ h.2;have HM:=LH ((HWI.out.below HAL.out).chg hc (fun y h1 h2=>by rw[h2] at h1;exact hF h1));have HBK:=LH hbk;have HC:=LH hc;clear hbk hc;go_wp2_with (fail);with_reducible refine (Q3q f (QfK f) _ bm C max 6 (-9223372036854775808) 9223372036854775807 w.heap.size (C.length+1) (C.length+1) (Qc4 C 6) met' _ (Q7F C 6 HCL.out).symm HM.out (by omega) HB.out (Q7F C 6 HCL.out) HBK.out hF (by unfold i64B;omega) (by unfold i64B;omega) (by unfold i64B;omega) HOK.out).mono ?_
   rintro e w3 ⟨rfl,hbk,hc⟩;have HC3:=LH ((HC.out.trans hc));clear hbk hc;go_wp2_with (fail);go_ret;refine ⟨rfl,HAL.out.trans (HC3.out.below (B:=w.heap.size) (fun y hy=>by omega) HAL.out.size)⟩
end
theorem QgS:wOf 1 7=57:=by decide
theorem QbU (F:Nat->Prop) (bm:Nat) (max:Int) (w:World) (h:M7 F bm [] max w) (h7:7<=max) (hx:max<=65536):
  Calls Tryz.prog 213 #[.pointer (some ⟨bm,0,none⟩)] w fun e w'=>e=.returned (.bool true)/\M7 (fun x=>F x\/w.heap.size<=x) bm beginL max w'/\Chg F w w':=by
 obtain ⟨v,cnt,odd,rf,hq⟩:=h;obtain ⟨A,cc,rfl⟩:=Q03 hq.row;have d1:w.cell? ⟨bm,1,none⟩=some (.slice A 0 cc):=hq.blk.cell 1;have d0:w.cell? ⟨bm,0,none⟩=some (.int .i64 max):=hq.blk.cell 0;have H:Hid (M7 F bm [] max w):=LH ⟨_,_,_,_,hq⟩;clear hq;go_enter Tryz.func213,Tryz.ntmps213;go_wp2_with (fail);with_reducible refine (Q0I 1 7 _).mono ?_
 rintro e w1 ⟨rfl,rfl⟩
 rw[QgS]
 have HR:=LH (show IntsAt (w.alloc (.cells #[.int .i64 57] 2)) (w.heap.size+1) (some ⟨w.heap.size,0,none⟩) [57] from Q2a w 2 [57]);have hb1:=(Below.refl w.heap.size w).alloc (Nat.le_refl _) (.cells #[.int .i64 57] 2);have H1:=LH (H.out.below hb1);have HB1:=LH hb1;clear hb1;have IW:Hid (Calls Tryz.prog 241 #[.int .i64 0,.slice none 0 0,.slice (some ⟨w.heap.size,0,none⟩) 1 1] (w.alloc (.cells #[.int .i64 57] 2)) (Q86 [1,0,0,0,0,57] (w.alloc (.cells #[.int .i64 57] 2)))):=LH (Q2w 0 none (some ⟨w.heap.size,0,none⟩) 0 1 [] [57] _ (IntsAt.nil _ _) (IntsAt.more HR.out (by simp)) (by simp) (by simp));go_wp2_with (fail);with_reducible refine (IW.out).mono ?_
 rintro e w3 ⟨qv,rfl,hqv,hqb⟩;have HQ3:=LH (Q0Z hqv (Nat.zero_le _));have H3:=LH (H1.out.below hqb);have HB3:=LH hqb;obtain ⟨xA,xc,rfl⟩:=Q03 hqv;clear hqv hqb H1 HR;go_wp2_with (fail);with_reducible refine (Q2X F bm [] max xA xc 6 [1,0,0,0,0,57] _ rfl H3.out (by simp) (by simp;omega) hx HQ3.out (by simp)).mono ?_
 rintro e w4 ⟨rfl,hm4,hc4⟩
 rw[Q4w (C:=[]) (q:=[1,0,0,0,0,57]) (by simp) (by simp;omega)] at hm4|-
 have HM:=LH hm4;have HC4:=LH (((Chg.of_below (F:=F) HB1.out).trans (Chg.of_below (F:=F) HB3.out)).trans hc4);have HZ3:=LH (show w.heap.size<=w3.heap.size from Nat.le_trans HB1.out.size HB3.out.size);clear hm4 hc4 H3 HQ3;go_wp2_with (fail);with_reducible refine (Q3c _).mono ?_
 rintro e w5 ⟨qv,rfl,hqv,hqb⟩;have HQ5:=LH (Q0Z hqv (Nat.zero_le _));have H5:=LH (HM.out.below hqb);have HB5:=LH hqb;obtain ⟨yA,yc,rfl⟩:=Q03 hqv;clear hqv hqb HM;go_wp2_with (fail);with_reducible refine (Q2X _ bm [1,0,0,0,0,57] max yA yc 1 [0] _ rfl H5.out (by simp) (by simp;omega) hx HQ5.out (by simp)).mono ?_
 rintro e w6 ⟨rfl,hm6,hc6⟩
 rw[Q4w (C:=[1,0,0,0,0,57]) (q:=[0]) (by simp) (by simp;omega)] at hm6|-
 have HM6:Hid (M7 (fun x=>F x\/w.heap.size<=x) bm beginL max w6):=LH (hm6.mono (fun x hx=>by
  rcases hx with (hx|hx)|hx
  ·exact .inl hx
  ·exact .inr (Nat.le_trans HZ3.out hx)
  ·exact .inr (Nat.le_trans (Nat.le_trans HC4.out.size HB5.out.size) hx)))
 have HC6:=LH ((HC4.out.trans (Chg.of_below (F:=F) HB5.out)).grow hc6 (fun x hx=>by
  rcases hx with hx|hx
  ·exact .inl hx
  ·exact .inr (Nat.le_trans HZ3.out hx)))
 clear hm6 hc6 H5 HQ5;go_wp2_with (fail);go_ret;exact ⟨rfl,HM6.out,HC6.out⟩
def Q45 (C:List Int) (max:Int) (l:List (Int×Int)):Int×List Int:=if (C.length:Int)+Q0C l.length<=max then ((Q0S (l.length+1) C l).2,(Q0S (l.length+1) C l).1) else (0,C)
def Q89 (F:Nat->Prop) (bm:Nat) (C:List Int) (max:Int) (l:List (Int×Int)) (w:World) (e:Ending) (w':World):Prop:=e=.returned (.tuple #[.int .i64 (Q45 C max l).1,.bool (decide ((C.length:Int)+Q0C l.length<=max))])/\M7 (fun x=>F x\/w.heap.size<=x) bm (Q45 C max l).2 max w'/\Chg F w w'
theorem Q1X (A:Option Addr) (c N:Nat) (l:List (Int×Int)) (w:World) (hN:N=l.length) (hq:PairsAt w w.heap.size A l) (hl:l.length<=16384) (ha:Qgn l):
  Calls Tryz.prog 204 #[.slice A N c] w fun e w'=>e=.returned (.bool true)/\Below w.heap.size w w':=by
 subst hN;have hl2:(l.length:Int)<=16384:=by omega
 have HQ:=LH hq;have HA:=LH ha;clear hq ha;go_enter Tryz.func204,Tryz.ntmps204;go_wp2_with (fail);with_reducible refine (Qd1 A c l.length l _ rfl HQ.out (by omega) HA.out).mono ?_
 rintro e w1 ⟨rfl,hb⟩;have HB:=LH hb;clear hb;go_wp2_with (fail);go_ret;exact ⟨rfl,Q08 HB.out _⟩
theorem Q7g (F:Nat->Prop) (bm:Nat) (C:List Int) (max:Int) (A:Option Addr) (c N:Nat) (l:List (Int×Int)) (w:World) (hN:N=l.length) (h:M7 F bm C max w) (hC:C.length<=65536) (hx:max<=65536) (hm0:(C.length:Int)<=max) (hq:PairsAt w w.heap.size A l) (hA:∀ad,A=some ad->¬F ad.block) (hc:l.length<=c) (hl:l.length<=16384) (ha:Qgn l):
  Calls Tryz.prog 215 #[.pointer (some ⟨bm,0,none⟩),.slice A N c] w (Q89 F bm C max l w):=by
 subst hN;have hl2:(l.length:Int)<=16384:=by omega
 have hcc:=Q2Y (l.length+1) C l (by omega) hl;have hca:=Q32 l.length
 have BLD:Hid ((C.length:Int)+Q0C l.length<=max->∀w2,Below w.heap.size w w2->Calls Tryz.prog 252 #[.pointer (some ⟨bm,0,none⟩),.slice A l.length c] w2 (Q59 F bm (Q0S (l.length+1) C l).1 max (Q0S (l.length+1) C l).2 w2)):=LH (fun hr w2 hb2=>
  (Qgf (l.length+1)).use F bm C max l A c l.length w2 rfl (h.below hb2) hx ((hq.chg (Chg.of_below (F:=fun _=>False) hb2) (Nat.le_refl _) (fun _ _ h=>h)).more hb2.size) hA hc (by omega) hl (by omega))
 have hbd:Below w.heap.size w w.drew:=Q08 (Drawn.of w 1) _;have HQ:=LH (hq.chg (Chg.of_below (F:=fun _=>False) hbd) (Nat.le_refl _) (fun _ _ h=>h));have HA:=LH ha;have HBD:=LH hbd;have HM:=LH h;obtain ⟨v,cnt,odd,rf,hq7⟩:=h;obtain ⟨mA,mc,rfl⟩:=Q03 hq7.row;have d1:w.cell? ⟨bm,1,none⟩=some (.slice mA C.length mc):=hq7.blk.cell 1;have d0:w.cell? ⟨bm,0,none⟩=some (.int .i64 max):=hq7.blk.cell 0;have HQ7:=LH hq7;clear hq ha hA hq7 hbd;by_cases hr:(C.length:Int)+Q0C l.length<=max
 ·have hgt:¬max-C.length<Q0C l.length:=by omega
  have hdd:decide (IntKind.i64.wrap (max-(C.length:Int))<Q0C l.length)=false:=by rw[IntWalk.i64_in _ (by omega)];exact decide_eq_false hgt
  have HRD:=LH (decide_eq_true hr);have HR:=LH hr;have HBC:=LH (show Q45 C max l=((Q0S (l.length+1) C l).2,(Q0S (l.length+1) C l).1) from if_pos hr);have t0:w.drew.cell? ⟨bm,0,none⟩=some (.int .i64 max):=d0;have t1:w.drew.cell? ⟨bm,1,none⟩=some (.slice mA C.length mc):=d1;clear hr;go_enter Tryz.func215,Tryz.ntmps215;go_wp2_with (fail)
  go_region_held3 (fun w'=>w'.cell? ⟨bm,0,none⟩=some (.int .i64 max)/\w'.cell? ⟨bm,1,none⟩=some (.slice mA C.length mc)) (first|go_keep|exact K1.out) (first|(go_at_call 204;(with_reducible refine (Q1X A c l.length l _ rfl HQ.out hl HA.out).mono ?_);rintro e w1 ⟨rfl,hb⟩;have HB1:=LH (Q3E hb);have K1:=LH (show w1.cell? ⟨bm,0,none⟩=some (.int .i64 max)/\w1.cell? ⟨bm,1,none⟩=some (.slice mA C.length mc) from ⟨(HQ7.out.blk.below HB1.out HQ7.out.blk.lt).cell 0,(HQ7.out.blk.below HB1.out HQ7.out.blk.lt).cell 1⟩);clear hb)|(go_at_call 251;(with_reducible refine (Q5i _ _ (by omega) (by omega)).mono ?_);rintro e w2 ⟨rfl,rfl⟩))
  all_goals
   go_wp2_with (fail);with_reducible refine (BLD.out HR.out _ HB1.out).mono ?_
   rintro e w3 ⟨rfl,hm3,hc3⟩;have HM3:=LH (hm3.mono (G:=fun x=>F x\/w.heap.size<=x) (fun x hx=>hx.imp id (fun e=>Nat.le_trans HB1.out.size e)));have HC3:=LH ((Chg.of_below (F:=F) HB1.out).trans hc3);clear hm3 hc3;go_wp2_with (fail)
   go_ret2
   unfold Q89
   rw[HRD.out,HBC.out]
   exact ⟨rfl,HM3.out,HC3.out⟩
 ·have hgt:max-C.length<Q0C l.length:=by omega
  have hdd:decide (IntKind.i64.wrap (max-(C.length:Int))<Q0C l.length)=true:=by rw[IntWalk.i64_in _ (by omega)];exact decide_eq_true hgt
  have HRD:=LH (decide_eq_false hr);have HBC:=LH (show Q45 C max l=(0,C) from if_neg hr);have t0:w.drew.cell? ⟨bm,0,none⟩=some (.int .i64 max):=d0;have t1:w.drew.cell? ⟨bm,1,none⟩=some (.slice mA C.length mc):=d1;clear hr;go_enter Tryz.func215,Tryz.ntmps215;go_wp2_with (fail)
  go_region_held3 (fun w'=>w'.cell? ⟨bm,0,none⟩=some (.int .i64 max)/\w'.cell? ⟨bm,1,none⟩=some (.slice mA C.length mc)) (first|go_keep|exact K1.out) (first|(go_at_call 204;(with_reducible refine (Q1X A c l.length l _ rfl HQ.out hl HA.out).mono ?_);rintro e w1 ⟨rfl,hb⟩;have HB1:=LH (Q3E hb);have K1:=LH (show w1.cell? ⟨bm,0,none⟩=some (.int .i64 max)/\w1.cell? ⟨bm,1,none⟩=some (.slice mA C.length mc) from ⟨(HQ7.out.blk.below HB1.out HQ7.out.blk.lt).cell 0,(HQ7.out.blk.below HB1.out HQ7.out.blk.lt).cell 1⟩);clear hb)|(go_at_call 251;(with_reducible refine (Q5i _ _ (by omega) (by omega)).mono ?_);rintro e w2 ⟨rfl,rfl⟩))
  all_goals
   go_wp2_with (fail)
   go_ret2
   unfold Q89
   rw[HRD.out,HBC.out]
   exact ⟨rfl,(HM.out.below HB1.out).mono (fun _=>.inl),Chg.of_below HB1.out⟩
theorem Q3U:(Tryz.prog.info? 218).map (fun i=>(i.zero,i.size,i.bytes))=some (some (.agg #[.int .i64 0,.int .i64 0,.int .i64 0,.int .i64 0,.int .i64 0,.int .i64 0,.int .i64 0,.bool false,.int .i64 0,.int .i64 0,.int .i64 0,.slice none 0 0,.int .i64 0]),13,120):=by kernel_rfl
def Q2L (b:Nat):Value:=.pointer (some ⟨b,0,none⟩)
def TH.nil:TH:=⟨0,false,⟨0,0,0,0,⟨0,0,false,0,false⟩,[],⟨0,0,0⟩⟩,[],false,FOut.zero⟩
structure IX where
 C:List Int
 max:Int
 T:List TH
structure IxQ (own:Nat->Nat) (xb bm:Nat) (tbs:List Nat) (s:IX) (a0 a1 a2:Int) (tv lv:Value) (ln:Nat) (lxs:List Value) (inv picks:Int) (w:World):Prop where
 ox:own xb=1
 blk:Blk w xb 90 #[.int .i64 a0,.int .i64 a1,.int .i64 a2,Q2L bm,tv,lv,.int .i64 inv,.int .i64 picks]
 mem:M7 (fun y=>own y=2) bm s.C s.max w
 len:tbs.length=s.T.length
 row:w.ownsRow 0 165 1 tv tbs.length (tbs.map Q2L)
 rowo:∀g,tv.ownBlock=some g->own g=1
 log:w.ownsRow 0 218 13 lv ln lxs
 logo:∀g,lv.ownBlock=some g->own g=1
 th:∀i,i<tbs.length->ThP (fun y=>own y=3+i) (tbs.getD i 0) (s.T.getD i TH.nil) w
def IxP (own:Nat->Nat) (xb bm:Nat) (tbs:List Nat) (s:IX) (k:Nat) (w:World):Prop:=∃a0 a1 a2 tv lv ln lxs inv picks,IxQ own xb bm tbs s a0 a1 a2 tv lv ln lxs inv picks w/\ln<=k
section
variable {own own':Nat->Nat} {xb bm:Nat} {tbs:List Nat} {s:IX} {a0 a1 a2 inv picks:Int} {tv lv:Value} {ln k k':Nat} {lxs:List Value} {G:Nat->Prop} {w w1 w':World}
theorem ThP.within {F:Nat->Prop} {tb:Nat} {t:TH} (h:ThP F tb t w):ThP (fun y=>F y/\y<w.heap.size) tb t w:=by
 obtain ⟨a,b,c,d,e,f,g,h⟩:=h;exact ⟨a,b,c,d,e,f,g,h.within⟩
theorem IxQ.reown (h:IxQ own xb bm tbs s a0 a1 a2 tv lv ln lxs inv picks w) (e:∀y,y<w.heap.size->own' y=own y):IxQ own' xb bm tbs s a0 a1 a2 tv lv ln lxs inv picks w:=
 ⟨(e _ h.blk.lt).trans h.ox,h.blk,h.mem.within.mono (fun y hy=>(e y hy.2).trans hy.1),h.len,h.row,fun g hg=>(e g (Q0T h.row g hg)).trans (h.rowo g hg),h.log,fun g hg=>(e g (Q0T h.log g hg)).trans (h.logo g hg),fun i hi=>(h.th i hi).within.mono (fun y hy=>(e y hy.2).trans hy.1)⟩
theorem IxQ.chg (h:IxQ own xb bm tbs s a0 a1 a2 tv lv ln lxs inv picks w) (m:Chg G w w') (hd:∀y,own y≠0->G y->False):IxQ own xb bm tbs s a0 a1 a2 tv lv ln lxs inv picks w':=
 ⟨h.ox,m.blk h.blk (fun e=>hd _ (by rw[h.ox];decide) e),h.mem.chg m (fun y hy=>hd y (by rw[hy];decide)),h.len,m.own h.row (fun g hg=>hd g (by rw[h.rowo g hg];decide)),h.rowo,m.own h.log (fun g hg=>hd g (by rw[h.logo g hg];decide)),h.logo,fun i hi=>(h.th i hi).chg m (fun y hy=>hd y (by rw[hy];omega))⟩
theorem IxQ.below (h:IxQ own xb bm tbs s a0 a1 a2 tv lv ln lxs inv picks w) (hb:Below w.heap.size w w'):IxQ own xb bm tbs s a0 a1 a2 tv lv ln lxs inv picks w':=h.chg (G:=fun _=>False) (Chg.of_below hb) (fun _ _ hg=>hg)
theorem IxP.chg (h:IxP own xb bm tbs s k w) (m:Chg G w w') (hd:∀y,own y≠0->G y->False):IxP own xb bm tbs s k w':=by
 obtain ⟨a,b,c,d,e,f,g,i,j,h,hk⟩:=h;exact ⟨a,b,c,d,e,f,g,i,j,h.chg m hd,hk⟩
theorem IxP.below (h:IxP own xb bm tbs s k w) (hb:Below w.heap.size w w'):IxP own xb bm tbs s k w':=h.chg (G:=fun _=>False) (Chg.of_below hb) (fun _ _ hg=>hg)
theorem IxP.le (h:IxP own xb bm tbs s k w) (hk:k<=k'):IxP own xb bm tbs s k' w:=by
 obtain ⟨a,b,c,d,e,f,g,i,j,h,hk0⟩:=h;exact ⟨a,b,c,d,e,f,g,i,j,h,Nat.le_trans hk0 hk⟩
def IxPost (own:Nat->Nat) (xb bm:Nat) (tbs:List Nat) (s:IX) (k:Nat) (w w':World):Prop:=∃own',IxP own' xb bm tbs s k w'/\Chg (fun y=>own y≠0) w w'/\∀y,own' y≠0->own y≠0\/w.heap.size<=y
theorem IxPost.refl (h:IxP own xb bm tbs s k w):IxPost own xb bm tbs s k w w:=⟨own,h,Chg.refl _ _,fun _ h=>.inl h⟩
theorem IxPost.le (h:IxPost own xb bm tbs s k w w') (hk:k<=k'):IxPost own xb bm tbs s k' w w':=by obtain ⟨o,h,c,g⟩:=h;exact ⟨o,h.le hk,c,g⟩
theorem IxPost.on (hc:Chg (fun y=>own y≠0) w w1) (hg:∀y,own' y≠0->own y≠0\/w.heap.size<=y) (h:IxPost own' xb bm tbs s k w1 w'):IxPost own xb bm tbs s k w w':=by
 obtain ⟨o,h,c,g⟩:=h;refine ⟨o,h,hc.grow c hg,fun y hy=> ?_⟩
 rcases g y hy with h1|h1
 ·exact hg y h1
 ·exact .inr (Nat.le_trans hc.size h1)
theorem IxQ.thread (h:IxQ own xb bm tbs s a0 a1 a2 tv lv ln lxs inv picks w) {i:Nat} (hi:i<tbs.length) {t:TH} (m:Chg (fun y=>own y=3+i) w w') (ht:ThP (fun y=>own y=3+i) (tbs.getD i 0) t w'):IxQ own xb bm tbs {s with T:=s.T.set i t} a0 a1 a2 tv lv ln lxs inv picks w':=by
 refine ⟨h.ox,m.blk h.blk (fun e=>by rw[h.ox] at e;omega),h.mem.chg m (fun y h1 h2=>by rw[h1] at h2;omega),by rw[h.len];simp,m.own h.row (fun g hg e=>by rw[h.rowo g hg] at e;omega),h.rowo,m.own h.log (fun g hg e=>by rw[h.logo g hg] at e;omega),h.logo,fun j hj=> ?_⟩;by_cases hij:j=i
 ·subst hij;have:(s.T.set j t).getD j TH.nil=t:=by rw[List.getD_eq_getElem?_getD,List.getElem?_set_self (by rw[<-h.len];exact hi)];rfl
  show ThP _ _ ((s.T.set j t).getD j TH.nil) _
  rw[this]
  exact ht
 ·have:(s.T.set i t).getD j TH.nil=s.T.getD j TH.nil:=by rw[List.getD_eq_getElem?_getD,List.getElem?_set_ne (by omega),List.getD_eq_getElem?_getD]
  show ThP _ _ ((s.T.set i t).getD j TH.nil) _
  rw[this]
  exact (h.th j hj).chg m (fun y h1 h2=>by omega)
theorem IxQ.set (h:IxQ own xb bm tbs s a0 a1 a2 tv lv ln lxs inv picks w) (k:Nat) (u:Value) {inv' picks':Int} (he:(#[.int .i64 a0,.int .i64 a1,.int .i64 a2,Q2L bm,tv,lv,.int .i64 inv,.int .i64 picks]:Array Value).setIfInBounds k u=#[.int .i64 a0,.int .i64 a1,.int .i64 a2,Q2L bm,tv,lv,.int .i64 inv',.int .i64 picks']):IxQ own xb bm tbs s a0 a1 a2 tv lv ln lxs inv' picks' (w.setCell ⟨xb,k,none⟩ u):=by
 have m:=Chg.set1 w xb k u;have hne:∀{c:Nat} {g:Nat},own g=c->c≠1->g≠xb:=fun h1 h2 e=>h2 (by rw[<-h1,e,h.ox]);have hb:=h.blk.set_ k u
 rw[he] at hb
 exact ⟨h.ox,hb,h.mem.chg m (fun y h1 h2=>hne h1 (by decide) h2),h.len,m.own h.row (Q0t h.row h.blk (by decide)),h.rowo,m.own h.log (Q0t h.log h.blk (by decide)),h.logo,fun i hi=>(h.th i hi).chg m (fun y h1 h2=>hne h1 (by omega) h2)⟩
def Q9n (own:Nat->Nat) (n c:Nat):Nat->Nat:=fun y=>if y<n then own y else c
theorem Q1k {n c y:Nat} (h:y<n):Q9n own n c y=own y:=if_pos h
theorem QcO {n c y:Nat} (h:n<=y):Q9n own n c y=c:=if_neg (by omega)
theorem IxQ.app (h:IxQ own xb bm tbs s a0 a1 a2 tv lv ln lxs inv picks w) {wd w5:World} {gg cap:Nat} {vs:List Value} (hb:Below w.heap.size w wd) (hO:w5.ownsRow 0 218 13 (.slice (some ⟨gg,0,none⟩) (ln+1) cap) (ln+1) (lxs++vs)) (hg:wd.grownBy w5 lv.ownBlock) (hat:lv.ownBlock=some gg\/w.heap.size<=gg):
  Hid (w5.cell? ⟨xb,5,none⟩=some lv/\w5.frozen? ⟨xb,5,none⟩=false/\IxQ (Q9n own w.heap.size 1) xb bm tbs s a0 a1 a2 tv (.slice (some ⟨gg,0,none⟩) (ln+1) cap) (ln+1) (lxs++vs) inv picks (w5.setCell ⟨xb,5,none⟩ (.slice (some ⟨gg,0,none⟩) (ln+1) cap))/\Chg (fun y=>own y=1) w (w5.setCell ⟨xb,5,none⟩ (.slice (some ⟨gg,0,none⟩) (ln+1) cap))):=by
 have hc:=(Chg.of_below (F:=fun y=>lv.ownBlock=some y) hb).trans (Chg.of_grown hg);have hbl:=hc.blk h.blk (fun e=>Q0o h.log h.blk (by decide) e);have hc6:Chg (fun y=>y=xb\/lv.ownBlock=some y) w (w5.setCell ⟨xb,5,none⟩ (.slice (some ⟨gg,0,none⟩) (ln+1) cap)):=(hc.mono (fun _=>.inr)).trans ((Chg.set1 w5 xb 5 _).mono (fun _=>.inl));have hc7:Chg (fun y=>own y=1) w (w5.setCell ⟨xb,5,none⟩ (.slice (some ⟨gg,0,none⟩) (ln+1) cap)):=hc6.mono (fun y hy=>by rcases hy with rfl|e;exact h.ox;exact h.logo y e);have hlt:=h.blk.lt;refine LH ⟨hbl.cell 5,hbl.frozen 5,⟨(Q1k hlt).trans h.ox,hbl.set_ 5 _,(h.mem.within.chg hc7 (fun y h1 h2=>by rw[h1.1] at h2;cases h2)).mono (fun y hy=>(Q1k hy.2).trans hy.1),h.len,hc6.own h.row (fun g hg e=> ?_),fun g hg=>(Q1k (Q0T h.row g hg)).trans (h.rowo g hg), ?_,fun g hg=> ?_,fun i hi=>((h.th i hi).within.chg hc7 (fun y h1 h2=>by rw[h1.1] at h2;omega)).mono (fun y hy=>(Q1k hy.2).trans hy.1)⟩,hc7⟩
 ·rcases e with rfl|e
  ·exact Q0o h.row h.blk (by decide) hg
  ·obtain ⟨cs,hb2⟩:=Q1r h.log e;exact Q0o h.row hb2 (by decide) hg
 ·exact (Chg.set1 w5 xb 5 _).own hO (Q0t hO hbl (by decide))
 ·have hgg:gg=g:=by simpa[Value.ownBlock] using hg
  subst hgg
  rcases hat with e|e
  ·exact (Q1k (Q0T h.log gg e)).trans (h.logo gg e)
  ·exact QcO e
end
theorem Qdb (F:Nat->Prop) (tb:Nat) (t:TH) (w:World) (h:ThP F tb t w):∃n:Int,∀w2,Below w.heap.size w w2->
  Calls Tryz.prog 217 #[.pointer (some ⟨tb,0,none⟩)] w2 fun e w'=>e=.returned (.int .i64 n)/\w2=w':=by
 obtain ⟨kind,key,val,fv,steps,took,no,h⟩:=h
 cases hb:t.busy with
 |false=>
  refine ⟨0,fun w2 hb2=> ?_⟩;have h:=h.below hb2;have c1:w2.cell? ⟨tb,1,none⟩=some (.bool t.busy):=h.blk.cell 1
  rw[hb] at c1
  clear h;go_enter Tryz.func217,Tryz.ntmps217;go_wp2_with (fail);go_ret;exact ⟨rfl,rfl⟩
 |true=>
  obtain ⟨fb,rfl,xv,tv,pv,sv,lv,rec,laid,hf⟩:=h.fr hb;refine ⟨laid,fun w2 hb2=> ?_⟩;have h:=h.below hb2;have hf:=hf.below hb2;have c1:w2.cell? ⟨tb,1,none⟩=some (.bool t.busy):=h.blk.cell 1;have c5:w2.cell? ⟨tb,5,none⟩=some (.pointer (some ⟨fb,0,none⟩)):=h.blk.cell 5;have d38:w2.cell? ⟨fb,38,none⟩=some (.int .i64 laid):=hf.blk.cell 38
  rw[hb] at c1
  clear h hf;go_enter Tryz.func217,Tryz.ntmps217;go_wp2_with (fail);go_ret;exact ⟨rfl,rfl⟩
theorem IxQ.ev {own:Nat->Nat} {xb bm:Nat} {tbs:List Nat} {s:IX} {a0 a1 a2 inv picks:Int} {tv lv:Value} {ln:Nat} {lxs:List Value} {w:World} (h:IxQ own xb bm tbs s a0 a1 a2 tv lv ln lxs inv picks w) (vs:List Value):
  Hid ((w.alloc (.cells vs.toArray 218)).drew.ownsRow 0 218 13 lv ln lxs/\(∀(j:Nat) (u:Value),vs[j]? =some u->(w.alloc (.cells vs.toArray 218)).drew.cell? ((⟨w.heap.size,0,none⟩:Addr).add j)=some u)/\
   ∀(n0 gg cap:Nat) (w5:World),w.heap.size<=n0->w5.ownsRow 0 218 13 (.slice (some ⟨gg,0,none⟩) (ln+1) cap) (ln+1) (lxs++vs)->(w.alloc (.cells vs.toArray 218)).drew.grownBy w5 lv.ownBlock->(lv.ownBlock=some gg\/n0<=gg)->
    Hid (w5.cell? ⟨xb,5,none⟩=some lv/\w5.frozen? ⟨xb,5,none⟩=false/\IxQ (Q9n own w.heap.size 1) xb bm tbs s a0 a1 a2 tv (.slice (some ⟨gg,0,none⟩) (ln+1) cap) (ln+1) (lxs++vs) inv picks (w5.setCell ⟨xb,5,none⟩ (.slice (some ⟨gg,0,none⟩) (ln+1) cap))/\Chg (fun y=>own y=1) w (w5.setCell ⟨xb,5,none⟩ (.slice (some ⟨gg,0,none⟩) (ln+1) cap)))):=by
 have hal:=(Below.refl w.heap.size w).alloc (Nat.le_refl _) (.cells vs.toArray 218);have hbl:=hal.trans (Q08 (Drawn.of (w.alloc (.cells vs.toArray 218)) 1) _);refine LH ⟨Q0n (Q0n h.log hal) (Q08 (Drawn.of _ 1) _),fun j u hu=> ?_,fun n0 gg cap w5 h0 hO hg hat=>h.app hbl hO hg (hat.imp id (fun e=>Nat.le_trans h0 e))⟩;have e:(⟨w.heap.size,0,none⟩:Addr).add j=⟨w.heap.size,j,none⟩:=by unfold Addr.add;split<;>simp_all
 rw[e]
 have:=(Blk.new w 218 vs.toArray).cell j;exact this.trans (by simpa using hu)
theorem IxPost.ev {own own1:Nat->Nat} {xb bm:Nat} {tbs:List Nat} {s:IX} {a0 a1 a2 inv picks:Int} {tv lv:Value} {ln k:Nat} {lxs:List Value} {w w1 w':World} (hc:Chg (fun y=>own y≠0) w w1) (hg:∀y,own1 y≠0->own y≠0\/w.heap.size<=y) (h:IxQ (Q9n own1 w1.heap.size 1) xb bm tbs s a0 a1 a2 tv lv ln lxs inv picks w') (hc2:Chg (fun y=>own1 y=1) w1 w') (hk:ln<=k):IxPost own xb bm tbs s k w w':=
 IxPost.on hc hg ⟨_,⟨_,_,_,_,_,_,_,_,_,h,hk⟩,hc2.mono (fun y hy=>by rw[hy];decide),fun y hy=>by
  by_cases e:y<w1.heap.size
  ·rw[Q1k e] at hy;exact .inl hy
  ·exact .inr (by omega)⟩
theorem Qeq {α:Type} (l:List α) (i:Nat) (d:α):l.set i (l.getD i d)=l:=by
 apply List.ext_getElem (by simp);intro j h1 h2;by_cases e:i=j
 ·subst e
  rw[List.getElem_set_self,List.getD_eq_getElem?_getD,List.getElem?_eq_getElem h2];rfl
 ·rw[List.getElem_set_ne e]
theorem IxQ.thread_ {own:Nat->Nat} {xb bm:Nat} {tbs:List Nat} {s:IX} {a0 a1 a2 inv picks:Int} {tv lv:Value} {ln:Nat} {lxs:List Value} {w w':World} (h:IxQ own xb bm tbs s a0 a1 a2 tv lv ln lxs inv picks w) {i:Nat} (hi:i<tbs.length) (m:Chg (fun y=>own y=3+i) w w') (ht:ThP (fun y=>own y=3+i) (tbs.getD i 0) (s.T.getD i TH.nil) w'):IxQ own xb bm tbs s a0 a1 a2 tv lv ln lxs inv picks w':=by
 have:=h.thread hi m ht
 rw[Qeq] at this
 exact this
def Qa1 (own:Nat->Nat) (xb bm:Nat) (tbs:List Nat) (s:IX) (k:Nat) (w:World) (v:Value) (wr:World):Prop:=∃i:Nat,i<=tbs.length/\v=.int .i64 i/\IxPost own xb bm tbs s (k+i) w wr
theorem Qck (own:Nat->Nat) (xb bm:Nat) (tbs:List Nat) (s:IX) (k:Nat) (w:World) (h:IxP own xb bm tbs s k w) (hC:s.C.length<=1000000) (hk:k<=1000000000) (hn:tbs.length<=64):
  Calls Tryz.prog 175 #[.pointer (some ⟨xb,0,none⟩)] w fun e w'=>e=.returned (.tuple #[])/\IxPost own xb bm tbs s (k+tbs.length) w w':=by
 obtain ⟨i0,hi0,hz0,hz1,hz2⟩:=info_parts Q3U;have HH:=LH h;clear h;go_enter Tryz.func175,Tryz.ntmps175;go_wp2_with (fail)
 go_loopw [2] (fun v wr=>Qa1 own xb bm tbs s k w v wr) (fun v _=>tbs.length-(intOf v).toNat)
 case atStart=>unfold Qa1;exact ⟨0,by omega,rfl,IxPost.refl HH.out⟩
 case round=>
  obtain ⟨i,hi,rfl,own1,⟨a0,a1,a2,tv,lv,ln,lxs,inv,picks,h,hk1⟩,hc,hg⟩:=hrel;by_cases hlt:i<tbs.length
  ·obtain ⟨g,cap,rfl,_,_⟩:=h.row.form (by omega);have e4:wr.cell? ⟨xb,4,none⟩=some (.slice (some ⟨g,0,none⟩) tbs.length cap):=h.blk.cell 4
   have eg:wr.cell? ⟨g,i,none⟩=some (Q2L (tbs.getD i 0)):=by
    rw[h.row.cellAt i (by simp;omega)]
    rw[List.getElem?_map,List.getElem?_eq_getElem hlt]
    simp[List.getD_eq_getElem?_getD,List.getElem?_eq_getElem hlt]
   have ht:=h.th i hlt;obtain ⟨n,hn0⟩:=Qdb _ _ _ wr ht;have HLD:Hid (∀m,Calls Tryz.prog 217 #[.pointer (some ⟨tbs.getD i 0,0,none⟩)] (wr.drewN m) fun e w'=>e=.returned (.int .i64 n)/\wr.drewN m=w'):=LH (fun m=>hn0 _ (Q08 (Drawn.of wr m) _));have HIX:Hid (∀m,IxPost own xb bm tbs s (k+(i+1)) w (wr.drewN m)):=LH (fun m=>IxPost.on hc hg ⟨own1,⟨a0,a1,a2,_,lv,ln,lxs,inv,picks,h.below (Q08 (Drawn.of wr m) _),by omega⟩,Chg.of_below (Q08 (Drawn.of wr m) _),fun y hy=>.inl hy⟩);obtain ⟨kind,key,val,fv,steps,took,no,hq⟩:=ht;have e1:wr.cell? ⟨tbs.getD i 0,1,none⟩=some (.bool (s.T.getD i TH.nil).busy):=hq.blk.cell 1;have e7:wr.cell? ⟨tbs.getD i 0,7,none⟩=some (.bool took):=hq.blk.cell 7;have HI:=LH h;have HQ:=LH hq;have HC:=LH hc;have HG:=LH hg;have hlt2:(i:Int)<tbs.length:=by omega
   clear h hq hc hg hn0;unfold Q2L at eg;generalize htb:tbs.getD i 0=tb at eg HLD e1 e7 HQ;have HTB:=LH htb;clear htb;generalize (s.T.getD i TH.nil).busy=bz at e1
   cases bz with
   |false=>
    go_wp2_with (fail)
    go_quiet (fail)
    go_wp2_with (fail)
    go_roundw
    case rel=>unfold Qa1;exact ⟨i+1,by omega,by go_num,HIX.out _⟩
    case measure=>simp[intOf];omega
   |true=>
    cases took with
    |true=>
     go_wp2_with (fail)
     go_quiet (fail)
     go_wp2_with (fail)
     go_roundw
     case rel=>unfold Qa1;exact ⟨i+1,by omega,by go_num,HIX.out _⟩
     case measure=>simp[intOf];omega
    |false=>
     by_cases hn1:0<n
     ·have hd1:decide (0<n)=true:=decide_eq_true hn1;have ebm:wr.cell? ⟨xb,3,none⟩=some (.pointer (some ⟨bm,0,none⟩)):=HI.out.blk.cell 3;have HAD:Hid (∀m,Calls Tryz.prog 140 #[.pointer (some ⟨bm,0,none⟩),.int .i64 (wrap64 (n+4))] (wr.drewN m) fun e w'=>e=.returned (.int .i64 (rdC s.C (wrap64 (n+4))))/\wr.drewN m=w'):=LH (fun m=>Q1s _ bm s.C s.max _ _ (HI.out.mem.below (Q08 (Drawn.of wr m) _)) hC);clear hn1;by_cases ha:rdC s.C (wrap64 (n+4))=1
      ·have hd2:(rdC s.C (wrap64 (n+4))==1)=true:=by rw[ha];rfl
       clear ha;generalize rdC s.C (wrap64 (n+4))=av at HAD hd2;go_wp2_with (fail)
       go_quiet ((first|(go_at_call 217;exact Q1D (HLD.out _))|(go_at_call 140;exact Q1D (HAD.out _))))
       have HI1:=LH (HI.out.below (Q08 (Drawn.of wr nq) _));have HQ1:=LH (HQ.out.below (Q08 (Drawn.of wr nq) _));have HC1:=LH (HC.out.trans (Chg.of_below (Q08 (Drawn.of wr nq) _)));have HZ1:Hid ((wr.drewN nq).heap.size=wr.heap.size):=LH rfl;clear HLD HAD HIX e1 e7 ebm eg e4;generalize wr.drewN nq=w1 at HI1 HQ1 HC1 HZ1|-;have f7:=HQ1.out.blk.frozen 7;have e7:w1.cell? ⟨tb,7,none⟩=some (.bool false):=HQ1.out.blk.cell 7;have e8:w1.cell? ⟨tb,8,none⟩=some (.int .i64 no):=HQ1.out.blk.cell 8;have hqs:=HQ1.out.set 7 (.bool true) (t':=s.T.getD i TH.nil) (fun h=>⟨h,rfl,rfl,rfl,rfl⟩) (kind':=kind) (key':=key) (val':=val) (steps':=steps) (took':=true) (no':=no) rfl;have hcs:=Chg.set1 w1 tb 7 (.bool true);have hi2:=HI1.out.thread_ hlt (hcs.mono (fun y hy=>hy▸HQ1.out.ft)) ⟨_,_,_,_,_,_,_,by rw[HTB.out];exact hqs⟩;have HI2:=LH hi2;have HC2:=LH (HC1.out.grow hcs (fun y hy=>HG.out y (by have:=HQ1.out.ft;rw[hy,this];omega)));have HS2:=LH (show (w1.setCell ⟨tb,7,none⟩ (.bool true)).heap.size=w1.heap.size by simp);have g8:(w1.setCell ⟨tb,7,none⟩ (.bool true)).cell? ⟨tb,8,none⟩=some (.int .i64 no):=hqs.blk.cell 8;have g5:(w1.setCell ⟨tb,7,none⟩ (.bool true)).cell? ⟨xb,5,none⟩=some lv:=hi2.blk.cell 5;have g7:(w1.setCell ⟨tb,7,none⟩ (.bool true)).cell? ⟨xb,7,none⟩=some (.int .i64 picks):=hi2.blk.cell 7;have h5:=hi2.blk.frozen 5;clear hi2 hqs hcs;go_wp2_with (fail);clear f7 e7 e8;generalize w1.setCell ⟨tb,7,none⟩ (.bool true)=w2 at HI2 HC2 HS2 g8 g5 g7 h5|-;obtain ⟨lA,lc,rfl⟩:=Q03 HI2.out.log;have EV:=HI2.out.ev [.int .i64 2,.int .i64 i,.int .i64 no,.int .i64 0,.int .i64 0,.int .i64 0,.int .i64 0,.bool false,.int .i64 0,.int .i64 0,.int .i64 0,.slice none 0 0,.int .i64 picks];have n1:=World.new_ne w2 ⟨xb,5,none⟩ g5;have hbl1:xb<w2.heap.size:=HI2.out.blk.lt
       go_region_law (first|(refine step_append_lies _ (by rfl) _ _ _ (by rfl) 0 218 i0 _ 13 120 Tryz.underlying88 hi0 hz0 hz1 hz2 rfl (by omega) (.slice lA ln lc) ln lxs (by rfl) EV.out.1 ⟨w2.heap.size,0,none⟩ 1 1 [.int .i64 2,.int .i64 i,.int .i64 no,.int .i64 0,.int .i64 0,.int .i64 0,.int .i64 0,.bool false,.int .i64 0,.int .i64 0,.int .i64 0,.slice none 0 0,.int .i64 picks] (by rfl) (by rfl) EV.out.2.1 (by simp[Value.oneCell']) (by omega) (by unfold maxLen;omega) (by omega) (by omega) (w2.heap.size+1) (by simp) ?_;intro gg cap2 w5 hO5 hg5 hat hlt5;have K5:=EV.out.2.2 w2.heap.size gg cap2 w5 (Nat.le_refl _) hO5 hg5 (hat.imp id (fun e=>by omega));have c5:=K5.out.1;have f5:=K5.out.2.1;clear hO5 hg5 hat hlt5))
       all_goals
        have HFIN:=LH (IxPost.ev (k:=k+(i+1)) HC2.out HG.out K5.out.2.2.1 K5.out.2.2.2 (by omega));clear K5 c5 f5 EV g5 g7 g8 h5;go_wp2_with (fail)
        go_roundw
        case rel=>unfold Qa1;exact ⟨i+1,by omega,by go_num,HFIN.out⟩
        case measure=>simp[intOf];omega
      ·have hd2:(rdC s.C (wrap64 (n+4))==1)=false:=by simpa using ha
       clear ha;generalize rdC s.C (wrap64 (n+4))=av at HAD hd2;go_wp2_with (fail)
       go_quiet ((first|(go_at_call 217;exact Q1D (HLD.out _))|(go_at_call 140;exact Q1D (HAD.out _))))
       go_wp2_with (fail)
       go_roundw
       case rel=>unfold Qa1;exact ⟨i+1,by omega,by go_num,HIX.out _⟩
       case measure=>simp[intOf];omega
     ·have hd1:decide (0<n)=false:=decide_eq_false hn1;clear hn1;go_wp2_with (fail)
      go_quiet ((go_at_call 217;exact Q1D (HLD.out _)))
      go_wp2_with (fail)
      go_roundw
      case rel=>unfold Qa1;exact ⟨i+1,by omega,by go_num,HIX.out _⟩
      case measure=>simp[intOf];omega
  ·have hi2:i=tbs.length:=by omega
   subst hi2;have e4:wr.cell? ⟨xb,4,none⟩=some tv:=h.blk.cell 4;have hown:=h.row;obtain ⟨A,cap,rfl⟩:=Q03 hown;have HIX:Hid (IxPost own xb bm tbs s (k+tbs.length) w wr):=LH (IxPost.on hc hg (IxPost.refl ⟨a0,a1,a2,_,lv,ln,lxs,inv,picks,h,by omega⟩));clear h hc hg hown hlt;go_wp2_with (fail)
   go_end0
   exact ⟨rfl,HIX.out⟩
theorem IxQ.step {own:Nat->Nat} {xb bm:Nat} {tbs:List Nat} {s:IX} {a0 a1 a2 inv picks:Int} {tv lv:Value} {ln:Nat} {lxs:List Value} {w w':World} {F' Fm':Nat->Prop} {t':TH} {C':List Int} (h:IxQ own xb bm tbs s a0 a1 a2 tv lv ln lxs inv picks w) {i:Nat} (hi:i<tbs.length)
  (n0:Nat) (hn0:w.heap.size<=n0) (ht:ThP F' (tbs.getD i 0) t' w') (hm:M7 Fm' bm C' s.max w') (hd:∀y,F' y->Fm' y->False) (hF:∀y,F' y->(own y=3+i/\y<w.heap.size)\/n0<=y) (hFm:∀y,Fm' y->(own y=2/\y<w.heap.size)\/n0<=y) (hc:Chg (fun y=>own y=3+i\/own y=2) w w'):
  ∃own',(∀y,own' y≠0->own y≠0\/w.heap.size<=y)/\IxQ own' xb bm tbs {s with C:=C',T:=s.T.set i t'} a0 a1 a2 tv lv ln lxs inv picks w'/\∀y,w.heap.size<=y->y<n0->own' y=0:=by
 classical
 have hlt:∀y,y<w.heap.size->(if y<w.heap.size then own y else if y<n0 then 0 else if F' y then 3+i else if Fm' y then 2 else 0)=own y:=fun y hy=>if_pos hy;have hge:∀y,n0<=y->(if y<w.heap.size then own y else if y<n0 then 0 else if F' y then 3+i else if Fm' y then 2 else 0)=(if F' y then 3+i else if Fm' y then 2 else 0):=fun y hy=>by rw[if_neg (by omega),if_neg (by omega)]
 refine ⟨fun y=>if y<w.heap.size then own y else if y<n0 then 0 else if F' y then 3+i else if Fm' y then 2 else 0,fun y hy=> ?_,⟨(hlt _ h.blk.lt).trans h.ox,hc.blk h.blk (fun e=>by rw[h.ox] at e;omega),hm.mono (fun y hy=> ?_),by rw[h.len];simp,hc.own h.row (fun g hg e=>by rw[h.rowo g hg] at e;omega),fun g hg=>(hlt g (Q0T h.row g hg)).trans (h.rowo g hg),hc.own h.log (fun g hg e=>by rw[h.logo g hg] at e;omega),fun g hg=>(hlt g (Q0T h.log g hg)).trans (h.logo g hg),fun j hj=> ?_⟩,fun y h1 h2=>by simp only;rw[if_neg (by omega),if_pos h2]⟩
 ·by_cases e:y<w.heap.size
  ·simp only at hy;rw[hlt y e] at hy;exact .inl hy
  ·exact .inr (by omega)
 ·show (if y<w.heap.size then own y else if y<n0 then 0 else if F' y then 3+i else if Fm' y then 2 else 0)=2
  rcases hFm y hy with e|e
  ·rw[hlt y e.2];exact e.1
  ·rw[hge y e,if_neg (fun hf=>hd y hf hy),if_pos hy]
 ·by_cases hij:j=i
  ·subst hij;have:(s.T.set j t').getD j TH.nil=t':=by rw[List.getD_eq_getElem?_getD,List.getElem?_set_self (by rw[<-h.len];exact hi)];rfl
   show ThP _ _ ((s.T.set j t').getD j TH.nil) _
   rw[this]
   refine ht.mono (fun y hy=> ?_);show (if y<w.heap.size then own y else if y<n0 then 0 else if F' y then 3+j else if Fm' y then 2 else 0)=3+j
   rcases hF y hy with e|e
   ·rw[hlt y e.2];exact e.1
   ·rw[hge y e,if_pos hy]
  ·have:(s.T.set i t').getD j TH.nil=s.T.getD j TH.nil:=by rw[List.getD_eq_getElem?_getD,List.getElem?_set_ne (by omega),List.getD_eq_getElem?_getD]
   show ThP _ _ ((s.T.set i t').getD j TH.nil) _
   rw[this]
   exact ((h.th j hj).within.chg hc (fun y h1 h2=>by rw[h1.1] at h2;omega)).mono (fun y hy=>(hlt y hy.2).trans hy.1)
theorem IxQ.ev3 {own:Nat->Nat} {xb bm:Nat} {tbs:List Nat} {s:IX} {a0 a1 a2 inv picks:Int} {tv lv:Value} {ln:Nat} {lxs:List Value} {w:World} (h:IxQ own xb bm tbs s a0 a1 a2 tv lv ln lxs inv picks w) (vs:List Value):
  Hid ((w.alloc (.cells vs.toArray 218)).drew.ownsRow 0 218 13 lv ln lxs/\(∀(j:Nat) (u:Value),vs[j]? =some u->(w.alloc (.cells vs.toArray 218)).drew.cell? ((⟨w.heap.size,0,none⟩:Addr).add j)=some u)/\
   ∀(n0 gg cap:Nat) (w5:World),w.heap.size<=n0->w5.ownsRow 0 218 13 (.slice (some ⟨gg,0,none⟩) (ln+1) cap) (ln+1) (lxs++vs)->(w.alloc (.cells vs.toArray 218)).drew.grownBy w5 lv.ownBlock->(lv.ownBlock=some gg\/n0<=gg)->
    Hid (w5.cell? ⟨xb,5,none⟩=some lv/\w5.frozen? ⟨xb,5,none⟩=false/\IxQ (Q9n own w.heap.size 1) xb bm tbs s a0 a1 a2 tv (.slice (some ⟨gg,0,none⟩) (ln+1) cap) (ln+1) (lxs++vs) inv picks (w5.setCell ⟨xb,5,none⟩ (.slice (some ⟨gg,0,none⟩) (ln+1) cap))/\Chg (fun y=>own y=1) w (w5.setCell ⟨xb,5,none⟩ (.slice (some ⟨gg,0,none⟩) (ln+1) cap))/\Chg (fun y=>lv.ownBlock=some y) w w5)):=by
 have hal:=(Below.refl w.heap.size w).alloc (Nat.le_refl _) (.cells vs.toArray 218);have hbl:=hal.trans (Q08 (Drawn.of (w.alloc (.cells vs.toArray 218)) 1) _);refine LH ⟨Q0n (Q0n h.log hal) (Q08 (Drawn.of _ 1) _),fun j u hu=> ?_,fun n0 gg cap w5 h0 hO hg hat=>let r:=(h.app hbl hO hg (hat.imp id (fun e=>Nat.le_trans h0 e))).out;LH ⟨r.1,r.2.1,r.2.2.1,r.2.2.2,(Chg.of_below hbl).trans (Chg.of_grown hg)⟩⟩;have e:(⟨w.heap.size,0,none⟩:Addr).add j=⟨w.heap.size,j,none⟩:=by unfold Addr.add;split<;>simp_all
 rw[e]
 have:=(Blk.new w 218 vs.toArray).cell j;exact this.trans (by simpa using hu)
def IX.pick (N:Nat) (s:IX) (i:Nat):IX:=
 if (s.T.getD i TH.nil).busy=true then {s with C:=((s.T.getD i TH.nil).step N s.max s.C).2,T:=s.T.set i ((s.T.getD i TH.nil).step N s.max s.C).1} else s
def IX.ends (N:Nat) (s:IX) (i:Nat):Bool:=(s.T.getD i TH.nil).busy&& !((s.T.getD i TH.nil).step N s.max s.C).1.busy
structure IX.Ok (N m:Nat) (s:IX):Prop where
 cb:CB s.C
 fit:(s.C.length:Int)<=s.max
 max:s.max<=65536
 thr:∀t∈s.T,t.busy=true->t.Ok N m
 bud:∀t∈s.T,1<=t.budget/\t.budget<=64
theorem Q2G {α:Type} {l:List α} {i:Nat} {d:α} (h:i<l.length):l.getD i d∈l:=by
 rw[List.getD_eq_getElem?_getD,List.getElem?_eq_getElem h];exact List.getElem_mem _
theorem Q9t (N:Nat) (max:Int) (C:List Int) (t:TH):(t.step N max C).1.budget=t.budget:=by
 unfold TH.step
 split<;>rfl
theorem TH.Ok.le {N m m':Nat} {t:TH} (h:t.Ok N m) (hm:m<=m'):t.Ok N m':=⟨h.play,h.ok,h.tape,Nat.le_trans h.len hm,h.done⟩
theorem IX.Ok.pick {N m:Nat} {s:IX} (h:s.Ok N m) {i:Nat} (hi:i<s.T.length):(s.pick N i).Ok N (m+1):=by
 unfold IX.pick
 split
 ·rename_i hb;have ht:=h.thr _ (Q2G (d:=TH.nil) hi) hb;obtain ⟨h1,h2,_⟩:=TH.step_cells ht h.cb h.fit h.max;refine ⟨h1,h2,h.max,fun t hm hb2=> ?_,fun t hm=> ?_⟩
  ·rcases List.mem_or_eq_of_mem_set hm with hm|hm
   ·exact (h.thr t hm hb2).le (by omega)
   ·subst hm;exact ht.step h.cb h.fit h.max hb2
  ·rcases List.mem_or_eq_of_mem_set hm with hm|hm
   ·exact h.bud t hm
   ·subst hm;rw[Q9t];exact h.bud _ (Q2G hi)
 ·exact ⟨h.cb,h.fit,h.max,fun t hm hb=>(h.thr t hm hb).le (by omega),h.bud⟩
theorem IX.pick_len (N:Nat) (s:IX) (i:Nat):(s.pick N i).T.length=s.T.length:=by unfold IX.pick;split<;>simp
theorem IX.pick_max (N:Nat) (s:IX) (i:Nat):(s.pick N i).max=s.max:=by unfold IX.pick;split<;>rfl
def Q85 (own:Nat->Nat) (xb bm:Nat) (tbs:List Nat) (s:IX) (k:Nat) (b:Bool) (w:World) (e:Ending) (w':World):Prop:=(∃rv,e=.returned (.tuple #[rv,.bool b])/\Qh3 rv)/\IxPost own xb bm tbs s k w w'
theorem Q9B (own:Nat->Nat) (xb bm:Nat) (tbs:List Nat) (s:IX) (k:Nat) (i:Nat) (w:World) (h:IxP own xb bm tbs s k w) (hi:i<tbs.length) (hb:(s.T.getD i TH.nil).busy=false):
  Calls Tryz.prog 114 #[.pointer (some ⟨xb,0,none⟩),.int .i64 i] w (Q85 own xb bm tbs s k false w):=by
 obtain ⟨a0,a1,a2,tv,lv,ln,lxs,inv,picks,h,hk⟩:=h;have hba:=((Below.refl w.heap.size w).alloc (Nat.le_refl _) (.cells rZ 54));have h1:=h.below hba;obtain ⟨g,cap,rfl,_,_⟩:=h.row.form (by omega);have e4:(w.alloc (.cells rZ 54)).cell? ⟨xb,4,none⟩=some (.slice (some ⟨g,0,none⟩) tbs.length cap):=h1.blk.cell 4
 have eg:(w.alloc (.cells rZ 54)).cell? ⟨g,i,none⟩=some (Q2L (tbs.getD i 0)):=by
  rw[h1.row.cellAt i (by simp;omega)]
  rw[List.getElem?_map,List.getElem?_eq_getElem hi]
  simp[List.getD_eq_getElem?_getD,List.getElem?_eq_getElem hi]
 obtain ⟨kind,key,val,fv,steps,took,no,hq⟩:=h1.th i hi;have e1:(w.alloc (.cells rZ 54)).cell? ⟨tbs.getD i 0,1,none⟩=some (.bool (s.T.getD i TH.nil).busy):=hq.blk.cell 1
 rw[hb] at e1
 have hi2:(i:Int)<tbs.length:=by omega
 have HH:Hid (IxPost own xb bm tbs s k w (w.alloc (.cells rZ 54))):=LH ⟨own,⟨_,_,_,_,_,_,_,_,_,h1,hk⟩,Chg.of_below hba,fun y hy=>.inl hy⟩;clear h h1 hba hq;unfold Q2L at eg;generalize tbs.getD i 0=tb at eg e1;go_enter Tryz.func114,Tryz.ntmps114;go_wp2_with (fail);refine bodyPost_ret (v:=.tuple #[.agg rZ,.bool false]) (Q1v rfl _ _ _ w.heap.size 54 _ (0,0) _ rfl rfl (Blk.new w _ _) Tryz.underlying54 rfl (by kernel_rfl)) rfl ?_;exact ⟨⟨_,rfl,_,_,_,_,_,_,_,_,rfl⟩,HH.out⟩
def Qhb (own:Nat->Nat) (xb bm:Nat) (tbs:List Nat) (s:IX) (a0 a1 a2:Int) (tv lv:Value) (ln:Nat) (lxs:List Value) (inv picks:Int) (w2 w2' w3:World):Prop:=
 (∃own',(∀y,own' y≠0->own y≠0\/w2.heap.size<=y)/\IxQ own' xb bm tbs s a0 a1 a2 tv lv ln lxs inv picks w3/\Chg (fun y=>own y≠0) w2 w3/\∀y,w2.heap.size<=y->y<w2'.heap.size->own' y=0)/\(Blk w2' w2.heap.size 54 Qe7->Blk w3 w2.heap.size 54 Qe7)
def Qgk (own:Nat->Nat) (xb bm:Nat) (tbs:List Nat) (s:IX) (a0 a1 a2:Int) (tv lv:Value) (ln:Nat) (lxs:List Value) (inv picks:Int) (w2:World) (b:Bool) (v6 v7:Value) (w3:World):Prop:=
 ∃(rbk:Nat) (ra:Int) (rb:Bool) (rc rd rn:Int) (rA:Option Addr) (rl rk:Nat),v6=.pointer (some ⟨rbk,0,none⟩)/\v7=.bool b/\w2.heap.size<=rbk/\Blk w3 rbk 54 #[.int .i64 ra,.bool rb,.int .i64 rc,.int .i64 rd,.int .i64 rn,.slice rA rl rk]/\
 ∃own',(∀y,own' y≠0->own y≠0\/w2.heap.size<=y)/\IxQ own' xb bm tbs s a0 a1 a2 tv lv ln lxs inv picks w3/\Chg (fun y=>own y≠0) w2 w3/\own' rbk=0
theorem QcM {own:Nat->Nat} {xb bm:Nat} {tbs:List Nat} {s:IX} {a0 a1 a2:Int} {tv lv:Value} {ln:Nat} {lxs:List Value} {inv picks:Int} {w2 w3:World} {n0:Nat} (h:∃own',(∀y,own' y≠0->own y≠0\/w2.heap.size<=y)/\IxQ own' xb bm tbs s a0 a1 a2 tv lv ln lxs inv picks w3/\Chg (fun y=>own y≠0) w2 w3/\∀y,w2.heap.size<=y->y<n0->own' y=0) (b:Bool) (ra:Int) (rb:Bool) (rc rd rn:Int) (rA:Option Addr) (rl rk:Nat):
  Qgk own xb bm tbs s a0 a1 a2 tv lv ln lxs inv picks w2 b (.pointer (some ⟨w3.heap.size,0,none⟩)) (.bool b) (w3.alloc (.cells #[.int .i64 ra,.bool rb,.int .i64 rc,.int .i64 rd,.int .i64 rn,.slice rA rl rk] 54)):=by
 obtain ⟨own',hg',hq',hc',hz'⟩:=h;refine ⟨w3.heap.size,ra,rb,rc,rd,rn,rA,rl,rk,rfl,rfl,hc'.size,Blk.new w3 _ _,fun y=>if y=w3.heap.size then 0 else own' y,fun y hy=> ?_, ?_,hc'.trans (Chg.of_below ((Below.refl _ _).alloc (Nat.le_refl _) _)),if_pos rfl⟩
 ·by_cases e:y=w3.heap.size
  ·simp[e] at hy
  ·simp only[if_neg e] at hy;exact hg' y hy
 ·exact (hq'.reown (fun y hy=>if_neg (by omega))).below ((Below.refl _ _).alloc (Nat.le_refl _) _)
theorem QcL {own:Nat->Nat} {xb bm:Nat} {tbs:List Nat} {s:IX} {a0 a1 a2:Int} {tv lv:Value} {ln:Nat} {lxs:List Value} {inv picks:Int} {w2 w3:World} {n0:Nat} (h:∃own',(∀y,own' y≠0->own y≠0\/w2.heap.size<=y)/\IxQ own' xb bm tbs s a0 a1 a2 tv lv ln lxs inv picks w3/\Chg (fun y=>own y≠0) w2 w3/\∀y,w2.heap.size<=y->y<n0->own' y=0) (h0:w2.heap.size<n0) (hb:Blk w3 w2.heap.size 54 Qe7) (b:Bool) (ra:Int) (rb:Bool) (rc rd rn:Int) (rA:Option Addr) (rl rk:Nat):
  Qgk own xb bm tbs s a0 a1 a2 tv lv ln lxs inv picks w2 b (.pointer (some ⟨w2.heap.size,0,none⟩)) (.bool b) ((((((w3.setCell ⟨w2.heap.size,0,none⟩ (.int .i64 ra)).setCell ⟨w2.heap.size,1,none⟩ (.bool rb)).setCell ⟨w2.heap.size,2,none⟩ (.int .i64 rc)).setCell ⟨w2.heap.size,3,none⟩ (.int .i64 rd)).setCell ⟨w2.heap.size,4,none⟩ (.int .i64 rn)).setCell ⟨w2.heap.size,5,none⟩ (.slice rA rl rk)):=by
 obtain ⟨own',hg',hq',hc',hz'⟩:=h;have hm:=Chg.setCells w2.heap.size [.int .i64 ra,.bool rb,.int .i64 rc,.int .i64 rd,.int .i64 rn,.slice rA rl rk] 0 w3;have hbb:=Blk.setCells [.int .i64 ra,.bool rb,.int .i64 rc,.int .i64 rd,.int .i64 rn,.slice rA rl rk] 0 _ _ hb;have hz:=hz' _ (Nat.le_refl _) h0;refine ⟨w2.heap.size,ra,rb,rc,rd,rn,rA,rl,rk,rfl,rfl,Nat.le_refl _,hbb,own',hg',hq'.chg hm (fun y h1 h2=>h1 (by rw[h2];exact hz)),hc'.grow hm (fun y hy=>.inr (by omega)),hz⟩
theorem Qbj (N m:Nat) (own:Nat->Nat) (xb bm:Nat) (tbs:List Nat) (s:IX) (k:Nat) (i:Nat) (w:World) (h:IxP own xb bm tbs s k w) (hzero:∀y,w.heap.size<=y->own y=0) (hi:i<tbs.length) (hb:(s.T.getD i TH.nil).busy=true) (ok:s.Ok N m) (hmN:m+2<N) (hmm:m<=1000000) (hk0:k<=900000000) (hn:tbs.length<=64):
  Calls Tryz.prog 114 #[.pointer (some ⟨xb,0,none⟩),.int .i64 i] w (Q85 own xb bm tbs (s.pick N i) (k+tbs.length+1) (s.ends N i) w):=by
 obtain ⟨i0,hi0,hz0,hz1,hz2⟩:=info_parts Q3U;obtain ⟨a0,a1,a2,tv,lv,ln,lxs,inv,picks,h,hk⟩:=h;have hba:=((Below.refl w.heap.size w).alloc (Nat.le_refl _) (.cells rZ 54));have h1:=h.below hba;obtain ⟨g,cap,rfl,_,_⟩:=h.row.form (by omega);have e4:(w.alloc (.cells rZ 54)).cell? ⟨xb,4,none⟩=some (.slice (some ⟨g,0,none⟩) tbs.length cap):=h1.blk.cell 4;have e7:(w.alloc (.cells rZ 54)).cell? ⟨xb,7,none⟩=some (.int .i64 picks):=h1.blk.cell 7;have f7:=h1.blk.frozen 7
 have eg:(w.alloc (.cells rZ 54)).cell? ⟨g,i,none⟩=some (Q2L (tbs.getD i 0)):=by
  rw[h1.row.cellAt i (by simp;omega)]
  rw[List.getElem?_map,List.getElem?_eq_getElem hi]
  simp[List.getD_eq_getElem?_getD,List.getElem?_eq_getElem hi]
 obtain ⟨kind,key,val,fv,steps,took,no,hq⟩:=h1.th i hi;have e1:(w.alloc (.cells rZ 54)).cell? ⟨tbs.getD i 0,1,none⟩=some (.bool (s.T.getD i TH.nil).busy):=hq.blk.cell 1
 rw[hb] at e1
 have hi2:(i:Int)<tbs.length:=by omega
 have h2:=h1.set 7 (.int .i64 (wrap64 (picks+1))) (inv':=inv) (picks':=wrap64 (picks+1)) rfl;have hc2:=(Chg.of_below hba).trans ((Chg.set1 (w.alloc (.cells rZ 54)) xb 7 (.int .i64 (wrap64 (picks+1)))).mono (G:=fun y=>own y≠0) (fun y hy=>by rw[hy,h.ox];decide));have hox:=hzero w.heap.size (Nat.le_refl _);have HZERO:=LH hox;have hrb:Blk ((w.alloc (.cells rZ 54)).setCell ⟨xb,7,none⟩ (.int .i64 (wrap64 (picks+1)))) w.heap.size 54 Qe7:=(Chg.set1 (w.alloc (.cells rZ 54)) xb 7 (.int .i64 (wrap64 (picks+1)))).blk (Blk.new w _ _) (by have:=h.blk.lt;omega);have hsz:w.heap.size<((w.alloc (.cells rZ 54)).setCell ⟨xb,7,none⟩ (.int .i64 (wrap64 (picks+1)))).heap.size:=hrb.lt;have hil:i<s.T.length:=by rw[<-h.len];exact hi
 have htok:=ok.thr _ (Q2G (d:=TH.nil) hil) hb;have HW2:=LH h2;have HC2:=LH hc2;have HRB:=LH hrb;have HOK:=LH ok;have HTOK:=LH htok;have HBUSY:=LH hb;have HSZ:=LH hsz;clear h h1 hba hq h2 hc2 hrb ok htok hb hsz hox hil;unfold Q2L at eg;generalize htb:tbs.getD i 0=tb at eg e1;have HTB:=LH htb;clear htb;go_enter Tryz.func114,Tryz.ntmps114;go_wp2_with (fail);clear e4 e7 f7 eg e1;generalize ((w.alloc (.cells rZ 54)).setCell ⟨xb,7,none⟩ (.int .i64 (wrap64 (picks+1))))=w2 at HW2 HC2 HRB HSZ|-;have e4:w2.cell? ⟨xb,4,none⟩=some (.slice (some ⟨g,0,none⟩) tbs.length cap):=HW2.out.blk.cell 4;have e3:w2.cell? ⟨xb,3,none⟩=some (.pointer (some ⟨bm,0,none⟩)):=HW2.out.blk.cell 3
 have eg:w2.cell? ⟨g,i,none⟩=some (.pointer (some ⟨tb,0,none⟩)):=by
  rw[HW2.out.row.cellAt i (by simp;omega)]
  rw[List.getElem?_map,List.getElem?_eq_getElem hi,<-HTB.out]
  simp[Q2L,List.getD_eq_getElem?_getD,List.getElem?_eq_getElem hi]
 have STEPW:Hid (∀w2',Below w2.heap.size w2 w2'->Calls Tryz.prog 174 #[.pointer (some ⟨tb,0,none⟩),.pointer (some ⟨bm,0,none⟩)] w2' (fun e w3=>(∃rv,e=.returned (.tuple #[rv,.bool (s.ends N i)])/\Qh3 rv)/\Qhb own xb bm tbs (s.pick N i) a0 a1 a2 (.slice (some ⟨g,0,none⟩) tbs.length cap) lv ln lxs inv (wrap64 (picks+1)) w2 w2' w3)):=LH (fun w2' hb2=>by
  have h1:=(HW2.out.th i hi).within.below hb2;have h2:=HW2.out.mem.within.below hb2
  rw[HTB.out] at h1
  refine (QaW N m _ _ tb bm _ _ _ _ h1 h2 (fun y h1 h2=>by have:=h1.1;have:=h2.1;omega) HBUSY.out HTOK.out hmN hmm HOK.out.cb HOK.out.fit HOK.out.max).mono fun e w3 hp=> ?_;obtain ⟨⟨rv,rfl,hrv⟩,F',Fm',hth,hmm3,hd3,hF3,hFm3,hc3⟩:=hp;have hz:=hb2.size;refine ⟨⟨rv, ?_,hrv⟩, ?_,fun hbk=>hc3.blk hbk (fun e=>by rcases e with e|e<;>exact Nat.lt_irrefl _ e.2)⟩
  ·unfold IX.ends;rw[HBUSY.out];rfl
  ·have hcc:Chg (fun y=>own y=3+i\/own y=2) w2 w3:=(Chg.of_below hb2).grow hc3 (fun y hy=>.inl (hy.imp (fun h=>h.1) (fun h=>h.1)));obtain ⟨own',hg',hq',hz'⟩:=HW2.out.step hi w2'.heap.size hz (by rw[HTB.out];exact hth) hmm3 hd3 hF3 hFm3 hcc;refine ⟨own',hg', ?_,hcc.mono (fun y hy=>by rcases hy with hy|hy<;>rw[hy]<;>omega),hz'⟩;unfold IX.pick
   rw[if_pos HBUSY.out]
   exact hq')
 have n1:=World.new_ne w2 ⟨xb,3,none⟩ e3;have n2:=World.new_ne w2 ⟨g,i,none⟩ eg;have hbx:xb<w2.heap.size:=HW2.out.blk.lt;have hbg:g<w2.heap.size:=World.block_lt_of_cell? w2 _ eg;have HB1:Hid (Below w2.heap.size w2 w2.drew):=LH (Q08 (Drawn.of w2 1) _);have HB2:Hid (Below w2.heap.size w2 (w2.alloc (.cells rZ 54)).drew):=LH (((Below.refl w2.heap.size w2).alloc (Nat.le_refl _) _).trans (Q08 (Drawn.of _ 1) _));have HBZ:Hid (Blk (w2.alloc (.cells rZ 54)).drew w2.heap.size 54 Qe7):=LH ((Blk.new w2 54 Qe7).below (B:=(w2.alloc (.cells Qe7 54)).heap.size) (Q08 (Drawn.of _ 1) _) (Blk.new w2 54 Qe7).lt)
 go_cut [6,7] from 8 to 54 (fun v6 v7 wx=>Qgk own xb bm tbs (s.pick N i) a0 a1 a2 (.slice (some ⟨g,0,none⟩) tbs.length cap) lv ln lxs inv (wrap64 (picks+1)) w2 (s.ends N i) v6 v7 wx)
 case first=>
  go_region_law ((go_simp;go_at_call 174;(first|((with_reducible refine (STEPW.out _ HB1.out).mono ?_);rintro e w3 ⟨⟨rv,rfl,ra,rb,rc,rd,rn,rA,rl,rk,rfl⟩,hpk⟩;have HPK:=LH hpk.1;clear hpk)|((with_reducible refine (STEPW.out _ HB2.out).mono ?_);rintro e w3 ⟨⟨rv,rfl,ra,rb,rc,rd,rn,rA,rl,rk,rfl⟩,hpk⟩;have HPK:=LH hpk.1;have HRR:=hpk.2 HBZ.out;clear hpk;have q0:w3.cell? ⟨w2.heap.size,0,none⟩=some (.int .i64 0):=HRR.cell 0;have q1:w3.cell? ⟨w2.heap.size,1,none⟩=some (.bool false):=HRR.cell 1;have q2:w3.cell? ⟨w2.heap.size,2,none⟩=some (.int .i64 0):=HRR.cell 2;have q3:w3.cell? ⟨w2.heap.size,3,none⟩=some (.int .i64 0):=HRR.cell 3;have q4:w3.cell? ⟨w2.heap.size,4,none⟩=some (.int .i64 0):=HRR.cell 4;have q5:w3.cell? ⟨w2.heap.size,5,none⟩=some (.slice none 0 0):=HRR.cell 5;have r0:=HRR.frozen 0;have r1:=HRR.frozen 1;have r2:=HRR.frozen 2;have r3:=HRR.frozen 3;have r4:=HRR.frozen 4;have r5:=HRR.frozen 5))))
  all_goals
   go_wp2_with (fail)
   go_meet
   first
    |exact QcM HPK.out _ _ _ _ _ _ _ _ _
    |exact QcL HPK.out (by simp) HRR _ _ _ _ _ _ _ _ _
 case rest=>
  obtain ⟨rbk,ra,rb,rc,rd,rn,rA,rl,rk,rfl,rfl,hrk,hbk,own1,hg1,hq1,hc1,hz1⟩:=hcut;have hne1:own w.heap.size≠0->False:=fun h=>h HZERO.out
  have hn0:own1 w.heap.size≠0->False:=fun h=>by
   rcases hg1 _ h with h1|h1
   ·exact hne1 h1
   ·have:=HSZ.out;omega
  have hT:=hc1.blk HRB.out hne1;have HC3:=LH ((HC2.out.trans hc1));have hpk:=HOK.out.pick (i:=i) (by have:=HW2.out.len;omega);have hfit:(s.pick N i).C.length<=1000000:=by have h1:=hpk.fit;have h2:=hpk.max;omega
  have hne3:w.heap.size≠rbk:=by have:=HSZ.out;omega
  have hip:IxP own1 xb bm tbs (s.pick N i) k wc:=⟨_,_,_,_,_,_,_,_,_,hq1,hk⟩;clear hpk e4 e3 eg STEPW n1 n2 HB1 HB2 HBZ HRB;go_wp2_with (fail);with_reducible refine (Qck own1 xb bm tbs (s.pick N i) k _ hip hfit (by omega) hn).mono ?_
  rintro e w4 ⟨rfl,own2,⟨b0,b1,b2,tv2,lv2,ln2,lxs2,inv2,picks2,h4,hk4⟩,hc4,hg4⟩;have HT4:=LH (hc4.blk hT hn0);have HR4:=LH (hc4.blk hbk (fun h=>h hz1))
  have hg24:∀y,own2 y≠0->own y≠0\/w.heap.size<=y:=fun y hy=>by
   rcases hg4 y hy with h1|h1
   ·rcases hg1 y h1 with h2|h2
    ·exact .inl h2
    ·exact .inr (by have:=HSZ.out;omega)
   ·exact .inr (by have:=HC3.out.size;omega)
  have hc24:Chg (fun y=>own y≠0) w w4:=HC3.out.grow hc4 (fun y hy=>by
   rcases hg1 y hy with h2|h2
   ·exact .inl h2
   ·exact .inr (by have:=HSZ.out;omega))
  have hn2:own2 w.heap.size≠0->False:=fun h=>by
   rcases hg4 _ h with h1|h1
   ·exact hn0 h1
   ·have:=hT.lt;omega
  have hn2r:own2 rbk≠0->False:=fun h=>by
   rcases hg4 _ h with h1|h1
   ·exact h1 hz1
   ·have:=hbk.lt;omega
  have H4:=LH h4;have HG24:=LH hg24;have HC24:=LH hc24;have HN2:=LH hn2;have HN2R:=LH hn2r;clear hT hbk hq1 hc1 hz1 hc4 hg4 h4 hg1 hn0 hne1 hfit hg24 hc24 hn2 hn2r;obtain ⟨en,hen⟩:∃en,s.ends N i=en:=⟨_,rfl⟩
  rw[hen]
  have HEN:=LH hen;clear hen
  cases en with
  |false=>
   go_wp2_with (first|((with_reducible refine (show wpList _ _ _ ((Oper.mk none (.store _ (.tmp 4) _) _ _ _ _)::_) _ _ from ?_));refine wpList_store_row rfl 54 (.tmp 4) (.tmp 59) rfl w.heap.size rZ rfl rfl _ _ HT4.out (by kernel_rfl) rfl (by simp[Value.oneCell']) ?_));refine bodyPost_ret (v:=.tuple #[.agg rZ,.bool false]) (Q1v rfl _ _ _ w.heap.size 54 _ (0,0) _ rfl rfl (HT4.out.setRow _) Tryz.underlying54 rfl (by kernel_rfl)) rfl ?_;have hcr:Chg (fun y=>y=w.heap.size) w4 (w4.setRow w.heap.size rZ):=Chg.setRow _ _ _
   rw[HEN.out]
   refine ⟨⟨_,rfl,_,_,_,_,_,_,_,_,rfl⟩,own2,⟨_,_,_,_,_,_,_,_,_,H4.out.chg hcr (fun y h1 h2=>HN2.out (h2▸h1)),by omega⟩,HC24.out.grow hcr (fun y hy=>.inr (by omega)),HG24.out⟩
  |true=>
   obtain ⟨lA,lc,rfl⟩:=Q03 H4.out.log;obtain ⟨g2,cap2,rfl,_,_⟩:=H4.out.row.form (by omega);have g5:w4.cell? ⟨xb,5,none⟩=some (.slice lA ln2 lc):=H4.out.blk.cell 5;have g7:w4.cell? ⟨xb,7,none⟩=some (.int .i64 picks2):=H4.out.blk.cell 7;have g4:w4.cell? ⟨xb,4,none⟩=some (.slice (some ⟨g2,0,none⟩) tbs.length cap2):=H4.out.blk.cell 4
   have eg:w4.cell? ⟨g2,i,none⟩=some (.pointer (some ⟨tb,0,none⟩)):=by
    rw[H4.out.row.cellAt i (by simp;omega)]
    rw[List.getElem?_map,List.getElem?_eq_getElem hi,<-HTB.out]
    simp[Q2L,List.getD_eq_getElem?_getD,List.getElem?_eq_getElem hi]
   obtain ⟨kind2,key2,val2,fv2,steps2,took2,no2,hq2⟩:=H4.out.th i hi
   rw[HTB.out] at hq2
   have e8:w4.cell? ⟨tb,8,none⟩=some (.int .i64 no2):=hq2.blk.cell 8;have ntb:(Value.slice lA ln2 lc).ownBlock≠some tb:=fun e=>by have h1:=H4.out.logo tb e;have h2:=hq2.ft;omega
   have htl:tb<w4.heap.size:=hq2.blk.lt;clear hq2;have q0:w4.cell? ⟨rbk,0,none⟩=some (.int .i64 ra):=HR4.out.cell 0;have q1:w4.cell? ⟨rbk,1,none⟩=some (.bool rb):=HR4.out.cell 1;have q2:w4.cell? ⟨rbk,2,none⟩=some (.int .i64 rc):=HR4.out.cell 2;have q3:w4.cell? ⟨rbk,3,none⟩=some (.int .i64 rd):=HR4.out.cell 3;have q4:w4.cell? ⟨rbk,4,none⟩=some (.int .i64 rn):=HR4.out.cell 4;have q5:w4.cell? ⟨rbk,5,none⟩=some (.slice rA rl rk):=HR4.out.cell 5;have nxb:(Value.slice lA ln2 lc).ownBlock≠some xb:=fun e=>Q0o H4.out.log H4.out.blk (by decide) e;have nrb:(Value.slice lA ln2 lc).ownBlock≠some rbk:=fun e=>HN2R.out (by rw[H4.out.logo rbk e];decide)
   have ngb:(Value.slice lA ln2 lc).ownBlock≠some g2:=fun e=>by
    obtain ⟨cs,hb⟩:=Q1r H4.out.log e;exact Q0o H4.out.row hb (by decide) rfl
   have hbl1:xb<w4.heap.size:=H4.out.blk.lt;have hgl:g2<w4.heap.size:=World.block_lt_of_cell? w4 _ eg;have hrl:rbk<w4.heap.size:=HR4.out.lt;have o1:tb≠xb:=fun e=>by have h1:=H4.out.ox;obtain ⟨_,_,_,_,_,_,_,h2⟩:=H4.out.th i hi;have h3:=h2.ft;rw[HTB.out,e] at h3;omega
   have o2:g2≠xb:=fun e=>Q0o H4.out.row H4.out.blk (by decide) (by rw[e];rfl);have o3:rbk≠xb:=fun e=>HN2R.out (by rw[e,H4.out.ox];decide)
   have HS:Hid (∀w5,Chg (fun y=>(Value.slice lA ln2 lc).ownBlock=some y) w4 w5->(w5.cell? ⟨xb,7,none⟩=some (.int .i64 picks2)/\w5.cell? ⟨xb,4,none⟩=some (.slice (some ⟨g2,0,none⟩) tbs.length cap2)/\w5.cell? ⟨g2,i,none⟩=some (.pointer (some ⟨tb,0,none⟩))/\w5.cell? ⟨tb,8,none⟩=some (.int .i64 no2)/\w5.cell? ⟨rbk,0,none⟩=some (.int .i64 ra)/\w5.cell? ⟨rbk,1,none⟩=some (.bool rb)/\w5.cell? ⟨rbk,2,none⟩=some (.int .i64 rc)/\w5.cell? ⟨rbk,3,none⟩=some (.int .i64 rd)/\w5.cell? ⟨rbk,4,none⟩=some (.int .i64 rn)/\w5.cell? ⟨rbk,5,none⟩=some (.slice rA rl rk))/\∀u,((w5.setCell ⟨xb,5,none⟩ u).cell? ⟨xb,7,none⟩=some (.int .i64 picks2)/\(w5.setCell ⟨xb,5,none⟩ u).cell? ⟨xb,4,none⟩=some (.slice (some ⟨g2,0,none⟩) tbs.length cap2)/\(w5.setCell ⟨xb,5,none⟩ u).cell? ⟨g2,i,none⟩=some (.pointer (some ⟨tb,0,none⟩))/\(w5.setCell ⟨xb,5,none⟩ u).cell? ⟨tb,8,none⟩=some (.int .i64 no2)/\(w5.setCell ⟨xb,5,none⟩ u).cell? ⟨rbk,0,none⟩=some (.int .i64 ra)/\(w5.setCell ⟨xb,5,none⟩ u).cell? ⟨rbk,1,none⟩=some (.bool rb)/\(w5.setCell ⟨xb,5,none⟩ u).cell? ⟨rbk,2,none⟩=some (.int .i64 rc)/\(w5.setCell ⟨xb,5,none⟩ u).cell? ⟨rbk,3,none⟩=some (.int .i64 rd)/\(w5.setCell ⟨xb,5,none⟩ u).cell? ⟨rbk,4,none⟩=some (.int .i64 rn)/\(w5.setCell ⟨xb,5,none⟩ u).cell? ⟨rbk,5,none⟩=some (.slice rA rl rk))):=LH (fun w5 hc=>by
    have s1:w5.cell? ⟨xb,7,none⟩=some (.int .i64 picks2)/\w5.cell? ⟨xb,4,none⟩=some (.slice (some ⟨g2,0,none⟩) tbs.length cap2)/\w5.cell? ⟨g2,i,none⟩=some (.pointer (some ⟨tb,0,none⟩))/\w5.cell? ⟨tb,8,none⟩=some (.int .i64 no2)/\w5.cell? ⟨rbk,0,none⟩=some (.int .i64 ra)/\w5.cell? ⟨rbk,1,none⟩=some (.bool rb)/\w5.cell? ⟨rbk,2,none⟩=some (.int .i64 rc)/\w5.cell? ⟨rbk,3,none⟩=some (.int .i64 rd)/\w5.cell? ⟨rbk,4,none⟩=some (.int .i64 rn)/\w5.cell? ⟨rbk,5,none⟩=some (.slice rA rl rk):=⟨(hc.cell_ hbl1 nxb).trans g7,(hc.cell_ hbl1 nxb).trans g4,(hc.cell_ hgl ngb).trans eg,(hc.cell_ htl ntb).trans e8,(hc.cell_ hrl nrb).trans q0,(hc.cell_ hrl nrb).trans q1,(hc.cell_ hrl nrb).trans q2,(hc.cell_ hrl nrb).trans q3,(hc.cell_ hrl nrb).trans q4,(hc.cell_ hrl nrb).trans q5⟩;refine ⟨s1,fun u=> ?_⟩;obtain ⟨a1,a2,a3,a4,a5,a6,a7,a8,a9,a10⟩:=s1;have far:∀(q:Addr) (v:Value),w5.cell? q=some v->(⟨xb,5,none⟩:Addr)≠q->(w5.setCell ⟨xb,5,none⟩ u).cell? q=some v:=fun q v hq hne=>(World.cell?_setCell_other w5 ⟨xb,5,none⟩ q u hne).trans hq;exact ⟨far _ _ a1 (by simp),far _ _ a2 (by simp),far _ _ a3 (fun e=>o2 (by injection e with e1;exact e1.symm)),far _ _ a4 (fun e=>o1 (by injection e with e1;exact e1.symm)),far _ _ a5 (fun e=>o3 (by injection e with e1;exact e1.symm)),far _ _ a6 (fun e=>o3 (by injection e with e1;exact e1.symm)),far _ _ a7 (fun e=>o3 (by injection e with e1;exact e1.symm)),far _ _ a8 (fun e=>o3 (by injection e with e1;exact e1.symm)),far _ _ a9 (fun e=>o3 (by injection e with e1;exact e1.symm)),far _ _ a10 (by simp)⟩)
   have EV:=H4.out.ev3 [.int .i64 3,.int .i64 i,.int .i64 no2,.int .i64 0,.int .i64 0,.int .i64 0,.int .i64 ra,.bool rb,.int .i64 rc,.int .i64 rd,.int .i64 rn,.slice rA rl rk,.int .i64 picks2];have n1:=World.new_ne w4 ⟨xb,5,none⟩ g5;have n2:=World.new_ne w4 ⟨g2,i,none⟩ eg;have n3:=World.new_ne w4 ⟨tb,8,none⟩ e8;have n4:=World.new_ne w4 ⟨rbk,0,none⟩ q0;have n5:=World.new_ne w4 ⟨xb,7,none⟩ g7;clear hip;go_upto_region 8 with fail;refine wp_region_held_drew (S:=fun w'=>w'.cell? ⟨xb,7,none⟩=some (.int .i64 picks2)/\w'.cell? ⟨xb,4,none⟩=some (.slice (some ⟨g2,0,none⟩) tbs.length cap2)/\w'.cell? ⟨g2,i,none⟩=some (.pointer (some ⟨tb,0,none⟩))/\w'.cell? ⟨tb,8,none⟩=some (.int .i64 no2)/\w'.cell? ⟨rbk,0,none⟩=some (.int .i64 ra)/\w'.cell? ⟨rbk,1,none⟩=some (.bool rb)/\w'.cell? ⟨rbk,2,none⟩=some (.int .i64 rc)/\w'.cell? ⟨rbk,3,none⟩=some (.int .i64 rd)/\w'.cell? ⟨rbk,4,none⟩=some (.int .i64 rn)/\w'.cell? ⟨rbk,5,none⟩=some (.slice rA rl rk)) (by kernel_rfl) ?_ (fun hHeld=> ?_)
   ·go_keep
   refine wpAnyH_take (i:=0) (v:= ?_) rfl (by kernel_rfl) (by kernel_rfl) (by kernel_rfl) (fun _ _ _ h=>h) (Or.inl ⟨by rfl, ?_⟩) (by assumption) ?_
   rotate_left
   ·(intro w hSw;(try dsimp only at hSw);go_simp;try with_reducible rfl)
   simp only[Act.put,List.setIfInBounds_toArray,List.set_cons_zero,List.set_cons_succ];refine wpAnyH_take (i:=1) (v:= ?_) rfl (by kernel_rfl) (by kernel_rfl) (by kernel_rfl) (fun _ _ _ h=>h) (Or.inl ⟨by rfl, ?_⟩) (by assumption) ?_
   rotate_left
   ·(intro w hSw;(try dsimp only at hSw);go_simp;try with_reducible rfl)
   simp only[Act.put,List.setIfInBounds_toArray,List.set_cons_zero,List.set_cons_succ];refine wpAnyH_take (i:=2) (v:= ?_) rfl (by kernel_rfl) (by kernel_rfl) (by kernel_rfl) (fun _ _ _ h=>h) (Or.inl ⟨by rfl, ?_⟩) (by assumption) ?_
   rotate_left
   ·(intro w hSw;(try dsimp only at hSw);go_simp;try with_reducible rfl)
   simp only[Act.put,List.setIfInBounds_toArray,List.set_cons_zero,List.set_cons_succ];refine wpAnyH_take (i:=3) (v:= ?_) rfl (by kernel_rfl) (by kernel_rfl) (by kernel_rfl) (fun _ _ _ h=>h) (Or.inl ⟨by rfl, ?_⟩) (by assumption) ?_
   rotate_left
   ·(intro w hSw;(try dsimp only at hSw);go_simp;try with_reducible rfl)
   simp only[Act.put,List.setIfInBounds_toArray,List.set_cons_zero,List.set_cons_succ];refine wpAnyH_take (i:=5) (v:= ?_) rfl (by kernel_rfl) (by kernel_rfl) (by kernel_rfl) (fun _ _ _ h=>h) (Or.inl ⟨by rfl, ?_⟩) (by assumption) ?_
   rotate_left
   ·(intro w hSw;(try dsimp only at hSw);go_simp;try with_reducible rfl)
   simp only[Act.put,List.setIfInBounds_toArray,List.set_cons_zero,List.set_cons_succ];refine wpAnyH_take (i:=6) (v:= ?_) rfl (by kernel_rfl) (by kernel_rfl) (by kernel_rfl) (fun _ _ _ h=>h) (Or.inl ⟨by rfl, ?_⟩) (by assumption) ?_
   rotate_left
   ·(intro w hSw;(try dsimp only at hSw);go_simp;try with_reducible rfl)
   simp only[Act.put,List.setIfInBounds_toArray,List.set_cons_zero,List.set_cons_succ];refine wpAnyH_take (i:=7) (v:= ?_) rfl (by kernel_rfl) (by kernel_rfl) (by kernel_rfl) (fun _ _ _ h=>h) (Or.inl ⟨by rfl, ?_⟩) (by assumption) ?_
   rotate_left
   ·(intro w hSw;(try dsimp only at hSw);go_simp;try with_reducible rfl)
   simp only[Act.put,List.setIfInBounds_toArray,List.set_cons_zero,List.set_cons_succ];refine wpAnyH_take (i:=8) (v:= ?_) rfl (by kernel_rfl) (by kernel_rfl) (by kernel_rfl) (fun _ _ _ h=>h) (Or.inl ⟨by rfl, ?_⟩) (by assumption) ?_
   rotate_left
   ·(intro w hSw;(try dsimp only at hSw);go_simp;try with_reducible rfl)
   simp only[Act.put,List.setIfInBounds_toArray,List.set_cons_zero,List.set_cons_succ];refine wpAnyH_take (i:=9) (v:= ?_) rfl (by kernel_rfl) (by kernel_rfl) (by kernel_rfl) (fun _ _ _ h=>h) (Or.inl ⟨by rfl, ?_⟩) (by assumption) ?_
   rotate_left
   ·(intro w hSw;(try dsimp only at hSw);go_simp;try with_reducible rfl)
   simp only[Act.put,List.setIfInBounds_toArray,List.set_cons_zero,List.set_cons_succ];refine wpAnyH_take (i:=10) (v:= ?_) rfl (by kernel_rfl) (by kernel_rfl) (by kernel_rfl) (fun _ _ _ h=>h) (Or.inl ⟨by rfl, ?_⟩) (by assumption) ?_
   rotate_left
   ·(intro w hSw;(try dsimp only at hSw);go_simp;try with_reducible rfl)
   simp only[Act.put,List.setIfInBounds_toArray,List.set_cons_zero,List.set_cons_succ];refine wpAnyH_take (i:=11) (v:= ?_) rfl (by kernel_rfl) (by kernel_rfl) (by kernel_rfl) (fun _ _ _ h=>h) (Or.inl ⟨by rfl, ?_⟩) (by assumption) ?_
   rotate_left
   ·(intro w hSw;(try dsimp only at hSw);go_simp;try with_reducible rfl)
   simp only[Act.put,List.setIfInBounds_toArray,List.set_cons_zero,List.set_cons_succ];refine wpAnyH_take (i:=12) (v:= ?_) rfl (by kernel_rfl) (by kernel_rfl) (by kernel_rfl) (fun _ _ _ h=>h) (Or.inl ⟨by rfl, ?_⟩) (by assumption) ?_
   rotate_left
   ·(intro w hSw;(try dsimp only at hSw);go_simp;try with_reducible rfl)
   simp only[Act.put,List.setIfInBounds_toArray,List.set_cons_zero,List.set_cons_succ];refine wpAnyH_take (i:=13) (v:= ?_) rfl (by kernel_rfl) (by kernel_rfl) (by kernel_rfl) (fun _ _ _ h=>h) (Or.inl ⟨by rfl, ?_⟩) (by assumption) ?_
   rotate_left
   ·(intro w hSw;(try dsimp only at hSw);go_simp;try with_reducible rfl)
   simp only[Act.put,List.setIfInBounds_toArray,List.set_cons_zero,List.set_cons_succ];refine wpAnyH_take (i:=14) (v:= ?_) rfl (by kernel_rfl) (by kernel_rfl) (by kernel_rfl) (fun _ _ _ h=>h) (Or.inl ⟨by rfl, ?_⟩) (by assumption) ?_
   rotate_left
   ·(intro w hSw;(try dsimp only at hSw);go_simp;try with_reducible rfl)
   simp only[Act.put,List.setIfInBounds_toArray,List.set_cons_zero,List.set_cons_succ];refine wpAnyH_take (i:=15) (v:= ?_) rfl (by kernel_rfl) (by kernel_rfl) (by kernel_rfl) (fun _ _ _ h=>h) (Or.inl ⟨by rfl, ?_⟩) (by assumption) ?_
   rotate_left
   ·(intro w hSw;(try dsimp only at hSw);go_simp;try with_reducible rfl)
   simp only[Act.put,List.setIfInBounds_toArray,List.set_cons_zero,List.set_cons_succ];refine wpAnyH_take (i:=16) (v:= ?_) rfl (by kernel_rfl) (by kernel_rfl) (by kernel_rfl) (fun _ _ _ h=>h) (Or.inl ⟨by rfl, ?_⟩) (by assumption) ?_
   rotate_left
   ·(intro w hSw;(try dsimp only at hSw);go_simp;try with_reducible rfl)
   simp only[Act.put,List.setIfInBounds_toArray,List.set_cons_zero,List.set_cons_succ];refine wpAnyH_take (i:=17) (v:= ?_) rfl (by kernel_rfl) (by kernel_rfl) (by kernel_rfl) (fun _ _ _ h=>h) (Or.inl ⟨by rfl, ?_⟩) (by assumption) ?_
   rotate_left
   ·(intro w hSw;(try dsimp only at hSw);go_simp;try with_reducible rfl)
   simp only[Act.put,List.setIfInBounds_toArray,List.set_cons_zero,List.set_cons_succ];refine wpAnyH_take (i:=18) (v:= ?_) rfl (by kernel_rfl) (by kernel_rfl) (by kernel_rfl) (fun _ _ _ h=>h) (Or.inl ⟨by rfl, ?_⟩) (by assumption) ?_
   rotate_left
   ·(intro w hSw;(try dsimp only at hSw);go_simp;try with_reducible rfl)
   simp only[Act.put,List.setIfInBounds_toArray,List.set_cons_zero,List.set_cons_succ];refine wpAnyH_take (i:=19) (v:= ?_) rfl (by kernel_rfl) (by kernel_rfl) (by kernel_rfl) (fun _ _ _ h=>h) (Or.inl ⟨by rfl, ?_⟩) (by assumption) ?_
   rotate_left
   ·(intro w hSw;(try dsimp only at hSw);go_simp;try with_reducible rfl)
   simp only[Act.put,List.setIfInBounds_toArray,List.set_cons_zero,List.set_cons_succ];refine wpAnyH_take (i:=20) (v:= ?_) rfl (by kernel_rfl) (by kernel_rfl) (by kernel_rfl) (fun _ _ _ h=>h) (Or.inl ⟨by rfl, ?_⟩) (by assumption) ?_
   rotate_left
   ·(intro w hSw;(try dsimp only at hSw);go_simp;try with_reducible rfl)
   simp only[Act.put,List.setIfInBounds_toArray,List.set_cons_zero,List.set_cons_succ];refine wpAnyH_take (i:=21) (v:= ?_) rfl (by kernel_rfl) (by kernel_rfl) (by kernel_rfl) (fun _ _ _ h=>h) (Or.inl ⟨by rfl, ?_⟩) (by assumption) ?_
   rotate_left
   ·(intro w hSw;(try dsimp only at hSw);go_simp;try with_reducible rfl)
   simp only[Act.put,List.setIfInBounds_toArray,List.set_cons_zero,List.set_cons_succ];refine wpAnyH_ready (rs:=[4,22]) (by kernel_rfl) (by simp) ?_;refine AllReadyH.cons rfl (fun K hK=> ?_) (AllReadyH.cons rfl (fun K hK=> ?_) AllReadyH.nil)
   ·go_simp
    refine hK.out _ _ ?_ (fun hHeld=> ?_)
    ·go_keep
    clear hK K
    try simp only[Act.put,List.setIfInBounds_toArray,List.set_cons_zero,List.set_cons_succ]
    refine wpAnyH_ready (rs:=[22]) (by kernel_rfl) (by simp) ?_;refine AllReadyH.cons rfl (fun K hK=> ?_) AllReadyH.nil
    go_simp
    refine hK.out _ _ ?_ (fun hHeld=> ?_)
    ·go_keep
    clear hK K
    try simp only[Act.put,List.setIfInBounds_toArray,List.set_cons_zero,List.set_cons_succ]
    refine wpAnyH_ready (rs:=[23]) (by kernel_rfl) (by simp) ?_;refine AllReadyH.cons rfl (fun K hK=> ?_) AllReadyH.nil;refine step_append_lies _ (by rfl) _ _ _ (by rfl) 0 218 i0 _ 13 120 Tryz.underlying88 hi0 hz0 hz1 hz2 rfl (by omega) (.slice lA ln2 lc) ln2 lxs2 (by rfl) EV.out.1 ⟨w4.heap.size,0,none⟩ 1 1 [.int .i64 3,.int .i64 i,.int .i64 no2,.int .i64 0,.int .i64 0,.int .i64 0,.int .i64 ra,.bool rb,.int .i64 rc,.int .i64 rd,.int .i64 rn,.slice rA rl rk,.int .i64 picks2] (by rfl) (by rfl) EV.out.2.1 (by simp[Value.oneCell']) (by omega) (by unfold maxLen;omega) (by omega) (by omega) (w4.heap.size+1) (by simp) ?_;intro gg cap3 w6 hO6 hg6 hat hlt6;have K6:=EV.out.2.2 w4.heap.size gg cap3 w6 (Nat.le_refl _) hO6 hg6 (hat.imp id (fun e=>by omega));have c5:=K6.out.1;have f5:=K6.out.2.1;have K51:=LH (HS.out w6 K6.out.2.2.2.2).1;have K52:=LH ((HS.out w6 K6.out.2.2.2.2).2 (.slice (some ⟨gg,0,none⟩) (ln2+1) cap3));clear hO6 hg6 hat hlt6;refine hK.out _ _ ?_ (fun hHeld=> ?_)
    ·exact K51.out
    clear hK K
    try simp only[Act.put,List.setIfInBounds_toArray,List.set_cons_zero,List.set_cons_succ]
    refine wpAnyH_take (i:=24) (v:= ?_) rfl (by kernel_rfl) (by kernel_rfl) (by kernel_rfl) (fun _ _ _ h=>h) (Or.inl ⟨by rfl, ?_⟩) (by assumption) ?_
    rotate_left
    ·(intro w hSw;(try dsimp only at hSw);go_simp;try with_reducible rfl)
    simp only[Act.put,List.setIfInBounds_toArray,List.set_cons_zero,List.set_cons_succ];refine wpAnyH_take (i:=25) (v:= ?_) rfl (by kernel_rfl) (by kernel_rfl) (by kernel_rfl) (fun _ _ _ h=>h) (Or.inl ⟨by rfl, ?_⟩) (by assumption) ?_
    rotate_left
    ·(intro w hSw;(try dsimp only at hSw);go_simp;try with_reducible rfl)
    simp only[Act.put,List.setIfInBounds_toArray,List.set_cons_zero,List.set_cons_succ];refine wpAnyH_ready (rs:=[26]) (by kernel_rfl) (by simp) ?_;refine AllReadyH.cons rfl (fun K hK=> ?_) AllReadyH.nil
    go_simp
    refine hK.out _ _ ?_ (fun hHeld=> ?_)
    ·exact K52.out
    clear hK K
    try simp only[Act.put,List.setIfInBounds_toArray,List.set_cons_zero,List.set_cons_succ]
    refine wpAnyH_done (by kernel_rfl) ?_ _;have HT7:=LH (K6.out.2.2.2.1.blk HT4.out (fun h=>HN2.out (by rw[h];decide)));have HR7:=LH (K6.out.2.2.2.1.blk HR4.out (fun h=>HN2R.out (by rw[h];decide)));have H7:=LH K6.out.2.2.1;have HK7:=LH K6.out.2.2.2.1;have HLT4:=LH HT4.out.lt;clear K6 c5 f5 EV g5 g7 g4 eg e8 q0 q1 q2 q3 q4 q5 hHeld K51 K52 HS;go_wp2_with (first|((with_reducible refine (show wpList _ _ _ ((Oper.mk (some 86) (.load _ _) _ _ _ _)::_) _ _ from ?_));refine wpList_load_row rfl 54 (.tmp 6) rfl rbk rfl _ _ (0,0) _ HR7.out Tryz.underlying54 rfl (by kernel_rfl) ?_)|((with_reducible refine (show wpList _ _ _ ((Oper.mk none (.store _ (.tmp 4) _) _ _ _ _)::_) _ _ from ?_));refine wpList_store_row rfl 54 (.tmp 4) (.tmp 86) rfl w.heap.size #[.int .i64 ra,.bool rb,.int .i64 rc,.int .i64 rd,.int .i64 rn,.slice rA rl rk] rfl rfl _ _ HT7.out (by kernel_rfl) rfl (by simp[Value.oneCell']) ?_));refine bodyPost_ret (v:=.tuple #[.agg #[.int .i64 ra,.bool rb,.int .i64 rc,.int .i64 rd,.int .i64 rn,.slice rA rl rk],.bool true]) (Q1v rfl _ _ _ w.heap.size 54 _ (0,0) _ rfl rfl (HT7.out.setRow _) Tryz.underlying54 rfl (by kernel_rfl)) rfl ?_
    rw[HEN.out]
    have hcr:Chg (fun y=>y=w.heap.size) (w6.setCell ⟨xb,5,none⟩ (.slice (some ⟨gg,0,none⟩) (ln2+1) cap3)) ((w6.setCell ⟨xb,5,none⟩ (.slice (some ⟨gg,0,none⟩) (ln2+1) cap3)).setRow w.heap.size #[.int .i64 ra,.bool rb,.int .i64 rc,.int .i64 rd,.int .i64 rn,.slice rA rl rk]):=Chg.setRow _ _ _;have hz6:w.heap.size<w4.heap.size:=HLT4.out;refine ⟨⟨_,rfl,_,_,_,_,_,_,_,_,rfl⟩,Q9n own2 w4.heap.size 1,⟨_,_,_,_,_,_,_,_,_,H7.out.chg hcr (fun y h1 h2=> ?_),by omega⟩,(HC24.out.grow HK7.out (fun y hy=>HG24.out y (by rw[hy];decide))).grow hcr (fun y hy=>.inr (by omega)),fun y hy=> ?_⟩
    ·rw[h2,Q1k hz6] at h1
     exact HN2.out h1
    ·by_cases e:y<w4.heap.size
     ·rw[Q1k e] at hy;exact HG24.out y hy
     ·exact .inr (by omega)
   ·go_simp
    refine hK.out _ _ ?_ (fun hHeld=> ?_)
    ·go_keep
    clear hK K
    try simp only[Act.put,List.setIfInBounds_toArray,List.set_cons_zero,List.set_cons_succ]
    refine wpAnyH_ready (rs:=[4]) (by kernel_rfl) (by simp) ?_;refine AllReadyH.cons rfl (fun K hK=> ?_) AllReadyH.nil
    go_simp
    refine hK.out _ _ ?_ (fun hHeld=> ?_)
    ·go_keep
    clear hK K
    try simp only[Act.put,List.setIfInBounds_toArray,List.set_cons_zero,List.set_cons_succ]
    refine wpAnyH_ready (rs:=[23]) (by kernel_rfl) (by simp) ?_;refine AllReadyH.cons rfl (fun K hK=> ?_) AllReadyH.nil;refine step_append_lies _ (by rfl) _ _ _ (by rfl) 0 218 i0 _ 13 120 Tryz.underlying88 hi0 hz0 hz1 hz2 rfl (by omega) (.slice lA ln2 lc) ln2 lxs2 (by rfl) EV.out.1 ⟨w4.heap.size,0,none⟩ 1 1 [.int .i64 3,.int .i64 i,.int .i64 no2,.int .i64 0,.int .i64 0,.int .i64 0,.int .i64 ra,.bool rb,.int .i64 rc,.int .i64 rd,.int .i64 rn,.slice rA rl rk,.int .i64 picks2] (by rfl) (by rfl) EV.out.2.1 (by simp[Value.oneCell']) (by omega) (by unfold maxLen;omega) (by omega) (by omega) (w4.heap.size+1) (by simp) ?_;intro gg cap3 w6 hO6 hg6 hat hlt6;have K6:=EV.out.2.2 w4.heap.size gg cap3 w6 (Nat.le_refl _) hO6 hg6 (hat.imp id (fun e=>by omega));have c5:=K6.out.1;have f5:=K6.out.2.1;have K51:=LH (HS.out w6 K6.out.2.2.2.2).1;have K52:=LH ((HS.out w6 K6.out.2.2.2.2).2 (.slice (some ⟨gg,0,none⟩) (ln2+1) cap3));clear hO6 hg6 hat hlt6;refine hK.out _ _ ?_ (fun hHeld=> ?_)
    ·exact K51.out
    clear hK K
    try simp only[Act.put,List.setIfInBounds_toArray,List.set_cons_zero,List.set_cons_succ]
    refine wpAnyH_take (i:=24) (v:= ?_) rfl (by kernel_rfl) (by kernel_rfl) (by kernel_rfl) (fun _ _ _ h=>h) (Or.inl ⟨by rfl, ?_⟩) (by assumption) ?_
    rotate_left
    ·(intro w hSw;(try dsimp only at hSw);go_simp;try with_reducible rfl)
    simp only[Act.put,List.setIfInBounds_toArray,List.set_cons_zero,List.set_cons_succ];refine wpAnyH_take (i:=25) (v:= ?_) rfl (by kernel_rfl) (by kernel_rfl) (by kernel_rfl) (fun _ _ _ h=>h) (Or.inl ⟨by rfl, ?_⟩) (by assumption) ?_
    rotate_left
    ·(intro w hSw;(try dsimp only at hSw);go_simp;try with_reducible rfl)
    simp only[Act.put,List.setIfInBounds_toArray,List.set_cons_zero,List.set_cons_succ];refine wpAnyH_ready (rs:=[26]) (by kernel_rfl) (by simp) ?_;refine AllReadyH.cons rfl (fun K hK=> ?_) AllReadyH.nil
    go_simp
    refine hK.out _ _ ?_ (fun hHeld=> ?_)
    ·exact K52.out
    clear hK K
    try simp only[Act.put,List.setIfInBounds_toArray,List.set_cons_zero,List.set_cons_succ]
    refine wpAnyH_done (by kernel_rfl) ?_ _;have HT7:=LH (K6.out.2.2.2.1.blk HT4.out (fun h=>HN2.out (by rw[h];decide)));have HR7:=LH (K6.out.2.2.2.1.blk HR4.out (fun h=>HN2R.out (by rw[h];decide)));have H7:=LH K6.out.2.2.1;have HK7:=LH K6.out.2.2.2.1;have HLT4:=LH HT4.out.lt;clear K6 c5 f5 EV g5 g7 g4 eg e8 q0 q1 q2 q3 q4 q5 hHeld K51 K52 HS;go_wp2_with (first|((with_reducible refine (show wpList _ _ _ ((Oper.mk (some 86) (.load _ _) _ _ _ _)::_) _ _ from ?_));refine wpList_load_row rfl 54 (.tmp 6) rfl rbk rfl _ _ (0,0) _ HR7.out Tryz.underlying54 rfl (by kernel_rfl) ?_)|((with_reducible refine (show wpList _ _ _ ((Oper.mk none (.store _ (.tmp 4) _) _ _ _ _)::_) _ _ from ?_));refine wpList_store_row rfl 54 (.tmp 4) (.tmp 86) rfl w.heap.size #[.int .i64 ra,.bool rb,.int .i64 rc,.int .i64 rd,.int .i64 rn,.slice rA rl rk] rfl rfl _ _ HT7.out (by kernel_rfl) rfl (by simp[Value.oneCell']) ?_));refine bodyPost_ret (v:=.tuple #[.agg #[.int .i64 ra,.bool rb,.int .i64 rc,.int .i64 rd,.int .i64 rn,.slice rA rl rk],.bool true]) (Q1v rfl _ _ _ w.heap.size 54 _ (0,0) _ rfl rfl (HT7.out.setRow _) Tryz.underlying54 rfl (by kernel_rfl)) rfl ?_
    rw[HEN.out]
    have hcr:Chg (fun y=>y=w.heap.size) (w6.setCell ⟨xb,5,none⟩ (.slice (some ⟨gg,0,none⟩) (ln2+1) cap3)) ((w6.setCell ⟨xb,5,none⟩ (.slice (some ⟨gg,0,none⟩) (ln2+1) cap3)).setRow w.heap.size #[.int .i64 ra,.bool rb,.int .i64 rc,.int .i64 rd,.int .i64 rn,.slice rA rl rk]):=Chg.setRow _ _ _;have hz6:w.heap.size<w4.heap.size:=HLT4.out;refine ⟨⟨_,rfl,_,_,_,_,_,_,_,_,rfl⟩,Q9n own2 w4.heap.size 1,⟨_,_,_,_,_,_,_,_,_,H7.out.chg hcr (fun y h1 h2=> ?_),by omega⟩,(HC24.out.grow HK7.out (fun y hy=>HG24.out y (by rw[hy];decide))).grow hcr (fun y hy=>.inr (by omega)),fun y hy=> ?_⟩
    ·rw[h2,Q1k hz6] at h1
     exact HN2.out h1
    ·by_cases e:y<w4.heap.size
     ·rw[Q1k e] at hy;exact HG24.out y hy
     ·exact .inr (by omega)
theorem Q4V (N m:Nat) (own:Nat->Nat) (xb bm:Nat) (tbs:List Nat) (s:IX) (k:Nat) (i:Nat) (w:World) (h:IxP own xb bm tbs s k w) (hi:i<tbs.length) (ok:s.Ok N m) (hmN:m+2<N) (hmm:m<=1000000) (hk0:k<=900000000) (hn:tbs.length<=64):
  Calls Tryz.prog 114 #[.pointer (some ⟨xb,0,none⟩),.int .i64 i] w (Q85 own xb bm tbs (s.pick N i) (k+tbs.length+1) (s.ends N i) w):=by
 cases hb:(s.T.getD i TH.nil).busy with
 |false=>
  have e1:s.pick N i=s:=by unfold IX.pick;rw[hb];rfl
  have e2:s.ends N i=false:=by unfold IX.ends;rw[hb];rfl
  rw[e1,e2]
  refine (Q9B own xb bm tbs s k i w h hi hb).mono fun e w' hp=> ?_;exact ⟨hp.1,hp.2.le (by omega)⟩
 |true=>
  have h0:IxP (fun y=>if y<w.heap.size then own y else 0) xb bm tbs s k w:=by
   obtain ⟨a0,a1,a2,tv,lv,ln,lxs,inv,picks,h,hk⟩:=h;exact ⟨_,_,_,_,_,_,_,_,_,h.reown (fun y hy=>if_pos hy),hk⟩
  refine (Qbj N m (fun y=>if y<w.heap.size then own y else 0) xb bm tbs s k i w h0 (fun y hy=>if_neg (by omega)) hi hb ok hmN hmm hk0 hn).mono fun e w' hp=> ?_;obtain ⟨h1,o,h2,h3,h4⟩:=hp;refine ⟨h1,o,h2,h3.mono (fun y hy=> ?_),fun y hy=> ?_⟩
  ·have hy:(if y<w.heap.size then own y else 0)≠0:=hy;by_cases e:y<w.heap.size
   ·rw[if_pos e] at hy;exact hy
   ·rw[if_neg e] at hy;exact absurd rfl hy
  ·rcases h4 y hy with h5|h5
   ·have h5:(if y<w.heap.size then own y else 0)≠0:=h5;by_cases e:y<w.heap.size
    ·rw[if_pos e] at h5;exact .inl h5
    ·rw[if_neg e] at h5;exact absurd rfl h5
   ·exact .inr h5
def TH.freshX (t:TH) (o:Op):FX:=⟨if 3<o.kind then 25 else 24,0,t.budget,0,⟨0,0,false,0,false⟩,[],o⟩
def TH.fresh (N:Nat) (t:TH) (o:Op):TH:=t.begun o (((t.freshX o).tree N).go ⟨[],0,false,Q20⟩).1 (((t.freshX o).tree N).go ⟨[],0,false,Q20⟩).2.off
def IX.invoke (N:Nat) (s:IX) (i:Nat) (o:Op):IX:=if (s.T.getD i TH.nil).busy=true then s else {s with T:=s.T.set i ((s.T.getD i TH.nil).fresh N o)}
def Qa4 (own:Nat->Nat) (xb bm:Nat) (tbs:List Nat) (s:IX) (k:Nat) (w:World) (e:Ending) (w':World):Prop:=(∃n,e=.returned (.int .i64 n))/\IxPost own xb bm tbs s k w w'
theorem IxP.zero {own:Nat->Nat} {xb bm:Nat} {tbs:List Nat} {s:IX} {k:Nat} {w:World} (h:IxP own xb bm tbs s k w):IxP (fun y=>if y<w.heap.size then own y else 0) xb bm tbs s k w:=by
 obtain ⟨a0,a1,a2,tv,lv,ln,lxs,inv,picks,h,hk⟩:=h;exact ⟨_,_,_,_,_,_,_,_,_,h.reown (fun y hy=>if_pos hy),hk⟩
theorem IxPost.zero {own:Nat->Nat} {xb bm:Nat} {tbs:List Nat} {s:IX} {k:Nat} {w w':World} (h:IxPost (fun y=>if y<w.heap.size then own y else 0) xb bm tbs s k w w'):IxPost own xb bm tbs s k w w':=by
 obtain ⟨o,h2,h3,h4⟩:=h;refine ⟨o,h2,h3.mono (fun y hy=> ?_),fun y hy=> ?_⟩
 ·have hy:(if y<w.heap.size then own y else 0)≠0:=hy;by_cases e:y<w.heap.size
  ·rw[if_pos e] at hy;exact hy
  ·rw[if_neg e] at hy;exact absurd rfl hy
 ·rcases h4 y hy with h5|h5
  ·have h5:(if y<w.heap.size then own y else 0)≠0:=h5;by_cases e:y<w.heap.size
   ·rw[if_pos e] at h5;exact .inl h5
   ·rw[if_neg e] at h5;exact absurd rfl h5
  ·exact .inr h5
theorem Q7H (own:Nat->Nat) (xb bm:Nat) (tbs:List Nat) (s:IX) (k:Nat) (i:Nat) (o:Op) (w:World) (h:IxP own xb bm tbs s k w) (hi:i<tbs.length) (hb:(s.T.getD i TH.nil).busy=true):
  Calls Tryz.prog 112 #[.pointer (some ⟨xb,0,none⟩),.int .i64 i,.agg #[.int .i64 o.kind,.int .i64 o.key,.int .i64 o.val]] w (Qa4 own xb bm tbs s k w):=by
 obtain ⟨a0,a1,a2,tv,lv,ln,lxs,inv,picks,h,hk⟩:=h;have hba:=((Below.refl w.heap.size w).alloc (Nat.le_refl _) (.cells #[.int .i64 o.kind,.int .i64 o.key,.int .i64 o.val] 48));have h1:=h.below hba;obtain ⟨g,cap,rfl,_,_⟩:=h.row.form (by omega);have e4:(w.alloc (.cells #[.int .i64 o.kind,.int .i64 o.key,.int .i64 o.val] 48)).cell? ⟨xb,4,none⟩=some (.slice (some ⟨g,0,none⟩) tbs.length cap):=h1.blk.cell 4
 have eg:(w.alloc (.cells #[.int .i64 o.kind,.int .i64 o.key,.int .i64 o.val] 48)).cell? ⟨g,i,none⟩=some (Q2L (tbs.getD i 0)):=by
  rw[h1.row.cellAt i (by simp;omega)]
  rw[List.getElem?_map,List.getElem?_eq_getElem hi]
  simp[List.getD_eq_getElem?_getD,List.getElem?_eq_getElem hi]
 have ho1:=Blk.new w 48 #[.int .i64 o.kind,.int .i64 o.key,.int .i64 o.val];have p0:(w.alloc (.cells #[.int .i64 o.kind,.int .i64 o.key,.int .i64 o.val] 48)).cell? ⟨w.heap.size,0,none⟩=some (.int .i64 o.kind):=ho1.cell 0;have p1:(w.alloc (.cells #[.int .i64 o.kind,.int .i64 o.key,.int .i64 o.val] 48)).cell? ⟨w.heap.size,1,none⟩=some (.int .i64 o.key):=ho1.cell 1;have p2:(w.alloc (.cells #[.int .i64 o.kind,.int .i64 o.key,.int .i64 o.val] 48)).cell? ⟨w.heap.size,2,none⟩=some (.int .i64 o.val):=ho1.cell 2;have hi2:(i:Int)<tbs.length:=by omega
 have H1:=LH h1;have HBA:=LH hba;clear h h1 hba ho1;unfold Q2L at eg;generalize htb:tbs.getD i 0=tb at eg;have HTB:=LH htb;clear htb;go_enter Tryz.func112,Tryz.ntmps112;go_wp2_with (fail);generalize (w.alloc (.cells #[.int .i64 o.kind,.int .i64 o.key,.int .i64 o.val] 48))=w1 at H1 HBA e4 eg p0 p1 p2|-
 have BEGW:Hid (∀w2,Below w1.heap.size w1 w2->Calls Tryz.prog 173 #[.pointer (some ⟨tb,0,none⟩),.agg #[.int .i64 o.kind,.int .i64 o.key,.int .i64 o.val]] w2 (fun e w3=>e=.returned (.int .i64 4)/\IxPost own xb bm tbs s k w w3)):=LH (fun w2 hb2=>by
  have ht:=(H1.out.th i hi).below hb2
  rw[HTB.out] at ht
  refine (Q9g _ tb _ o w2 ht hb).mono fun e w3 hp=> ?_;have hb3:Chg (fun _=>False) w1 w3:=(Chg.of_below hb2).trans (Chg.of_below hp.2);exact ⟨hp.1,own,⟨_,_,_,_,_,_,_,_,_,H1.out.chg hb3 (fun _ _ h=>h),hk⟩,(Chg.of_below HBA.out).trans (hb3.mono (fun _ h=>h.elim)),fun y hy=>.inl hy⟩)
 have HB1:Hid (Below w1.heap.size w1 w1.drew):=LH (Q08 (Drawn.of w1 1) _)
 go_cut [7] from 8 to 27 (fun v7 wx=>v7=.int .i64 4/\IxPost own xb bm tbs s k w wx)
 case first=>
  go_region_law ((go_simp;go_at_call 173;(with_reducible refine (BEGW.out _ HB1.out).mono ?_);rintro e w3 ⟨rfl,hpk⟩;have HPK:=LH hpk;clear hpk))
  all_goals
   go_wp2_with (fail)
   go_meet
   exact ⟨rfl,HPK.out⟩
 case rest=>
  obtain ⟨rfl,hp⟩:=hcut;have HP:=LH hp;clear hp e4 eg p0 p1 p2 BEGW HB1;go_wp2_with (fail);go_ret;exact ⟨⟨_,rfl⟩,HP.out⟩
def Qhj (own:Nat->Nat) (xb bm:Nat) (tbs:List Nat) (s:IX) (a0 a1 a2:Int) (tv lv:Value) (ln:Nat) (lxs:List Value) (inv picks:Int) (w1 w3:World):Prop:=
 ∃own',(∀y,own' y≠0->own y≠0\/w1.heap.size<=y)/\IxQ own' xb bm tbs s a0 a1 a2 tv lv ln lxs inv picks w3/\Chg (fun y=>own y≠0) w1 w3
theorem Q8T (N:Nat) (own:Nat->Nat) (xb bm:Nat) (tbs:List Nat) (s:IX) (k:Nat) (i:Nat) (o:Op) (w:World) (h:IxP own xb bm tbs s k w) (hzero:∀y,w.heap.size<=y->own y=0) (hi:i<tbs.length) (hb:(s.T.getD i TH.nil).busy=false) (k1:1<=o.kind) (k2:o.kind<=10) (b1:1<=(s.T.getD i TH.nil).budget) (b2:(s.T.getD i TH.nil).budget<=64) (hN:1<N) (hP:Q5s N ((s.T.getD i TH.nil).freshX o)) (hk0:k<=900000000) (hn:tbs.length<=64):
  Calls Tryz.prog 112 #[.pointer (some ⟨xb,0,none⟩),.int .i64 i,.agg #[.int .i64 o.kind,.int .i64 o.key,.int .i64 o.val]] w (Qa4 own xb bm tbs (s.invoke N i o) (k+1) w):=by
 obtain ⟨i0,hi0,hz0,hz1,hz2⟩:=info_parts Q3U;obtain ⟨a0,a1,a2,tv,lv,ln,lxs,inv,picks,h,hk⟩:=h;have hba:=((Below.refl w.heap.size w).alloc (Nat.le_refl _) (.cells #[.int .i64 o.kind,.int .i64 o.key,.int .i64 o.val] 48));have h1:=h.below hba;obtain ⟨g,cap,rfl,_,_⟩:=h.row.form (by omega);have e4:(w.alloc (.cells #[.int .i64 o.kind,.int .i64 o.key,.int .i64 o.val] 48)).cell? ⟨xb,4,none⟩=some (.slice (some ⟨g,0,none⟩) tbs.length cap):=h1.blk.cell 4
 have eg:(w.alloc (.cells #[.int .i64 o.kind,.int .i64 o.key,.int .i64 o.val] 48)).cell? ⟨g,i,none⟩=some (Q2L (tbs.getD i 0)):=by
  rw[h1.row.cellAt i (by simp;omega)]
  rw[List.getElem?_map,List.getElem?_eq_getElem hi]
  simp[List.getD_eq_getElem?_getD,List.getElem?_eq_getElem hi]
 have ho1:=Blk.new w 48 #[.int .i64 o.kind,.int .i64 o.key,.int .i64 o.val];have p0:(w.alloc (.cells #[.int .i64 o.kind,.int .i64 o.key,.int .i64 o.val] 48)).cell? ⟨w.heap.size,0,none⟩=some (.int .i64 o.kind):=ho1.cell 0;have p1:(w.alloc (.cells #[.int .i64 o.kind,.int .i64 o.key,.int .i64 o.val] 48)).cell? ⟨w.heap.size,1,none⟩=some (.int .i64 o.key):=ho1.cell 1;have p2:(w.alloc (.cells #[.int .i64 o.kind,.int .i64 o.key,.int .i64 o.val] 48)).cell? ⟨w.heap.size,2,none⟩=some (.int .i64 o.val):=ho1.cell 2;have hi2:(i:Int)<tbs.length:=by omega
 have HZERO:=LH (hzero w.heap.size (Nat.le_refl _));have HSZ:=LH ho1.lt;have H1:=LH h1;have HBA:=LH hba;have HO1:=LH ho1;clear h h1 hba ho1;unfold Q2L at eg;generalize htb:tbs.getD i 0=tb at eg;have HTB:=LH htb;clear htb;go_enter Tryz.func112,Tryz.ntmps112;go_wp2_with (fail);generalize (w.alloc (.cells #[.int .i64 o.kind,.int .i64 o.key,.int .i64 o.val] 48))=w1 at H1 HBA HO1 HSZ e4 eg p0 p1 p2|-
 have BEGW:Hid (∀w2,Below w1.heap.size w1 w2->Calls Tryz.prog 173 #[.pointer (some ⟨tb,0,none⟩),.agg #[.int .i64 o.kind,.int .i64 o.key,.int .i64 o.val]] w2 (fun e w3=>e=.returned (.int .i64 0)/\Qhj own xb bm tbs (s.invoke N i o) a0 a1 a2 (.slice (some ⟨g,0,none⟩) tbs.length cap) lv ln lxs inv picks w1 w3)):=LH (fun w2 hb2=>by
  have ht:=(H1.out.th i hi).within.below hb2
  rw[HTB.out] at ht
  have hm:=H1.out.mem.within.below hb2;refine (Q9Z N _ tb _ o w2 (((s.T.getD i TH.nil).freshX o).tree N|>.go ⟨[],0,false,Q20⟩).1 (((s.T.getD i TH.nil).freshX o).tree N|>.go ⟨[],0,false,Q20⟩).2 ht hb k1 k2 b1 b2 hN hP rfl).mono fun e w3 hp=> ?_;obtain ⟨he,hth,hc⟩:=hp;have hz:=hb2.size
  have htl:tb<w1.heap.size/\own tb=3+i:=by
   obtain ⟨_,_,_,_,_,_,_,hq⟩:=H1.out.th i hi
   rw[HTB.out] at hq
   exact ⟨hq.blk.lt,hq.ft⟩
  have hcc:Chg (fun y=>own y=3+i\/own y=2) w1 w3:=(Chg.of_below hb2).trans (hc.mono (fun y hy=>.inl (by rw[hy];exact htl.2)))
  obtain ⟨own',hg',hq',_⟩:=H1.out.step (C':=s.C) hi w2.heap.size hz (by rw[HTB.out];exact hth) (hm.chg hc (fun y h1 h2=>by rw[h2] at h1;have:=h1.1;omega)) (fun y h1 h2=>by
   rcases h1 with h1|h1
   ·have:=h1.1;have:=h2.1;omega
   ·have:=h2.2;omega) (fun y hy=>hy) (fun y hy=>.inl hy) hcc
  refine ⟨he,own',hg', ?_,hcc.mono (fun y hy=>by rcases hy with hy|hy<;>rw[hy]<;>omega)⟩;unfold IX.invoke
  rw[if_neg (by rw[hb];decide)]
  exact hq')
 have HB1:Hid (Below w1.heap.size w1 w1.drew):=LH (Q08 (Drawn.of w1 1) _)
 go_cut [7] from 8 to 27 (fun v7 wx=>v7=.int .i64 0/\Qhj own xb bm tbs (s.invoke N i o) a0 a1 a2 (.slice (some ⟨g,0,none⟩) tbs.length cap) lv ln lxs inv picks w1 wx)
 case first=>
  go_region_law ((go_simp;go_at_call 173;(with_reducible refine (BEGW.out _ HB1.out).mono ?_);rintro e w3 ⟨rfl,hpk⟩;have HPK:=LH hpk;clear hpk))
  all_goals
   go_wp2_with (fail)
   go_meet
   exact ⟨rfl,HPK.out⟩
 case rest=>
  obtain ⟨rfl,own1,hg1,hq1,hc1⟩:=hcut
  have hn1:own1 w.heap.size≠0->False:=fun h=>by
   rcases hg1 _ h with h1|h1
   ·exact h1 HZERO.out
   ·have:=HSZ.out;omega
  have hO:=hc1.blk HO1.out (fun h=>h HZERO.out)
  have hg01:∀y,own1 y≠0->own y≠0\/w.heap.size<=y:=fun y hy=>by
   rcases hg1 y hy with h1|h1
   ·exact .inl h1
   ·exact .inr (by have:=HSZ.out;omega)
  have hc01:Chg (fun y=>own y≠0) w wc:=(Chg.of_below HBA.out).trans hc1;have HO:=LH hO;have HN1:=LH hn1;have HG4:=LH hg01;have HC:=LH hc01;have HQ:=LH hq1;clear hO hn1 hg01 hc01 hg1 hc1 hq1 e4 eg p0 p1 p2 BEGW HB1 HO1 H1 HBA;obtain ⟨kind,key,val,fv,steps,took,no,hq⟩:=HQ.out.th i hi
  rw[HTB.out] at hq
  have e4:wc.cell? ⟨xb,4,none⟩=some (.slice (some ⟨g,0,none⟩) tbs.length cap):=HQ.out.blk.cell 4;have e6:wc.cell? ⟨xb,6,none⟩=some (.int .i64 inv):=HQ.out.blk.cell 6
  have eg:wc.cell? ⟨g,i,none⟩=some (.pointer (some ⟨tb,0,none⟩)):=by
   rw[HQ.out.row.cellAt i (by simp;omega)]
   rw[List.getElem?_map,List.getElem?_eq_getElem hi,<-HTB.out]
   simp[Q2L,List.getD_eq_getElem?_getD,List.getElem?_eq_getElem hi]
  have e8:wc.cell? ⟨tb,8,none⟩=some (.int .i64 no):=hq.blk.cell 8;have f8:=hq.blk.frozen 8;have hox:=HQ.out.ox;have hot:=hq.ft;have hog:=HQ.out.rowo g rfl;have o1:tb≠xb:=fun e=>by rw[e] at hot;omega
  have o2:tb≠g:=fun e=>by rw[e] at hot;omega
  have o3:g≠xb:=fun e=>Q0o HQ.out.row HQ.out.blk (by decide) (by rw[e];rfl);have hqs:=hq.set 8 (.int .i64 inv) (t':=(s.invoke N i o).T.getD i TH.nil) (fun h=>⟨h,rfl,rfl,rfl,rfl⟩) (kind':=kind) (key':=key) (val':=val) (steps':=steps) (took':=took) (no':=inv) rfl;have hcs:=Chg.set1 wc tb 8 (.int .i64 inv);have hbd:Below (wc.setCell ⟨tb,8,none⟩ (.int .i64 inv)).heap.size (wc.setCell ⟨tb,8,none⟩ (.int .i64 inv)) (wc.setCell ⟨tb,8,none⟩ (.int .i64 inv)).drew:=Q08 (Drawn.of _ 1) _;have hq3a:=HQ.out.thread_ hi (hcs.mono (fun y hy=>hy▸hot)) ⟨_,_,_,_,_,_,_,by rw[HTB.out];exact hqs⟩;have hq3:=hq3a.below hbd;have hq4a:=hq3a.set 6 (.int .i64 (wrap64 (inv+1))) (inv':=wrap64 (inv+1)) (picks':=picks) rfl;have hbd4:Below ((wc.setCell ⟨tb,8,none⟩ (.int .i64 inv)).setCell ⟨xb,6,none⟩ (.int .i64 (wrap64 (inv+1)))).heap.size ((wc.setCell ⟨tb,8,none⟩ (.int .i64 inv)).setCell ⟨xb,6,none⟩ (.int .i64 (wrap64 (inv+1)))) ((wc.setCell ⟨tb,8,none⟩ (.int .i64 inv)).setCell ⟨xb,6,none⟩ (.int .i64 (wrap64 (inv+1)))).drew:=Q08 (Drawn.of _ 1) _;have hq4:=hq4a.below hbd4;have hc4:Chg (fun y=>own1 y≠0) wc ((wc.setCell ⟨tb,8,none⟩ (.int .i64 inv)).setCell ⟨xb,6,none⟩ (.int .i64 (wrap64 (inv+1)))).drew:=((hcs.mono (fun y hy=>by rw[hy,hot];omega)).trans ((Chg.set1 _ xb 6 _).mono (fun y hy=>by rw[hy,hox];decide))).trans (Chg.of_below hbd4);have HO4:=LH (hc4.blk HO.out (fun h=>HN1.out h));have HQ4:=LH hq4;have HC4:=LH (HC.out.grow hc4 (fun y hy=>HG4.out y hy));have c6:(wc.setCell ⟨tb,8,none⟩ (.int .i64 inv)).drew.cell? ⟨xb,6,none⟩=some (.int .i64 inv):=hq3.blk.cell 6;have f6:=hq3.blk.frozen 6;have HQT:Hid (∃kind key val fv steps took,ThQ (fun y=>own1 y=3+i) tb ((s.invoke N i o).T.getD i TH.nil) kind key val fv steps took inv ((wc.setCell ⟨tb,8,none⟩ (.int .i64 inv)).setCell ⟨xb,6,none⟩ (.int .i64 (wrap64 (inv+1)))).drew):=LH ⟨_,_,_,_,_,_,(hqs.chg (Chg.set1 _ xb 6 _) (fun y h1 h2=>by rw[h2] at h1;omega)).below hbd4⟩;clear hq hqs hcs hq3 hq3a hq4a hq4 hc4 hbd hbd4 hox hot hog HQ HC HO;go_upto_region 6 with fail
  go_region_held3 (fun w'=>w'.cell? ⟨xb,4,none⟩=some (.slice (some ⟨g,0,none⟩) tbs.length cap)/\w'.cell? ⟨g,i,none⟩=some (.pointer (some ⟨tb,0,none⟩))/\w'.cell? ⟨xb,6,none⟩=some (.int .i64 inv)) (go_keep) (fail)
  go_upto_region 8 with fail;clear c6 f6 e4 e6 eg e8 f8;generalize ((wc.setCell ⟨tb,8,none⟩ (.int .i64 inv)).setCell ⟨xb,6,none⟩ (.int .i64 (wrap64 (inv+1)))).drew=w4 at HO4 HQ4 HC4 HQT|-;obtain ⟨lA,lc,rfl⟩:=Q03 HQ4.out.log;have g5:w4.cell? ⟨xb,5,none⟩=some (.slice lA ln lc):=HQ4.out.blk.cell 5;have g7:w4.cell? ⟨xb,7,none⟩=some (.int .i64 picks):=HQ4.out.blk.cell 7;have g4:w4.cell? ⟨xb,4,none⟩=some (.slice (some ⟨g,0,none⟩) tbs.length cap):=HQ4.out.blk.cell 4
  have eg:w4.cell? ⟨g,i,none⟩=some (.pointer (some ⟨tb,0,none⟩)):=by
   rw[HQ4.out.row.cellAt i (by simp;omega)]
   rw[List.getElem?_map,List.getElem?_eq_getElem hi,<-HTB.out]
   simp[Q2L,List.getD_eq_getElem?_getD,List.getElem?_eq_getElem hi]
  obtain ⟨_,_,_,_,_,_,hq2⟩:=HQT.out;have e8:w4.cell? ⟨tb,8,none⟩=some (.int .i64 inv):=hq2.blk.cell 8;have ntb:(Value.slice lA ln lc).ownBlock≠some tb:=fun e=>by have h1:=HQ4.out.logo tb e;have h2:=hq2.ft;omega
  have htl:tb<w4.heap.size:=hq2.blk.lt;clear hq2;have p0:w4.cell? ⟨w.heap.size,0,none⟩=some (.int .i64 o.kind):=HO4.out.cell 0;have p1:w4.cell? ⟨w.heap.size,1,none⟩=some (.int .i64 o.key):=HO4.out.cell 1;have p2:w4.cell? ⟨w.heap.size,2,none⟩=some (.int .i64 o.val):=HO4.out.cell 2;have nxb:(Value.slice lA ln lc).ownBlock≠some xb:=fun e=>Q0o HQ4.out.log HQ4.out.blk (by decide) e;have nob:(Value.slice lA ln lc).ownBlock≠some w.heap.size:=fun e=>HN1.out (by rw[HQ4.out.logo _ e];decide)
  have ngb:(Value.slice lA ln lc).ownBlock≠some g:=fun e=>by
   obtain ⟨cs,hb⟩:=Q1r HQ4.out.log e;exact Q0o HQ4.out.row hb (by decide) rfl
  have hbl1:xb<w4.heap.size:=HQ4.out.blk.lt;have hgl:g<w4.heap.size:=World.block_lt_of_cell? w4 _ eg;have hol:w.heap.size<w4.heap.size:=HO4.out.lt;have o4:w.heap.size≠xb:=fun e=>HN1.out (by rw[e,HQ4.out.ox];decide)
  have HS:Hid (∀w5,Chg (fun y=>(Value.slice lA ln lc).ownBlock=some y) w4 w5->(w5.cell? ⟨xb,7,none⟩=some (.int .i64 picks)/\w5.cell? ⟨xb,4,none⟩=some (.slice (some ⟨g,0,none⟩) tbs.length cap)/\w5.cell? ⟨g,i,none⟩=some (.pointer (some ⟨tb,0,none⟩))/\w5.cell? ⟨tb,8,none⟩=some (.int .i64 inv)/\w5.cell? ⟨w.heap.size,0,none⟩=some (.int .i64 o.kind)/\w5.cell? ⟨w.heap.size,1,none⟩=some (.int .i64 o.key)/\w5.cell? ⟨w.heap.size,2,none⟩=some (.int .i64 o.val))/\∀u,((w5.setCell ⟨xb,5,none⟩ u).cell? ⟨xb,7,none⟩=some (.int .i64 picks)/\(w5.setCell ⟨xb,5,none⟩ u).cell? ⟨xb,4,none⟩=some (.slice (some ⟨g,0,none⟩) tbs.length cap)/\(w5.setCell ⟨xb,5,none⟩ u).cell? ⟨g,i,none⟩=some (.pointer (some ⟨tb,0,none⟩))/\(w5.setCell ⟨xb,5,none⟩ u).cell? ⟨tb,8,none⟩=some (.int .i64 inv)/\(w5.setCell ⟨xb,5,none⟩ u).cell? ⟨w.heap.size,0,none⟩=some (.int .i64 o.kind)/\(w5.setCell ⟨xb,5,none⟩ u).cell? ⟨w.heap.size,1,none⟩=some (.int .i64 o.key)/\(w5.setCell ⟨xb,5,none⟩ u).cell? ⟨w.heap.size,2,none⟩=some (.int .i64 o.val))):=LH (fun w5 hc=>by
   have s1:w5.cell? ⟨xb,7,none⟩=some (.int .i64 picks)/\w5.cell? ⟨xb,4,none⟩=some (.slice (some ⟨g,0,none⟩) tbs.length cap)/\w5.cell? ⟨g,i,none⟩=some (.pointer (some ⟨tb,0,none⟩))/\w5.cell? ⟨tb,8,none⟩=some (.int .i64 inv)/\w5.cell? ⟨w.heap.size,0,none⟩=some (.int .i64 o.kind)/\w5.cell? ⟨w.heap.size,1,none⟩=some (.int .i64 o.key)/\w5.cell? ⟨w.heap.size,2,none⟩=some (.int .i64 o.val):=⟨(hc.cell_ hbl1 nxb).trans g7,(hc.cell_ hbl1 nxb).trans g4,(hc.cell_ hgl ngb).trans eg,(hc.cell_ htl ntb).trans e8,(hc.cell_ hol nob).trans p0,(hc.cell_ hol nob).trans p1,(hc.cell_ hol nob).trans p2⟩;refine ⟨s1,fun u=> ?_⟩;obtain ⟨a1,a2,a3,a4,a5,a6,a7⟩:=s1;have far:∀(q:Addr) (v:Value),w5.cell? q=some v->(⟨xb,5,none⟩:Addr)≠q->(w5.setCell ⟨xb,5,none⟩ u).cell? q=some v:=fun q v hq hne=>(World.cell?_setCell_other w5 ⟨xb,5,none⟩ q u hne).trans hq;exact ⟨far _ _ a1 (by simp),far _ _ a2 (by simp),far _ _ a3 (fun e=>o3 (by injection e with e1;exact e1.symm)),far _ _ a4 (fun e=>o1 (by injection e with e1;exact e1.symm)),far _ _ a5 (fun e=>o4 (by injection e with e1;exact e1.symm)),far _ _ a6 (fun e=>o4 (by injection e with e1;exact e1.symm)),far _ _ a7 (fun e=>o4 (by injection e with e1;exact e1.symm))⟩)
  have EV:=HQ4.out.ev3 [.int .i64 1,.int .i64 i,.int .i64 inv,.int .i64 o.kind,.int .i64 o.key,.int .i64 o.val,.int .i64 0,.bool false,.int .i64 0,.int .i64 0,.int .i64 0,.slice none 0 0,.int .i64 picks];have n1:=World.new_ne w4 ⟨xb,5,none⟩ g5;have n2:=World.new_ne w4 ⟨g,i,none⟩ eg;have n3:=World.new_ne w4 ⟨tb,8,none⟩ e8;have n4:=World.new_ne w4 ⟨w.heap.size,0,none⟩ p0;refine wp_region_held_drew (S:=fun w'=>w'.cell? ⟨xb,7,none⟩=some (.int .i64 picks)/\w'.cell? ⟨xb,4,none⟩=some (.slice (some ⟨g,0,none⟩) tbs.length cap)/\w'.cell? ⟨g,i,none⟩=some (.pointer (some ⟨tb,0,none⟩))/\w'.cell? ⟨tb,8,none⟩=some (.int .i64 inv)/\w'.cell? ⟨w.heap.size,0,none⟩=some (.int .i64 o.kind)/\w'.cell? ⟨w.heap.size,1,none⟩=some (.int .i64 o.key)/\w'.cell? ⟨w.heap.size,2,none⟩=some (.int .i64 o.val)) (by kernel_rfl) ?_ (fun hHeld=> ?_)
  ·go_keep
  refine wpAnyH_take (i:=0) (v:= ?_) rfl (by kernel_rfl) (by kernel_rfl) (by kernel_rfl) (fun _ _ _ h=>h) (Or.inl ⟨by rfl, ?_⟩) (by assumption) ?_
  rotate_left
  ·(intro w hSw;(try dsimp only at hSw);go_simp;try with_reducible rfl)
  simp only[Act.put,List.setIfInBounds_toArray,List.set_cons_zero,List.set_cons_succ];refine wpAnyH_take (i:=1) (v:= ?_) rfl (by kernel_rfl) (by kernel_rfl) (by kernel_rfl) (fun _ _ _ h=>h) (Or.inl ⟨by rfl, ?_⟩) (by assumption) ?_
  rotate_left
  ·(intro w hSw;(try dsimp only at hSw);go_simp;try with_reducible rfl)
  simp only[Act.put,List.setIfInBounds_toArray,List.set_cons_zero,List.set_cons_succ];refine wpAnyH_take (i:=2) (v:= ?_) rfl (by kernel_rfl) (by kernel_rfl) (by kernel_rfl) (fun _ _ _ h=>h) (Or.inl ⟨by rfl, ?_⟩) (by assumption) ?_
  rotate_left
  ·(intro w hSw;(try dsimp only at hSw);go_simp;try with_reducible rfl)
  simp only[Act.put,List.setIfInBounds_toArray,List.set_cons_zero,List.set_cons_succ];refine wpAnyH_take (i:=3) (v:= ?_) rfl (by kernel_rfl) (by kernel_rfl) (by kernel_rfl) (fun _ _ _ h=>h) (Or.inl ⟨by rfl, ?_⟩) (by assumption) ?_
  rotate_left
  ·(intro w hSw;(try dsimp only at hSw);go_simp;try with_reducible rfl)
  simp only[Act.put,List.setIfInBounds_toArray,List.set_cons_zero,List.set_cons_succ];refine wpAnyH_take (i:=5) (v:= ?_) rfl (by kernel_rfl) (by kernel_rfl) (by kernel_rfl) (fun _ _ _ h=>h) (Or.inl ⟨by rfl, ?_⟩) (by assumption) ?_
  rotate_left
  ·(intro w hSw;(try dsimp only at hSw);go_simp;try with_reducible rfl)
  simp only[Act.put,List.setIfInBounds_toArray,List.set_cons_zero,List.set_cons_succ];refine wpAnyH_take (i:=6) (v:= ?_) rfl (by kernel_rfl) (by kernel_rfl) (by kernel_rfl) (fun _ _ _ h=>h) (Or.inl ⟨by rfl, ?_⟩) (by assumption) ?_
  rotate_left
  ·(intro w hSw;(try dsimp only at hSw);go_simp;try with_reducible rfl)
  simp only[Act.put,List.setIfInBounds_toArray,List.set_cons_zero,List.set_cons_succ];refine wpAnyH_take (i:=7) (v:= ?_) rfl (by kernel_rfl) (by kernel_rfl) (by kernel_rfl) (fun _ _ _ h=>h) (Or.inl ⟨by rfl, ?_⟩) (by assumption) ?_
  rotate_left
  ·(intro w hSw;(try dsimp only at hSw);go_simp;try with_reducible rfl)
  simp only[Act.put,List.setIfInBounds_toArray,List.set_cons_zero,List.set_cons_succ];refine wpAnyH_take (i:=8) (v:= ?_) rfl (by kernel_rfl) (by kernel_rfl) (by kernel_rfl) (fun _ _ _ h=>h) (Or.inl ⟨by rfl, ?_⟩) (by assumption) ?_
  rotate_left
  ·(intro w hSw;(try dsimp only at hSw);go_simp;try with_reducible rfl)
  simp only[Act.put,List.setIfInBounds_toArray,List.set_cons_zero,List.set_cons_succ];refine wpAnyH_take (i:=9) (v:= ?_) rfl (by kernel_rfl) (by kernel_rfl) (by kernel_rfl) (fun _ _ _ h=>h) (Or.inl ⟨by rfl, ?_⟩) (by assumption) ?_
  rotate_left
  ·(intro w hSw;(try dsimp only at hSw);go_simp;try with_reducible rfl)
  simp only[Act.put,List.setIfInBounds_toArray,List.set_cons_zero,List.set_cons_succ];refine wpAnyH_take (i:=10) (v:= ?_) rfl (by kernel_rfl) (by kernel_rfl) (by kernel_rfl) (fun _ _ _ h=>h) (Or.inl ⟨by rfl, ?_⟩) (by assumption) ?_
  rotate_left
  ·(intro w hSw;(try dsimp only at hSw);go_simp;try with_reducible rfl)
  simp only[Act.put,List.setIfInBounds_toArray,List.set_cons_zero,List.set_cons_succ];refine wpAnyH_take (i:=11) (v:= ?_) rfl (by kernel_rfl) (by kernel_rfl) (by kernel_rfl) (fun _ _ _ h=>h) (Or.inl ⟨by rfl, ?_⟩) (by assumption) ?_
  rotate_left
  ·(intro w hSw;(try dsimp only at hSw);go_simp;try with_reducible rfl)
  simp only[Act.put,List.setIfInBounds_toArray,List.set_cons_zero,List.set_cons_succ];refine wpAnyH_take (i:=12) (v:= ?_) rfl (by kernel_rfl) (by kernel_rfl) (by kernel_rfl) (fun _ _ _ h=>h) (Or.inl ⟨by rfl, ?_⟩) (by assumption) ?_
  rotate_left
  ·(intro w hSw;(try dsimp only at hSw);go_simp;try with_reducible rfl)
  simp only[Act.put,List.setIfInBounds_toArray,List.set_cons_zero,List.set_cons_succ];refine wpAnyH_take (i:=13) (v:= ?_) rfl (by kernel_rfl) (by kernel_rfl) (by kernel_rfl) (fun _ _ _ h=>h) (Or.inl ⟨by rfl, ?_⟩) (by assumption) ?_
  rotate_left
  ·(intro w hSw;(try dsimp only at hSw);go_simp;try with_reducible rfl)
  simp only[Act.put,List.setIfInBounds_toArray,List.set_cons_zero,List.set_cons_succ];refine wpAnyH_take (i:=14) (v:= ?_) rfl (by kernel_rfl) (by kernel_rfl) (by kernel_rfl) (fun _ _ _ h=>h) (Or.inl ⟨by rfl, ?_⟩) (by assumption) ?_
  rotate_left
  ·(intro w hSw;(try dsimp only at hSw);go_simp;try with_reducible rfl)
  simp only[Act.put,List.setIfInBounds_toArray,List.set_cons_zero,List.set_cons_succ];refine wpAnyH_take (i:=15) (v:= ?_) rfl (by kernel_rfl) (by kernel_rfl) (by kernel_rfl) (fun _ _ _ h=>h) (Or.inl ⟨by rfl, ?_⟩) (by assumption) ?_
  rotate_left
  ·(intro w hSw;(try dsimp only at hSw);go_simp;try with_reducible rfl)
  simp only[Act.put,List.setIfInBounds_toArray,List.set_cons_zero,List.set_cons_succ];refine wpAnyH_take (i:=16) (v:= ?_) rfl (by kernel_rfl) (by kernel_rfl) (by kernel_rfl) (fun _ _ _ h=>h) (Or.inl ⟨by rfl, ?_⟩) (by assumption) ?_
  rotate_left
  ·(intro w hSw;(try dsimp only at hSw);go_simp;try with_reducible rfl)
  simp only[Act.put,List.setIfInBounds_toArray,List.set_cons_zero,List.set_cons_succ];refine wpAnyH_take (i:=17) (v:= ?_) rfl (by kernel_rfl) (by kernel_rfl) (by kernel_rfl) (fun _ _ _ h=>h) (Or.inl ⟨by rfl, ?_⟩) (by assumption) ?_
  rotate_left
  ·(intro w hSw;(try dsimp only at hSw);go_simp;try with_reducible rfl)
  simp only[Act.put,List.setIfInBounds_toArray,List.set_cons_zero,List.set_cons_succ];refine wpAnyH_take (i:=18) (v:= ?_) rfl (by kernel_rfl) (by kernel_rfl) (by kernel_rfl) (fun _ _ _ h=>h) (Or.inl ⟨by rfl, ?_⟩) (by assumption) ?_
  rotate_left
  ·(intro w hSw;(try dsimp only at hSw);go_simp;try with_reducible rfl)
  simp only[Act.put,List.setIfInBounds_toArray,List.set_cons_zero,List.set_cons_succ];refine wpAnyH_take (i:=19) (v:= ?_) rfl (by kernel_rfl) (by kernel_rfl) (by kernel_rfl) (fun _ _ _ h=>h) (Or.inl ⟨by rfl, ?_⟩) (by assumption) ?_
  rotate_left
  ·(intro w hSw;(try dsimp only at hSw);go_simp;try with_reducible rfl)
  simp only[Act.put,List.setIfInBounds_toArray,List.set_cons_zero,List.set_cons_succ];refine wpAnyH_take (i:=20) (v:= ?_) rfl (by kernel_rfl) (by kernel_rfl) (by kernel_rfl) (fun _ _ _ h=>h) (Or.inl ⟨by rfl, ?_⟩) (by assumption) ?_
  rotate_left
  ·(intro w hSw;(try dsimp only at hSw);go_simp;try with_reducible rfl)
  simp only[Act.put,List.setIfInBounds_toArray,List.set_cons_zero,List.set_cons_succ];refine wpAnyH_take (i:=21) (v:= ?_) rfl (by kernel_rfl) (by kernel_rfl) (by kernel_rfl) (fun _ _ _ h=>h) (Or.inl ⟨by rfl, ?_⟩) (by assumption) ?_
  rotate_left
  ·(intro w hSw;(try dsimp only at hSw);go_simp;try with_reducible rfl)
  simp only[Act.put,List.setIfInBounds_toArray,List.set_cons_zero,List.set_cons_succ];refine wpAnyH_ready (rs:=[4,22]) (by kernel_rfl) (by simp) ?_;refine AllReadyH.cons rfl (fun K hK=> ?_) (AllReadyH.cons rfl (fun K hK=> ?_) AllReadyH.nil)
  ·go_simp
   refine hK.out _ _ ?_ (fun hHeld=> ?_)
   ·go_keep
   clear hK K
   try simp only[Act.put,List.setIfInBounds_toArray,List.set_cons_zero,List.set_cons_succ]
   refine wpAnyH_ready (rs:=[22]) (by kernel_rfl) (by simp) ?_;refine AllReadyH.cons rfl (fun K hK=> ?_) AllReadyH.nil
   go_simp
   refine hK.out _ _ ?_ (fun hHeld=> ?_)
   ·go_keep
   clear hK K
   try simp only[Act.put,List.setIfInBounds_toArray,List.set_cons_zero,List.set_cons_succ]
   refine wpAnyH_ready (rs:=[23]) (by kernel_rfl) (by simp) ?_;refine AllReadyH.cons rfl (fun K hK=> ?_) AllReadyH.nil;refine step_append_lies _ (by rfl) _ _ _ (by rfl) 0 218 i0 _ 13 120 Tryz.underlying88 hi0 hz0 hz1 hz2 rfl (by omega) (.slice lA ln lc) ln lxs (by rfl) EV.out.1 ⟨w4.heap.size,0,none⟩ 1 1 [.int .i64 1,.int .i64 i,.int .i64 inv,.int .i64 o.kind,.int .i64 o.key,.int .i64 o.val,.int .i64 0,.bool false,.int .i64 0,.int .i64 0,.int .i64 0,.slice none 0 0,.int .i64 picks] (by rfl) (by rfl) EV.out.2.1 (by simp[Value.oneCell']) (by omega) (by unfold maxLen;omega) (by omega) (by omega) (w4.heap.size+1) (by simp) ?_;intro gg cap3 w6 hO6 hg6 hat hlt6;have K6:=EV.out.2.2 w4.heap.size gg cap3 w6 (Nat.le_refl _) hO6 hg6 (hat.imp id (fun e=>by omega));have c5:=K6.out.1;have f5:=K6.out.2.1;have K51:=LH (HS.out w6 K6.out.2.2.2.2).1;have K52:=LH ((HS.out w6 K6.out.2.2.2.2).2 (.slice (some ⟨gg,0,none⟩) (ln+1) cap3));clear hO6 hg6 hat hlt6;refine hK.out _ _ ?_ (fun hHeld=> ?_)
   ·exact K51.out
   clear hK K
   try simp only[Act.put,List.setIfInBounds_toArray,List.set_cons_zero,List.set_cons_succ]
   refine wpAnyH_take (i:=24) (v:= ?_) rfl (by kernel_rfl) (by kernel_rfl) (by kernel_rfl) (fun _ _ _ h=>h) (Or.inl ⟨by rfl, ?_⟩) (by assumption) ?_
   rotate_left
   ·(intro w hSw;(try dsimp only at hSw);go_simp;try with_reducible rfl)
   simp only[Act.put,List.setIfInBounds_toArray,List.set_cons_zero,List.set_cons_succ];refine wpAnyH_take (i:=25) (v:= ?_) rfl (by kernel_rfl) (by kernel_rfl) (by kernel_rfl) (fun _ _ _ h=>h) (Or.inl ⟨by rfl, ?_⟩) (by assumption) ?_
   rotate_left
   ·(intro w hSw;(try dsimp only at hSw);go_simp;try with_reducible rfl)
   simp only[Act.put,List.setIfInBounds_toArray,List.set_cons_zero,List.set_cons_succ];refine wpAnyH_ready (rs:=[26]) (by kernel_rfl) (by simp) ?_;refine AllReadyH.cons rfl (fun K hK=> ?_) AllReadyH.nil
   go_simp
   refine hK.out _ _ ?_ (fun hHeld=> ?_)
   ·exact K52.out
   clear hK K
   try simp only[Act.put,List.setIfInBounds_toArray,List.set_cons_zero,List.set_cons_succ]
   refine wpAnyH_done (by kernel_rfl) ?_ _;have HFIN:=LH (IxPost.ev (k:=k+1) HC4.out HG4.out K6.out.2.2.1 K6.out.2.2.2.1 (by omega));clear K6 c5 f5 EV g5 g7 g4 eg e8 p0 p1 p2 hHeld K51 K52 HS;go_wp2_with (fail);go_ret;exact ⟨⟨_,rfl⟩,HFIN.out⟩
  ·go_simp
   refine hK.out _ _ ?_ (fun hHeld=> ?_)
   ·go_keep
   clear hK K
   try simp only[Act.put,List.setIfInBounds_toArray,List.set_cons_zero,List.set_cons_succ]
   refine wpAnyH_ready (rs:=[4]) (by kernel_rfl) (by simp) ?_;refine AllReadyH.cons rfl (fun K hK=> ?_) AllReadyH.nil
   go_simp
   refine hK.out _ _ ?_ (fun hHeld=> ?_)
   ·go_keep
   clear hK K
   try simp only[Act.put,List.setIfInBounds_toArray,List.set_cons_zero,List.set_cons_succ]
   refine wpAnyH_ready (rs:=[23]) (by kernel_rfl) (by simp) ?_;refine AllReadyH.cons rfl (fun K hK=> ?_) AllReadyH.nil;refine step_append_lies _ (by rfl) _ _ _ (by rfl) 0 218 i0 _ 13 120 Tryz.underlying88 hi0 hz0 hz1 hz2 rfl (by omega) (.slice lA ln lc) ln lxs (by rfl) EV.out.1 ⟨w4.heap.size,0,none⟩ 1 1 [.int .i64 1,.int .i64 i,.int .i64 inv,.int .i64 o.kind,.int .i64 o.key,.int .i64 o.val,.int .i64 0,.bool false,.int .i64 0,.int .i64 0,.int .i64 0,.slice none 0 0,.int .i64 picks] (by rfl) (by rfl) EV.out.2.1 (by simp[Value.oneCell']) (by omega) (by unfold maxLen;omega) (by omega) (by omega) (w4.heap.size+1) (by simp) ?_;intro gg cap3 w6 hO6 hg6 hat hlt6;have K6:=EV.out.2.2 w4.heap.size gg cap3 w6 (Nat.le_refl _) hO6 hg6 (hat.imp id (fun e=>by omega));have c5:=K6.out.1;have f5:=K6.out.2.1;have K51:=LH (HS.out w6 K6.out.2.2.2.2).1;have K52:=LH ((HS.out w6 K6.out.2.2.2.2).2 (.slice (some ⟨gg,0,none⟩) (ln+1) cap3));clear hO6 hg6 hat hlt6;refine hK.out _ _ ?_ (fun hHeld=> ?_)
   ·exact K51.out
   clear hK K
   try simp only[Act.put,List.setIfInBounds_toArray,List.set_cons_zero,List.set_cons_succ]
   refine wpAnyH_take (i:=24) (v:= ?_) rfl (by kernel_rfl) (by kernel_rfl) (by kernel_rfl) (fun _ _ _ h=>h) (Or.inl ⟨by rfl, ?_⟩) (by assumption) ?_
   rotate_left
   ·(intro w hSw;(try dsimp only at hSw);go_simp;try with_reducible rfl)
   simp only[Act.put,List.setIfInBounds_toArray,List.set_cons_zero,List.set_cons_succ];refine wpAnyH_take (i:=25) (v:= ?_) rfl (by kernel_rfl) (by kernel_rfl) (by kernel_rfl) (fun _ _ _ h=>h) (Or.inl ⟨by rfl, ?_⟩) (by assumption) ?_
   rotate_left
   ·(intro w hSw;(try dsimp only at hSw);go_simp;try with_reducible rfl)
   simp only[Act.put,List.setIfInBounds_toArray,List.set_cons_zero,List.set_cons_succ];refine wpAnyH_ready (rs:=[26]) (by kernel_rfl) (by simp) ?_;refine AllReadyH.cons rfl (fun K hK=> ?_) AllReadyH.nil
   go_simp
   refine hK.out _ _ ?_ (fun hHeld=> ?_)
   ·exact K52.out
   clear hK K
   try simp only[Act.put,List.setIfInBounds_toArray,List.set_cons_zero,List.set_cons_succ]
   refine wpAnyH_done (by kernel_rfl) ?_ _;have HFIN:=LH (IxPost.ev (k:=k+1) HC4.out HG4.out K6.out.2.2.1 K6.out.2.2.2.1 (by omega));clear K6 c5 f5 EV g5 g7 g4 eg e8 p0 p1 p2 hHeld K51 K52 HS;go_wp2_with (fail);go_ret;exact ⟨⟨_,rfl⟩,HFIN.out⟩
section
variable (F:Nat->Prop) (bm:Nat) (C:List Int) (max:Int)
theorem Q99 (x:Int) (w:World) (h:M7 F bm C max w) (bx:i64B x) (hk:Q05 x=1):
  Calls Tryz.prog 180 #[.pointer (some ⟨bm,0,none⟩),.int .i64 x] w fun e w'=>e=.returned (.slice none 0 0)/\w=w':=by
 obtain ⟨b0,b1⟩:=bx;have HK:=LH hk;clear hk h;go_enter Tryz.func180,Tryz.ntmps180;go_wp2_with (fail);with_reducible refine (Q0x x _ b0 b1).mono ?_
 rintro e w3 ⟨rfl,rfl⟩;go_wp2_with (fail);with_reducible refine (Q0A x _ b0 b1).mono ?_
 rintro e w2 ⟨rfl,rfl⟩
 rw[HK.out]
 go_wp2_with (fail);go_ret;exact ⟨rfl,rfl⟩
theorem Q66 (w:World) (h:M7 F bm C max w) (hC:C.length<=65536) (hb:CB C) (hs:SoundB C) (hk:Q05 (lgC C 6)=1):
  Calls Tryz.prog 122 #[.pointer (some ⟨bm,0,none⟩)] w fun e w'=>e=.returned (.slice none 0 0)/\Below w.heap.size w w':=by
 have H:=LH h;have HB:=LH hb;have HS:=LH hs;have HK:=LH hk;have bg:i64B (lgC C 6):=by unfold lgC;split;(split<;>exact hb.rd _);exact hb.rd _
 have HG:=LH bg;clear h hb hs hk bg;go_enter Tryz.func122,Tryz.ntmps122;go_wp2_with (fail);with_reducible refine (Qb3 F bm C max _ H.out hC HB.out HS.out).mono ?_
 rintro e w1 ⟨rfl,hbl⟩;have H1:=LH (H.out.below hbl);have HBL:=LH hbl;clear hbl;go_wp2_with (fail);with_reducible refine (Q4Y F bm C max 6 _ H1.out (by omega) HB.out).mono ?_
 rintro e w2 ⟨rfl,rfl⟩;go_wp2_with (fail);with_reducible refine (Q99 F bm C max (lgC C 6) _ H1.out HG.out HK.out).mono ?_
 rintro e w3 ⟨rfl,rfl⟩;go_wp2_with (fail);go_ret;exact ⟨rfl,HBL.out⟩
end
theorem Q8l:SoundB beginL:=⟨by decide,by decide,by decide,1,_,rfl⟩
theorem Qd3:Q05 (lgC beginL 6)=1:=by decide+kernel
theorem Q88:CB beginL:=fun x hx=>by
 unfold i64B;simp[beginL] at hx;omega
def Qh7 (n:Nat) (w:World) (iv:Value) (wr:World):Prop:=∃i:Nat,i<=n/\iv=.int .i64 i/\wr=w
theorem Q72 (own:Nat->Nat) (xb bm:Nat) (tbs:List Nat) (s:IX) (k:Nat) (w:World) (h:IxP own xb bm tbs s k w) (hn:tbs.length<=64) (hb:∀i,i<tbs.length->(s.T.getD i TH.nil).busy=false):
  Calls Tryz.prog 214 #[.pointer (some ⟨xb,0,none⟩)] w fun e w'=>e=.returned (.bool true)/\w'=w:=by
 obtain ⟨a0,a1,a2,tv,lv,ln,lxs,inv,picks,h,hk⟩:=h;have HB:=LH hb;have HH:=LH h;obtain ⟨tA,tc,rfl⟩:=Q03 h.row;have e4:w.cell? ⟨xb,4,none⟩=some (.slice tA tbs.length tc):=h.blk.cell 4;clear h hb;go_enter Tryz.func214,Tryz.ntmps214;go_wp2_with (fail)
 go_loopw [3] (fun iv wr=>Qh7 tbs.length w iv wr) (fun iv _=>tbs.length-(intOf iv).toNat)
 case atStart=>unfold Qh7;exact ⟨0,Nat.zero_le _,rfl,rfl⟩
 case round=>
  obtain ⟨i,hi,rfl,rfl⟩:=hrel;by_cases hlt:i<tbs.length
  ·obtain ⟨g,cap,hv,_,_⟩:=HH.out.row.form (by omega);injection hv with h1 h2 h3;subst h1
   have eg:wr.cell? ⟨g,i,none⟩=some (.pointer (some ⟨tbs.getD i 0,0,none⟩)):=by
    rw[HH.out.row.cellAt i (by simp;omega)]
    rw[List.getElem?_map,List.getElem?_eq_getElem hlt]
    simp[Q2L,List.getD_eq_getElem?_getD,List.getElem?_eq_getElem hlt]
   obtain ⟨_,_,_,_,_,_,_,hq⟩:=HH.out.th i hlt;have e1:wr.cell? ⟨tbs.getD i 0,1,none⟩=some (.bool (s.T.getD i TH.nil).busy):=hq.blk.cell 1
   rw[HB.out i hlt] at e1
   have hlt2:(i:Int)<tbs.length:=by omega
   clear hq h2 h3;generalize tbs.getD i 0=tb at eg e1;go_wp2_with (fail)
   go_roundw
   case rel=>unfold Qh7;exact ⟨i+1,by omega,by go_num,rfl⟩
   case measure=>simp[intOf];omega
  ·have e:i=tbs.length:=by omega
   subst e;go_wp2_with (fail);go_ret;exact ⟨rfl,rfl⟩
def TH.new (b:Int):TH:=⟨b,false,TH.nil.x,[],false,FOut.zero⟩
def QaL (b:Int):Array Value:=#[.int .i64 b,.bool false,.int .i64 0,.int .i64 0,.int .i64 0,.pointer none,.int .i64 0,.bool false,.int .i64 0]
theorem Qdf:(Tryz.prog.info? 165).map (fun i=>(i.zero,i.size,i.bytes))=some (some (.pointer none),1,8):=by kernel_rfl
section
variable {own:Nat->Nat} {xb bm:Nat} {tbs:List Nat} {s:IX} {a0 a1 a2 inv picks:Int} {tv lv:Value} {ln:Nat} {lxs:List Value} {w:World}
def QfV (own:Nat->Nat) (n m:Nat):Nat->Nat:=fun y=>if y<n then own y else if y=n then 3+m else 1
theorem IxQ.thr (h:IxQ own xb bm tbs s a0 a1 a2 tv lv ln lxs inv picks w) (b:Int):
  Hid (((w.alloc (.cells (QaL b) 164)).alloc (.cells #[Q2L w.heap.size] 165)).drew.ownsRow 0 165 1 tv tbs.length (tbs.map Q2L)/\
   (∀(j:Nat) (u:Value),[Q2L w.heap.size][j]? =some u->((w.alloc (.cells (QaL b) 164)).alloc (.cells #[Q2L w.heap.size] 165)).drew.cell? ((⟨w.heap.size+1,0,none⟩:Addr).add j)=some u)/\
   ∀(gg cap:Nat) (w5:World),w5.ownsRow 0 165 1 (.slice (some ⟨gg,0,none⟩) (tbs.length+1) cap) (tbs.length+1) (tbs.map Q2L++[Q2L w.heap.size])->((w.alloc (.cells (QaL b) 164)).alloc (.cells #[Q2L w.heap.size] 165)).drew.grownBy w5 tv.ownBlock->(tv.ownBlock=some gg\/w.heap.size+2<=gg)->
    Hid (w5.cell? ⟨xb,4,none⟩=some tv/\w5.frozen? ⟨xb,4,none⟩=false/\IxQ (QfV own w.heap.size tbs.length) xb bm (tbs++[w.heap.size]) {s with T:=s.T++[TH.new b]} a0 a1 a2 (.slice (some ⟨gg,0,none⟩) (tbs.length+1) cap) lv ln lxs inv picks (w5.setCell ⟨xb,4,none⟩ (.slice (some ⟨gg,0,none⟩) (tbs.length+1) cap))/\Chg (fun y=>own y=1) w (w5.setCell ⟨xb,4,none⟩ (.slice (some ⟨gg,0,none⟩) (tbs.length+1) cap)))):=by
 have hal:=(Below.refl w.heap.size w).alloc (Nat.le_refl _) (.cells (QaL b) 164);have hz1:(w.alloc (.cells (QaL b) 164)).heap.size=w.heap.size+1:=by simp
 have hz2:((w.alloc (.cells (QaL b) 164)).alloc (.cells #[Q2L w.heap.size] 165)).heap.size=w.heap.size+2:=by simp
 have hal2:=hal.alloc hal.size (.cells #[Q2L w.heap.size] 165);have hbl:Below w.heap.size w ((w.alloc (.cells (QaL b) 164)).alloc (.cells #[Q2L w.heap.size] 165)).drew:=hal2.trans (Q08 (Drawn.of _ 1) _);have htb:Blk ((w.alloc (.cells (QaL b) 164)).alloc (.cells #[Q2L w.heap.size] 165)).drew w.heap.size 164 (QaL b):=((Blk.new w 164 (QaL b)).alloc _).drew;refine LH ⟨Q0n h.row hbl,fun j u hu=> ?_,fun gg cap w5 hO hg hat=> ?_⟩
 ·have e:(⟨w.heap.size+1,0,none⟩:Addr).add j=⟨w.heap.size+1,j,none⟩:=by unfold Addr.add;split<;>simp_all
  rw[e]
  have hb:=(Blk.new (w.alloc (.cells (QaL b) 164)) 165 #[Q2L w.heap.size]).cell j
  rw[hz1] at hb
  exact hb.trans (by simpa using hu)
 ·have hc:=(Chg.of_below (F:=fun y=>tv.ownBlock=some y) hbl).trans (Chg.of_grown hg);have hb5:=hc.blk h.blk (fun e=>Q0o h.row h.blk (by decide) e);have hc6:Chg (fun y=>y=xb\/tv.ownBlock=some y) w (w5.setCell ⟨xb,4,none⟩ (.slice (some ⟨gg,0,none⟩) (tbs.length+1) cap)):=(hc.mono (fun _=>.inr)).trans ((Chg.set1 w5 xb 4 _).mono (fun _=>.inl));have hc7:Chg (fun y=>own y=1) w (w5.setCell ⟨xb,4,none⟩ (.slice (some ⟨gg,0,none⟩) (tbs.length+1) cap)):=hc6.mono (fun y hy=>by rcases hy with rfl|e;exact h.ox;exact h.rowo y e);have hlt:=h.blk.lt;have olt:∀y,y<w.heap.size->QfV own w.heap.size tbs.length y=own y:=fun y hy=>if_pos hy;have htb5:Blk w5 w.heap.size 164 (QaL b):=(Chg.of_grown hg).blk htb (fun e=>by have:=Q0T h.row _ e;omega);have htb6:=(Chg.set1 w5 xb 4 (.slice (some ⟨gg,0,none⟩) (tbs.length+1) cap)).blk htb5 (by omega);refine LH ⟨hb5.cell 4,hb5.frozen 4,⟨(olt _ hlt).trans h.ox,hb5.set_ 4 _,(h.mem.within.chg hc7 (fun y h1 h2=>by rw[h1.1] at h2;cases h2)).mono (fun y hy=>(olt _ hy.2).trans hy.1),by simp[h.len], ?_,fun g hg'=> ?_, ?_,fun g hg'=>(olt _ (Q0T h.log g hg')).trans (h.logo g hg'),fun i hi=> ?_⟩,hc7⟩
  ·rw[List.length_append,List.map_append]
   exact (Chg.set1 w5 xb 4 _).own hO (Q0t hO hb5 (by decide))
  ·have hgg:gg=g:=by simpa[Value.ownBlock] using hg'
   subst hgg
   rcases hat with e|e
   ·exact (olt _ (Q0T h.row gg e)).trans (h.rowo gg e)
   ·unfold QfV;rw[if_neg (by omega),if_neg (by omega)]
  ·exact hc6.own h.log (fun g hg' e=>by
    rcases e with rfl|e
    ·exact Q0o h.log h.blk (by decide) hg'
    ·obtain ⟨cs,hb2⟩:=Q1r h.row e;exact Q0o h.log hb2 (by decide) hg')
  ·rw[List.length_append] at hi
   by_cases e:i<tbs.length
   ·have e1:(tbs++[w.heap.size]).getD i 0=tbs.getD i 0:=by rw[List.getD_eq_getElem?_getD,List.getD_eq_getElem?_getD,List.getElem?_append_left e]
    have e2:(s.T++[TH.new b]).getD i TH.nil=s.T.getD i TH.nil:=by rw[List.getD_eq_getElem?_getD,List.getD_eq_getElem?_getD,List.getElem?_append_left (by rw[<-h.len];exact e)]
    show ThP _ ((tbs++[w.heap.size]).getD i 0) ((s.T++[TH.new b]).getD i TH.nil) _
    rw[e1,e2]
    exact ((h.th i e).within.chg hc7 (fun y h1 h2=>by rw[h1.1] at h2;omega)).mono (fun y hy=>(olt _ hy.2).trans hy.1)
   ·have ei:i=tbs.length:=by simp at hi;omega
    subst ei;have e1:(tbs++[w.heap.size]).getD tbs.length 0=w.heap.size:=by simp[List.getD_eq_getElem?_getD]
    have e2:(s.T++[TH.new b]).getD tbs.length TH.nil=TH.new b:=by rw[h.len];simp[List.getD_eq_getElem?_getD]
    show ThP _ ((tbs++[w.heap.size]).getD tbs.length 0) ((s.T++[TH.new b]).getD tbs.length TH.nil) _
    rw[e1,e2]
    refine ⟨0,0,0,.pointer none,0,false,0, ?_,htb6,fun hb=>by cases hb⟩;unfold QfV
    rw[if_neg (Nat.lt_irrefl _),if_pos rfl]
end
def Qhi (xb bm cb n:Nat) (cells b:Int) (w0:World) (iv:Value) (wr:World):Prop:=∃(i:Nat) (own:Nat->Nat) (tbs:List Nat),iv=.int .i64 i/\i<=n/\tbs.length=i/\IxP own xb bm tbs ⟨beginL,cells,List.replicate i (TH.new b)⟩ 0 wr/\(∀y,own y≠0->w0.heap.size<y)/\Below w0.heap.size w0 wr/\cb=w0.heap.size/\Blk wr cb 86 #[.int .i64 cells,.int .i64 n,.int .i64 b]
def Q9k (n:Nat) (cells b:Int) (w:World) (e:Ending) (w':World):Prop:=∃(own:Nat->Nat) (xb bm:Nat) (tbs:List Nat),e=.returned (.tuple #[.pointer (some ⟨xb,0,none⟩),.int .i64 0])/\tbs.length=n/\IxP own xb bm tbs ⟨beginL,cells,List.replicate n (TH.new b)⟩ 0 w'/\(∀y,own y≠0->w.heap.size<=y)/\Below w.heap.size w w'
theorem QcR (n:Nat) (cells b:Int) (w:World) (c0:7<=cells) (c1:cells<=65536) (n0:1<=n) (n1:n<=64) (b0:1<=b) (b1:b<=64):
  Calls Tryz.prog 168 #[.agg #[.int .i64 cells,.int .i64 n,.int .i64 b]] w (Q9k n cells b w):=by
 have hcb:=Blk.new w 86 #[.int .i64 cells,.int .i64 n,.int .i64 b];have hba:=(Below.refl w.heap.size w).alloc (Nat.le_refl _) (.cells #[.int .i64 cells,.int .i64 n,.int .i64 b] 86);have p0:(w.alloc (.cells #[.int .i64 cells,.int .i64 n,.int .i64 b] 86)).cell? ⟨w.heap.size,0,none⟩=some (.int .i64 cells):=hcb.cell 0;have p1:(w.alloc (.cells #[.int .i64 cells,.int .i64 n,.int .i64 b] 86)).cell? ⟨w.heap.size,1,none⟩=some (.int .i64 n):=hcb.cell 1;have p2:(w.alloc (.cells #[.int .i64 cells,.int .i64 n,.int .i64 b] 86)).cell? ⟨w.heap.size,2,none⟩=some (.int .i64 b):=hcb.cell 2;have q1:¬(n:Int)<1:=by omega
 have q2:¬(64:Int)<n:=by omega
 have HCB:=LH hcb;have HBA:=LH hba;clear hcb hba;go_enter Tryz.func168,Tryz.ntmps168;go_wp2_with (fail);with_reducible refine (QeA cells _ (by omega) c1).mono ?_
 rintro e w1 ⟨rfl,hm,hb⟩;have HM:=LH hm;have HCB1:=LH (HCB.out.below hb HCB.out.lt);have HB1:=LH (HBA.out.trans ((Chg.of_below (F:=fun _=>False) hb).below (B:=w.heap.size) (fun y hy=>hy.elim) (by simp)));have HZ:=LH (show (w.alloc (.cells #[.int .i64 cells,.int .i64 n,.int .i64 b] 86)).heap.size=w.heap.size+1 by simp);clear hm hb p0 p1 p2;generalize hmb:(w.alloc (.cells #[.int .i64 cells,.int .i64 n,.int .i64 b] 86)).heap.size=bm at HM HZ;clear hmb;go_wp2_with (fail);with_reducible refine (QbU _ bm cells _ HM.out c0 c1).mono ?_
 rintro e w2 ⟨rfl,hm,hc⟩;have hmw:M7 (fun y=>bm<=y/\y<w2.heap.size) bm beginL cells w2:=hm.within.mono (fun y hy=>⟨by rcases hy.1 with h|h;exact h;have:=HM.out.lt;omega,hy.2⟩);have HM2:=LH hmw;have hcc:Chg (fun y=>w.heap.size+1<=y) w1 w2:=hc.mono (fun y hy=>by have:=HZ.out;omega);have HCB2:=LH (hcc.blk HCB1.out (by omega));have HB2:=LH (HB1.out.trans (hcc.below (B:=w.heap.size) (fun y hy=>by omega) HB1.out.size));clear hm hc hmw hcc HM;have p0:w2.cell? ⟨w.heap.size,0,none⟩=some (.int .i64 cells):=HCB2.out.cell 0;have p1:w2.cell? ⟨w.heap.size,1,none⟩=some (.int .i64 n):=HCB2.out.cell 1;have p2:w2.cell? ⟨w.heap.size,2,none⟩=some (.int .i64 b):=HCB2.out.cell 2;have hix:=Blk.new w2 90 #[.int .i64 cells,.int .i64 n,.int .i64 b,Q2L bm,.slice none 0 0,.slice none 0 0,.int .i64 0,.int .i64 0];have hb3:=(Below.refl w2.heap.size w2).alloc (Nat.le_refl _) (.cells #[.int .i64 cells,.int .i64 n,.int .i64 b,Q2L bm,.slice none 0 0,.slice none 0 0,.int .i64 0,.int .i64 0] 90);have hwz:w.heap.size<w2.heap.size:=HCB2.out.lt
 have START:Hid (Qhi w2.heap.size bm w.heap.size n cells b w (.int .i64 0) (w2.alloc (.cells #[.int .i64 cells,.int .i64 n,.int .i64 b,Q2L bm,.slice none 0 0,.slice none 0 0,.int .i64 0,.int .i64 0] 90))):=LH (by
  refine ⟨0,fun y=>if y=w2.heap.size then 1 else if bm<=y/\y<w2.heap.size then 2 else 0,[],rfl,Nat.zero_le _,rfl,⟨_,_,_,.slice none 0 0,.slice none 0 0,0,[],0,0,⟨if_pos rfl,hix,(HM2.out.below hb3).mono (fun y hy=> ?_),rfl,World.ownsRow_nil _ _ _ _,fun g hg=>absurd hg (by simp[Value.ownBlock]),World.ownsRow_nil _ _ _ _,fun g hg=>absurd hg (by simp[Value.ownBlock]),fun i hi=>absurd hi (Nat.not_lt_zero _)⟩,Nat.le_refl _⟩,fun y hy=> ?_,HB2.out.trans ((Chg.of_below (F:=fun _=>False) hb3).below (B:=w.heap.size) (fun y hy=>hy.elim) (by omega)),rfl,HCB2.out.below hb3 HCB2.out.lt⟩
  ·show (if y=w2.heap.size then 1 else if bm<=y/\y<w2.heap.size then 2 else 0)=2
   rw[if_neg (by omega),if_pos hy]
  ·have hy:(if y=w2.heap.size then 1 else if bm<=y/\y<w2.heap.size then 2 else 0)≠0:=hy;have hz:=HZ.out;by_cases e1:y=w2.heap.size
   ·omega
   ·rw[if_neg e1] at hy
    by_cases e2:bm<=y/\y<w2.heap.size
    ·omega
    ·rw[if_neg e2] at hy;exact absurd rfl hy)
 clear hix hb3 HM2 HCB2 HB2 HB1 HCB1 HCB HBA;go_wp2_with (fail);clear p0 p1 p2;obtain ⟨i0,hi0,hz0,hz1,hz2⟩:=info_parts Qdf
 go_loopw [7] (fun iv wr=>Qhi w2.heap.size bm w.heap.size n cells b w iv wr) (fun iv _=>((n:Int)-intOf iv).toNat)
 case atStart=>exact START.out
 case round=>
  clear START;obtain ⟨_,own,tbs,rfl,hin,rfl,hix,hfr,hbl,_,hcb⟩:=hrel;have p1:wr.cell? ⟨w.heap.size,1,none⟩=some (.int .i64 n):=hcb.cell 1;have p2:wr.cell? ⟨w.heap.size,2,none⟩=some (.int .i64 b):=hcb.cell 2;obtain ⟨a0,a1,a2,tv,lv,ln,lxs,inv,picks,hq,hk⟩:=hix;obtain ⟨A,c,rfl⟩:=Q03 hq.row;by_cases hlt:(tbs.length:Int)<n
  ·have hnlt:¬(n:Int)<=tbs.length:=by omega
   have e4:wr.cell? ⟨w2.heap.size,4,none⟩=some (.slice A tbs.length c):=hq.blk.cell 4;have hix:w2.heap.size<wr.heap.size:=hq.blk.lt;have HA:=LH (hq.thr b);have HFR:=LH hfr;have HBL:=LH hbl;have HCB:=LH hcb;have HOX:=LH hq.ox;have HLN:=LH hk;clear hq hfr hbl hcb;unfold QaL at HA;go_wp2_with (fail)
   go_region_law (first|(refine step_append_lies _ (by rfl) _ _ _ (by rfl) 0 165 i0 _ 1 8 Tryz.underlying87 hi0 hz0 hz1 hz2 rfl (by omega) (.slice A tbs.length c) tbs.length (tbs.map Q2L) (by rfl) HA.out.out.1 ⟨wr.heap.size+1,0,none⟩ 1 1 [Q2L wr.heap.size] (by rfl) (by rfl) HA.out.out.2.1 (by simp[Value.oneCell',Q2L]) (by omega) (by unfold maxLen;omega) (by omega) (by omega) (wr.heap.size+2) (by simp) ?_;intro gg cap w5 hO5 hg5 hat hlt5;have K5:=HA.out.out.2.2 gg cap w5 hO5 hg5 (hat.imp id (fun e=>by omega));have c5:=K5.out.1;have f5:=K5.out.2.1;clear hO5 hg5 hat hlt5))
   all_goals
    have HQ:=LH K5.out.2.2;clear K5 c5 f5 HA e4 p1 p2;generalize w5.setCell ⟨w2.heap.size,4,none⟩ (.slice (some ⟨gg,0,none⟩) (tbs.length+1) cap)=w6 at HQ|-;go_wp2_with (fail)
    go_roundw
    case rel=>
     have hq:=HQ.out.1;have hc:=HQ.out.2;refine ⟨tbs.length+1,QfV own wr.heap.size tbs.length,tbs++[wr.heap.size],by go_num,by omega,by simp,⟨_,_,_,_,_,_,_,_,_,(by rw[List.replicate_succ'];exact hq),HLN.out⟩,fun y hy=> ?_,HBL.out.trans (hc.below (B:=w.heap.size) (fun y hy=>by have:=HFR.out y (by rw[hy];decide);omega) HBL.out.size),rfl,hc.blk HCB.out (fun e=>by have:=HFR.out _ (by rw[e];decide);omega)⟩;have hy:QfV own wr.heap.size tbs.length y≠0:=hy;unfold QfV at hy;by_cases e:y<wr.heap.size
     ·rw[if_pos e] at hy;exact HFR.out y hy
     ·omega
    case measure=>simp[intOf];omega
  ·have hnlt:(n:Int)<=tbs.length:=by omega
   have hni:n=tbs.length:=by omega
   subst hni;have HX:=LH (show Q9k tbs.length cells b w (.returned (.tuple #[.pointer (some ⟨w2.heap.size,0,none⟩),.int .i64 0])) wr from ⟨own,_,bm,tbs,rfl,rfl,⟨_,_,_,_,_,_,_,_,_,hq,hk⟩,fun y hy=>Nat.le_of_lt (hfr y hy),hbl⟩);clear hq hfr hbl hcb hk;go_wp2_with (fail)
   go_ret2
   exact HX.out
theorem Qbw:(Tryz.prog.info? 52).map (fun i=>(i.zero,i.size,i.bytes))=some (some (.agg #[.int .i64 0,.int .i64 0]),2,16):=by kernel_rfl
theorem Qeu (w:World) (g0:Nat) (h0:w.heap[g0]? =some (.cells #[] 52 (0,0))) (A:Option Addr) (c:Nat) (l:List (Int×Int)) (hq:PairsAt w w.heap.size A l) (hl:l.length<=100000):
  ∃A' c' w',(Builtin.append_ #[40,40] 40 #[.slice (some ⟨g0,0,none⟩) 0 0,.slice A l.length c]).run Tryz.prog w=.ok (.slice A' l.length c') w'/\w.grownBy w' (some g0):=by
 obtain ⟨i0,hi0,hz0,hz1,hz2⟩:=info_parts Qbw
 have hown:w.ownsRow 0 52 2 (.slice (some ⟨g0,0,none⟩) 0 0) 0 []:=by
  refine ⟨rfl,.inr ⟨g0,0,#[],rfl,Nat.zero_le _,h0,Nat.le_refl _,Nat.zero_le _,rfl, ?_⟩⟩;simp
 cases A with
 |none=>
  have hl0:l.length=0:=by
   rcases Nat.eq_zero_or_pos l.length with e|e
   ·exact e
   ·obtain ⟨ad,h⟩:=PairsAt.some_ hq e;cases h
  rw[hl0]
  refine ⟨some ⟨g0,0,none⟩,0,w, ?_,World.grownBy.refl _ _⟩;simp[Builtin.append_,run_underlying Tryz.underlying40,sizeOf,typeInfo,hi0,Builtin.lenOf,Builtin.firstCells,storeCells]
 |some ad=>
  have hnews:∀(j:Nat) (u:Value),(Q0p l)[j]? =some u->w.cell? (ad.add j)=some u:=fun j u hu=>by
   have hpos:0<l.length:=by
    rcases Nat.eq_zero_or_pos l.length with e|e
    ·have:l=[]:=List.eq_nil_of_length_eq_zero e;subst this;simp[Q0p] at hu
    ·exact e
   obtain ⟨ad',e,_,hc⟩:=hq.2 hpos
   rw[Option.some.inj e]
   exact hc j u hu
  have hone:∀u∈Q0p l,u.oneCell'=true:=fun u hu=>by
   unfold Q0p at hu
   rw[List.mem_flatMap] at hu
   obtain ⟨x,_,hx⟩:=hu
   rcases List.mem_cons.1 hx with e|e
   ·rw[e];rfl
   ·rw[List.mem_singleton.1 e];rfl
  obtain ⟨v',w',hr,h2,h3,_,_⟩:=run_append_own_at (P:=Tryz.prog) w 0 40 40 52 i0 _ 2 16 Tryz.underlying40 hi0 hz0 hz1 hz2 rfl (by omega) (.slice (some ⟨g0,0,none⟩) 0 0) 0 [] hown ad l.length c (Q0p l) hq.1 hnews hone (by unfold maxLen;omega) (by omega) (by omega);obtain ⟨A',c',rfl⟩:=Q03 h2
  rw[Nat.zero_add] at hr
  exact ⟨A',c',w',hr,h3⟩
theorem Qco {ops:Array Oper} {o:Oper} {a:Act} {w:World} {K:Act->World->Prop} {Q:Exit->Act->World->Prop} {E:Prop} (hgd:o.guard=none) (s x:Operand)
  (ho:o.op=.call {callee:=.builtin .append,args:=#[s,x],argTypes:=#[40,40]}) (hty:o.type=40)
  (g0:Nat) (h0:w.heap[g0]? =some (.cells #[] 52 (0,0))) (A:Option Addr) (c:Nat) (l:List (Int×Int)) (hs:a.eval s=.slice (some ⟨g0,0,none⟩) 0 0) (hx:a.eval x=.slice A l.length c) (hq:PairsAt w w.heap.size A l) (hl:l.length<=100000)
  (h:∀A' c' w',w.grownBy w' (some g0)->K (a.put o.dst (.slice A' l.length c')) w'):
  if Region.wanted o (yielded ops a.tmps)=true then Oper.wp Tryz.prog o a w K Q else E:=by
 have hw:Region.wanted o (yielded ops a.tmps)=true:=by simp[Region.wanted,hgd]
 rw[if_pos hw]
 obtain ⟨A',c',w',hr,h3⟩:=Qeu w g0 h0 A c l hq hl;rw[<-hty] at hr;unfold Oper.wp execOp;simp only[ho,resolve,invoke,builtin,Sem.run_bind,Sem.run_pure,Result.andThen_ok,List.map_toArray,List.map_cons,List.map_nil,hs,hx]
 rw[hty] at hr|-
 simp only[hr,Result.andThen_ok];exact h A' c' w' h3
section
variable {own:Nat->Nat} {xb bm:Nat} {tbs:List Nat} {s:IX} {a0 a1 a2 inv picks:Int} {tv lv:Value} {ln k:Nat} {lxs:List Value} {w w':World}
theorem IxQ.memo (h:IxQ own xb bm tbs s a0 a1 a2 tv lv ln lxs inv picks w) {C':List Int} (hm:M7 (fun y=>own y=2\/w.heap.size<=y) bm C' s.max w') (hc:Chg (fun y=>own y=2) w w'):IxQ (Q9n own w.heap.size 2) xb bm tbs {s with C:=C'} a0 a1 a2 tv lv ln lxs inv picks w':=
 ⟨(Q1k h.blk.lt).trans h.ox,hc.blk h.blk (fun e=>by rw[h.ox] at e;cases e),hm.mono (fun y hy=>by
  by_cases e:y<w.heap.size
  ·rw[Q1k e];rcases hy with hy|hy
   ·exact hy
   ·omega
  ·exact QcO (by omega)),h.len,hc.own h.row (fun g hg e=>by rw[h.rowo g hg] at e;cases e),fun g hg=>(Q1k (Q0T h.row g hg)).trans (h.rowo g hg),hc.own h.log (fun g hg e=>by rw[h.logo g hg] at e;cases e),fun g hg=>(Q1k (Q0T h.log g hg)).trans (h.logo g hg),fun i hi=>((h.th i hi).within.chg hc (fun y h1 h2=>by rw[h1.1] at h2;omega)).mono (fun y hy=>(Q1k hy.2).trans hy.1)⟩
theorem IxQ.cpy (h:IxQ own xb bm tbs s a0 a1 a2 tv lv ln lxs inv picks w):
  Hid (∀w',(w.alloc (.cells #[] 52)).drew.grownBy w' (some w.heap.size)->Hid (w'.cell? ⟨xb,5,none⟩=some lv/\w'.cell? ⟨xb,7,none⟩=some (.int .i64 picks)/\∀vs:List Value,
   Hid ((w'.alloc (.cells vs.toArray 218)).ownsRow 0 218 13 lv ln lxs/\(∀(j:Nat) (u:Value),vs[j]? =some u->(w'.alloc (.cells vs.toArray 218)).cell? ((⟨w'.heap.size,0,none⟩:Addr).add j)=some u)/\
   ∀(gg cap:Nat) (w5:World),w5.ownsRow 0 218 13 (.slice (some ⟨gg,0,none⟩) (ln+1) cap) (ln+1) (lxs++vs)->(w'.alloc (.cells vs.toArray 218)).grownBy w5 lv.ownBlock->(lv.ownBlock=some gg\/w'.heap.size<=gg)->
    Hid (w5.cell? ⟨xb,5,none⟩=some lv/\w5.frozen? ⟨xb,5,none⟩=false/\IxQ (Q9n own w.heap.size 1) xb bm tbs s a0 a1 a2 tv (.slice (some ⟨gg,0,none⟩) (ln+1) cap) (ln+1) (lxs++vs) inv picks (w5.setCell ⟨xb,5,none⟩ (.slice (some ⟨gg,0,none⟩) (ln+1) cap))/\Chg (fun y=>own y=1) w (w5.setCell ⟨xb,5,none⟩ (.slice (some ⟨gg,0,none⟩) (ln+1) cap)))))):=by
 refine LH fun w' hg0=> ?_;have hb1:Below w.heap.size w (w.alloc (.cells #[] 52)).drew:=((Below.refl w.heap.size w).alloc (Nat.le_refl _) _).trans (Q08 (Drawn.of _ 1) _);have hb:Below w.heap.size w w':=hb1.trans ((Chg.of_grown hg0).below (B:=w.heap.size) (fun y hy=>by injection hy with e;omega) hb1.size);have h':=h.below hb;refine LH ⟨h'.blk.cell 5,h'.blk.cell 7,fun vs=> ?_⟩;have hbl:=(Below.refl w'.heap.size w').alloc (Nat.le_refl _) (.cells vs.toArray 218);have hbw:Below w.heap.size w (w'.alloc (.cells vs.toArray 218)):=hb.alloc hb.size _;refine LH ⟨Q0n h.log hbw,fun j u hu=> ?_,fun gg cap w5 hO hg hat=>h.app hbw hO hg (hat.imp id (fun e=>Nat.le_trans hb.size e))⟩;have e:(⟨w'.heap.size,0,none⟩:Addr).add j=⟨w'.heap.size,j,none⟩:=by unfold Addr.add;split<;>simp_all
 rw[e]
 have:=(Blk.new w' 218 vs.toArray).cell j;exact this.trans (by simpa using hu)
end
def IX.load (s:IX) (l:List (Int×Int)):IX:={s with C:=wrC (Q0S (l.length+1) s.C l).1 6 (Q0S (l.length+1) s.C l).2}
section
variable {own:Nat->Nat} {xb bm:Nat} {tbs:List Nat} {s:IX} {k:Nat}
theorem Q9G (A:Option Addr) (c:Nat) (l:List (Int×Int)) (w:World) (h:IxP own xb bm tbs s k w) (hn:tbs.length<=64) (hb:∀i,i<tbs.length->(s.T.getD i TH.nil).busy=false)
  (hC:s.C.length<=65536) (hx:s.max<=65536) (hm0:(s.C.length:Int)<=s.max) (hm:¬(s.C.length:Int)+Q0C l.length<=s.max) (hcb:CB s.C) (hsb:SoundB s.C) (hk1:Q05 (lgC s.C 6)=1)
  (hq:PairsAt w w.heap.size A l) (hA:∀ad,A=some ad->own ad.block=0) (hc:l.length<=c) (hl:l.length<=1000) (ha:Qgn l) (hk9:k<=900000000):
  Calls Tryz.prog 169 #[.pointer (some ⟨xb,0,none⟩),.slice A l.length c] w (fun e w'=>e=.returned (.int .i64 8)/\IxPost own xb bm tbs s (k+1) w w'):=by
 have HB:=LH hb;have HCB:=LH hcb;have HSB:=LH hsb;have HK1:=LH hk1;have HQ:=LH hq;have HA:=LH hA;have HAS:=LH ha;have HH:=LH h;have HM:=LH hm;obtain ⟨a0,a1,a2,tv,lv,ln,lxs,inv,picks,h,hk⟩:=h;have e3:w.cell? ⟨xb,3,none⟩=some (Q2L bm):=h.blk.cell 3;unfold Q2L at e3;have H:=LH h;have HKK:=LH hk;clear h hk hq hA ha hb hcb hsb hk1 hm;go_enter Tryz.func169,Tryz.ntmps169;go_wp2_with (fail);with_reducible refine (Q72 own xb bm tbs s k _ HH.out hn HB.out).mono ?_
 rintro e wz ⟨rfl,rfl⟩;go_wp2_with (fail);with_reducible refine (Q1X A c l.length l _ rfl HQ.out (by omega) HAS.out).mono ?_
 rintro e w1 ⟨rfl,hb1⟩;have HB1:=LH hb1;clear hb1
 have e3a:w1.cell? ⟨xb,3,none⟩=some (.pointer (some ⟨bm,0,none⟩)):=by
  have:=(H.out.below HB1.out).blk.cell 3;exact this
 go_wp2_with (fail);with_reducible refine (Q66 (fun y=>own y=2) bm s.C s.max _ (H.out.mem.below HB1.out) hC HCB.out HSB.out HK1.out).mono ?_
 rintro e w2 ⟨rfl,hb2⟩;have HB2:=LH (HB1.out.trans ((Chg.of_below (F:=fun _=>False) hb2).below (fun y hy=>hy.elim) HB1.out.size));clear hb2 e3a e3;have H2:=LH (H.out.below HB2.out);have e3b:w2.cell? ⟨xb,3,none⟩=some (.pointer (some ⟨bm,0,none⟩)):=H2.out.blk.cell 3;have HQ2:=LH (show PairsAt w2 w2.heap.size A l from (HQ.out.chg (Chg.of_below (F:=fun _=>False) HB2.out) (Nat.le_refl _) (fun _ _ h=>h)).more HB2.out.size);have hmd:decide ((s.C.length:Int)+Q0C l.length<=s.max)=false:=decide_eq_false (Int.not_le.2 HM.out);have hbc:Q45 s.C s.max l=(0,s.C):=if_neg (Int.not_le.2 HM.out);have HMD:=LH hmd;have HBC:=LH (show (Q45 s.C s.max l).1=0 by rw[hbc]);have HBD:=LH (show (Q45 s.C s.max l).2=s.C by rw[hbc]);clear hmd hbc;go_wp2_with (fail);with_reducible refine (Q7g (fun y=>own y=2) bm s.C s.max A c l.length l _ rfl H2.out.mem hC hx hm0 HQ2.out (fun ad e h2=>by rw[HA.out ad e] at h2;cases h2) hc (by omega) HAS.out).mono ?_
 rintro e w3 ⟨rfl,hm3,hc3⟩
 rw[HMD.out]
 rw[HBC.out]
 rw[HBD.out] at hm3
 have hq3:=H2.out.memo hm3 hc3
 have HFIN:=LH (show IxPost own xb bm tbs s (k+1) wz w3 from ⟨_,⟨_,_,_,_,_,_,_,_,_,hq3,(by have:=HKK.out;omega)⟩,(Chg.of_below HB2.out).trans (hc3.mono (fun y hy=>by rw[hy];decide)),fun y hy=>by
  by_cases e2:y<w2.heap.size
  ·rw[Q1k e2] at hy;exact .inl hy
  ·exact .inr (by have:=HB2.out.size;omega)⟩)
 clear hm3 hc3 hq3 e3b;go_wp2_with (fail);go_ret;exact ⟨rfl,HFIN.out⟩
theorem Qbq (A:Option Addr) (c:Nat) (l:List (Int×Int)) (w:World) (h:IxP own xb bm tbs s k w) (hn:tbs.length<=64) (hb:∀i,i<tbs.length->(s.T.getD i TH.nil).busy=false)
  (hC:s.C.length<=65536) (hx:s.max<=65536) (hm0:(s.C.length:Int)<=s.max) (hm:(s.C.length:Int)+Q0C l.length<=s.max) (hcb:CB s.C) (hsb:SoundB s.C) (hk1:Q05 (lgC s.C 6)=1)
  (hq:PairsAt w w.heap.size A l) (hA:∀ad,A=some ad->own ad.block=0) (hc:l.length<=c) (hl:l.length<=1000) (ha:Qgn l) (hk9:k<=900000000):
  Calls Tryz.prog 169 #[.pointer (some ⟨xb,0,none⟩),.slice A l.length c] w (fun e w'=>e=.returned (.int .i64 0)/\IxPost own xb bm tbs (s.load l) (k+1) w w'):=by
 have HB:=LH hb;have HCB:=LH hcb;have HSB:=LH hsb;have HK1:=LH hk1;have HQ:=LH hq;have HA:=LH hA;have HAS:=LH ha;have HH:=LH h;have HM:=LH hm;obtain ⟨a0,a1,a2,tv,lv,ln,lxs,inv,picks,h,hk⟩:=h;have e3:w.cell? ⟨xb,3,none⟩=some (Q2L bm):=h.blk.cell 3;unfold Q2L at e3;have H:=LH h;have HKK:=LH hk;clear h hk hq hA ha hb hcb hsb hk1 hm;go_enter Tryz.func169,Tryz.ntmps169;go_wp2_with (fail);with_reducible refine (Q72 own xb bm tbs s k _ HH.out hn HB.out).mono ?_
 rintro e wz ⟨rfl,rfl⟩;go_wp2_with (fail);with_reducible refine (Q1X A c l.length l _ rfl HQ.out (by omega) HAS.out).mono ?_
 rintro e w1 ⟨rfl,hb1⟩;have HB1:=LH hb1;clear hb1
 have e3a:w1.cell? ⟨xb,3,none⟩=some (.pointer (some ⟨bm,0,none⟩)):=by
  have:=(H.out.below HB1.out).blk.cell 3;exact this
 go_wp2_with (fail);with_reducible refine (Q66 (fun y=>own y=2) bm s.C s.max _ (H.out.mem.below HB1.out) hC HCB.out HSB.out HK1.out).mono ?_
 rintro e w2 ⟨rfl,hb2⟩;have HB2:=LH (HB1.out.trans ((Chg.of_below (F:=fun _=>False) hb2).below (fun y hy=>hy.elim) HB1.out.size));clear hb2 e3a e3;have H2:=LH (H.out.below HB2.out);have e3b:w2.cell? ⟨xb,3,none⟩=some (.pointer (some ⟨bm,0,none⟩)):=H2.out.blk.cell 3;have HQ2:=LH (show PairsAt w2 w2.heap.size A l from (HQ.out.chg (Chg.of_below (F:=fun _=>False) HB2.out) (Nat.le_refl _) (fun _ _ h=>h)).more HB2.out.size);have hmd:decide ((s.C.length:Int)+Q0C l.length<=s.max)=true:=decide_eq_true HM.out;have hbc:Q45 s.C s.max l=((Q0S (l.length+1) s.C l).2,(Q0S (l.length+1) s.C l).1):=if_pos HM.out;have HMD:=LH hmd;have HBC:=LH (show (Q45 s.C s.max l).1=(Q0S (l.length+1) s.C l).2 by rw[hbc]);have HBD:=LH (show (Q45 s.C s.max l).2=(Q0S (l.length+1) s.C l).1 by rw[hbc]);clear hmd hbc;go_wp2_with (fail);with_reducible refine (Q7g (fun y=>own y=2) bm s.C s.max A c l.length l _ rfl H2.out.mem hC hx hm0 HQ2.out (fun ad e h2=>by rw[HA.out ad e] at h2;cases h2) hc (by omega) HAS.out).mono ?_
 rintro e w3 ⟨rfl,hm3,hc3⟩
 rw[HMD.out]
 rw[HBC.out]
 rw[HBD.out] at hm3
 have hq3:=H2.out.memo hm3 hc3;have HC3:=LH ((Chg.of_below (F:=fun y=>own y=2) HB2.out).trans hc3);have H3:=LH hq3;have HQ3:=LH (show PairsAt w3 w3.heap.size A l from (HQ2.out.chg hc3 (Nat.le_refl _) (fun ad e h2=>by rw[HA.out ad e] at h2;cases h2)).more hc3.size);have e3c:w3.cell? ⟨xb,3,none⟩=some (.pointer (some ⟨bm,0,none⟩)):=hq3.blk.cell 3;clear hm3 hc3 hq3 e3b;have hlc:=Q2Y (l.length+1) s.C l (by omega) (by omega);have hca:=Q32 l.length;have HM2:=HM.out;go_wp2_with (fail);with_reducible refine (Q6F (fun y=>Q9n own w2.heap.size 2 y=2) bm (Q0S (l.length+1) s.C l).1 s.max 6 (Q0S (l.length+1) s.C l).2 _ H3.out.mem (by omega)).mono ?_
 rintro e w4 ⟨rfl,hm4,hc4⟩;have hq4:=H3.out.memo (C':=wrC (Q0S (l.length+1) s.C l).1 6 (Q0S (l.length+1) s.C l).2) (hm4.mono (fun y hy=>.inl hy)) hc4;have H4:=LH (show IxQ (Q9n (Q9n own w2.heap.size 2) w3.heap.size 2) xb bm tbs (s.load l) a0 a1 a2 tv lv ln lxs inv picks w4 from hq4)
 have HOW:=LH (show∀y,Q9n (Q9n own w2.heap.size 2) w3.heap.size 2 y≠0->own y≠0\/wz.heap.size<=y from fun y hy=>by
  have h3:=HC3.out.size;have h2:=HB2.out.size;by_cases e:y<w3.heap.size
  ·rw[Q1k e] at hy
   by_cases e2:y<w2.heap.size
   ·rw[Q1k e2] at hy;exact .inl hy
   ·exact .inr (by omega)
  ·exact .inr (by omega))
 have HC4:=LH (show Chg (fun y=>own y≠0) wz w4 from (HC3.out.mono (fun y hy=>by rw[hy];decide)).grow hc4 (fun y hy=>by
  have h3:=HC3.out.size;have h2:=HB2.out.size;by_cases e2:y<w2.heap.size
  ·rw[Q1k e2] at hy;exact .inl (by rw[hy];decide)
  ·exact .inr (by omega)))
 have HQ4:=LH (show PairsAt w4 w4.heap.size A l from ⟨HQ3.out.1,fun hn=>((HQ3.out.chg hc4 (Nat.le_refl _) (fun ad e h2=>by
  obtain ⟨ad',e',hb',_⟩:=HQ2.out.2 hn
  rw[e] at e'
  rw[<-Option.some.inj e'] at hb';have h2:Q9n own w2.heap.size 2 ad.block=2:=h2
  rw[Q1k hb',HA.out ad e] at h2;cases h2)).more hc4.size).2 hn⟩)
 obtain ⟨lA,lc,rfl⟩:=Q03 hq4.log;have c5:w4.cell? ⟨xb,5,none⟩=some (.slice lA ln lc):=hq4.blk.cell 5;have c7:w4.cell? ⟨xb,7,none⟩=some (.int .i64 picks):=hq4.blk.cell 7;clear hm4 hc4 hq4 e3c hlc hca HM2;obtain ⟨i0,hi0,hz0,hz1,hz2⟩:=info_parts Q3U;have hxb:xb<w4.heap.size:=H4.out.blk.lt;have n1:=World.new_ne w4 ⟨xb,5,none⟩ c5
 have h00:(w4.alloc (.cells #[] 52)).drew.heap[w4.heap.size]? =some (.cells #[] 52 (0,0)):=by
  exact (Blk.new w4 52 #[]).drew
 have H00:=LH h00;have HB5:Below w4.heap.size w4 (w4.alloc (.cells #[] 52)).drew:=((Below.refl w4.heap.size w4).alloc (Nat.le_refl _) _).trans (Q08 (Drawn.of _ 1) _);have HQ5:=LH (show PairsAt (w4.alloc (.cells #[] 52)).drew (w4.alloc (.cells #[] 52)).drew.heap.size A l from (HQ4.out.chg (Chg.of_below (F:=fun _=>False) HB5) (Nat.le_refl _) (fun _ _ h=>h)).more HB5.size);have CPY:=H4.out.cpy;have HKL:=HKK.out;clear h00 HB5;go_wp2_with (fail)
 go_region_law (first|(refine Qco (by rfl) _ _ (by rfl) (by rfl) w4.heap.size H00.out A c l (by rfl) (by rfl) HQ5.out (by omega) ?_;intro A' c' w5 hg5;have CP:=CPY.out w5 hg5;have d5:=CP.out.1;have d7:=CP.out.2.1;have n5:=World.new_ne w5 ⟨xb,5,none⟩ d5;have hx5:xb<w5.heap.size:=World.block_lt_of_cell? w5 _ d5;clear hg5)|(have EV:=CP.out.2.2 [.int .i64 4,.int .i64 0,.int .i64 0,.int .i64 0,.int .i64 0,.int .i64 0,.int .i64 0,.bool false,.int .i64 0,.int .i64 0,.int .i64 0,.slice A' l.length c',.int .i64 picks];refine step_append_lies _ (by rfl) _ _ _ (by rfl) 0 218 i0 _ 13 120 Tryz.underlying88 hi0 hz0 hz1 hz2 rfl (by omega) (.slice lA ln lc) ln lxs (by rfl) EV.out.1 ⟨w5.heap.size,0,none⟩ 1 1 [.int .i64 4,.int .i64 0,.int .i64 0,.int .i64 0,.int .i64 0,.int .i64 0,.int .i64 0,.bool false,.int .i64 0,.int .i64 0,.int .i64 0,.slice A' l.length c',.int .i64 picks] (by rfl) (by rfl) EV.out.2.1 (by simp[Value.oneCell']) (by omega) (by unfold maxLen;omega) (by omega) (by omega) (w5.heap.size+1) (by simp) ?_;intro gg cap w6 hO6 hg6 hat hlt6;have K6:=EV.out.2.2 gg cap w6 hO6 hg6 (hat.imp id (fun e=>by omega));have c6:=K6.out.1;have f6:=K6.out.2.1;clear hO6 hg6 hat hlt6))
 all_goals
  have HFIN:=LH (IxPost.ev (k:=k+1) HC4.out HOW.out K6.out.2.2.1 K6.out.2.2.2 (by omega));clear K6 c6 f6 EV CP CPY d5 d7 n5 hx5 c5 c7 n1 hxb;go_wp2_with (fail);go_ret;exact ⟨rfl,HFIN.out⟩
end
section
variable {N m:Nat} {s:IX} {t:TH} {o:Op}
theorem Q6h (hk1:1<=o.kind) (hk2:o.kind<=10) (ho:o.B) (b1:1<=t.budget) (b2:t.budget<=64):Q5s N (t.freshX o):=by
 unfold TH.freshX;by_cases h:3<o.kind
 ·exact QfR (if_pos h) ho (by show 4<=o.kind;omega) hk2 b1 b2
 ·exact QfS (if_neg h) ho (by show o.kind=1\/o.kind=2\/o.kind=3;omega)
theorem Qdp (ho:o.B):((t.freshX o).tree N).Ok (fun _=>True):=by
 unfold FX.tree;have h15:(t.freshX o).proc=if 3<o.kind then 25 else 24:=rfl
 rw[if_neg (by rw[h15];split<;>decide),if_neg (by rw[h15];split<;>decide),if_neg (by rw[h15];split<;>decide),if_neg (by rw[h15];split<;>decide)]
 by_cases h:(t.freshX o).proc=24
 ·rw[if_pos h]
  exact Q07 (Q7c (o:=o) ho _) fun _ _=>trivial
 ·rw[if_neg h]
  split
  ·trivial
  ·split
   ·trivial
   ·exact Q07 QcG fun _ _=>trivial
theorem TH.fresh_ok (hk1:1<=o.kind) (hk2:o.kind<=10) (ho:o.B) (b1:1<=t.budget) (b2:t.budget<=64):(t.fresh N o).Ok N m:=by
 refine ⟨Q6h hk1 hk2 ho b1 b2,Qdp ho,fun x hx=>(by cases hx),Nat.zero_le _, ?_⟩;have h:=Q3a ((t.freshX o).tree N) ⟨[],0,false,Q20⟩ rfl (Nat.le_refl _);show (!(((t.freshX o).tree N).go ⟨[],0,false,Q20⟩).2.off)=(((t.freshX o).tree N).rest []).next.isNone;revert h
 show (match (((t.freshX o).tree N).rest []).next with|none=>_|some q=>_)->_
 cases (((t.freshX o).tree N).rest []).next with
 |none=>rintro ⟨_,h⟩;rw[h];rfl
 |some q=>rintro ⟨h,_⟩;rw[h];rfl
theorem IX.Ok.le {m':Nat} (h:s.Ok N m) (hm:m<=m'):s.Ok N m':=⟨h.cb,h.fit,h.max,fun t ht hb=>(h.thr t ht hb).le hm,h.bud⟩
theorem IX.Ok.invoke (h:s.Ok N m) {i:Nat} (hi:i<s.T.length) (hk1:1<=o.kind) (hk2:o.kind<=10) (ho:o.B):(s.invoke N i o).Ok N m:=by
 unfold IX.invoke;have hb:=h.bud _ (Q2G (d:=TH.nil) hi)
 split
 ·exact h
 ·refine ⟨h.cb,h.fit,h.max,fun t hm hb2=> ?_,fun t hm=> ?_⟩
  ·rcases List.mem_or_eq_of_mem_set hm with hm|hm
   ·exact h.thr t hm hb2
   ·subst hm;exact TH.fresh_ok hk1 hk2 ho hb.1 hb.2
  ·rcases List.mem_or_eq_of_mem_set hm with hm|hm
   ·exact h.bud t hm
   ·subst hm;exact hb
theorem IX.invoke_len (N:Nat) (s:IX) (i:Nat) (o:Op):(s.invoke N i o).T.length=s.T.length:=by unfold IX.invoke;split<;>simp
theorem IX.invoke_max (N:Nat) (s:IX) (i:Nat) (o:Op):(s.invoke N i o).max=s.max:=by unfold IX.invoke;split<;>rfl
end
theorem IxP.len {own:Nat->Nat} {xb bm:Nat} {tbs:List Nat} {s:IX} {k:Nat} {w:World} (h:IxP own xb bm tbs s k w):tbs.length=s.T.length:=by
 obtain ⟨_,_,_,_,_,_,_,_,_,h,_⟩:=h;exact h.len
theorem Q5n (N m:Nat) (own:Nat->Nat) (xb bm:Nat) (tbs:List Nat) (s:IX) (k:Nat) (i:Nat) (o:Op) (w:World) (h:IxP own xb bm tbs s k w) (hi:i<tbs.length) (ok:s.Ok N m) (k1:1<=o.kind) (k2:o.kind<=10) (ho:o.B) (hN:1<N) (hk0:k<=900000000) (hn:tbs.length<=64):
  Calls Tryz.prog 112 #[.pointer (some ⟨xb,0,none⟩),.int .i64 i,.agg #[.int .i64 o.kind,.int .i64 o.key,.int .i64 o.val]] w (Qa4 own xb bm tbs (s.invoke N i o) (k+1) w):=by
 have hb:=ok.bud _ (Q2G (d:=TH.nil) (h.len▸hi))
 cases e:(s.T.getD i TH.nil).busy with
 |true=>
  refine (Q7H own xb bm tbs s k i o w h hi e).mono fun r w' hp=> ?_;refine ⟨hp.1, ?_⟩;have:s.invoke N i o=s:=if_pos e
  rw[this]
  exact hp.2.le (by omega)
 |false=>
  refine (Q8T N _ xb bm tbs s k i o w h.zero (fun y hy=>if_neg (by omega)) hi e k1 k2 hb.1 hb.2 hN (Q6h k1 k2 ho hb.1 hb.2) hk0 hn).mono fun r w' hp=>⟨hp.1,hp.2.zero⟩
def IX.picks (N:Nat):Nat->IX->Nat->IX
 |0,s,_=>s
 |n+1,s,i=>if s.ends N i=true then s.pick N i else IX.picks N n (s.pick N i) i
def RDo (N m n:Nat) (own:Nat->Nat) (xb bm:Nat) (tbs:List Nat) (s:IX) (k i:Nat) (w:World) (iv:Value) (wr:World):Prop:=
 ∃(j:Nat) (own':Nat->Nat) (s':IX),iv=.int .i64 j/\j<=n/\IxP own' xb bm tbs s' (k+j*100) wr/\s'.Ok N (m+j)/\IX.picks N (n-j) s' i=IX.picks N n s i/\Chg (fun y=>own y≠0) w wr/\(∀y,own' y≠0->own y≠0\/w.heap.size<y)/\Blk wr w.heap.size 215 #[.int .i64 2,.int .i64 i,.int .i64 n,.int .i64 0,.int .i64 0,.int .i64 0]
theorem QbI (N m n:Nat) (own:Nat->Nat) (xb bm:Nat) (tbs:List Nat) (s:IX) (k:Nat) (i:Nat) (w:World) (h:IxP own xb bm tbs s k w) (hzero:∀y,w.heap.size<=y->own y=0) (hi:i<tbs.length) (ok:s.Ok N m) (hn2:n<=100) (hmN:m+n+2<N) (hmm:m+n<=1000000) (hk0:k+n*100<=900000000) (hn:tbs.length<=64):
  Calls Tryz.prog 172 #[.pointer (some ⟨xb,0,none⟩),.agg #[.int .i64 2,.int .i64 i,.int .i64 n,.int .i64 0,.int .i64 0,.int .i64 0]] w (fun e w'=>e=.returned (.int .i64 0)/\IxPost own xb bm tbs (IX.picks N n s i) (k+n*100) w w'):=by
 have hba:=(Below.refl w.heap.size w).alloc (Nat.le_refl _) (.cells #[.int .i64 2,.int .i64 i,.int .i64 n,.int .i64 0,.int .i64 0,.int .i64 0] 215);have hab:=Blk.new w 215 #[.int .i64 2,.int .i64 i,.int .i64 n,.int .i64 0,.int .i64 0,.int .i64 0];have hzw:=hzero w.heap.size (Nat.le_refl _)
 have START:Hid (RDo N m n own xb bm tbs s k i w (.int .i64 0) (w.alloc (.cells #[.int .i64 2,.int .i64 i,.int .i64 n,.int .i64 0,.int .i64 0,.int .i64 0] 215))):=LH
  ⟨0,own,s,rfl,Nat.zero_le _,(h.below hba).le (by omega),ok,rfl,Chg.of_below hba,fun y hy=>.inl hy,hab⟩
 have HZ:=LH hzw;have p0:(w.alloc (.cells #[.int .i64 2,.int .i64 i,.int .i64 n,.int .i64 0,.int .i64 0,.int .i64 0] 215)).cell? ⟨w.heap.size,0,none⟩=some (.int .i64 2):=hab.cell 0;clear hba hab hzw h ok hzero;go_enter Tryz.func172,Tryz.ntmps172;go_wp2_with (fail);clear p0
 go_loopw [5] (fun iv wr=>RDo N m n own xb bm tbs s k i w iv wr) (fun iv _=>((n:Int)-intOf iv).toNat)
 case atStart=>exact START.out
 case round=>
  clear START;obtain ⟨j,own',s',rfl,hj,hix,hok,hpk,hch,hown,hab⟩:=hrel;have p1:wr.cell? ⟨w.heap.size,1,none⟩=some (.int .i64 i):=hab.cell 1;have p2:wr.cell? ⟨w.heap.size,2,none⟩=some (.int .i64 n):=hab.cell 2;by_cases hlt:(j:Int)<n
  ·have hlt2:(j:Int)<65536:=by omega
   have hnj:n-j=(n-(j+1))+1:=by omega
   rw[hnj] at hpk
   have HPK:=LH hpk;have HIX:=LH hix;have HOK:=LH hok;have HCH:=LH hch;have HOWN:=LH hown;have HAB:=LH hab;clear hpk hix hok hch hown hab hnj;go_wp2_with (fail);with_reducible refine (Q4V N (m+j) own' xb bm tbs s' (k+j*100) i _ HIX.out hi HOK.out (by omega) (by omega) (by omega) hn).mono ?_
   rintro e w3 hp;obtain ⟨⟨rv,rfl,hrv⟩,own2,hix2,hc2,ho2⟩:=hp;have HIX2:=LH (hix2.le (show k+j*100+tbs.length+1<=k+(j+1)*100 by omega));have HCH2:=LH (HCH.out.grow hc2 (fun y hy=>(HOWN.out y hy).imp id Nat.le_of_lt))
   have hab3:=hc2.blk HAB.out (fun e=>by
    rcases HOWN.out _ e with h1|h1
    ·exact h1 HZ.out
    ·omega)
   have HOWN2:=LH (show∀y,own2 y≠0->own y≠0\/w.heap.size<y from fun y hy=>by
    rcases ho2 y hy with h1|h1
    ·exact HOWN.out y h1
    ·have:=HAB.out.lt;exact .inr (by omega))
   have HAB3:=LH hab3;have HAL:Hid (∀o,Below w3.heap.size w3 (w3.alloc o)):=LH (fun o=>(Below.refl _ _).alloc (Nat.le_refl _) o);clear hix2 hc2 ho2 hab3
   cases hend:s'.ends N i with
   |true=>
    have HF:=LH (show IX.picks N n s i=s'.pick N i by rw[<-HPK.out];exact if_pos hend);have hjn:k+(j+1)*100<=k+n*100:=by have:(j+1)*100<=n*100:=Nat.mul_le_mul_right _ (by omega);omega
    have HFIN:=LH (show∀o,IxPost own xb bm tbs (IX.picks N n s i) (k+n*100) w (w3.alloc o) from fun o=>by rw[HF.out];exact ⟨own2,(HIX2.out.below (HAL.out o)).le hjn,HCH2.out.trans (Chg.of_below (HAL.out o)),fun y hy=>(HOWN2.out y hy).imp id Nat.le_of_lt⟩)
    rcases hrv with ⟨r0,r1,r2,r3,r4,r5,r6,r7,rfl⟩
    go_wp2_with (fail);go_ret;exact ⟨rfl,HFIN.out _⟩
   |false=>
    have HF:=LH (show IX.picks N (n-(j+1)) (s'.pick N i) i=IX.picks N n s i by rw[<-HPK.out];exact (if_neg (by rw[hend];decide)).symm);have HOK2:=LH (show (s'.pick N i).Ok N (m+(j+1)) from HOK.out.pick (by rw[<-HIX.out.len];exact hi))
    rcases hrv with ⟨r0,r1,r2,r3,r4,r5,r6,r7,rfl⟩
    go_wp2_with (fail)
    go_roundw
    case rel=>exact ⟨j+1,own2,s'.pick N i,by go_num,by omega,HIX2.out.below (HAL.out _),HOK2.out,HF.out,HCH2.out.trans (Chg.of_below (HAL.out _)),HOWN2.out,HAB3.out.below (HAL.out _) HAB3.out.lt⟩
    case measure=>simp[intOf];omega
  ·have hjn:j=n:=by omega
   subst hjn;have hnlt:(j:Int)<=j:=Int.le_refl _;have hpk2:s'=IX.picks N j s i:=by rw[<-hpk,Nat.sub_self];rfl
   have HFIN:=LH (show IxPost own xb bm tbs (IX.picks N j s i) (k+j*100) w wr by rw[<-hpk2];exact ⟨own',hix,hch,fun y hy=>(hown y hy).imp id Nat.le_of_lt⟩);clear hix hok hpk hch hown hab hpk2 hlt;go_wp2_with (fail);go_ret;exact ⟨rfl,HFIN.out⟩
theorem QbJ (N m n:Nat) (own:Nat->Nat) (xb bm:Nat) (tbs:List Nat) (s:IX) (k:Nat) (i:Nat) (w:World) (h:IxP own xb bm tbs s k w) (hi:i<tbs.length) (ok:s.Ok N m) (hn2:n<=100) (hmN:m+n+2<N) (hmm:m+n<=1000000) (hk0:k+n*100<=900000000) (hn:tbs.length<=64):
  Calls Tryz.prog 172 #[.pointer (some ⟨xb,0,none⟩),.agg #[.int .i64 2,.int .i64 i,.int .i64 n,.int .i64 0,.int .i64 0,.int .i64 0]] w (fun e w'=>e=.returned (.int .i64 0)/\IxPost own xb bm tbs (IX.picks N n s i) (k+n*100) w w'):=
 (QbI N m n _ xb bm tbs s k i w h.zero (fun y hy=>if_neg (by omega)) hi ok hn2 hmN hmm hk0 hn).mono fun e w' hp=>⟨hp.1,hp.2.zero⟩
structure SysI (N:Nat) (s:IX) (G:GS):Prop where
 inv:Inv G
 rep:Rep s.C G
 max:s.max<=16384
 fit:(s.C.length:Int)<=s.max
 thr:∀i,i<s.T.length->(s.T.getD i TH.nil).busy=true->Safe s.max i ((s.T.getD i TH.nil).rest N) (fun _ _=>True) G/\((s.T.getD i TH.nil).x.tree N).Dp N (fun _ _=>True)
section
variable {N m:Nat} {s:IX} {G:GS} {o:Op} {i:Nat}
theorem Q7Q {α:Type} {l:List α} {i j:Nat} {a d:α} (hi:i<l.length):(l.set i a).getD j d=if j=i then a else l.getD j d:=by
 rw[List.getD_eq_getElem?_getD,List.getD_eq_getElem?_getD]
 by_cases e:j=i
 ·subst e;rw[if_pos rfl,List.getElem?_set_self hi];rfl
 ·rw[if_neg e,List.getElem?_set_ne (by omega)]
theorem SysI.pick (h:SysI N s G) (ok:s.Ok N m) (hm:m<N) (hi:i<s.T.length):∃G',SysI N (s.pick N i) G'/\Ext G G':=by
 unfold IX.pick;by_cases hb:(s.T.getD i TH.nil).busy=true
 ·rw[if_pos hb]
  have ht:=ok.thr _ (Q2G (d:=TH.nil) hi) hb;have hs:=h.thr i hi hb;have hfit:=(TH.step_cells ht ok.cb ok.fit ok.max).2.1
  cases hdn:(s.T.getD i TH.nil).done with
  |true=>
   rw[step_done hdn]
   refine ⟨G,⟨h.inv,h.rep,h.max,h.fit,fun j hj hbj=> ?_⟩,Ext.refl _⟩;have hj:j<s.T.length:=by simpa using hj
   rw[Q7Q hi] at hbj|-
   by_cases e:j=i
   ·rw[if_pos e] at hbj;cases hbj
   ·rw[if_neg e] at hbj|-;exact h.thr j hj hbj
  |false=>
   cases hq:((s.T.getD i TH.nil).rest N).next with
   |none=>have:=ht.done;rw[hq,hdn] at this;cases this
   |some q=>
    have hl:(s.T.getD i TH.nil).T.length<N:=Nat.lt_of_le_of_lt ht.len hm;obtain ⟨G2,r2,g2,s2⟩:=Q8u hs.1 (Q9P _ hs.2 hl) (by omega) hq (Rely.refl h.inv) h.rep h.fit
    rw[Q5u hdn hq] at hfit|-
    refine ⟨G2,⟨g2.inv,r2,h.max,hfit,fun j hj hbj=> ?_⟩,g2.ext⟩;have hj:j<s.T.length:=by simpa using hj
    rw[Q7Q hi] at hbj|-
    by_cases e:j=i
    ·rw[if_pos e]
     refine ⟨?_,hs.2⟩
     rw[e]
     show Safe s.max i (((s.T.getD i TH.nil).x.tree N).rest ((s.T.getD i TH.nil).T++[(exQ s.max q s.C).1])) _ G2
     rw[Q2T]
     exact s2
    ·rw[if_neg e] at hbj|-
     have:=h.thr j hj hbj;exact ⟨Q8s this.1 (g2.rely e),this.2⟩
 ·rw[if_neg hb]
  exact ⟨G,h,Ext.refl _⟩
theorem QeX (t:TH) (o:Op):((t.freshX o).tree N).Dp N (fun _ _=>True):=by
 unfold FX.tree;have h15:(t.freshX o).proc=if 3<o.kind then 25 else 24:=rfl
 rw[if_neg (by rw[h15];split<;>decide),if_neg (by rw[h15];split<;>decide),if_neg (by rw[h15];split<;>decide),if_neg (by rw[h15];split<;>decide)]
 split
 ·exact Q51 (Q3e (QaA (N+1) N (.inr (by omega))) fun _ _ _ _ _=>Q6j fun _=>trivial)
 ·split
  ·exact Q6j fun _=>trivial
  ·split
   ·exact Q6j fun _=>trivial
   ·exact Q51 (Q3e (Qga (Nat.le_refl N)) fun _ _ _ _ _=>Q6j fun _=>trivial)
theorem QbE {M:Int} (hM:M<=16384) (hG:Inv G) (t:TH) (ho:Q1y<=o.key/\o.key<=Q2M) (j:Nat):Safe M j ((t.freshX o).tree N) (fun _ _=>True) G:=by
 unfold FX.tree;have h15:(t.freshX o).proc=if 3<o.kind then 25 else 24:=rfl
 rw[if_neg (by rw[h15];split<;>decide),if_neg (by rw[h15];split<;>decide),if_neg (by rw[h15];split<;>decide),if_neg (by rw[h15];split<;>decide)]
 split
 ·exact Safe.bind hG (Safe.mono (fun _ _ _ _=>fun _ _=>trivial) (Q5O hM ho (N+1) G hG))
 ·split
  ·exact fun _ _=>trivial
  ·split
   ·exact fun _ _=>trivial
   ·exact Safe.bind hG (Safe.mono (fun _ _ _ _=>fun _ _=>trivial) (ReadsP.safe (Q9y _ _ _)))
theorem SysI.invoke (h:SysI N s G) (hi:i<s.T.length) (ho:Q1y<=o.key/\o.key<=Q2M):SysI N (s.invoke N i o) G:=by
 unfold IX.invoke;by_cases hb:(s.T.getD i TH.nil).busy=true
 ·rw[if_pos hb];exact h
 ·rw[if_neg hb]
  refine ⟨h.inv,h.rep,h.max,h.fit,fun j hj hbj=> ?_⟩;have hj:j<s.T.length:=by simpa using hj
  rw[Q7Q hi] at hbj|-
  by_cases e:j=i
  ·rw[if_pos e]
   exact ⟨Q4N (QbE h.max h.inv _ ho j),QeX _ _⟩
  ·rw[if_neg e] at hbj|-
   exact h.thr j hj hbj
end
structure Ini (G:GS):Prop where
 inv:Inv G
 ty:∀a,G.ty a<=3
 sum:∀n,G.sum n=0
section
variable {C:List Int} {G G':GS}
theorem Q50 {m k:Int} (h:∀a,G.ty a<=3) (hk:k<=3):∀a,upd G.ty m k a<=3:=fun a=>by
 by_cases e:a=m
 ·rw[e,Q0g];exact hk
 ·rw[Q0z _ _ e];exact h a
theorem Q9K {m:Int} (h:∀a,G.sum a=0):∀a,upd G.sum m 0 a=0:=fun a=>by
 by_cases e:a=m
 ·rw[e,Q0g]
 ·rw[Q0z _ _ e];exact h a
theorem Qd9:∀(f:Nat) (l:List (Int×Int)) (a b:Int) (C:List Int) (G:GS),Ini G->Rep C G->AscB a b l->l.length<f->l.length<=16384->((Q0S f C l).1.length:Int)<=16384->
  ∃G',Ini G'/\Rep (Q0S f C l).1 G'/\Ext G G'/\VR G' a b (Q0S f C l).2
 |0,l,_,_,_,_,_,_,_,h,_,_=>absurd h (by omega)
 |f+1,l,a,b,C,G,hi,hr,ha,hf,hl,hx=>by
  by_cases c0:l.length=0
  ·have e:Q0S (f+1) C l=(C++[0],wOf 1 ((C.length:Int)+1)):=if_pos c0
   rw[e] at hx|-
   have hb:(C.length:Int)+1<=16384:=by simpa using hx
   show∃G',Ini G'/\Rep (C++[0]) G'/\Ext G G'/\VR G' a b (wOf 1 ((C.length:Int)+1));obtain ⟨s1,s2,s3⟩:=Q5I (a:=a) (b:=b) hi.inv hr rfl hb;have cp:=Q2K (k:=1) hr rfl (by decide) (by decide) hb;refine ⟨_,⟨s2,Q50 hi.ty (by decide),hi.sum⟩,s1,s3,⟨by omega,by omega, ?_,fun _=> ?_,fun k=>by omega,fun k=>by omega⟩⟩
   ·rw[cp.2.1,cp.1];exact Q0g _ _ _
   ·rw[cp.2.1];exact ⟨Q0g _ _ _,Q0g _ _ _⟩
  ·by_cases c1:l.length=1
   ·have e:Q0S (f+1) C l=(C++[Q17 l 0,Q4b l 0],wOf 2 ((C.length:Int)+1)):=(if_neg c0).trans (if_pos c1)
    rw[e] at hx|-
    have hb:(C.length:Int)+2<=16384:=by simpa using hx
    show∃G',Ini G'/\Rep (C++[Q17 l 0,Q4b l 0]) G'/\Ext G G'/\VR G' a b (wOf 2 ((C.length:Int)+1));obtain ⟨s1,s2,s3⟩:=Q5H (k:=Q17 l 0) (v:=Q4b l 0) hi.inv hr rfl hb;have cp:=Q2K (k:=2) hr rfl (by decide) (by decide) (by omega);have e1:(G.newL ((C.length:Int)+1) (Q17 l 0) (Q4b l 0)).k1 ((C.length:Int)+1)=Q17 l 0:=Q0g _ _ _;refine ⟨_,⟨s2,Q50 hi.ty (by decide),hi.sum⟩,s1,s3,⟨by omega,by omega, ?_,fun k=>by omega,fun _=> ?_,fun k=>by omega⟩⟩
    ·rw[cp.2.1,cp.1];exact Q0g _ _ _
    ·rw[cp.2.1,e1];exact ⟨ha.lo 0 (by omega),ha.hi 0 (by omega)⟩
   ·have h2:2<=l.length:=by omega
    have hd:=Q0L (n:=(l.length:Int)) (by omega) (by omega);have e:Q0S (f+1) C l=((Q0P (Q0S f) C l (Q00 l.length).toNat).1++Q0U l.length (Q1n l (Q00 l.length).toNat) (Q0P (Q0S f) C l (Q00 l.length).toNat).2,wOf 3 (((Q0P (Q0S f) C l (Q00 l.length).toNat).1.length:Int)+1)):=(if_neg c0).trans (if_neg c1)
    rw[e] at hx|-
    have hx:(((Q0P (Q0S f) C l (Q00 l.length).toNat).1++Q0U l.length (Q1n l (Q00 l.length).toNat) (Q0P (Q0S f) C l (Q00 l.length).toNat).2).length:Int)<=16384:=hx
    rw[List.length_append] at hx
    have go:∀i:Nat,(i:Int)<=Q00 l.length->∃G1,Ini G1/\Rep (Q0P (Q0S f) C l i).1 G1/\Ext G G1/\(∀j:Int,0<=j->j<i->VR G1 (bnd l a b j) (bnd l a b (j+1)-1) (keyAt (Q0P (Q0S f) C l i).2 j.toNat)):=by
     intro i
     induction i with
     |zero=>exact fun _=>⟨G,hi,hr,Ext.refl _,fun j j0 j1=>absurd j1 (by omega)⟩
     |succ i ih=>
      intro him;obtain ⟨G1,g1,r1,x1,v1⟩:=ih (by omega);obtain ⟨sa,sl⟩:=Q9r ha h2 hl (i:=(i:Int)) (by omega) (by omega);have fb:=Q3z h2 hl (i:=(i:Int)) (by omega) (by omega);have hle:=Qak f C l (i+1) ((Q00 l.length).toNat-(i+1))
      rw[show i+1+((Q00 l.length).toNat-(i+1))=(Q00 l.length).toNat by omega] at hle
      have hle2:((Q0S f (Q0P (Q0S f) C l i).1 (Q6I l (Q0R l.length i) (Q14 l.length i))).1.length:Int)<=16384:=by
       have:(Q0S f (Q0P (Q0S f) C l i).1 (Q6I l (Q0R l.length i) (Q14 l.length i))).1=(Q0P (Q0S f) C l (i+1)).1:=rfl
       rw[this];omega
      obtain ⟨G2,g2,r2,x2,v2⟩:=Qd9 f (Q6I l (Q0R l.length i) (Q14 l.length i)) _ _ (Q0P (Q0S f) C l i).1 G1 g1 r1 sa (by omega) (by omega) hle2;refine ⟨G2,g2,r2,x1.trans x2,fun j j0 j1=> ?_⟩;have hw:(Q0P (Q0S f) C l (i+1)).2=(Q0P (Q0S f) C l i).2++[(Q0S f (Q0P (Q0S f) C l i).1 (Q6I l (Q0R l.length i) (Q14 l.length i))).2]:=rfl
      rw[hw,Q3S,Q1R]
      by_cases c:j<i
      ·rw[if_pos (by omega)];exact (v1 j j0 c).ext x2
      ·have ej:j=i:=by omega
       subst ej
       rw[if_neg (by omega),if_pos (by omega)];exact v2
    obtain ⟨G1,g1,r1,x1,v1⟩:=go (Q00 l.length).toNat (by omega);have hcl:(Q0P (Q0S f) C l (Q00 l.length).toNat).2.length=(Q00 l.length).toNat:=Q1R _
    have hql:(Q1n l (Q00 l.length).toNat).length+1=(Q00 l.length).toNat:=by
     obtain ⟨d,hd'⟩:∃d,(Q00 l.length).toNat=d+1:=⟨(Q00 l.length).toNat-1,by omega⟩
     rw[hd',Q2i]
    have hkk:∀(i:Nat) (j:Int),(i:Int)<=Q00 l.length->1<=j->j<i->keyAt (Q1n l i) (j-1).toNat=bnd l a b j:=by
     intro i
     induction i with
     |zero=>intro j _ _ h;omega
     |succ i ih=>
      intro j hid j1 ji
      cases i with
      |zero=>omega
      |succ i=>
       show keyAt (Q1n l (i+1)++[Q17 l (Q0R l.length ((i+1:Nat):Int)).toNat]) (j-1).toNat=_
       rw[Q3S,Q2i]
       by_cases c:j<((i+1:Nat):Int)
       ·rw[if_pos (by omega)];exact ih j (by omega) j1 c
       ·have ej:j=((i+1:Nat):Int):=by omega
        rw[if_neg (by omega),if_pos (by omega),ej,Qec (by omega) (by omega)]
    generalize Q0P (Q0S f) C l (Q00 l.length).toNat=Y at hx r1 v1 hcl|-;have hkd:=hkk (Q00 l.length).toNat;generalize Q1n l (Q00 l.length).toNat=q at hx hql hkd|-;show∃G',Ini G'/\Rep (Y.1++Q0U l.length q Y.2) G'/\Ext G G'/\VR G' a b (wOf 3 ((Y.1.length:Int)+1));have hcq:Y.2.length=q.length+1:=by omega
    have hwl:((Q0U (l.length:Int) q Y.2).length:Int)=4+2*Y.2.length:=by simp[Q0U];omega
    obtain ⟨s1,s2,s3⟩:=Q4i (a:=a) (b:=b) (n:=l.length) (K:=bnd l a b) g1.inv r1 rfl hcq (by omega) (by omega) Qgo (by rw[show (Y.2.length:Int)=Q00 l.length by omega];exact Qge (by omega)) (fun x y x0 xy yd=>QdR ha h2 hl x0 xy (by omega))
     (fun j j0 j1=>.inl (hkd j (by omega) j0 (by omega))) (fun j j0 j1=>.inr (v1 j j0 (by omega)))
    have cp:=Q2K (k:=3) r1 rfl (by decide) (by decide) (by omega);refine ⟨_,⟨s2,Q50 g1.ty (by decide),Q9K g1.sum⟩,s1,x1.trans s3,⟨by omega,by omega, ?_,fun k=>by omega,fun k=>by omega,fun _=> ?_⟩⟩
    ·rw[cp.2.1,cp.1];exact Q0g _ _ _
    ·rw[cp.2.1]
     refine ⟨Q0g _ _ _,Q0g _ _ _,fun j j0 j1=> ?_,by have:=r1.used (a:=1) (by rw[g1.inv.r1.1];decide);omega⟩
     rw[show (GS.newI G1 ((Y.1.length:Int)+1) Y.2.length a b (bnd l a b) (fun i=>keyAt q (i-1).toNat) (fun i=>keyAt Y.2 i.toNat)).deg ((Y.1.length:Int)+1)=Y.2.length from Q0g _ _ _] at j1
     rw[show (GS.newI G1 ((Y.1.length:Int)+1) Y.2.length a b (bnd l a b) (fun i=>keyAt q (i-1).toNat) (fun i=>keyAt Y.2 i.toNat)).slot ((Y.1.length:Int)+1)=(fun i=>keyAt Y.2 i.toNat) from Q0g _ _ _]
     intro e;have:=(v1 j j0 (by omega)).k0;have e:keyAt Y.2 j.toNat=0:=e
     rw[e,Q1d] at this
     omega
end
def opK (n:Int):Int:=if 10<1+n%14 then 1+(1+n%14)%3 else 1+n%14
def opI (n:Int):Op:=⟨opK n,(n.tdiv 14)%41-10,((n.tdiv 14).tdiv 41)%50⟩
theorem Q1W (n:Int):1<=(opI n).kind/\(opI n).kind<=10:=by
 show 1<=opK n/\opK n<=10;unfold opK
 split<;>omega
theorem Qbk (n:Int):(opI n).B:=⟨by show i64B ((n.tdiv 14)%41-10);unfold i64B;omega,by show i64B (((n.tdiv 14).tdiv 41)%50);unfold i64B;omega⟩
theorem Qgr {n:Int} (h0:-9223372036854775808<=n) (h1:n<=9223372036854775807):-9223372036854775808<=n.tdiv 14/\n.tdiv 14<=9223372036854775807:=by
 have e:n=14*(n.tdiv 14)+n.tmod 14:=(Int.mul_tdiv_add_tmod n 14).symm;obtain ⟨b0,b1⟩:=Q48 n 14 (by decide);omega
theorem Qgq {n:Int} (h0:-9223372036854775808<=n) (h1:n<=9223372036854775807):-9223372036854775808<=n.tdiv 41/\n.tdiv 41<=9223372036854775807:=by
 have e:n=41*(n.tdiv 41)+n.tmod 41:=(Int.mul_tdiv_add_tmod n 41).symm;obtain ⟨b0,b1⟩:=Q48 n 41 (by decide);omega
def opV (o:Op):Value:=.agg #[.int .i64 o.kind,.int .i64 o.key,.int .i64 o.val]
theorem Q4q {P:Program} {fn:Func} {p1:Tmp} {ty:TypeId} (h:fn.results=#[.cell p1 ty]) (tmps:Array Value) (w:World) (g:Nat) (t:TypeId) (cs:Array Value) (fr:Nat×Nat) (d:TypeDesc)
  (hp:tmps.getD p1 undef=.pointer (some ⟨g,0,none⟩)) (hg:w.heap[g]? =some (.cells cs t fr))
  (hu:P.underlying ty=some d) (hd:(match d with|.struct _|.array _ _=>true|_=>false)=true) (hi:(P.info? ty).map (·.size)=some cs.size):
  (results fn tmps).run P w=.ok (.agg cs) w:=by
 have hp':tmps[p1]?.getD undef=.pointer (some ⟨g,0,none⟩):=by simpa using hp
 simp[results,h,hp',asAddr,run_loadVar_row w g t ty cs fr d hg hu hd hi]
theorem Qfo (n:Int) (w:World) (h0:-9223372036854775808<=n) (h1:n<=9223372036854775807):
  Calls Tryz.prog 113 #[.int .i64 n] w fun e w'=>e=.returned (opV (opI n))/\Below w.heap.size w w':=by
 obtain ⟨a0,a1⟩:=Qgr h0 h1;obtain ⟨a2,a3⟩:=Qgq a0 a1;have hba:=(Below.refl w.heap.size w).alloc (Nat.le_refl _) (.cells #[.int .i64 0,.int .i64 0,.int .i64 0] 48);have HBA:=LH hba;have d1:=Int.emod_nonneg n (show (14:Int)≠0 by decide);have d2:=Int.emod_lt_of_pos n (show (0:Int)<14 by decide);by_cases hk:10<1+n%14
 ·have HO:=LH (show opK n=1+(1+n%14)%3 from if_pos hk);go_enter Tryz.func113,Tryz.ntmps113;go_wp2_with (fail);with_reducible refine (Q1u n 14 _ h0 h1 (by decide) (by decide)).mono ?_
  rintro e w1 ⟨rfl,rfl⟩;go_wp2_with (fail);with_reducible refine (Q1u (1+n%14) 3 _ (by omega) (by omega) (by decide) (by decide)).mono ?_
  rintro e w1 ⟨rfl,rfl⟩;go_wp2_with (fail);with_reducible refine (Q1u (n.tdiv 14) 41 _ a0 a1 (by decide) (by decide)).mono ?_
  rintro e w1 ⟨rfl,rfl⟩;go_wp2_with (fail);with_reducible refine (Q1u ((n.tdiv 14).tdiv 41) 50 _ a2 a3 (by decide) (by decide)).mono ?_
  rintro e w1 ⟨rfl,rfl⟩;go_wp2_with (fail);refine bodyPost_ret (v:=opV (opI n)) (Q4q rfl _ _ w.heap.size 48 #[.int .i64 (opK n),.int .i64 (n.tdiv 14%41-10),.int .i64 ((n.tdiv 14).tdiv 41%50)] (0,0) _ rfl ?_ Tryz.underlying48 rfl (by kernel_rfl)) rfl ?_
  ·rw[HO.out];exact Blk.new w _ _
  ·exact ⟨rfl,(Below.refl w.heap.size w).alloc (Nat.le_refl _) _⟩
 ·have HO:=LH (show opK n=1+n%14 from if_neg hk);go_enter Tryz.func113,Tryz.ntmps113;go_wp2_with (fail);with_reducible refine (Q1u n 14 _ h0 h1 (by decide) (by decide)).mono ?_
  rintro e w1 ⟨rfl,rfl⟩;go_wp2_with (fail);with_reducible refine (Q1u (n.tdiv 14) 41 _ a0 a1 (by decide) (by decide)).mono ?_
  rintro e w1 ⟨rfl,rfl⟩;go_wp2_with (fail);with_reducible refine (Q1u ((n.tdiv 14).tdiv 41) 50 _ a2 a3 (by decide) (by decide)).mono ?_
  rintro e w1 ⟨rfl,rfl⟩;go_wp2_with (fail);refine bodyPost_ret (v:=opV (opI n)) (Q4q rfl _ _ w.heap.size 48 #[.int .i64 (opK n),.int .i64 (n.tdiv 14%41-10),.int .i64 ((n.tdiv 14).tdiv 41%50)] (0,0) _ rfl ?_ Tryz.underlying48 rfl (by kernel_rfl)) rfl ?_
  ·rw[HO.out];exact Blk.new w _ _
  ·exact ⟨rfl,(Below.refl w.heap.size w).alloc (Nat.le_refl _) _⟩
theorem Qg2 (A:Option Addr) (c N:Nat) (n:Nat) (w:World) (h1:N<=9223372036854775807) (hc:N<=c):
  Calls Tryz.prog 171 #[.slice A N c,.int .i64 n] w fun e w'=>e=.returned (.slice A (min N n) c)/\w=w':=by
 by_cases hlt:n<N
 ·have hlt2:(n:Int)<N:=by omega
  have hm:min N n=n:=by omega
  have hnc:n<=c:=by omega
  rw[hm]
  go_enter Tryz.func171,Tryz.ntmps171;go_wp2_with (fail);go_ret;exact ⟨rfl,rfl⟩
 ·have hlt2:¬(n:Int)<N:=by omega
  have hm:min N n=N:=by omega
  rw[hm]
  go_enter Tryz.func171,Tryz.ntmps171;go_wp2_with (fail);go_ret;exact ⟨rfl,rfl⟩
def stepW (N:Nat) (T:Nat) (s:IX) (n:Int):IX:=
 if 0<(n.tdiv T)%3/\(s.T.getD (n%T).toNat TH.nil).busy=true then IX.picks N (1+((n.tdiv T).tdiv 3)%24).toNat s (n%T).toNat else s.invoke N (n%T).toNat (opI ((n.tdiv T).tdiv 3))
def worldTo (N T:Nat) (s:IX) (l:List Int):Nat->IX
 |0=>s
 |k+1=>stepW N T (worldTo N T s l k) (keyAt l k)
def IX.loadR (s:IX) (l:List (Int×Int)):IX:=if (s.C.length:Int)+Q0C l.length<=s.max then s.load l else s
def Q2Z (cells:Int) (T:Nat):IX:=⟨beginL,150+cells%650,List.replicate T (TH.new 2)⟩
def Q1c (cells:Int) (T:Nat) (keys:List Int):IX:=(Q2Z cells T).loadR (hpL (keys.take 20))
def Q2O (N:Nat) (cells:Int) (T:Nat) (keys l:List Int):IX:=worldTo N T (Q1c cells T keys) l (min l.length 70)
theorem Qbr {own:Nat->Nat} {xb bm:Nat} {tbs:List Nat} {s:IX} {k:Nat} (A:Option Addr) (c:Nat) (l:List (Int×Int)) (w:World) (h:IxP own xb bm tbs s k w) (hn:tbs.length<=64) (hb:∀i,i<tbs.length->(s.T.getD i TH.nil).busy=false)
  (hC:s.C.length<=65536) (hx:s.max<=65536) (hm0:(s.C.length:Int)<=s.max) (hcb:CB s.C) (hsb:SoundB s.C) (hk1:Q05 (lgC s.C 6)=1)
  (hq:PairsAt w w.heap.size A l) (hA:∀ad,A=some ad->own ad.block=0) (hc:l.length<=c) (hl:l.length<=1000) (ha:Qgn l) (hk9:k<=900000000):
  Calls Tryz.prog 169 #[.pointer (some ⟨xb,0,none⟩),.slice A l.length c] w (fun e w'=>(∃n,e=.returned (.int .i64 n))/\IxPost own xb bm tbs (s.loadR l) (k+1) w w'):=by
 unfold IX.loadR;by_cases hm:(s.C.length:Int)+Q0C l.length<=s.max
 ·rw[if_pos hm]
  exact (Qbq A c l w h hn hb hC hx hm0 hm hcb hsb hk1 hq hA hc hl ha hk9).mono fun e w' hp=>⟨⟨_,hp.1⟩,hp.2⟩
 ·rw[if_neg hm]
  exact (Q9G A c l w h hn hb hC hx hm0 hm hcb hsb hk1 hq hA hc hl ha hk9).mono fun e w' hp=>⟨⟨_,hp.1⟩,hp.2⟩
theorem IX.Ok.picks {N:Nat}:∀(n:Nat) {m:Nat} {s:IX} (_:s.Ok N m) {i:Nat} (_:i<s.T.length),(IX.picks N n s i).Ok N (m+n)
 |0,_,_,h,_,_=>h
 |n+1,m,s,h,i,hi=>by
  unfold IX.picks
  split
  ·exact (h.pick hi).le (by omega)
  ·exact (IX.Ok.picks n (h.pick hi) (by rw[IX.pick_len];exact hi)).le (by omega)
theorem IX.picks_len (N:Nat):∀(n:Nat) (s:IX) (i:Nat),(IX.picks N n s i).T.length=s.T.length
 |0,_,_=>rfl
 |n+1,s,i=>by
  unfold IX.picks
  split
  ·exact IX.pick_len _ _ _
  ·rw[IX.picks_len N n];exact IX.pick_len _ _ _
theorem Qcp (N T:Nat) (s:IX) (n:Int):(stepW N T s n).T.length=s.T.length:=by
 unfold stepW;split
 ·exact IX.picks_len _ _ _ _
 ·exact IX.invoke_len _ _ _ _
theorem Qep {N T m:Nat} {s:IX} (h:s.Ok N m) (hT:s.T.length=T) (h0:0<T) (n:Int):(stepW N T s n).Ok N (m+24):=by
 have h1:=Int.emod_nonneg n (show (T:Int)≠0 by omega);have h2:=Int.emod_lt_of_pos n (show (0:Int)<T by omega);have hi:(n%T).toNat<s.T.length:=by omega
 unfold stepW;split
 ·exact (IX.Ok.picks _ h hi).le (by omega)
 ·exact (h.invoke hi (Q1W _).1 (Q1W _).2 (Qbk _)).le (by omega)
theorem Q2r (N T:Nat) (s:IX) (l:List Int):∀k,(worldTo N T s l k).T.length=s.T.length
 |0=>rfl
 |k+1=>(Qcp _ _ _ _).trans (Q2r N T s l k)
theorem Q2P {N T m:Nat} {s:IX} (h:s.Ok N m) (hT:s.T.length=T) (h0:0<T) (l:List Int):∀k,(worldTo N T s l k).Ok N (m+k*24)
 |0=>by rw[Nat.zero_mul];exact h
 |k+1=>(Qep (Q2P h hT h0 l k) ((Q2r _ _ _ _ _).trans hT) h0 _).le (by omega)
theorem Qbu {l:List Int} {n i:Nat} (h:i<n):keyAt (l.take n) i=keyAt l i:=by
 unfold keyAt
 rw[List.getD_eq_getElem?_getD,List.getD_eq_getElem?_getD,List.getElem?_take,if_pos h]
theorem Qde {w:World} {B:Nat} {A:Option Addr} {l:List Int} (h:IntsAt w B A l) (n:Nat):IntsAt w B A (l.take n):=
 ⟨by simp,fun hn=>by
  obtain ⟨ad,e,hb,hc⟩:=h.2 (by rw[List.length_take] at hn;omega)
  exact ⟨ad,e,hb,fun j u hu=>hc j u (by
   rw[List.map_take,List.getElem?_take] at hu
   split at hu
   ·exact hu
   ·cases hu)⟩⟩
theorem QgU {n:Int} {T:Nat} (h:1<=T) (h0:-9223372036854775808<=n) (h1:n<=9223372036854775807):-9223372036854775808<=n.tdiv T/\n.tdiv T<=9223372036854775807:=by
 have key:∀m:Int,0<=m->0<=m.tdiv T/\m.tdiv T<=m:=fun m hm=>by
  rw[Int.tdiv_eq_ediv_of_nonneg hm]
  exact ⟨Int.ediv_nonneg hm (by omega),Int.ediv_le_self _ hm⟩
 by_cases hn:0<=n
 ·have:=key n hn;generalize n.tdiv T=q at this;omega
 ·have:=key (-n) (by omega)
  rw[Int.neg_tdiv] at this
  generalize n.tdiv T=q at this;omega
theorem QbF (cells:Int) (T i:Nat):((Q2Z cells T).T.getD i TH.nil).busy=false:=by
 unfold Q2Z
 rw[List.getD_eq_getElem?_getD]
 by_cases h:i<T
 ·rw[List.getElem?_replicate,if_pos h];rfl
 ·rw[List.getElem?_replicate,if_neg h];rfl
theorem Q4c (s:IX) (l:List (Int×Int)):(s.loadR l).T=s.T/\(s.loadR l).max=s.max:=by unfold IX.loadR;split<;>exact ⟨rfl,rfl⟩
theorem Q3p (N:Nat) (cells:Int) (T:Nat) (keys:List Int):(Q1c cells T keys).Ok N 0:=by
 obtain ⟨z0,z1⟩:=Q3B cells 650 (by decide);have hT:=Q4c (Q2Z cells T) (hpL (keys.take 20))
 have hthr:∀t∈(Q1c cells T keys).T,t=TH.new 2:=fun t ht=>by
  unfold Q1c at ht;rw[hT.1] at ht;exact List.eq_of_mem_replicate ht
 have hmx:(Q1c cells T keys).max=150+cells%650:=hT.2
 have hC:CB (Q1c cells T keys).C/\((Q1c cells T keys).C.length:Int)<=(Q1c cells T keys).max:=by
  rw[hmx]
  unfold Q1c IX.loadR;have hl:=Q7M (keys.take 20)
  split
  ·rename_i hm;have hlc:=Q2Y ((hpL (keys.take 20)).length+1) beginL (hpL (keys.take 20)) (by omega) (by omega);refine ⟨fun x hx=> ?_, ?_⟩
   ·have hx:x∈wrC (Q0S ((hpL (keys.take 20)).length+1) beginL (hpL (keys.take 20))).1 6 (Q0S ((hpL (keys.take 20)).length+1) beginL (hpL (keys.take 20))).2:=hx;have hw:=Q8R ((hpL (keys.take 20)).length+1) beginL (hpL (keys.take 20));have hb:=Qda ((hpL (keys.take 20)).length+1) beginL (hpL (keys.take 20)) (fun x hx=>Q88 x hx) (Qfp _) (by omega);unfold wrC at hx
    split at hx
    ·rcases List.mem_or_eq_of_mem_set hx with h|h
     ·exact hb x h
     ·rw[h];unfold i64B;omega
    ·exact hb x hx
   ·show ((wrC (Q0S ((hpL (keys.take 20)).length+1) beginL (hpL (keys.take 20))).1 6 (Q0S ((hpL (keys.take 20)).length+1) beginL (hpL (keys.take 20))).2).length:Int)<=_
    rw[Q21,hlc]
    exact hm
  ·refine ⟨Q88, ?_⟩;show ((7:Nat):Int)<=_;omega
 refine ⟨hC.1,hC.2,by rw[hmx];omega,fun t ht hb=> ?_,fun t ht=> ?_⟩
 ·rw[hthr t ht] at hb;cases hb
 ·rw[hthr t ht];exact ⟨by decide,by decide⟩
def Q6w (N:Nat) (cells:Int) (T:Nat) (keys l:List Int) (w:World) (e:Ending) (w':World):Prop:=∃own xb bm tbs k,e=.returned (.pointer (some ⟨xb,0,none⟩))/\tbs.length=T/\k<=200000/\IxP own xb bm tbs (Q2O N cells T keys l) k w'/\(Q2O N cells T keys l).Ok N 1680/\(∀y,own y≠0->w.heap.size<=y)/\Below w.heap.size w w'
def Qh4 (N T:Nat) (cells:Int) (keys l:List Int) (xb bm:Nat) (w:World) (iv:Value) (wr:World):Prop:=
 ∃(j:Nat) (own:Nat->Nat) (tbs:List Nat),iv=.int .i64 j/\j<=l.length/\j<=70/\tbs.length=T/\IxP own xb bm tbs (worldTo N T (Q1c cells T keys) l j) (1+j*2400) wr/\(∀y,own y≠0->w.heap.size<=y)/\Below w.heap.size w wr
theorem Qc9 (N:Nat) (cells:Int) (T:Nat) (A:Option Addr) (c L:Nat) (keys:List Int) (A2:Option Addr) (c2 L2:Nat) (l:List Int) (w:World) (hT0:1<=T) (hT:T<=64) (hN:5000<N)
  (hL:L=keys.length) (hL2:L2=l.length) (hc0:L<=c) (hc02:L2<=c2) (h0:-9223372036854775808<=cells) (h1:cells<=9223372036854775807)
  (hq:IntsAt w w.heap.size A keys) (hl:keys.length<=140737488351232) (hw:∀i,i<keys.length->-9223372036854775808<=keyAt keys i/\keyAt keys i<=9223372036854775807)
  (hq2:IntsAt w w.heap.size A2 l) (hl2:l.length<=140737488351232) (hw2:∀i,i<l.length->-9223372036854775808<=keyAt l i/\keyAt l i<=9223372036854775807):
  Calls Tryz.prog 109 #[.int .i64 cells,.int .i64 T,.slice A L c,.slice A2 L2 c2] w (Q6w N cells T keys l w):=by
 obtain ⟨z0,z1⟩:=Q3B cells 650 (by decide);subst hL hL2;have HQ:=LH hq;have HQ2:=LH hq2;have HW:=LH hw;have HW2:=LH hw2;clear hq hq2 hw hw2;go_enter Tryz.func109,Tryz.ntmps109;go_wp2_with (fail);with_reducible refine (Q1u cells 650 _ h0 h1 (by decide) (by decide)).mono ?_
 rintro e wz ⟨rfl,rfl⟩;go_wp2_with (fail);with_reducible refine (QcR T (150+cells%650) 2 _ (by omega) (by omega) hT0 hT (by decide) (by decide)).mono ?_
 rintro e w1 hp;obtain ⟨own,xb,bm,tbs,rfl,htl,hix,hown,hb1⟩:=hp;have HIX:=LH hix;have HOWN:=LH hown;have HB1:=LH hb1;clear hix hown hb1;have FEW:Hid (∀w',Calls Tryz.prog 171 #[.slice A keys.length c,.int .i64 20] w' fun e w1=>e=.returned (.slice A (min keys.length 20) c)/\w'=w1):=LH (fun w'=>Qg2 A c keys.length 20 w' (by omega) hc0);go_wp2_with (fail);with_reducible refine (FEW.out _).mono ?_
 rintro e wy ⟨rfl,rfl⟩;go_wp2_with (fail);with_reducible refine (Qdi A c (min keys.length 20) (keys.take 20) _ (by rw[List.length_take,Nat.min_comm]) (Qde ((HQ.out.below HB1.out).more HB1.out.size) 20) (by rw[List.length_take];omega) (fun i hi=>by rw[List.length_take] at hi;rw[Qbu (by omega)];exact HW.out i (by omega))).mono ?_
 rintro e w2 hp;obtain ⟨A1,c1,rfl,hc1,hpp,hb2,hfr⟩:=hp;have HB2:=LH (HB1.out.trans ((Chg.of_below (F:=fun _=>False) hb2).below (fun y hy=>hy.elim) HB1.out.size));have HIX2:=LH (show IxP (fun y=>if y<w1.heap.size then own y else 0) xb bm tbs (Q2Z cells T) 0 w2 from HIX.out.zero.below hb2);have f1:(Q2Z cells T).C.length<=65536:=by show beginL.length<=65536;decide
 have f2:(Q2Z cells T).max<=65536:=by show 150+cells%650<=65536;omega
 have f3:((Q2Z cells T).C.length:Int)<=(Q2Z cells T).max:=by show ((7:Nat):Int)<=150+cells%650;omega
 have f4:CB (Q2Z cells T).C:=Q88;have f5:SoundB (Q2Z cells T).C:=Q8l;have f6:Q05 (lgC (Q2Z cells T).C 6)=1:=Qd3;have HFR:=LH (show∀ad,A1=some ad->(fun y=>if y<w1.heap.size then own y else 0) ad.block=0 from fun ad e=>if_neg (by have:=hfr ad e;omega));have HPP:=LH (show PairsAt w2 w2.heap.size A1 (hpL (keys.take 20)) from hpp);have hll:=Q7M (keys.take 20);clear hpp hb2 hfr;go_wp2_with (fail);with_reducible refine (Qbr A1 c1 (hpL (keys.take 20)) _ HIX2.out (by omega) (fun i _=>QbF cells T i) f1 f2 f3 f4 f5 f6 HPP.out HFR.out hc1 (by omega) (QfZ _) (by decide)).mono ?_
 rintro e w3 hp;obtain ⟨⟨n3,rfl⟩,own3,hix3,hc3,ho3⟩:=hp
 have START:Hid (Qh4 N T cells keys l xb bm w (.int .i64 0) w3):=LH ⟨0,own3,tbs,rfl,Nat.zero_le _,Nat.zero_le _,htl,hix3,fun y hy=>by
  have h2:=HB2.out.size
  rcases ho3 y hy with h|h
  ·have h:(if y<w1.heap.size then own y else 0)≠0:=h;by_cases e:y<w1.heap.size
   ·rw[if_pos e] at h;exact HOWN.out y h
   ·rw[if_neg e] at h;exact absurd rfl h
  ·omega,HB2.out.trans (hc3.below (B:=w.heap.size) (fun y h=>by
   have h:(if y<w1.heap.size then own y else 0)≠0:=h;by_cases e:y<w1.heap.size
   ·rw[if_pos e] at h;exact HOWN.out y h
   ·rw[if_neg e] at h;exact absurd rfl h) HB2.out.size)⟩
 clear hix3 hc3 ho3 HIX HIX2 HFR HPP HB1 HB2 HOWN f1 f2 f3 f4 f5 f6 hll htl;go_wp2_with (fail)
 go_loopw [11] (fun iv wr=>Qh4 N T cells keys l xb bm w iv wr) (fun iv _=>((l.length:Int)-intOf iv).toNat)
 case atStart=>exact START.out
 case round=>
  clear START;obtain ⟨j,own,tbs,rfl,hj1,hj2,htl,hix,hown,hbl⟩:=hrel;by_cases hlt:j<l.length/\j<70
  ·obtain ⟨l1,l2⟩:=hlt;have l3:(j:Int)<l.length:=by omega
   have l4:(j:Int)<70:=by omega
   obtain ⟨ad,e,had,hcell⟩:=(HQ2.out.below hbl).cells (by omega);have c0:=hcell j l1;clear hcell;subst e;obtain ⟨w0,w1'⟩:=HW2.out j l1;have hst:=Q2r N T (Q1c cells T keys) l j;have hs0:(Q1c cells T keys).T.length=T:=by rw[Q1c,(Q4c _ _).1];exact List.length_replicate
   have hok:=Q2P (Q3p N cells T keys) hs0 hT0 l j
   rw[hs0] at hst
   rw[Nat.zero_add] at hok
   have hstep:worldTo N T (Q1c cells T keys) l (j+1)=stepW N T (worldTo N T (Q1c cells T keys) l j) (keyAt l j):=rfl;generalize worldTo N T (Q1c cells T keys) l j=s at hix hst hok hstep;generalize keyAt l j=n at c0 w0 w1' hstep;obtain ⟨t0,t1⟩:=Q3B n T (by omega);obtain ⟨d0,d1⟩:=QgU hT0 w0 w1';obtain ⟨ti,hti⟩:∃ti:Nat,n%(T:Int)=ti:=⟨(n%(T:Int)).toNat,by omega⟩;have htl2:ti<tbs.length:=by omega
   have HTI:=LH hti;have hT9:¬(T:Int)=0:=by omega
   have hstep2:stepW N T s n=if 0<(n.tdiv T)%3/\(s.T.getD ti TH.nil).busy=true then IX.picks N (1+((n.tdiv T).tdiv 3)%24).toNat s ti else s.invoke N ti (opI ((n.tdiv T).tdiv 3)):=by unfold stepW;rw[hti];rfl
   rw[hstep2] at hstep
   clear hstep2;have HST:=LH hstep;have HOK:=LH hok;have HIX:=LH hix;have HOWN:=LH hown;have HBL:=LH hbl;clear hstep hok hown;obtain ⟨a0,a1,a2,tv,lv,ln,lxs,inv,picks,hq,hk⟩:=hix;obtain ⟨g,cap,rfl,_,_⟩:=hq.row.form (by omega);have e4:wr.cell? ⟨xb,4,none⟩=some (.slice (some ⟨g,0,none⟩) tbs.length cap):=hq.blk.cell 4
   have eg:wr.cell? ⟨g,ti,none⟩=some (.pointer (some ⟨tbs.getD ti 0,0,none⟩)):=by
    rw[hq.row.cellAt ti (by simp;omega)]
    rw[List.getElem?_map,List.getElem?_eq_getElem htl2]
    simp[Q2L,List.getD_eq_getElem?_getD,List.getElem?_eq_getElem htl2]
   obtain ⟨_,_,_,_,_,_,_,hqt⟩:=hq.th ti htl2;have e1:wr.cell? ⟨tbs.getD ti 0,1,none⟩=some (.bool (s.T.getD ti TH.nil).busy):=hqt.blk.cell 1;have htl3:(ti:Int)<tbs.length:=by omega
   generalize tbs.getD ti 0=tb at eg e1;clear hq hk hqt;go_wp2_with (fail);with_reducible refine (Q1u n T _ w0 w1' (by omega) (by omega)).mono ?_
   rintro e wz ⟨rfl,rfl⟩
   rw[HTI.out]
   go_wp2_with (fail);generalize n.tdiv (T:Int)=q at d0 d1 HST|-
   have d3:-9223372036854775808<=q.tdiv 3/\q.tdiv 3<=9223372036854775807:=by
    have e:q=3*(q.tdiv 3)+q.tmod 3:=(Int.mul_tdiv_add_tmod q 3).symm;obtain ⟨b0,b1⟩:=Q48 q 3 (by decide);omega
   obtain ⟨d4,d5⟩:=d3
   have FIN:Hid (∀wa wb,Below wr.heap.size wr wa->IxPost own xb bm tbs (worldTo N T (Q1c cells T keys) l (j+1)) (1+j*2400+2400) wa wb->Qh4 N T cells keys l xb bm w (.int .i64 ((j+1:Nat):Int)) wb):=LH (fun wa wb ha hp=>by
    obtain ⟨own2,hix2,hc2,ho2⟩:=hp;have hs1:=HBL.out.size;have hs2:=ha.size;refine ⟨j+1,own2,tbs,rfl,l1,l2,htl,hix2.le (by omega),fun y hy=> ?_,HBL.out.trans (((Chg.of_below (F:=fun y=>own y≠0) ha).trans hc2).below (B:=w.heap.size) (fun y hy=>HOWN.out y hy) hs1)⟩
    rcases ho2 y hy with h|h
    ·exact HOWN.out y h
    ·omega)
   have INV:Hid (∀wa,Below wr.heap.size wr wa->Calls Tryz.prog 112 #[.pointer (some ⟨xb,0,none⟩),.int .i64 ti,.agg #[.int .i64 (opI (q.tdiv 3)).kind,.int .i64 (opI (q.tdiv 3)).key,.int .i64 (opI (q.tdiv 3)).val]] wa (fun e w'=>(∃n,e=.returned (.int .i64 n))/\IxPost own xb bm tbs (s.invoke N ti (opI (q.tdiv 3))) (1+j*2400+2400) wa w')):=LH (fun wa ha=>
    (Q5n N (j*24) own xb bm tbs s (1+j*2400) ti (opI (q.tdiv 3)) wa (HIX.out.below ha) htl2 HOK.out (Q1W _).1 (Q1W _).2 (Qbk _) (by omega) (by omega) (by omega)).mono fun e w' hp=>⟨hp.1,hp.2.le (by omega)⟩)
   have OPA:Hid (∀wa,Calls Tryz.prog 113 #[.int .i64 (q.tdiv 3)] wa (fun e w'=>e=.returned (.agg #[.int .i64 (opI (q.tdiv 3)).kind,.int .i64 (opI (q.tdiv 3)).key,.int .i64 (opI (q.tdiv 3)).val])/\Below wa.heap.size wa w')):=LH (fun wa=>Qfo _ wa d4 d5);go_wp2_with (fail);with_reducible refine (Q1u q 3 _ d0 d1 (by decide) (by decide)).mono ?_
   rintro e wz ⟨rfl,rfl⟩;by_cases g3:0<q%3
   ·cases hbz:(s.T.getD ti TH.nil).busy with
    |true=>
     rw[hbz] at e1
     rw[if_pos ⟨g3,hbz⟩] at HST
     obtain ⟨u0,u1⟩:=Q3B (q.tdiv 3) 24 (by decide);obtain ⟨nn,hnn⟩:∃nn:Nat,1+(q.tdiv 3)%24=nn:=⟨(1+(q.tdiv 3)%24).toNat,by omega⟩;have hnn2:(1+(q.tdiv 3)%24).toNat=nn:=by omega
     rw[hnn2] at HST
     have DO:Hid (∀wa,Below wr.heap.size wr wa->Calls Tryz.prog 172 #[.pointer (some ⟨xb,0,none⟩),.agg #[.int .i64 2,.int .i64 ti,.int .i64 nn,.int .i64 0,.int .i64 0,.int .i64 0]] wa (fun e w'=>e=.returned (.int .i64 0)/\IxPost own xb bm tbs (IX.picks N nn s ti) (1+j*2400+2400) wa w')):=LH (fun wa ha=>by
      have hnn3:nn*100<=2400:=by omega
      exact (QbJ N (j*24) nn own xb bm tbs s (1+j*2400) ti wa (HIX.out.below ha) htl2 HOK.out (by omega) (by omega) (by omega) (by omega) (by omega)).mono fun e w' hp=>⟨hp.1,hp.2.le (by omega)⟩)
     go_wp2_with (fail);with_reducible refine (Q1u (q.tdiv 3) 24 _ d4 d5 (by decide) (by decide)).mono ?_
     rintro e wz ⟨rfl,rfl⟩;go_wp2_with (fail);with_reducible refine (DO.out _ (Below.refl _ _)).mono ?_
     rintro e wz ⟨rfl,hp⟩;have HR:=LH (FIN.out _ _ (Below.refl _ _) (by rw[HST.out];exact hp));clear hp;go_wp2_with (fail)
     go_roundw
     case rel=>exact (show ((j+1:Nat):Int)=(j:Int)+1 by omega)▸HR.out
     case measure=>simp[intOf];omega
    |false=>
     rw[hbz] at e1
     rw[if_neg (fun h=>by rw[hbz] at h;cases h.2)] at HST
     go_wp2_with (fail);with_reducible refine (OPA.out _).mono ?_
     rintro e wy ⟨rfl,hop⟩;have HOP:=LH hop;clear hop;go_wp2_with (fail);with_reducible refine (INV.out _ HOP.out).mono ?_
     rintro e wx hp;obtain ⟨⟨n9,rfl⟩,hp⟩:=hp;have HR:=LH (FIN.out _ _ HOP.out (by rw[HST.out];exact hp));clear hp;go_wp2_with (fail)
     go_roundw
     case rel=>exact (show ((j+1:Nat):Int)=(j:Int)+1 by omega)▸HR.out
     case measure=>simp[intOf];omega
   ·rw[if_neg (fun h=>g3 h.1)] at HST
    go_wp2_with (fail);with_reducible refine (OPA.out _).mono ?_
    rintro e wy ⟨rfl,hop⟩;have HOP:=LH hop;clear hop;go_wp2_with (fail);with_reducible refine (INV.out _ HOP.out).mono ?_
    rintro e wx hp;obtain ⟨⟨n9,rfl⟩,hp⟩:=hp;have HR:=LH (FIN.out _ _ HOP.out (by rw[HST.out];exact hp));clear hp;go_wp2_with (fail)
    go_roundw
    case rel=>exact (show ((j+1:Nat):Int)=(j:Int)+1 by omega)▸HR.out
    case measure=>simp[intOf];omega
  ·have hj:j=min l.length 70:=by omega
   have hs0:(Q1c cells T keys).T.length=T:=by rw[Q1c,(Q4c _ _).1];exact List.length_replicate
   have hok:=Q2P (Q3p N cells T keys) hs0 hT0 l j
   have HFIN:=LH (show Q6w N cells T keys l w (.returned (.pointer (some ⟨xb,0,none⟩))) wr from
    ⟨own,xb,bm,tbs,1+j*2400,rfl,htl,by omega,by unfold Q2O;rw[<-hj];exact hix,by unfold Q2O;rw[<-hj];exact hok.le (by omega),hown,hbl⟩)
   clear hix hown hbl hok hs0;by_cases hz:j<l.length
   ·have l3:(j:Int)<l.length:=by omega
    have l4:(70:Int)<=j:=by omega
    clear hj hlt hz;go_wp2_with (fail);go_ret;exact HFIN.out
   ·have l3:(l.length:Int)<=j:=by omega
    clear hj hlt hz;go_wp2_with (fail);go_ret;exact HFIN.out
theorem Q6A (A:Option Addr) (c N:Nat) (L:List Int) (w:World) (hN:N=L.length) (h:IntsAt w w.heap.size A L) (hl:L.length<=1000000):
  Calls Tryz.prog 89 #[.slice A N c] w (Q6y L w):=by
 subst hN;have qT:∀(w:World) (a:Option Addr) (n c n' c':Nat),(binOp .eql 22 (.slice a n c) (.slice none n' c')).run Tryz.prog w=.ok (.bool a.isNone) w:=fun w a n c n' c'=>Lib.run_eql_slice_nil w _ _ a n c n' c' Tryz.underlying22;obtain ⟨i0,hi0,hz0,hz1,hz2⟩:=info_parts Q1h
 rcases A with _|ad
 ·have h0:L=[]:=by
   rcases L with _|⟨x,L⟩
   ·rfl
   ·obtain ⟨ad,e,_⟩:=h.cells (by simp)
    cases e
  subst h0;clear h;go_enter Tryz.func89,Tryz.ntmps89;go_wp2_with (fail);go_ret;exact ⟨_,rfl,World.ownsRow_nil _ _ _ _,Below.refl _ _⟩
 ·have H:=LH h;clear h;go_enter Tryz.func89,Tryz.ntmps89;have hO:=LH (World.ownsRow_lit (base:=w.heap.size) (e:=2) (size:=1) w #[] 0 (Nat.le_refl _) (by simp[maxLen]) rfl);have hB:=(Below.refl w.heap.size w).alloc (Nat.le_refl _) (.cells #[] 2);have hin:=H.out.below hB;have hsz:=hB.size;go_wp2_with (at_builtin;refine Q09 _ rfl _ _ 22 rfl w.heap.size 2 i0 (.int .i64 0) 1 8 Tryz.underlying22 hi0 hz0 hz1 hz2 rfl (by decide) _ 0 [] rfl hO.out w.heap.size (some ad) L.length c (L.map (Value.int .i64)) rfl hin (Q3T L) ?p1 ?p2 ?p3 ?_;(case p1=>(unfold maxLen;omega));(case p2=>omega);(case p3=>exact hsz);intro v' w2 hO2 hg hvb);have hB2:Below w.heap.size w w2:=hB.grown hg hsz (fun g h=>(hO.out.lt g h).1);go_wp2_with (fail);go_ret;refine ⟨_,rfl, ?_,hB2⟩
  simpa using hO2
theorem QdK (B b:Nat) (v:Value) (C:List Int) (size count odd ref:Int) (w:World) (h:MemP B b v C size count odd ref w) (hC:C.length<=1000000):
  Calls Tryz.prog 27 #[.pointer (some ⟨b,0,none⟩)] w (Q6y C w):=by
 obtain ⟨A,c,rfl⟩:=Q03 h.own;have c0:w.cell? ⟨b,0,none⟩=some (.slice A C.length c):=h.blk.cell 0;have HI:=LH (IntsAt.of_own h.own).2;clear h;go_enter Tryz.func27,Tryz.ntmps27;go_wp2_with (fail);with_reducible refine (Q6A A c C.length C _ rfl HI.out hC).mono ?_
 rintro e w1 ⟨v,rfl,hO,hB⟩;go_wp2_with (fail);go_ret;exact ⟨v,rfl,hO,hB⟩
theorem Q9p (A A2:Option Addr) (c c2 N N2 B:Nat) (q:List Int) (w:World) (hN:N=q.length) (hN2:N2=q.length) (h1:IntsAt w B A q) (h2:IntsAt w B A2 q) (hl:q.length<=1000000):
  Calls Tryz.prog 97 #[.slice A N c,.slice A2 N2 c2] w fun e w'=>e=.returned (.bool true)/\Drawn w w':=by
 subst hN;subst hN2;have H1:=LH h1;have H2:=LH h2;clear h1 h2;go_enter Tryz.func97,Tryz.ntmps97
 go_wp2
 go_loopw [5] (fun v wr=>∃(i m:Nat),i<=q.length/\v=.int .i64 i/\wr=w.drewN m) (fun v _=>q.length-(intOf v).toNat)
 case atStart=>exact ⟨0,0,by omega,rfl,rfl⟩
 case round=>
  obtain ⟨i,m,i1,rfl,rfl⟩:=hrel;by_cases hlt:i<q.length
  ·obtain ⟨ad,rfl,_,hc⟩:=H1.out.cells (by omega);have hcell:=hc i hlt;clear hc;obtain ⟨ad2,rfl,_,hc⟩:=H2.out.cells (by omega);have hcell2:=hc i hlt;clear hc;generalize keyAt q i=x at hcell hcell2
   go_wp2
   go_quiet (fail)
   go_wp2
   go_roundw
   case rel=>exact ⟨i+1,_,by omega,by go_num,rfl⟩
   case measure=>simp[intOf];omega
  ·go_wp2
   go_ret;exact ⟨rfl,Drawn.of _ _⟩
theorem QeE (F:Nat->Prop) (bm B b:Nat) (v:Value) (C:List Int) (size count odd ref:Int) (w:World) (h:MemP B b v C size count odd ref w) (hm:M7 F bm C size w) (hC:C.length<=1000000):
  Calls Tryz.prog 35 #[.pointer (some ⟨b,0,none⟩),.pointer (some ⟨bm,0,none⟩)] w fun e w'=>e=.returned (.bool true)/\Below w.heap.size w w':=by
 obtain ⟨mv,cnt,od,rf,hq⟩:=hm;obtain ⟨A,c,rfl⟩:=Q03 hq.row;have m1:w.cell? ⟨bm,1,none⟩=some (.slice A C.length c):=hq.blk.cell 1;have m0:w.cell? ⟨bm,0,none⟩=some (.int .i64 size):=hq.blk.cell 0;have hlt:=hq.blk.lt;have hw0:=Below.refl w.heap.size w;have H:=LH h;have HQ:=LH hq;clear h hq;go_enter Tryz.func35,Tryz.ntmps35
 go_wp2
 have hd1:decide ((C.length:Int)=C.length)=true:=decide_eq_true rfl;have hd2:decide (size=size)=true:=decide_eq_true rfl;have HD:Hid (MemP B b v C size count odd ref w.drew):=LH (H.out.below (Q08 (Drawn.of w 1) _))
 go_region_held3 (fun w'=>w'.cell? ⟨bm,1,none⟩=some (.slice A C.length c)/\w'.cell? ⟨bm,0,none⟩=some (.int .i64 size)) (first|go_keep|exact K1.out|exact K2.out) (first|(go_at_call 27;(with_reducible refine (QdK _ _ _ _ _ _ _ _ _ HD.out hC).mono ?_);rintro e w1 ⟨u,rfl,hu,hb⟩;obtain ⟨A1,c1,rfl⟩:=Q03 hu;have HB1:=LH (Q3E hb);have HU:=LH hu;have K1:Hid (w1.cell? ⟨bm,1,none⟩=some (.slice A C.length c)/\w1.cell? ⟨bm,0,none⟩=some (.int .i64 size)):=LH ⟨(HQ.out.blk.below HB1.out hlt).cell 1,(HQ.out.blk.below HB1.out hlt).cell 0⟩;clear hb hu)|(go_at_call 97;have HI1:=LH (IntsAt.of_own HU.out).2;have HI2:=LH (IntsAt.of_own (Q0n HQ.out.row HB1.out)).2;(with_reducible refine (Q9p A1 A c1 c _ _ _ C w1 rfl rfl HI1.out HI2.out hC).mono ?_);rintro e w2 ⟨rfl,hd⟩;have HB2:=LH (HB1.out.trans (Q08 hd _));have HM2:=LH (H.out.below HB2.out);have K2:Hid (w2.cell? ⟨bm,1,none⟩=some (.slice A C.length c)/\w2.cell? ⟨bm,0,none⟩=some (.int .i64 size)):=LH ⟨(HQ.out.blk.below HB2.out hlt).cell 1,(HQ.out.blk.below HB2.out hlt).cell 0⟩;clear hd)|(go_at_call 47;(with_reducible refine (Q7m _ _ _ _ _ _ _ _ _ HM2.out).mono ?_);rintro e w3 ⟨rfl,rfl⟩)|(go_at_call 98;(with_reducible refine (Qa8 _ _ _ _ _ _ _ _ _ HM2.out).mono ?_);rintro e w4 ⟨rfl,rfl⟩))
 all_goals
  go_wp2_with (fail);go_ret;exact ⟨rfl,HB2.out⟩
theorem IX.pick_grow {N m:Nat} {s:IX} (h:s.Ok N m) {i:Nat} (hi:i<s.T.length):s.C.length<=(s.pick N i).C.length:=by
 unfold IX.pick
 split
 ·rename_i hb;exact (TH.step_cells (h.thr _ (Q2G (d:=TH.nil) hi) hb) h.cb h.fit h.max).2.2
 ·exact Nat.le_refl _
theorem IX.picks_grow {N:Nat}:∀(n:Nat) {m:Nat} {s:IX} (_:s.Ok N m) {i:Nat} (_:i<s.T.length),s.C.length<=(IX.picks N n s i).C.length/\(IX.picks N n s i).max=s.max
 |0,_,_,_,_,_=>⟨Nat.le_refl _,rfl⟩
 |n+1,m,s,h,i,hi=>by
  unfold IX.picks;have h1:=IX.pick_grow h hi
  split
  ·exact ⟨h1,IX.pick_max _ _ _⟩
  ·have h2:=IX.picks_grow n (h.pick hi) (i:=i) (by rw[IX.pick_len];exact hi);exact ⟨Nat.le_trans h1 h2.1,h2.2.trans (IX.pick_max _ _ _)⟩
theorem QaO {N T m:Nat} {s:IX} (h:s.Ok N m) (hT:s.T.length=T) (h0:0<T) (n:Int):s.C.length<=(stepW N T s n).C.length/\(stepW N T s n).max=s.max:=by
 have h1:=Int.emod_nonneg n (show (T:Int)≠0 by omega);have h2:=Int.emod_lt_of_pos n (show (0:Int)<T by omega);have hi:(n%T).toNat<s.T.length:=by omega
 unfold stepW;split
 ·exact IX.picks_grow _ h hi
 ·refine ⟨?_,IX.invoke_max _ _ _ _⟩;unfold IX.invoke;split<;>exact Nat.le_refl _
theorem Q5a {N T m:Nat} {s:IX} (h:s.Ok N m) (hT:s.T.length=T) (h0:0<T) (l:List Int):∀k,s.C.length<=(worldTo N T s l k).C.length/\(worldTo N T s l k).max=s.max
 |0=>⟨Nat.le_refl _,rfl⟩
 |k+1=>by
  have h1:=Q5a h hT h0 l k;have h2:=QaO (Q2P h hT h0 l k) ((Q2r _ _ _ _ _).trans hT) h0 (keyAt l k);exact ⟨Nat.le_trans h1.1 h2.1,h2.2.trans h1.2⟩
theorem Q5D (N:Nat) (cells:Int) (T:Nat) (hT:0<T) (keys l:List Int):7<=(Q2O N cells T keys l).C.length/\(Q2O N cells T keys l).max=150+cells%650:=by
 have hs0:(Q1c cells T keys).T.length=T:=by rw[Q1c,(Q4c _ _).1];exact List.length_replicate
 have h:=Q5a (Q3p N cells T keys) hs0 hT l (min l.length 70);refine ⟨Nat.le_trans ?_ h.1,h.2.trans (Q4c _ _).2⟩;unfold Q1c IX.loadR
 split
 ·show 7<=(wrC _ 6 _).length;have hl:=Q7M (keys.take 20);have hlc:=Q2Y ((hpL (keys.take 20)).length+1) beginL (hpL (keys.take 20)) (by omega) (by omega);have hca:=Q32 (hpL (keys.take 20)).length;have h7:beginL.length=7:=rfl
  rw[Q21]
  show 7<=(Q0S ((hpL (keys.take 20)).length+1) beginL (hpL (keys.take 20))).1.length;omega
 ·exact Nat.le_refl 7
theorem QeC {B B' b:Nat} {v:Value} {C:List Int} {size count odd ref:Int} {w:World} (h:MemP B b v C size count odd ref w) (hB:B'<=B):MemP B' b v C size count odd ref w:=⟨h.blk,Q0Z h.own hB,Nat.le_trans hB h.base⟩
def QaI (C:List Int) (size:Int) (w:World) (e:Ending) (w':World):Prop:=∃b v cn od rf,e=.returned (.pointer (some ⟨b,0,none⟩))/\MemP w.heap.size b v C size cn od rf w'/\Below w.heap.size w w'/\w.heap.size<=b/\∀g,v.ownBlock=some g->w.heap.size<=g
theorem QdG (F:Nat->Prop) (bm:Nat) (C:List Int) (size:Int) (w:World) (h:M7 F bm C size w) (h0:1<=C.length) (h1:(C.length:Int)<=size) (h2:size<=65536):
  Calls Tryz.prog 110 #[.pointer (some ⟨bm,0,none⟩)] w (QaI C size w):=by
 obtain ⟨mv,cnt,od,rf,hq⟩:=h;obtain ⟨A,c,rfl⟩:=Q03 hq.row;have m0:w.cell? ⟨bm,0,none⟩=some (.int .i64 size):=hq.blk.cell 0;have HQ:=LH hq;clear hq;go_enter Tryz.func110,Tryz.ntmps110;go_wp2_with (fail);with_reducible refine (Q6U size _ (by omega) h2).mono ?_
 rintro e w1 ⟨rfl,hm,hb⟩;have HM:=LH hm;have HB:=LH hb;have m1:w1.cell? ⟨bm,1,none⟩=some (.slice A C.length c):=(HQ.out.below hb).blk.cell 1;have HI:=LH (IntsAt.of_own (HQ.out.below hb).row).2
 have HA:=LH (show∀ad,A=some ad->ad.block≠w.heap.size from fun ad e=>by
  have:=Q0T HQ.out.row ad.block (by rw[e];rfl);omega)
 clear hm hb;go_wp2_with (fail);with_reducible refine (Q7G w.heap.size w.heap.size (.slice none 0 0) [] size 0 0 0 _ HM.out (by simp;omega) h2 A c C C.length rfl HI.out HA.out (by omega) (by simp;omega)).mono ?_
 rintro e w2 hp;obtain ⟨rfl,v',hm2,hmv,hv'⟩:=hp;have hb2:=(Only.of_mvr (S:=[w.heap.size]) hmv (by simp) (fun g hg=>by simp[Value.ownBlock] at hg)).below (B:=w.heap.size) (by simp) HB.out.size
 have HFIN:=LH (show QaI C size w (.returned (.pointer (some ⟨w.heap.size,0,none⟩))) w2 from ⟨_,_,_,_,_,rfl,by simpa using hm2,HB.out.trans hb2,Nat.le_refl _,fun g hg=>by
  rcases hv' with e|⟨g',e,h⟩
  ·rw[e] at hg;simp[Value.ownBlock] at hg
  ·rw[e] at hg;injection hg with hg;have:=HB.out.size;omega⟩)
 clear hm2 hmv hv' hb2;go_wp2_with (fail);go_ret;exact HFIN.out
def QaE (N:Nat) (cells:Int) (keys l:List Int) (w:World) (e:Ending) (w':World):Prop:=∃y b v cn od rf own xb bm tbs k,e=.returned (.pointer (some ⟨y,0,none⟩))/\Blk w' y 84 #[.pointer (some ⟨b,0,none⟩),.pointer (some ⟨xb,0,none⟩)]/\
 MemP w.heap.size b v (Q2O N cells 3 keys l).C (Q2O N cells 3 keys l).max cn od rf w'/\tbs.length=3/\k<=200000/\IxP own xb bm tbs (Q2O N cells 3 keys l) k w'/\(Q2O N cells 3 keys l).Ok N 1680/\(∀z,own z≠0->w.heap.size<=z)/\w.heap.size<=y/\own y=0/\y≠b/\own b=0/\(∀g,v.ownBlock=some g->w.heap.size<=g/\own g=0/\g≠y)/\Below w.heap.size w w'
theorem Q9o (N:Nat) (cells:Int) (A:Option Addr) (c L:Nat) (keys:List Int) (A2:Option Addr) (c2 L2:Nat) (l:List Int) (w:World) (hN:5000<N)
  (hL:L=keys.length) (hL2:L2=l.length) (hc0:L<=c) (hc02:L2<=c2) (h0:-9223372036854775808<=cells) (h1:cells<=9223372036854775807)
  (hq:IntsAt w w.heap.size A keys) (hl:keys.length<=140737488351232) (hw:∀i,i<keys.length->-9223372036854775808<=keyAt keys i/\keyAt keys i<=9223372036854775807)
  (hq2:IntsAt w w.heap.size A2 l) (hl2:l.length<=140737488351232) (hw2:∀i,i<l.length->-9223372036854775808<=keyAt l i/\keyAt l i<=9223372036854775807):
  Calls Tryz.prog 48 #[.int .i64 cells,.slice A L c,.slice A2 L2 c2] w (QaE N cells keys l w):=by
 subst hL hL2;have WLD:Hid (Calls Tryz.prog 109 #[.int .i64 cells,.int .i64 3,.slice A keys.length c,.slice A2 l.length c2] w (Q6w N cells 3 keys l w)):=LH (Qc9 N cells 3 A c _ keys A2 c2 _ l w (by decide) (by decide) hN rfl rfl hc0 hc02 h0 h1 hq hl hw hq2 hl2 hw2);clear hq hw hq2 hw2;go_enter Tryz.func48,Tryz.ntmps48;go_wp2_with (fail);with_reducible refine (WLD.out).mono ?_
 rintro e w1 hp;obtain ⟨own,xb,bm,tbs,k,rfl,htl,hk,hix,hok,hown,hb⟩:=hp;obtain ⟨a0,a1,a2,tv,lv,ln,lxs,inv,picks,hx,hk2⟩:=hix;have e3:w1.cell? ⟨xb,3,none⟩=some (.pointer (some ⟨bm,0,none⟩)):=hx.blk.cell 3;obtain ⟨hc1,hmx⟩:=Q5D N cells 3 (by decide) keys l;obtain ⟨z0,z1⟩:=Q3B cells 650 (by decide);have HX:=LH hx;have HOK:=LH hok;have HOWN:=LH hown;have HB:=LH hb;have HK2:=LH hk2;clear hx hok hown hb;go_wp2_with (fail);with_reducible refine (QdG _ bm (Q2O N cells 3 keys l).C (Q2O N cells 3 keys l).max _ HX.out.mem (by omega) HOK.out.fit HOK.out.max).mono ?_
 rintro e w2 hp;obtain ⟨b,v,cn,od,rf,rfl,hm,hb2,hbb,hbg⟩:=hp;have hal:∀o,Below w2.heap.size w2 (w2.alloc o):=fun o=>(Below.refl _ _).alloc (Nat.le_refl _) o
 have HFIN:=LH (show QaE N cells keys l w (.returned (.pointer (some ⟨w2.heap.size,0,none⟩))) (w2.alloc (.cells #[.pointer (some ⟨b,0,none⟩),.pointer (some ⟨xb,0,none⟩)] 84)) from by
  have hs1:=HB.out.size;have hs2:=hb2.size;have hlb:=hm.blk.lt;refine ⟨w2.heap.size,b,v,cn,od,rf,fun z=>if z<w1.heap.size then own z else 0,xb,bm,tbs,k,rfl,Blk.new w2 _ _,QeC (hm.below (hal _)) HB.out.size,htl,hk,⟨_,_,_,_,_,_,_,_,_,((HX.out.reown (fun z hz=>if_pos hz)).below hb2).below (hal _),HK2.out⟩,HOK.out,fun z hz=> ?_,by omega,if_neg (by omega),by omega,if_neg (by omega),fun g hg=>⟨by have:=hbg g hg;omega,if_neg (by have:=hbg g hg;omega),by have:=Q0T hm.own g hg;omega⟩,HB.out.trans (((Chg.of_below (F:=fun _=>False) hb2).below (fun y hy=>hy.elim) hs1).trans ((Chg.of_below (F:=fun _=>False) (hal _)).below (fun y hy=>hy.elim) (by omega)))⟩;have hz:(if z<w1.heap.size then own z else 0)≠0:=hz;by_cases e:z<w1.heap.size
  ·rw[if_pos e] at hz;exact HOWN.out z hz
  ·rw[if_neg e] at hz;exact absurd rfl hz)
 clear hm hb2 hbb hbg hal;go_wp2_with (fail);go_ret;exact HFIN.out
def Qa5 (B b:Nat) (v:Value) (s:IX) (w:World) (e:Ending) (w':World):Prop:=e=.returned (.tuple #[])/\∃v' cn od rf,MemP B b v' s.C s.max cn od rf w'/\Chg (fun z=>z=b\/v.ownBlock=some z) w w'/\(v'.ownBlock=v.ownBlock\/∃g,v'.ownBlock=some g/\w.heap.size<=g)
def QgI (B b:Nat) (v:Value) (C:List Int) (s:IX) (w:World) (iv:Value) (wr:World):Prop:=∃(j:Nat) (cn od rf:Int),iv=.int .i64 j/\j<=C.length/\MemP B b v (s.C.take j++C.drop j) s.max cn od rf wr/\Chg (fun z=>z=b\/v.ownBlock=some z) w wr
theorem Qfs {C D:List Int} {j:Nat} (h:j<C.length) (h2:C.length<=D.length):rdC (D.take j++C.drop j) ((j:Int)+1)=keyAt C j:=by
 have hl:(D.take j++C.drop j).length=C.length:=by rw[List.length_append,List.length_take,List.length_drop];omega
 unfold rdC
 rw[if_pos (by rw[hl];omega)]
 have e:((j:Int)+1).toNat-1=j:=by omega
 rw[e]
 unfold keyAt
 rw[List.getD_eq_getElem?_getD,List.getD_eq_getElem?_getD,List.getElem?_append_right (by rw[List.length_take];omega),List.length_take,List.getElem?_drop]
 have:j+(j-min j D.length)=j:=by omega
 rw[this]
theorem Qaq {C D:List Int} {j:Nat} (h:j<C.length) (h2:C.length<=D.length):wrC (D.take j++C.drop j) ((j:Int)+1) (keyAt D j)=D.take (j+1)++C.drop (j+1):=by
 have hl:(D.take j++C.drop j).length=C.length:=by rw[List.length_append,List.length_take,List.length_drop];omega
 unfold wrC
 rw[if_pos (by rw[hl];omega)]
 have e:((j:Int)+1).toNat-1=j:=by omega
 rw[e]
 apply List.ext_getElem?;intro i
 rw[List.getElem?_set]
 by_cases c:j=i
 ·subst c
  rw[if_pos rfl,if_pos (by rw[hl];exact h),List.getElem?_append_left (by rw[List.length_take];omega),List.getElem?_take,if_pos (by omega),List.getElem?_eq_getElem (by omega)]
  unfold keyAt
  rw[List.getD_eq_getElem?_getD,List.getElem?_eq_getElem (by omega)];rfl
 ·rw[if_neg c]
  by_cases c2:i<j
  ·rw[List.getElem?_append_left (by rw[List.length_take];omega),List.getElem?_append_left (by rw[List.length_take];omega),List.getElem?_take,List.getElem?_take,if_pos c2,if_pos (by omega)]
  ·rw[List.getElem?_append_right (by rw[List.length_take];omega),List.getElem?_append_right (by rw[List.length_take];omega),List.length_take,List.length_take,List.getElem?_drop,List.getElem?_drop]
   congr 1;omega
theorem QeY {C D:List Int} {j:Nat} (h:j<C.length) (h2:C.length<=D.length) (e:keyAt C j=keyAt D j):D.take j++C.drop j=D.take (j+1)++C.drop (j+1):=by
 rw[<-Qaq h h2];have hl:(D.take j++C.drop j).length=C.length:=by rw[List.length_append,List.length_take,List.length_drop];omega
 unfold wrC
 rw[if_pos (by rw[hl];omega),<-e]
 have e2:((j:Int)+1).toNat-1=j:=by omega
 rw[e2,<-Qfs h h2]
 unfold rdC
 rw[if_pos (by rw[hl];omega),e2]
 unfold keyAt
 rw[List.getD_eq_getElem?_getD,List.getElem?_eq_getElem (by rw[hl];exact h)]
 exact (List.set_getElem_self _).symm
theorem QbG (B y b:Nat) (v:Value) (C:List Int) (cn od rf:Int) (own:Nat->Nat) (xb bm:Nat) (tbs:List Nat) (s:IX) (k:Nat) (w:World) (hY:Blk w y 84 #[.pointer (some ⟨b,0,none⟩),.pointer (some ⟨xb,0,none⟩)]) (hM:MemP B b v C s.max cn od rf w) (hX:IxP own xb bm tbs s k w)
  (hyb:y≠b) (hyv:v.ownBlock≠some y) (hob:own b=0) (hov:∀g,v.ownBlock=some g->own g=0) (hl:C.length<=s.C.length) (hl0:1<=C.length) (hfit:(s.C.length:Int)<=s.max) (hmax:s.max<=65536):
  Calls Tryz.prog 115 #[.pointer (some ⟨y,0,none⟩)] w (Qa5 B b v s w):=by
 obtain ⟨a0,a1,a2,tv,lv,ln,lxs,inv,picks,hq,hk⟩:=hX;obtain ⟨mv,mcn,mod_,mrf,hm7⟩:=hq.mem;obtain ⟨mA,mc,rfl⟩:=Q03 hm7.row;obtain ⟨g,cap,hgv,_,_⟩:=hm7.row.form (by omega);injection hgv with hgv hgv2 hgv3;subst hgv hgv3;clear hgv2
 have FACTS:Hid (∀w',Chg (fun z=>z=b\/v.ownBlock=some z) w w'->w'.cell? ⟨y,0,none⟩=some (.pointer (some ⟨b,0,none⟩))/\w'.cell? ⟨y,1,none⟩=some (.pointer (some ⟨xb,0,none⟩))/\w'.cell? ⟨xb,3,none⟩=some (.pointer (some ⟨bm,0,none⟩))/\w'.cell? ⟨bm,1,none⟩=some (.slice (some ⟨g,0,none⟩) s.C.length mc)/\(∀j,j<s.C.length->w'.cell? ⟨g,j,none⟩=some (.int .i64 (keyAt s.C j)))/\w'.ownsRow 0 2 1 (.slice (some ⟨g,0,none⟩) s.C.length mc) s.C.length (s.C.map (Value.int .i64))):=LH (fun w' hc=>by
  have hY':=hc.blk hY (fun e=>by rcases e with e|e;exact hyb e;exact hyv e);have hq':=hq.chg hc (fun z h1 h2=>by rcases h2 with rfl|h2;exact h1 hob;exact h1 (hov z h2));have hm':=hm7.chg hc (fun z h1 h2=>by have h1:own z=2:=h1;rcases h2 with rfl|h2;rw[hob] at h1;cases h1;rw[hov z h2] at h1;cases h1);refine ⟨hY'.cell 0,hY'.cell 1,hq'.blk.cell 3,hm'.blk.cell 1,fun j hj=> ?_,hm'.row⟩
  rw[hm'.row.cellAt j (by simp;omega)]
  rw[List.getElem?_map,List.getElem?_eq_getElem hj]
  simp[keyAt,List.getD_eq_getElem?_getD,List.getElem?_eq_getElem hj])
 have START:Hid (QgI B b v C s w (.int .i64 0) w):=LH ⟨0,cn,od,rf,rfl,Nat.zero_le _,by simpa using hM,Chg.refl _ _⟩
 have hgb:g≠b:=fun e=>by
  have h1:own g=2:=hm7.fr g rfl
  rw[e,hob] at h1;cases h1
 have HM:=LH hM;obtain ⟨c0,c1,c2,c3,_,_⟩:=FACTS.out w (Chg.refl _ _);clear hq hm7 hY hM hk;go_enter Tryz.func115,Tryz.ntmps115;go_wp2_with (fail);with_reducible refine (Q7m B b v C s.max cn od rf _ HM.out).mono ?_
 rintro e wz ⟨rfl,rfl⟩;go_wp2_with (fail)
 go_loopw [3] (fun iv wr=>QgI B b v C s w iv wr) (fun iv _=>((C.length:Int)-intOf iv).toNat)
 case atStart=>exact START.out
 case round=>
  clear START c0 c1 c2 c3;obtain ⟨j,cn1,od1,rf1,rfl,hj,hm,hch⟩:=hrel;obtain ⟨c0,c1,c2,c3,cg,hrow⟩:=FACTS.out wr hch;have hdl:(s.C.take j++C.drop j).length=C.length:=by rw[List.length_append,List.length_take,List.length_drop];omega
  by_cases hlt:(j:Int)<C.length
  ·have hlt2:(j:Int)<s.C.length:=by omega
   have cj:=cg j (by omega);clear cg hrow;have HMD:=LH (show MemP B b v (s.C.take j++C.drop j) s.max cn1 od1 rf1 wr.drew from hm.below (Q08 (Drawn.of wr 1) _));have HCD:=LH (show Chg (fun z=>z=b\/v.ownBlock=some z) w wr.drew from hch.trans (Chg.of_below (Q08 (Drawn.of wr 1) _)));have HRD:=LH (Qfs (C:=C) (D:=s.C) (j:=j) (by omega) hl);have HDL:=LH hdl;have hj9:(s.C.take j++C.drop j).length<=1000000:=by omega
   have HJ9:=LH hj9;clear hm hch hdl hj9;have hatc:=QcX B b v (s.C.take j++C.drop j) s.max cn1 od1 rf1 ((j:Int)+1) _ HMD.out HJ9.out (by omega) (by omega)
   rw[HRD.out] at hatc
   have ATC:Hid (Calls Tryz.prog 79 #[.pointer (some ⟨b,0,none⟩),.int .i64 (IntKind.i64.wrap ((j:Int)+1))] wr.drew fun e w'=>e=.returned (.int .i64 (keyAt C j))/\wr.drew=w'):=LH (by rw[IntWalk.i64_in _ (by omega)];exact hatc);clear hatc
   have WRC:Hid (∀w',Below wr.drew.heap.size wr.drew w'->Calls Tryz.prog 40 #[.pointer (some ⟨b,0,none⟩),.int .i64 (IntKind.i64.wrap ((j:Int)+1)),.int .i64 (keyAt s.C j)] w' fun e w2=>e=.returned (.tuple #[])/\QgI B b v C s w (.int .i64 ((j+1:Nat):Int)) w2):=LH (fun w' hb=>by
    rw[IntWalk.i64_in _ (by omega)]
    refine (Qc8 B b v (s.C.take j++C.drop j) s.max cn1 od1 rf1 ((j:Int)+1) (keyAt s.C j) w' (HMD.out.below hb) HJ9.out (by omega) (by omega)).mono fun e w2 hp=> ?_;obtain ⟨h1,h2,h3⟩:=hp
    rw[Qaq (by omega) hl] at h2
    exact ⟨h1,j+1,_,_,_,rfl,by omega,h2,HCD.out.trans ((Chg.of_below hb).trans (Chg.of_only (Only.of_mvr (S:=b::v.ownBlock.toList) h3 (by simp) (fun g hg=>by simp[hg])) (fun x hx=>by simpa[eq_comm] using hx)))⟩)
   have SK:Hid (∀iv w1,QgI B b v C s w iv w1->w1.cell? ⟨y,0,none⟩=some (.pointer (some ⟨b,0,none⟩))/\w1.cell? ⟨y,1,none⟩=some (.pointer (some ⟨xb,0,none⟩))/\w1.cell? ⟨xb,3,none⟩=some (.pointer (some ⟨bm,0,none⟩))/\w1.cell? ⟨bm,1,none⟩=some (.slice (some ⟨g,0,none⟩) s.C.length mc)/\w1.cell? ⟨g,j,none⟩=some (.int .i64 (keyAt s.C j))):=LH (fun iv w1 hr=>by
    obtain ⟨_,_,_,_,_,_,_,hc⟩:=hr;obtain ⟨d0,d1,d2,d3,dg,_⟩:=FACTS.out w1 hc;exact ⟨d0,d1,d2,d3,dg j (by omega)⟩)
   have HB2D:Hid (Below wr.drew.heap.size wr.drew wr.drew.drew):=LH (Q08 (Drawn.of wr.drew 1) _);clear HRD HDL HJ9;go_wp2_with (fail)
   go_region_held3 (fun w'=>w'.cell? ⟨y,0,none⟩=some (.pointer (some ⟨b,0,none⟩))/\w'.cell? ⟨y,1,none⟩=some (.pointer (some ⟨xb,0,none⟩))/\w'.cell? ⟨xb,3,none⟩=some (.pointer (some ⟨bm,0,none⟩))/\w'.cell? ⟨bm,1,none⟩=some (.slice (some ⟨g,0,none⟩) s.C.length mc)/\w'.cell? ⟨g,j,none⟩=some (.int .i64 (keyAt s.C j))) (go_keep) (first|(go_at_call 79;(with_reducible refine ATC.out.mono ?_);rintro e w1 ⟨rfl,rfl⟩))
   all_goals
    by_cases heq:keyAt C j=keyAt s.C j
    ·have HR:=LH (show QgI B b v C s w (.int .i64 ((j:Int)+1)) wr.drew from ⟨j+1,cn1,od1,rf1,by rw[Int.natCast_add];rfl,by omega,by rw[<-QeY (by omega) hl heq];exact HMD.out,HCD.out⟩);go_wp2_with (fail)
     go_roundw
     case rel=>exact HR.out
     case measure=>simp[intOf];omega
    ·go_upto_region 5 with fail
     go_region_held3 (fun w'=>w'.cell? ⟨y,0,none⟩=some (.pointer (some ⟨b,0,none⟩))/\w'.cell? ⟨y,1,none⟩=some (.pointer (some ⟨xb,0,none⟩))/\w'.cell? ⟨xb,3,none⟩=some (.pointer (some ⟨bm,0,none⟩))/\w'.cell? ⟨bm,1,none⟩=some (.slice (some ⟨g,0,none⟩) s.C.length mc)/\w'.cell? ⟨g,j,none⟩=some (.int .i64 (keyAt s.C j))) (first|go_keep|exact K1.out) (first|(go_at_call 40;(with_reducible refine (WRC.out _ HB2D.out).mono ?_);rintro e w1 ⟨rfl,hr⟩;have HR:=LH hr;have K1:=LH (SK.out _ _ hr);clear hr))
     all_goals
      go_wp2_with (fail)
      go_roundw
      case rel=>exact (show ((j+1:Nat):Int)=(j:Int)+1 by omega)▸HR.out
      case measure=>simp[intOf];omega
  ·have hjc:j=C.length:=by omega
   subst hjc;have hdd:C.drop C.length=[]:=List.drop_length
   rw[hdd,List.append_nil] at hm
   by_cases hg:(C.length:Int)<s.C.length
   ·have hlc:(s.C.take C.length).length=C.length:=by rw[List.length_take];omega
    have hld:(s.C.drop C.length).length=s.C.length-C.length:=by rw[List.length_drop]
    have hgl:g<wr.heap.size:=World.block_lt_of_cell? wr _ (cg 0 (by omega))
    have hIA:IntsAt wr.drew wr.drew.heap.size (some ⟨g,C.length,none⟩) (s.C.drop C.length):=⟨by simp,fun _=>⟨_,rfl,hgl,fun i u hu=>by
     rw[List.getElem?_map,List.getElem?_drop] at hu
     by_cases hi:C.length+i<s.C.length
     ·rw[List.getElem?_eq_getElem hi] at hu
      have hc:=cg (C.length+i) hi;have e:(⟨g,C.length,none⟩:Addr).add i=⟨g,C.length+i,none⟩:=by unfold Addr.add;split<;>simp_all
      rw[e]
      refine Eq.trans hc ?_;rw[<-hu];simp[keyAt,List.getD_eq_getElem?_getD,List.getElem?_eq_getElem hi]
     ·rw[List.getElem?_eq_none (by omega)] at hu;cases hu⟩⟩
    have hmc:¬mc=C.length:=by
     rcases hrow.2 with ⟨h1,_⟩|⟨g',cap',cur,h1,_,_,h2,_⟩
     ·cases h1
     ·injection h1 with _ _ h3;omega
    have hmk:=Q7G B b v (s.C.take C.length) s.max cn1 od1 rf1 wr.drew (hm.below (Q08 (Drawn.of wr 1) _)) (by omega) hmax (some ⟨g,C.length,none⟩) (mc-C.length) (s.C.drop C.length) (s.C.length-C.length) hld.symm hIA (fun ad e=>by injection e with e;subst e;exact hgb) (by omega) (by omega)
    have MKC:Hid (Calls Tryz.prog 80 #[.pointer (some ⟨b,0,none⟩),.slice (some ⟨g,C.length,none⟩) (s.C.length-C.length) (mc-C.length)] wr.drew fun e w2=>(∃a,e=.returned (.tuple #[.int .i64 a,.bool true]))/\Qa5 B b v s w (.returned (.tuple #[])) w2/\w2.cell? ⟨y,0,none⟩=some (.pointer (some ⟨b,0,none⟩))/\w2.cell? ⟨y,1,none⟩=some (.pointer (some ⟨xb,0,none⟩))/\w2.cell? ⟨xb,3,none⟩=some (.pointer (some ⟨bm,0,none⟩))/\w2.cell? ⟨bm,1,none⟩=some (.slice (some ⟨g,0,none⟩) s.C.length mc)):=LH (by
     refine hmk.mono fun e w2 hp=> ?_;obtain ⟨h1,v',h2,h3,h4⟩:=hp
     rw[List.take_append_drop] at h2
     have hc:Chg (fun z=>z=b\/v.ownBlock=some z) w w2:=hch.trans ((Chg.of_below (Q08 (Drawn.of wr 1) _)).trans (Chg.of_only (Only.of_mvr (S:=b::v.ownBlock.toList) h3 (by simp) (fun g hg=>by simp[hg])) (fun x hx=>by simpa[eq_comm] using hx)));obtain ⟨d0,d1,d2,d3,_,_⟩:=FACTS.out w2 hc;exact ⟨⟨_,h1⟩,⟨rfl,v',_,_,_,h2,hc,h4.imp id (fun ⟨g',e',h'⟩=>⟨g',e',Nat.le_trans hch.size h'⟩)⟩,d0,d1,d2,d3⟩)
    clear hmk hIA hm cg hrow;go_wp2_with (fail)
    go_region_held3 (fun w'=>w'.cell? ⟨y,0,none⟩=some (.pointer (some ⟨b,0,none⟩))/\w'.cell? ⟨y,1,none⟩=some (.pointer (some ⟨xb,0,none⟩))/\w'.cell? ⟨xb,3,none⟩=some (.pointer (some ⟨bm,0,none⟩))/\w'.cell? ⟨bm,1,none⟩=some (.slice (some ⟨g,0,none⟩) s.C.length mc)) (first|go_keep|exact K1.out) (first|(go_at_call 80;(with_reducible refine MKC.out.mono ?_);rintro e w1 ⟨⟨ra,rfl⟩,hr,hs⟩;have HR:=LH hr;have K1:=LH hs;clear hr hs))
    all_goals
     go_wp2_with (fail)
     go_end0
     exact HR.out
   ·have hee:s.C.take C.length=s.C:=List.take_of_length_le (by omega)
    rw[hee] at hm
    have HFIN:=LH (show Qa5 B b v s w (.returned (.tuple #[])) wr from ⟨rfl,v,_,_,_,hm,hch,.inl rfl⟩);clear hm hch cg hrow;have hge:(s.C.length:Int)<=C.length:=by omega
    go_wp2_with (fail)
    go_end0
    exact HFIN.out
structure YardP (N m B y b:Nat) (v:Value) (own:Nat->Nat) (xb bm:Nat) (tbs:List Nat) (s:IX) (k:Nat) (w:World):Prop where
 blk:Blk w y 84 #[.pointer (some ⟨b,0,none⟩),.pointer (some ⟨xb,0,none⟩)]
 mem:∃cn od rf,MemP B b v s.C s.max cn od rf w
 ix:IxP own xb bm tbs s k w
 ok:s.Ok N m
 oy:own y=0
 yb:y≠b
 yv:v.ownBlock≠some y
 ob:own b=0
 ov:∀g,v.ownBlock=some g->own g=0
 c1:1<=s.C.length
 t0:1<=tbs.length
 t1:tbs.length<=64
def Qc6 (N:Nat) (s:IX) (n:Int):IX:=if (s.T.getD (n%s.T.length).toNat TH.nil).busy=true then s else s.invoke N (n%s.T.length).toNat (opI (n.tdiv 3))
def yardS (N:Nat) (s:IX) (n:Int):IX:=(Qc6 N s n).pick N (n%s.T.length).toNat
def Q6v (N m B y b:Nat) (v:Value) (own:Nat->Nat) (xb bm:Nat) (tbs:List Nat) (s:IX) (k:Nat) (w:World) (e:Ending) (w':World):Prop:=
 e=.returned (.tuple #[])/\∃v' own',YardP N m B y b v' own' xb bm tbs s k w'/\Chg (fun z=>own z≠0\/z=b\/v.ownBlock=some z) w w'/\(∀z,own' z≠0->own z≠0\/w.heap.size<=z)/\∀g,v'.ownBlock=some g->v.ownBlock=some g\/w.heap.size<=g
structure YardI (N m B y b:Nat) (v:Value) (own:Nat->Nat) (xb bm:Nat) (tbs:List Nat) (C:List Int) (s:IX) (k:Nat) (w:World):Prop where
 blk:Blk w y 84 #[.pointer (some ⟨b,0,none⟩),.pointer (some ⟨xb,0,none⟩)]
 mem:∃cn od rf,MemP B b v C s.max cn od rf w
 ix:IxP own xb bm tbs s k w
 ok:s.Ok N m
 oy:own y=0
 yb:y≠b
 yv:v.ownBlock≠some y
 ob:own b=0
 ov:∀g,v.ownBlock=some g->own g=0
 c1:1<=C.length
 c2:C.length<=s.C.length
section
variable {N m m' B y b:Nat} {v:Value} {own own':Nat->Nat} {xb bm:Nat} {tbs:List Nat} {C:List Int} {s s':IX} {k k':Nat} {w w':World}
theorem YardP.toI (h:YardP N m B y b v own xb bm tbs s k w):YardI N m B y b v own xb bm tbs s.C s k w:=⟨h.blk,h.mem,h.ix,h.ok,h.oy,h.yb,h.yv,h.ob,h.ov,h.c1,Nat.le_refl _⟩
theorem YardI.below (h:YardI N m B y b v own xb bm tbs C s k w) (hb:Below w.heap.size w w'):YardI N m B y b v own xb bm tbs C s k w':=by
 obtain ⟨cn,od,rf,hm⟩:=h.mem;exact ⟨h.blk.below hb h.blk.lt,⟨cn,od,rf,hm.below hb⟩,h.ix.below hb,h.ok,h.oy,h.yb,h.yv,h.ob,h.ov,h.c1,h.c2⟩
theorem YardI.step (h:YardI N m B y b v own xb bm tbs C s k w) (hp:IxPost own xb bm tbs s' k' w w') (ok:s'.Ok N m') (hc:s.C.length<=s'.C.length) (hx:s'.max=s.max):
  ∃own',YardI N m' B y b v own' xb bm tbs C s' k' w'/\Chg (fun z=>own z≠0) w w'/\∀z,own' z≠0->own z≠0\/w.heap.size<=z:=by
 obtain ⟨own',hix,hch,ho⟩:=hp;obtain ⟨cn,od,rf,hm⟩:=h.mem
 have hz:∀z,z<w.heap.size->own z=0->own' z=0:=fun z h1 h2=>by
  rcases Nat.eq_zero_or_pos (own' z) with e|e
  ·exact e
  ·rcases ho z (by omega) with h3|h3
   ·exact absurd h2 h3
   ·omega
 refine ⟨own',⟨hch.blk h.blk (fun e=>e h.oy),⟨cn,od,rf, ?_⟩,hix,ok,hz _ h.blk.lt h.oy,h.yb,h.yv,hz _ hm.blk.lt h.ob,fun g hg=>hz _ (Q0T hm.own g hg) (h.ov g hg),h.c1,Nat.le_trans h.c2 hc⟩,hch,ho⟩
 rw[hx]
 exact ⟨hch.blk hm.blk (fun e=>e h.ob),hch.own hm.own (fun g hg e=>e (h.ov g hg)),hm.base⟩
end
theorem Q6i {N m B y b:Nat} {v:Value} {own:Nat->Nat} {xb bm:Nat} {tbs:List Nat} {C:List Int} {s:IX} {k:Nat} {w:World} (h:YardI N m B y b v own xb bm tbs C s k w) (t0:1<=tbs.length) (t1:tbs.length<=64):
  Calls Tryz.prog 115 #[.pointer (some ⟨y,0,none⟩)] w fun e w'=>e=.returned (.tuple #[])/\∃v' own',YardP N m B y b v' own' xb bm tbs s k w'/\Chg (fun z=>z=b\/v.ownBlock=some z) w w'/\(∀z,own' z≠0->own z≠0)/\∀g,v'.ownBlock=some g->v.ownBlock=some g\/w.heap.size<=g:=by
 obtain ⟨cn,od,rf,hm⟩:=h.mem;refine (QbG B y b v C cn od rf own xb bm tbs s k w h.blk hm h.ix h.yb h.yv h.ob h.ov h.c2 h.c1 h.ok.fit h.ok.max).mono fun e w' hp=> ?_;obtain ⟨he,v',cn',od',rf',hm',hch,hv⟩:=hp;have hlt:=h.blk.lt
 have hg:∀g,v'.ownBlock=some g->v.ownBlock=some g\/w.heap.size<=g:=fun g hg=>by
  rcases hv with e|⟨g',e,h'⟩
  ·exact .inl (e▸hg)
  ·rw[e] at hg;injection hg with hg;exact .inr (by omega)
 have hz:∀z,own z=0->(if z<w.heap.size then own z else 0)=0:=fun z e=>by split;exact e;rfl
 refine ⟨he,v',fun z=>if z<w.heap.size then own z else 0,⟨hch.blk h.blk (fun e=>by rcases e with e|e;exact h.yb e;exact h.yv e),⟨_,_,_,hm'⟩,h.ix.zero.chg hch (fun z h1 h2=> ?_),h.ok,hz _ h.oy,h.yb,fun e=> ?_,hz _ h.ob,fun g hg'=> ?_,Nat.le_trans h.c1 h.c2,t0,t1⟩,hch,fun z h1=> ?_,hg⟩
 ·rcases h2 with e|e
  ·exact h1 (by rw[e];exact hz _ h.ob)
  ·exact h1 (hz _ (h.ov z e))
 ·rcases hg y e with e|e
  ·exact h.yv e
  ·omega
 ·show (if g<w.heap.size then own g else 0)=0
  rcases hg g hg' with e|e
  ·exact hz _ (h.ov g e)
  ·exact if_neg (by omega)
 ·have h1:(if z<w.heap.size then own z else 0)≠0:=h1;by_cases e:z<w.heap.size
  ·rw[if_pos e] at h1;exact h1
  ·rw[if_neg e] at h1;exact absurd rfl h1
theorem IX.invoke_C (N:Nat) (s:IX) (i:Nat) (o:Op):(s.invoke N i o).C=s.C:=by unfold IX.invoke;split<;>rfl
theorem Q8b (N m B y b:Nat) (v:Value) (own:Nat->Nat) (xb bm:Nat) (tbs:List Nat) (s:IX) (k:Nat) (n:Int) (w:World) (h:YardP N m B y b v own xb bm tbs s k w) (n0:-9223372036854775808<=n) (n1:n<=9223372036854775807) (hmN:m+2<N) (hm9:m<=1000000) (hk:k<=800000000):
  Calls Tryz.prog 52 #[.pointer (some ⟨y,0,none⟩),.int .i64 n] w (Q6v N (m+1) B y b v own xb bm tbs (yardS N s n) (k+200) w):=by
 have htl:=h.ix.len;obtain ⟨t0,t1⟩:=Q3B n tbs.length (by have:=h.t0;omega);obtain ⟨ti,hti⟩:∃ti:Nat,n%(tbs.length:Int)=ti:=⟨(n%(tbs.length:Int)).toNat,by omega⟩;have hti2:(n%(s.T.length:Int)).toNat=ti:=by rw[<-htl];omega
 have htl2:ti<tbs.length:=by omega
 have HTI:=LH hti
 have d3:-9223372036854775808<=n.tdiv 3/\n.tdiv 3<=9223372036854775807:=by
  have e:n=3*(n.tdiv 3)+n.tmod 3:=(Int.mul_tdiv_add_tmod n 3).symm;obtain ⟨b0,b1⟩:=Q48 n 3 (by decide);omega
 obtain ⟨d4,d5⟩:=d3;have hY:=h.toI;have ht64:=h.t1;have ht1:=h.t0;have hys:yardS N s n=(Qc6 N s n).pick N ti:=by unfold yardS;rw[hti2]
 have hyi:Qc6 N s n=if (s.T.getD ti TH.nil).busy=true then s else s.invoke N ti (opI (n.tdiv 3)):=by unfold Qc6;rw[hti2]
 rw[hys,hyi]
 clear hys hyi hti2;obtain ⟨a0,a1,a2,tv,lv,ln,lxs,inv,picks,hq,hk2⟩:=h.ix;obtain ⟨g,cap,rfl,_,_⟩:=hq.row.form (by omega);have e4:w.cell? ⟨xb,4,none⟩=some (.slice (some ⟨g,0,none⟩) tbs.length cap):=hq.blk.cell 4
 have eg:w.cell? ⟨g,ti,none⟩=some (.pointer (some ⟨tbs.getD ti 0,0,none⟩)):=by
  rw[hq.row.cellAt ti (by simp;omega)]
  rw[List.getElem?_map,List.getElem?_eq_getElem htl2]
  simp[Q2L,List.getD_eq_getElem?_getD,List.getElem?_eq_getElem htl2]
 obtain ⟨_,_,_,_,_,_,_,hqt⟩:=hq.th ti htl2;have e1:w.cell? ⟨tbs.getD ti 0,1,none⟩=some (.bool (s.T.getD ti TH.nil).busy):=hqt.blk.cell 1;have y1:w.cell? ⟨y,1,none⟩=some (.pointer (some ⟨xb,0,none⟩)):=h.blk.cell 1;have htl3:(ti:Int)<tbs.length:=by omega
 generalize tbs.getD ti 0=tb at eg e1;have HY:=LH hY;have H0:=LH h;clear hq hk2 hqt hY h;have HTL:=LH htl;clear htl
 cases hbz:(s.T.getD ti TH.nil).busy with
 |true=>
  rw[hbz] at e1
  rw[if_pos rfl]
  go_enter Tryz.func52,Tryz.ntmps52;go_wp2_with (fail);with_reducible refine (Q1u n tbs.length _ n0 n1 (by omega) (by omega)).mono ?_
  rintro e wz ⟨rfl,rfl⟩
  rw[HTI.out]
  go_wp2_with (fail);with_reducible refine (Q4V N m own xb bm tbs s k ti _ HY.out.ix htl2 HY.out.ok hmN hm9 (by omega) ht64).mono ?_
  rintro e w1 hp;obtain ⟨⟨rv,rfl,hrv⟩,hpo⟩:=hp;obtain ⟨own1,hY1,hc1,ho1⟩:=HY.out.step hpo (HY.out.ok.pick (by rw[<-HTL.out];exact htl2)) (IX.pick_grow HY.out.ok (by rw[<-HTL.out];exact htl2)) (IX.pick_max _ _ _);have HY1:=LH hY1;have HC1:=LH hc1;have HO1:=LH ho1;clear hpo hY1 hc1 ho1 e1 e4 eg y1;go_wp2_with (fail);with_reducible refine (Q6i HY1.out ht1 ht64).mono ?_
  rintro e w2 hp;obtain ⟨rfl,v',own2,hP,hc2,ho2,hg2⟩:=hp
  have HFIN:=LH (show Q6v N (m+1) B y b v own xb bm tbs (s.pick N ti) (k+200) w (.returned (.tuple #[])) w2 from by
   refine ⟨rfl,v',own2,⟨hP.blk,hP.mem,hP.ix.le (by omega),hP.ok,hP.oy,hP.yb,hP.yv,hP.ob,hP.ov,hP.c1,hP.t0,hP.t1⟩,(HC1.out.mono (fun z e=>.inl e)).trans (hc2.mono (fun z e=>.inr e)),fun z e=>HO1.out z (ho2 z e),fun g hg=>(hg2 g hg).imp id (fun e=>Nat.le_trans HC1.out.size e)⟩)
  clear hP hc2 ho2 hg2
  rcases hrv with ⟨r0,r1,r2,r3,r4,r5,r6,r7,rfl⟩
  go_wp2_with (fail)
  go_end0
  exact HFIN.out
 |false=>
  rw[hbz] at e1
  rw[if_neg (by decide)]
  go_enter Tryz.func52,Tryz.ntmps52;go_wp2_with (fail);with_reducible refine (Q1u n tbs.length _ n0 n1 (by omega) (by omega)).mono ?_
  rintro e wz ⟨rfl,rfl⟩
  rw[HTI.out]
  have OPA:Hid (∀wa,Calls Tryz.prog 113 #[.int .i64 (IntKind.i64.wrap (n.tdiv 3))] wa (fun e w'=>e=.returned (.agg #[.int .i64 (opI (n.tdiv 3)).kind,.int .i64 (opI (n.tdiv 3)).key,.int .i64 (opI (n.tdiv 3)).val])/\Below wa.heap.size wa w')):=LH (fun wa=>by rw[IntWalk.i64_in _ (by omega)];exact Qfo _ wa d4 d5)
  have INV:Hid (∀wa,Below w.heap.size w wa->Calls Tryz.prog 112 #[.pointer (some ⟨xb,0,none⟩),.int .i64 ti,.agg #[.int .i64 (opI (n.tdiv 3)).kind,.int .i64 (opI (n.tdiv 3)).key,.int .i64 (opI (n.tdiv 3)).val]] wa fun e w2=>(∃n9,e=.returned (.int .i64 n9))/\∃own1,YardI N m B y b v own1 xb bm tbs s.C (s.invoke N ti (opI (n.tdiv 3))) (k+1) w2/\Chg (fun z=>own z≠0) w w2/\∀z,own1 z≠0->own z≠0\/w.heap.size<=z):=LH (fun wa hb=>by
   have hYa:=HY.out.below hb;refine (Q5n N m own xb bm tbs s k ti (opI (n.tdiv 3)) _ hYa.ix htl2 hYa.ok (Q1W _).1 (Q1W _).2 (Qbk _) (by omega) (by omega) ht64).mono fun e w2 hp=> ?_;obtain ⟨h9,hpo⟩:=hp;obtain ⟨own1,hY1,hc1,ho1⟩:=hYa.step hpo (hYa.ok.invoke (by rw[<-HTL.out];exact htl2) (Q1W _).1 (Q1W _).2 (Qbk _)) (by rw[IX.invoke_C];exact Nat.le_refl _) (IX.invoke_max _ _ _ _);exact ⟨h9,own1,hY1,(Chg.of_below (F:=fun z=>own z≠0) hb).trans hc1,fun z e=>(ho1 z e).imp id (fun h=>Nat.le_trans hb.size h)⟩)
  have HBD:Hid (Below w.heap.size w w.drew):=LH (Q08 (Drawn.of w 1) _);go_wp2_with (fail);clear e1 e4 eg
  go_region_held3 (fun w'=>w'.cell? ⟨y,1,none⟩=some (.pointer (some ⟨xb,0,none⟩))) (first|go_keep|exact K1.out|exact K2.out) (first|(go_at_call 113;(with_reducible refine (OPA.out _).mono ?_);rintro e w1 ⟨rfl,hb1⟩;have HB1:=LH (HBD.out.trans hb1);have K1:=LH (show w1.cell? ⟨y,1,none⟩=some (.pointer (some ⟨xb,0,none⟩)) from (HY.out.below HB1.out).blk.cell 1);clear hb1)|(go_at_call 112;(with_reducible refine (INV.out _ HB1.out).mono ?_);rintro e w2 ⟨⟨n9,rfl⟩,own1,hY1,hc1,ho1⟩;have HY1:=LH hY1;have HC1:=LH hc1;have HO1:=LH ho1;have K2:=LH (show w2.cell? ⟨y,1,none⟩=some (.pointer (some ⟨xb,0,none⟩)) from hY1.blk.cell 1);clear hY1 hc1 ho1))
  all_goals
   have y1b:w2.cell? ⟨y,1,none⟩=some (.pointer (some ⟨xb,0,none⟩)):=K2.out;clear K1 K2 y1 HB1 HBD INV OPA;go_wp2_with (fail);with_reducible refine (Q4V N m own1 xb bm tbs (s.invoke N ti (opI (n.tdiv 3))) (k+1) ti _ HY1.out.ix htl2 HY1.out.ok hmN hm9 (by omega) ht64).mono ?_
   rintro e w3 hp;obtain ⟨⟨rv,rfl,hrv⟩,hpo⟩:=hp;have hl9:ti<(s.invoke N ti (opI (n.tdiv 3))).T.length:=by rw[IX.invoke_len,<-HTL.out];exact htl2
   obtain ⟨own2,hY2,hc2,ho2⟩:=HY1.out.step hpo (HY1.out.ok.pick hl9) (IX.pick_grow HY1.out.ok hl9) (IX.pick_max _ _ _);have HY2:=LH hY2;have HC2:=LH (HC1.out.grow hc2 HO1.out)
   have HO2:=LH (show∀z,own2 z≠0->own z≠0\/w.heap.size<=z from fun z e=>by
    rcases ho2 z e with h|h
    ·exact HO1.out z h
    ·exact .inr (Nat.le_trans HC1.out.size h))
   clear hpo hY2 hc2 ho2;go_wp2_with (fail);with_reducible refine (Q6i HY2.out ht1 ht64).mono ?_
   rintro e w4 hp;obtain ⟨rfl,v',own3,hP,hc3,ho3,hg3⟩:=hp
   have HFIN:=LH (show Q6v N (m+1) B y b v own xb bm tbs ((s.invoke N ti (opI (n.tdiv 3))).pick N ti) (k+200) w (.returned (.tuple #[])) w4 from by
    refine ⟨rfl,v',own3,⟨hP.blk,hP.mem,hP.ix.le (by omega),hP.ok,hP.oy,hP.yb,hP.yv,hP.ob,hP.ov,hP.c1,hP.t0,hP.t1⟩,(HC2.out.mono (fun z e=>.inl e)).trans (hc3.mono (fun z e=>.inr e)),fun z e=>HO2.out z (ho3 z e),fun g hg=>(hg3 g hg).imp id (fun e=>Nat.le_trans HC2.out.size e)⟩)
   clear hP hc3 ho3 hg3
   rcases hrv with ⟨r0,r1,r2,r3,r4,r5,r6,r7,rfl⟩
   go_wp2_with (fail)
   go_end0
   exact HFIN.out
def G0:GS where
 ty:=fun a=>if a=1 then 3 else if a=7 then 1 else 0
 deg:=fun _=>1
 lo:=fun _=>Q1y
 hi:=fun _=>Q2M
 ks:=fun _ i=>if i<=0 then Q1y else Q2M+1
 nd:=fun _=>0
 ix:=fun _=>0
 own:=fun _=>0
 k1:=fun _=>0
 v1:=fun _=>0
 tgt:=fun _=>0
 od:=fun _=>0
 nw:=fun _=>0
 gate:=fun _=>false
 sum:=fun _=>0
 key:=fun _ _=>0
 slot:=fun _ _=>57
 res:=fun _=>0
 out:=fun _=>0
 placed:=fun _=>false
 late:=fun _=>false
theorem Qdo (a:Int):G0.ty a=if a=1 then 3 else if a=7 then 1 else 0:=rfl
theorem Qgy {a:Int} (h:G0.ty a=3):a=1:=by rw[Qdo] at h;split at h;assumption;split at h<;>omega
theorem Q8Z {a:Int} (h:G0.ty a≠0):(a=1/\G0.len a=6)\/(a=7/\G0.len a=1):=by
 rw[Qdo] at h
 by_cases e:a=1
 ·subst e;exact .inl ⟨rfl,rfl⟩
 ·by_cases e2:a=7
  ·subst e2;exact .inr ⟨rfl,rfl⟩
  ·rw[if_neg e,if_neg e2] at h;exact absurd rfl h
theorem Q9N {a k:Int} (hk:4<=k\/k=2):G0.ty a≠k:=by
 rw[Qdo];split
 ·omega
 ·split<;>omega
theorem Qg1:Q05 57=1/\wAt 57=7:=by decide
theorem QgX:VR G0 Q1y Q2M 57:=by
 obtain ⟨h1,h2⟩:=Qg1;exact ⟨by omega,by omega,by rw[h2,h1];rfl,fun _=>⟨rfl,rfl⟩,fun h=>by omega,fun h=>by omega⟩
theorem Qfr:Ini G0:=by
 refine ⟨⟨fun a h=> ?_,⟨rfl,rfl,rfl,rfl,rfl,fun i _ _=>by show (57:Int)≠0;decide⟩,fun n hn=> ?_,fun r hr=>absurd hr (Q9N (.inl (by decide))),fun r hr=>absurd hr (Q9N (.inl (by decide)))⟩,fun a=> ?_,fun _=>rfl⟩
 ·rcases Q8Z h with ⟨rfl,h⟩|⟨rfl,h⟩<;>rw[h]<;>decide
 ·have e:=Qgy hn;subst e;refine ⟨fun h=>absurd rfl h,rfl,rfl,fun i j i0 ij jd=> ?_,fun i i1 i2=> ?_,fun i i0 i1=> ?_,fun h=>absurd rfl h⟩
  ·have jd:j<=1:=jd;show (if i<=0 then Q1y else Q2M+1)<(if j<=0 then Q1y else Q2M+1)
   rw[if_pos (by omega),if_neg (by omega)];decide
  ·have i2:i<1:=i2;omega
  ·have i1:i<1:=i1;have:i=0:=by omega
   subst this;exact .inr (.inl (.inl QgX))
 ·rw[Qdo];split
  ·decide
  ·split<;>decide
theorem Qfq:Rep beginL G0:=by
 refine ⟨by decide,fun a=> ?_,fun a h=> ?_,fun a h=> ?_,fun a b ha hb hab=> ?_,fun a h=>absurd h (Q9N (.inr rfl)),fun n h=> ?_,fun n h=> ?_,fun n h=> ?_,fun n i h i1 i2=> ?_,fun n i h=> ?_,fun r hr=>absurd hr (Q9N (.inl (by decide))),fun r hr=>absurd hr (Q9N (.inl (by decide))),fun r hr=>absurd hr (Q9N (.inl (by decide))),fun r hr=>absurd hr (Q9N (.inl (by decide)))⟩
 ·rw[Qdo];split
  ·decide
  ·split<;>decide
 ·rcases Q8Z h with ⟨rfl,h⟩|⟨rfl,h⟩<;>decide
 ·rcases Q8Z h with ⟨rfl,h⟩|⟨rfl,h⟩<;>rw[h]<;>decide
 ·rcases Q8Z ha with ⟨rfl,h⟩|⟨rfl,h⟩<;>rcases Q8Z hb with ⟨rfl,h'⟩|⟨rfl,h'⟩<;>rw[h]<;>omega
 ·have e:=Qgy h;subst e;exact ⟨by decide,by decide⟩
 ·have e:=Qgy h;subst e;decide
 ·have e:=Qgy h;subst e;decide
 ·have i2:i<1:=i2;omega
 ·have e:=Qgy h.ty;subst e;have i0:=h.i0;have i1:i<1:=h.i1;have:i=0:=by omega
  subst this;decide
theorem QeQ {C:List Int} {G:GS} {w:Int} (h:Ini G) (r:Rep C G) (v:VR G Q1y Q2M w):Ini {G with slot:=Q5b G.slot 1 0 w}/\Rep (wrC C 6 w) {G with slot:=Q5b G.slot 1 0 w}:=by
 obtain ⟨a1,a2,a3,a4,a5,a6⟩:=h.inv.r1;have hat:G.At 1 0:=⟨a1,by decide,by omega⟩;have io:=h.inv.inn 1 a1;have k0:G.ks 1 0=Q1y:=io.k0.trans a3;have k1:G.ks 1 1-1=Q2M:=by have:=io.kd;rw[a2,a4] at this;omega
 have hw:w≠0:=fun e=>by have:=v.k0;rw[e,Q1d] at this;omega
 have hcmp:∀n,n≠1->G.cmp n->GS.cmp {G with slot:=Q5b G.slot 1 0 w} n:=fun n hn hc i i0 i1=>by
  show Q5b G.slot 1 0 w n i≠0
  rw[Q1N _ _ (fun e=>hn e.1)];exact hc i i0 i1
 have hvr:∀{a b x:Int},VR G a b x->VR {G with slot:=Q5b G.slot 1 0 w} a b x:=fun hv=>⟨hv.k0,hv.k3,hv.ty,hv.e1,hv.e2,fun k=>⟨(hv.e3 k).1,(hv.e3 k).2.1,hcmp _ (hv.e3 k).2.2.2 (hv.e3 k).2.2.1,(hv.e3 k).2.2.2⟩⟩;have no:∀a k,4<=k->G.ty a≠k:=fun a k hk e=>by have:=h.ty a;omega
 refine ⟨⟨⟨h.inv.cap,⟨a1,a2,a3,a4,a5,fun i i0 i1=> ?_⟩,fun n hn=> ?_,fun a ha=>absurd ha (no a 4 (by decide)),fun a ha=>absurd ha (no a 5 (by decide))⟩,h.ty,h.sum⟩, ?_⟩
 ·have i1:i<G.deg 1:=i1;have:i=0:=by omega
  subst this;show Q5b G.slot 1 0 w 1 0≠0
  rw[Q1H];exact hw
 ·have io:=h.inv.inn n hn;refine ⟨io.d2,io.k0,io.kd,io.kk,fun i i1 i2=> ?_,fun i i0 i1=> ?_,fun e=>absurd (h.sum n) e⟩
  ·by_cases e:n=1/\i=0
   ·omega
   ·show G.key n i=G.ks n i\/Q5b G.slot 1 0 w n i=0
    rw[Q1N _ _ e];exact io.key i i1 i2
  ·show SW {G with slot:=Q5b G.slot 1 0 w} n i (Q5b G.slot 1 0 w n i);by_cases e:n=1/\i=0
   ·obtain ⟨rfl,rfl⟩:=e
    rw[Q1H]
    refine .inr (.inl (.inl ?_));show VR {G with slot:=Q5b G.slot 1 0 w} (G.ks 1 0) (G.ks 1 1-1) w
    rw[k0,k1];exact hvr v
   ·rw[Q1N _ _ e]
    rcases io.slot i i0 i1 with s|s|s
    ·exact .inl s
    ·rcases s with s|s
     ·exact .inr (.inl (.inl (hvr s)))
     ·exact absurd s.2.1 (no _ 4 (by decide))
    ·exact absurd s.2.1 (no _ 5 (by decide))
 ·have hr:=r.setSlot (x:=w) hat (pl:=G.placed) (la:=G.late);have e:G.sa 1 0=6:=by unfold GS.sa;omega
  rw[e] at hr
  exact hr
section
variable {N m:Nat} {s:IX} {G:GS}
theorem QcP (n:Int):Q1y<=(opI n).key/\(opI n).key<=Q2M:=(Qbk n).key
theorem SysI.picks:∀(n:Nat) {m:Nat} {s:IX} {G:GS} {i:Nat} (_:SysI N s G) (_:s.Ok N m) (_:m+n<N) (_:i<s.T.length),∃G',SysI N (IX.picks N n s i) G'/\Ext G G'
 |0,_,_,G,_,h,_,_,_=>⟨G,h,Ext.refl _⟩
 |n+1,m,s,G,i,h,ok,hm,hi=>by
  unfold IX.picks;obtain ⟨G1,h1,x1⟩:=h.pick ok (by omega) hi
  split
  ·exact ⟨G1,h1,x1⟩
  ·obtain ⟨G2,h2,x2⟩:=SysI.picks n h1 (ok.pick hi) (by omega) (i:=i) (by rw[IX.pick_len];exact hi);exact ⟨G2,h2,x1.trans x2⟩
theorem SysI.stepW {T:Nat} (h:SysI N s G) (ok:s.Ok N m) (hm:m+24<N) (hT:s.T.length=T) (h0:0<T) (n:Int):∃G',SysI N (stepW N T s n) G'/\Ext G G':=by
 have h1:=Int.emod_nonneg n (show (T:Int)≠0 by omega);have h2:=Int.emod_lt_of_pos n (show (0:Int)<T by omega);have hi:(n%T).toNat<s.T.length:=by omega
 unfold Go.Proofs.YtblajeildolloaaGreat.stepW
 split
 ·exact h.picks _ ok (by omega) hi
 ·exact ⟨G,h.invoke hi (QcP _),Ext.refl _⟩
theorem SysI.worldTo {T:Nat} (h:SysI N s G) (ok:s.Ok N m) (hT:s.T.length=T) (h0:0<T) (l:List Int):∀k:Nat,m+k*24<N->∃G',SysI N (worldTo N T s l k) G'
 |0,_=>⟨G,h⟩
 |k+1,hk=>by
  obtain ⟨G1,h1⟩:=SysI.worldTo h ok hT h0 l k (by omega);obtain ⟨G2,h2,_⟩:=h1.stepW (Q2P ok hT h0 l k) (by omega) ((Q2r _ _ _ _ _).trans hT) h0 (keyAt l k);exact ⟨G2,h2⟩
theorem QeS (l:List Int):AscB Q1y Q2M (hpL l):=by
 have hlt:∀j k,j<k->k<(hpL l).length->Q17 (hpL l) j<Q17 (hpL l) k:=fun j k jk hk=>by
  have h:=Q7L l (min l.length 60);have:=List.pairwise_iff_getElem.1 h j k (by rw[Q1Y];show j<(hpL l).length;omega) (by rw[Q1Y];exact hk) jk;rw[<-Q5x (hpL l) j (by omega),<-Q5x (hpL l) k hk];unfold keyAt
  rw[List.getD_eq_getElem?_getD,List.getD_eq_getElem?_getD,List.getElem?_eq_getElem (by rw[Q1Y];omega),List.getElem?_eq_getElem (by rw[Q1Y];exact hk)]
  exact this
 have hbd:∀j,j<(hpL l).length->Q1y<=Q17 (hpL l) j/\Q17 (hpL l) j<=Q2M:=fun j hj=>by
  have:=(Qfp l ((hpL l)[j]) (List.getElem_mem hj)).1;have e:Q17 (hpL l) j=((hpL l)[j]).1:=by unfold Q17;rw[List.getD_eq_getElem?_getD,List.getElem?_eq_getElem hj];rfl
  rw[e];exact this
 exact ⟨hlt,fun j hj=>(hbd j hj).1,fun j hj=>(hbd j hj).2⟩
theorem Qb0 (N:Nat) (cells:Int) (T:Nat) (keys:List Int):∃G,SysI N (Q1c cells T keys) G:=by
 obtain ⟨z0,z1⟩:=Q3B cells 650 (by decide);have hT:=Q4c (Q2Z cells T) (hpL (keys.take 20));have ok:=Q3p N cells T keys;have hmx:(Q1c cells T keys).max=150+cells%650:=hT.2
 have hthr:∀i,i<(Q1c cells T keys).T.length->((Q1c cells T keys).T.getD i TH.nil).busy=true->False:=fun i hi hb=>by
  have hm:=Q2G (d:=TH.nil) hi;unfold Q1c at hm hb
  rw[hT.1] at hm hb
  have e:=List.eq_of_mem_replicate hm
  rw[e] at hb;cases hb
 have hrep:∃G,Ini G/\Rep (Q1c cells T keys).C G:=by
  unfold Q1c IX.loadR;have hl:=Q7M (keys.take 20)
  split
  ·rename_i hm;have hlc:=Q2Y ((hpL (keys.take 20)).length+1) beginL (hpL (keys.take 20)) (by omega) (by omega);have hm:((beginL.length:Nat):Int)+Q0C (hpL (keys.take 20)).length<=150+cells%650:=hm;obtain ⟨G1,g1,r1,_,v1⟩:=Qd9 ((hpL (keys.take 20)).length+1) (hpL (keys.take 20)) Q1y Q2M beginL G0 Qfr Qfq (QeS _) (by omega) (by omega) (by omega);obtain ⟨g2,r2⟩:=QeQ g1 r1 v1;exact ⟨_,g2,r2⟩
  ·exact ⟨G0,Qfr,Qfq⟩
 obtain ⟨G,g,r⟩:=hrep;exact ⟨G,g.inv,r,by rw[hmx];omega,ok.fit,fun i hi hb=>(hthr i hi hb).elim⟩
theorem QaJ (N:Nat) (cells:Int) (T:Nat) (hT:0<T) (keys l:List Int) (hN:5000<N):∃G,SysI N (Q2O N cells T keys l) G:=by
 have hs0:(Q1c cells T keys).T.length=T:=by rw[Q1c,(Q4c _ _).1];exact List.length_replicate
 obtain ⟨G,h⟩:=Qb0 N cells T keys;exact h.worldTo (Q3p N cells T keys) hs0 hT l _ (by omega)
theorem SysI.yardS (h:SysI N s G) (ok:s.Ok N m) (hm:m<N) (h0:0<s.T.length) (n:Int):∃G',SysI N (yardS N s n) G'/\Ext G G':=by
 have h1:=Int.emod_nonneg n (show (s.T.length:Int)≠0 by omega);have h2:=Int.emod_lt_of_pos n (show (0:Int)<s.T.length by omega);have hi:(n%s.T.length).toNat<s.T.length:=by omega
 unfold Go.Proofs.YtblajeildolloaaGreat.yardS Qc6
 split
 ·exact h.pick ok hm hi
 ·exact (h.invoke hi (QcP _)).pick (ok.invoke hi (Q1W _).1 (Q1W _).2 (Qbk _)) hm (by rw[IX.invoke_len];exact hi)
end
theorem Q1C {α:Type} (t:List Int):∀p:Prog α,(p.rest []).rest t=p.rest t
 |.ret a=>rfl
 |.ask q k=>rfl
 |.chk k=>Q1C t (k false)
 |.stuck p=>by
  show Prog.stuck ((p.rest []).rest t)=Prog.stuck (p.rest t)
  rw[Q1C t p]
theorem Q38 {α:Type}:∀p:Prog α,(p.rest []).next=p.next
 |.ret a=>rfl
 |.ask q k=>rfl
 |.chk k=>Q38 (k false)
 |.stuck p=>Q38 p
theorem Q3s {α:Type} [Inhabited α]:∀p:Prog α,(p.rest []).val=p.val
 |.ret a=>rfl
 |.ask q k=>rfl
 |.chk k=>Q3s (k false)
 |.stuck p=>Q3s p
structure FL (P:(Nat->Prop)->World->Prop):Prop where
 mono:∀{G G':Nat->Prop} {w:World},P G w->(∀z,G z->G' z)->P G' w
 chg:∀{G H:Nat->Prop} {w w':World},P G w->Chg H w w'->(∀z,G z->H z->False)->P G w'
 within:∀{G:Nat->Prop} {w:World},P G w->P (fun z=>G z/\z<w.heap.size) w
structure BothP (N m B y b:Nat) (P:(Nat->Prop)->World->Prop) (ff:Nat) (x:FX) (T:List Int) (dn:Bool) (o:FOut) (xb bm:Nat) (tbs:List Nat) (s:IX) (k:Nat) (W:World) (G F:Nat->Prop) (v:Value) (own:Nat->Nat) (w:World):Prop where
 yd:YardP N m B y b v own xb bm tbs s k w
 pf:P G w
 rf:FrP F ff x T dn o w
 dj:∀z,F z->G z->False
 fo:∀z,F z\/G z->own z=0/\z≠b/\v.ownBlock≠some z/\z≠y/\B<=z/\z<w.heap.size
 ow:∀z,own z≠0->B<=z
 bw:B<=w.heap.size
 bl:Below B W w
def Both (N m B y b:Nat) (P:(Nat->Prop)->World->Prop) (ff:Nat) (x:FX) (T:List Int) (dn:Bool) (o:FOut) (xb bm:Nat) (tbs:List Nat) (s:IX) (k:Nat) (W w:World):Prop:=∃G F v own,BothP N m B y b P ff x T dn o xb bm tbs s k W G F v own w
section
variable {N m m' B y b:Nat} {P P':(Nat->Prop)->World->Prop} {ff:Nat} {x:FX} {T:List Int} {dn:Bool} {o:FOut} {xb bm:Nat} {tbs:List Nat} {s:IX} {k k':Nat} {W:World} {G F:Nat->Prop} {v:Value} {own:Nat->Nat} {w w':World}
theorem YardP.le (h:YardP N m B y b v own xb bm tbs s k w) (hm:m<=m') (hk:k<=k'):YardP N m' B y b v own xb bm tbs s k' w:=⟨h.blk,h.mem,h.ix.le hk,h.ok.le hm,h.oy,h.yb,h.yv,h.ob,h.ov,h.c1,h.t0,h.t1⟩
theorem YardP.chg {H:Nat->Prop} (h:YardP N m B y b v own xb bm tbs s k w) (c:Chg H w w') (ho:∀z,own z≠0->H z->False) (hb:¬H b) (hv:∀g,v.ownBlock=some g->¬H g) (hy:¬H y):YardP N m B y b v own xb bm tbs s k w':=by
 obtain ⟨cn,od,rf,hm⟩:=h.mem;exact ⟨c.blk h.blk hy,⟨cn,od,rf,hm.chg c hb hv⟩,h.ix.chg c ho,h.ok,h.oy,h.yb,h.yv,h.ob,h.ov,h.c1,h.t0,h.t1⟩
theorem YardP.below (h:YardP N m B y b v own xb bm tbs s k w) (hb:Below w.heap.size w w'):YardP N m B y b v own xb bm tbs s k w':=h.chg (H:=fun _=>False) (Chg.of_below hb) (fun _ _ e=>e) id (fun _ _ e=>e) id
theorem YardP.vlt (h:YardP N m B y b v own xb bm tbs s k w) {z:Nat} (e:v.ownBlock=some z):z<w.heap.size/\B<=z:=by
 obtain ⟨cn,od,rf,hm⟩:=h.mem;exact ⟨Q0T hm.own z e,(hm.own.lt z e).1⟩
theorem YardP.blt (h:YardP N m B y b v own xb bm tbs s k w):b<w.heap.size/\B<=b:=by
 obtain ⟨cn,od,rf,hm⟩:=h.mem;exact ⟨hm.blk.lt,hm.base⟩
theorem YardP.zero (h:YardP N m B y b v own xb bm tbs s k w):YardP N m B y b v (fun z=>if z<w.heap.size then own z else 0) xb bm tbs s k w:=
 ⟨h.blk,h.mem,h.ix.zero,h.ok,(if_pos h.blk.lt).trans h.oy,h.yb,h.yv,(if_pos h.blt.1).trans h.ob,fun g hg=>(if_pos (h.vlt hg).1).trans (h.ov g hg),h.c1,h.t0,h.t1⟩
theorem BothP.below (h:BothP N m B y b P ff x T dn o xb bm tbs s k W G F v own w) (fl:FL P) (hb:Below w.heap.size w w'):BothP N m B y b P ff x T dn o xb bm tbs s k W G F v own w':=
 ⟨h.yd.below hb,fl.chg (H:=fun _=>False) h.pf (Chg.of_below hb) (fun _ _ e=>e),h.rf.below hb,h.dj,fun z hz=>by have:=h.fo z hz;have:=hb.size;exact ⟨by omega,by omega,(h.fo z hz).2.2.1,by omega,by omega,by omega⟩,h.ow,Nat.le_trans h.bw hb.size,h.bl.trans (hb.mono h.bw)⟩
theorem Both.below (h:Both N m B y b P ff x T dn o xb bm tbs s k W w) (fl:FL P) (hb:Below w.heap.size w w'):Both N m B y b P ff x T dn o xb bm tbs s k W w':=by
 obtain ⟨G,F,v,own,h⟩:=h;exact ⟨G,F,v,own,h.below fl hb⟩
theorem Both.le (h:Both N m B y b P ff x T dn o xb bm tbs s k W w) (hm:m<=m') (hk:k<=k'):Both N m' B y b P ff x T dn o xb bm tbs s k' W w:=by
 obtain ⟨G,F,v,own,h⟩:=h;exact ⟨G,F,v,own,h.yd.le hm hk,h.pf,h.rf,h.dj,h.fo,h.ow,h.bw,h.bl⟩
theorem QdQ (fl:FL P) (n:Int) (h:Both N m B y b P ff x T dn o xb bm tbs s k W w) (n0:-9223372036854775808<=n) (n1:n<=9223372036854775807) (hmN:m+2<N) (hm9:m<=1000000) (hk:k<=800000000):
  Calls Tryz.prog 52 #[.pointer (some ⟨y,0,none⟩),.int .i64 n] w fun e w'=>e=.returned (.tuple #[])/\Both N (m+1) B y b P ff x T dn o xb bm tbs (yardS N s n) (k+200) W w':=by
 obtain ⟨G,F,v,own,h⟩:=h;refine (Q8b N m B y b v own xb bm tbs s k n w h.yd n0 n1 hmN hm9 hk).mono fun e w' hp=> ?_;obtain ⟨he,v',own',hy,hc,ho,hg⟩:=hp
 have hd:∀z,F z\/G z->(own z≠0\/z=b\/v.ownBlock=some z)->False:=fun z hz e=>by
  obtain ⟨a1,a2,a3,_⟩:=h.fo z hz
  rcases e with e|e|e
  ·exact e a1
  ·exact a2 e
  ·exact a3 e
 refine ⟨he,G,F,v',own',hy,fl.chg h.pf hc (fun z h1 h2=>hd z (.inr h1) h2),h.rf.chg hc (fun z h1 h2=>hd z (.inl h1) h2),h.dj,fun z hz=> ?_,fun z hz=> ?_,Nat.le_trans h.bw hc.size,h.bl.trans (hc.below (fun z hz=> ?_) h.bw)⟩
 ·obtain ⟨a1,a2,a3,a4,a5,a6⟩:=h.fo z hz;refine ⟨?_,a2,fun e=> ?_,a4,a5,Nat.lt_of_lt_of_le a6 hc.size⟩
  ·rcases Nat.eq_zero_or_pos (own' z) with e|e
   ·exact e
   ·rcases ho z (by omega) with e|e
    ·exact absurd a1 e
    ·omega
  ·rcases hg z e with e|e
   ·exact a3 e
   ·omega
 ·rcases ho z hz with e|e
  ·exact h.ow z e
  ·exact Nat.le_trans h.bw e
 ·rcases hz with e|e|e
  ·exact h.ow z e
  ·rw[e];exact h.yd.blt.2
  ·exact (h.yd.vlt e).2
theorem BothP.prog (h:BothP N m B y b P ff x T dn o xb bm tbs s k W G F v own w) (fl':FL P') (h1:P' (fun z=>G z\/w.heap.size<=z) w') (h2:∃cn od rf,MemP B b v s.C s.max cn od rf w') (h3:Chg (fun z=>G z\/z=b) w w'):
  Both N m B y b P' ff x T dn o xb bm tbs s k W w':=by
 have hb:=h.yd.blt;have hyl:=h.yd.blk.lt;have hz:∀z,F z\/G z->(if z<w.heap.size then own z else 0)=0:=fun z hz=>by rw[if_pos (h.fo z hz).2.2.2.2.2];exact (h.fo z hz).1
 have hn:∀z,(F z\/(G z\/w.heap.size<=z)/\z<w'.heap.size)->(if z<w.heap.size then own z else 0)=0/\z≠b/\v.ownBlock≠some z/\z≠y/\B<=z/\z<w'.heap.size:=fun z hz2=>by
  have hs:=h3.size;by_cases c:z<w.heap.size
  ·have hfg:F z\/G z:=by
    rcases hz2 with e|⟨e|e,_⟩
    ·exact .inl e
    ·exact .inr e
    ·omega
   obtain ⟨a1,a2,a3,a4,a5,a6⟩:=h.fo z hfg;exact ⟨hz z hfg,a2,a3,a4,a5,by omega⟩
  ·refine ⟨if_neg c,by omega,fun e=> ?_,by omega,by have:=h.bw;omega, ?_⟩
   ·have:=(h.yd.vlt e).1;omega
   ·rcases hz2 with e|e
    ·have:=(h.fo z (.inl e)).2.2.2.2.2;omega
    ·exact e.2
 refine ⟨fun z=>(G z\/w.heap.size<=z)/\z<w'.heap.size,F,v,fun z=>if z<w.heap.size then own z else 0,⟨?_,fl'.within h1,h.rf.chg h3 (fun z e1 e2=> ?_),fun z e1 e2=> ?_,hn,fun z hz2=> ?_,Nat.le_trans h.bw h3.size,h.bl.trans (h3.below (fun z hz2=> ?_) h.bw)⟩⟩
 ·have hy:=h.yd.zero;refine ⟨h3.blk hy.blk (fun e=> ?_),h2,hy.ix.chg h3 (fun z e1 e2=> ?_),hy.ok,hy.oy,hy.yb,hy.yv,hy.ob,hy.ov,hy.c1,hy.t0,hy.t1⟩
  ·rcases e with e|e
   ·exact (h.fo y (.inr e)).2.2.2.1 rfl
   ·exact h.yd.yb e
  ·rcases e2 with e2|e2
   ·exact e1 (hz z (.inr e2))
   ·rw[e2] at e1;exact e1 hy.ob
 ·rcases e2 with e2|e2
  ·exact h.dj z e1 e2
  ·exact (h.fo z (.inl e1)).2.1 e2
 ·rcases e2.1 with e2|e2
  ·exact h.dj z e1 e2
  ·have:=(h.fo z (.inl e1)).2.2.2.2.2;omega
 ·have hz2:(if z<w.heap.size then own z else 0)≠0:=hz2;by_cases c:z<w.heap.size
  ·rw[if_pos c] at hz2;exact h.ow z hz2
  ·rw[if_neg c] at hz2;exact absurd rfl hz2
 ·rcases hz2 with e|e
  ·exact (h.fo z (.inr e)).2.2.2.2.1
  ·rw[e];exact hb.2
theorem IxQ.memq {a0 a1 a2 inv picks:Int} {tv lv:Value} {ln:Nat} {lxs:List Value} {Fm:Nat->Prop} (h:IxQ own xb bm tbs s a0 a1 a2 tv lv ln lxs inv picks w) (hm:M7 Fm bm s.C s.max w') (hF:∀z,Fm z->own z=2\/w.heap.size<=z) (hc:Chg (fun z=>F z\/own z=2) w w') (hz:∀z,F z->own z=0):
  IxQ (fun z=>if z<w.heap.size then own z else open Classical in if Fm z then 2 else 0) xb bm tbs s a0 a1 a2 tv lv ln lxs inv picks w':=by
 classical
 have hlt:∀z,z<w.heap.size->(if z<w.heap.size then own z else if Fm z then 2 else 0)=own z:=fun z e=>if_pos e
 have hne:∀z n,own z=n->n≠0->n≠2->¬(F z\/own z=2):=fun z n e h0 h2 hh=>by
  rcases hh with hh|hh
  ·have:=hz z hh;omega
  ·omega
 refine ⟨(if_pos h.blk.lt).trans h.ox,hc.blk h.blk (hne xb 1 h.ox (by decide) (by decide)),hm.mono (fun z e=> ?_),h.len,hc.own h.row (fun g hg=>hne g 1 (h.rowo g hg) (by decide) (by decide)),fun g hg=>(if_pos (Q0T h.row g hg)).trans (h.rowo g hg),hc.own h.log (fun g hg=>hne g 1 (h.logo g hg) (by decide) (by decide)),fun g hg=>(if_pos (Q0T h.log g hg)).trans (h.logo g hg),fun i hi=>((h.th i hi).within.chg hc (fun z h1 h2=>hne z (3+i) h1.1 (by omega) (by omega) h2)).mono (fun z hz=>(if_pos hz.2).trans hz.1)⟩;show (if z<w.heap.size then own z else if Fm z then 2 else 0)=2
 rcases hF z e with e2|e2
 ·by_cases c:z<w.heap.size
  ·rw[if_pos c];exact e2
  ·rw[if_neg c,if_pos e]
 ·rw[if_neg (by omega),if_pos e]
theorem Qf3 (fl:FL P) (q q':Prog FOut) (a:Int) (h:Both N m B y b P ff x T false o xb bm tbs s k W w) (hP:Q5s N x) (hT:∀t∈T,i64B t) (hf:T.length+2<N) (hl:T.length<=1000000) (hL:((x.tree N).rest T).rest []=q.rest []) (hq:(q.rest []).next=some ⟨1,a,0,0,[],0⟩) (hq':q.rest [rdC s.C a]=q'.rest []) (ha:i64B a):
  Calls Tryz.prog 31 #[.pointer (some ⟨ff,0,none⟩),.pointer (some ⟨bm,0,none⟩)] w fun e w'=>e=.returned (.bool q'.next.isNone)/\Both N m B y b P ff x (T++[rdC s.C a]) q'.next.isNone (if q'.next.isNone=true then q'.val else o) xb bm tbs s k W w':=by
 obtain ⟨G,F,v,own,h⟩:=h;obtain ⟨a0,a1,a2,tv,lv,ln,lxs,inv,picks,hx,hk⟩:=h.yd.ix;have hfit:=h.yd.ok.fit;have hmax:=h.yd.ok.max;have hv:i64B (rdC s.C a):=Q4t (QbV h.yd.ok.cb) a;obtain ⟨o1,s1,hg1⟩:∃o u,(x.tree N).go ⟨T,0,false,Q20⟩=(o,u):=⟨_,_,rfl⟩;obtain ⟨o2,s2,hg2⟩:∃o u,(x.tree N).go ⟨T++[rdC s.C a],0,false,Q20⟩=(o,u):=⟨_,_,rfl⟩;have r1:=Q3a (x.tree N) ⟨T,0,false,Q20⟩ rfl (Nat.zero_le _);have r2:=Q3a (x.tree N) ⟨T++[rdC s.C a],0,false,Q20⟩ rfl (Nat.zero_le _);simp only[List.drop_zero] at r1 r2;have n1:((x.tree N).rest T).next=some ⟨1,a,0,0,[],0⟩:=by rw[<-Q38,hL];exact hq
 have n2:(x.tree N).rest (T++[rdC s.C a])=q'.rest []:=by rw[Q2T,<-Q1C [rdC s.C a] ((x.tree N).rest T),hL,Q1C,hq']
 rw[n1,hg1] at r1
 rw[n2,hg2,Q38,Q3s] at r2
 have r11:s1.off=true:=r1.1;have r12:s1.next=⟨1,a,0,0,[],0⟩:=r1.2
 have hdn:(!s2.off)=q'.next.isNone/\(if s2.off=true then o else o2)=if q'.next.isNone=true then q'.val else o:=by
  cases hh:q'.next with
  |none=>
   rw[hh] at r2
   have e1:o2=q'.val:=r2.1;have e2:s2.off=false:=r2.2
   rw[e2,e1];exact ⟨rfl,rfl⟩
  |some qq=>
   rw[hh] at r2
   have e2:s2.off=true:=r2.1
   rw[e2];exact ⟨rfl,rfl⟩
 have hFm:∀z,F z->own z=2->False:=fun z e1 e2=>by have:=(h.fo z (.inl e1)).1;omega
 refine (Q8i N F (fun z=>own z=2) ff bm x T o o1 o2 s1 s2 s.C s.max w hP h.rf hx.mem hFm ⟨hT,by show T.length<=_;omega,Nat.zero_le _⟩ hf (by omega) hfit hmax (rdC s.C a) s.C _ _ (by rw[r12];rfl) hv (by rw[r12];exact ⟨(by decide:(1:Int)<=1),(by decide:(1:Int)<=5),ha,Q0f,Q0f,by simp,by simp⟩) hl hg1 r11 hg2 hdn.1 hdn.2).mono fun e w' hp=> ?_;obtain ⟨he,F',Fm',g1,g2,g3,g4,g5,g6⟩:=hp;have hb:=h.yd.blt;have hyl:=h.yd.blk.lt;have hix:=hx.memq g2 g5 g6 (fun z e=>(h.fo z (.inl e)).1);have ho0:∀z,z<w.heap.size->own z=0->(if z<w.heap.size then own z else open Classical in if Fm' z then 2 else 0)=0:=fun z h1 h2=>(if_pos h1).trans h2;refine ⟨he,G,fun z=>F' z/\z<w'.heap.size,v,fun z=>if z<w.heap.size then own z else open Classical in if Fm' z then 2 else 0,⟨?_,fl.chg h.pf g6 (fun z e1 e2=> ?_),g1.within,fun z e1 e2=> ?_,fun z hz2=> ?_,fun z hz2=> ?_,Nat.le_trans h.bw g6.size,h.bl.trans (g6.below (fun z hz2=> ?_) h.bw)⟩⟩
 ·obtain ⟨cn,od,rf,hm⟩:=h.yd.mem;refine ⟨g6.blk h.yd.blk (fun e=> ?_),⟨cn,od,rf,hm.chg g6 (fun e=> ?_) (fun g hg e=> ?_)⟩,⟨_,_,_,_,_,_,_,_,_,hix,hk⟩,h.yd.ok,ho0 y hyl h.yd.oy,h.yd.yb,h.yd.yv,ho0 b hb.1 h.yd.ob,fun g hg=>ho0 g (h.yd.vlt hg).1 (h.yd.ov g hg),h.yd.c1,h.yd.t0,h.yd.t1⟩
  ·rcases e with e|e
   ·exact (h.fo y (.inl e)).2.2.2.1 rfl
   ·have:=h.yd.oy;omega
  ·rcases e with e|e
   ·exact (h.fo b (.inl e)).2.1 rfl
   ·have:=h.yd.ob;omega
  ·rcases e with e|e
   ·exact (h.fo g (.inl e)).2.2.1 hg
   ·have:=h.yd.ov g hg;omega
 ·rcases e2 with e2|e2
  ·exact h.dj z e2 e1
  ·have:=(h.fo z (.inr e1)).1;omega
 ·rcases g4 z e1.1 with e|e
  ·exact h.dj z e e2
  ·have:=(h.fo z (.inr e2)).2.2.2.2.2;omega
 ·have hs:=g6.size;by_cases c:z<w.heap.size
  ·have hfg:F z\/G z:=by
    rcases hz2 with e|e
    ·rcases g4 z e.1 with e|e
     ·exact .inl e
     ·omega
    ·exact .inr e
   obtain ⟨a1,a2,a3,a4,a5,a6⟩:=h.fo z hfg;exact ⟨ho0 z c a1,a2,a3,a4,a5,by omega⟩
  ·rcases hz2 with e|e
   ·refine ⟨?_,by omega,fun e2=> ?_,by omega,by have:=h.bw;omega,e.2⟩
    ·show (if z<w.heap.size then own z else open Classical in if Fm' z then 2 else 0)=0
     rw[if_neg c,if_neg (fun e2=>g3 z e.1 e2)]
    ·have:=(h.yd.vlt e2).1;omega
   ·have:=(h.fo z (.inr e)).2.2.2.2.2;omega
 ·by_cases c:z<w.heap.size
  ·have hz2:(if z<w.heap.size then own z else open Classical in if Fm' z then 2 else 0)≠0:=hz2
   rw[if_pos c] at hz2
   exact h.ow z hz2
  ·have:=h.bw;omega
 ·rcases hz2 with e|e
  ·exact (h.fo z (.inl e)).2.2.2.2.1
  ·exact h.ow z (by omega)
theorem Q8q (h:YardP N m B y b v own xb bm tbs s k w):Calls Tryz.prog 51 #[.pointer (some ⟨y,0,none⟩)] w fun e w'=>e=.returned (.bool true)/\Below w.heap.size w w':=by
 obtain ⟨a0,a1,a2,tv,lv,ln,lxs,inv,picks,hx,hk⟩:=h.ix;obtain ⟨cn,od,rf,hm⟩:=h.mem;have y0:w.cell? ⟨y,0,none⟩=some (.pointer (some ⟨b,0,none⟩)):=h.blk.cell 0;have y1:w.cell? ⟨y,1,none⟩=some (.pointer (some ⟨xb,0,none⟩)):=h.blk.cell 1;have e3:w.cell? ⟨xb,3,none⟩=some (.pointer (some ⟨bm,0,none⟩)):=hx.blk.cell 3;have hfit:=h.ok.fit;have hmax:=h.ok.max;have hD:Below w.heap.size w w.drew:=Q08 (Drawn.of w 1) _
 have HLK:Hid (Calls Tryz.prog 35 #[.pointer (some ⟨b,0,none⟩),.pointer (some ⟨bm,0,none⟩)] w.drew fun e w'=>e=.returned (.bool true)/\Below w.heap.size w w'/\w'.cell? ⟨y,0,none⟩=some (.pointer (some ⟨b,0,none⟩))/\w'.cell? ⟨y,1,none⟩=some (.pointer (some ⟨xb,0,none⟩))/\w'.cell? ⟨xb,3,none⟩=some (.pointer (some ⟨bm,0,none⟩))):=LH ((QeE _ bm B b v s.C s.max cn od rf w.drew (hm.below hD) (hx.mem.below hD) (by omega)).mono fun e w' hp=>by
  have hb:=Q3E hp.2;exact ⟨hp.1,hb,(h.blk.below hb h.blk.lt).cell 0,(h.blk.below hb h.blk.lt).cell 1,(hx.blk.below hb hx.blk.lt).cell 3⟩)
 clear hx hm h hD;go_enter Tryz.func51,Tryz.ntmps51;go_wp2_with (fail)
 go_region_held3 (fun w'=>w'.cell? ⟨y,0,none⟩=some (.pointer (some ⟨b,0,none⟩))/\w'.cell? ⟨y,1,none⟩=some (.pointer (some ⟨xb,0,none⟩))/\w'.cell? ⟨xb,3,none⟩=some (.pointer (some ⟨bm,0,none⟩))) (first|go_keep|exact K1.out) (first|(go_at_call 35;(with_reducible refine HLK.out.mono ?_);rintro e w1 ⟨rfl,hb,hk⟩;have HB:=LH hb;have K1:=LH hk;clear hb hk))
 all_goals
  go_wp2_with (fail);go_ret;exact ⟨rfl,HB.out⟩
theorem QdP (fl:FL P) (h:Both N m B y b P ff x T dn o xb bm tbs s k W w):Calls Tryz.prog 51 #[.pointer (some ⟨y,0,none⟩)] w fun e w'=>e=.returned (.bool true)/\Both N m B y b P ff x T dn o xb bm tbs s k W w':=by
 obtain ⟨G,F,v,own,h⟩:=h;exact (Q8q h.yd).mono fun e w' hp=>⟨hp.1,G,F,v,own,h.below fl hp.2⟩
theorem Both.start {w0:World} (fl:FL P) (hy:YardP N m B y b v own xb bm tbs s k w0) (ow:∀z,own z≠0->B<=z) (bw:B<=w0.heap.size) (bl:Below B W w0) (hb:Below w0.heap.size w0 w) (hG:P G w) (hF:FrP F ff x T dn o w) (h1:∀z,F z\/G z->w0.heap.size<=z) (h2:∀z,F z->G z->False):
  Both N m B y b P ff x T dn o xb bm tbs s k W w:=by
 have hb1:=hy.blt;have hyl:=hy.blk.lt;have key:∀z,w0.heap.size<=z->z<w.heap.size->(if z<w0.heap.size then own z else 0)=0/\z≠b/\v.ownBlock≠some z/\z≠y/\B<=z/\z<w.heap.size:=fun z h1 h2=>⟨if_neg (by omega),by omega,fun e=>by have:=(hy.vlt e).1;omega,by omega,by omega,h2⟩;refine ⟨fun z=>G z/\z<w.heap.size,fun z=>F z/\z<w.heap.size,v,fun z=>if z<w0.heap.size then own z else 0,hy.zero.below hb,fl.within hG,hF.within,fun z e1 e2=>h2 z e1.1 e2.1,fun z hz=> ?_,fun z hz=> ?_,Nat.le_trans bw hb.size,bl.trans (hb.mono bw)⟩
 ·rcases hz with e|e
  ·exact key z (h1 z (.inl e.1)) e.2
  ·exact key z (h1 z (.inr e.1)) e.2
 ·have hz:(if z<w0.heap.size then own z else 0)≠0:=hz;by_cases c:z<w0.heap.size
  ·rw[if_pos c] at hz;exact ow z hz
  ·rw[if_neg c] at hz;exact absurd rfl hz
end
structure Mach (N:Nat) (x:FX) (σ:Type) (P:σ->(Nat->Prop)->World->Prop) (don:σ->Bool) (out:σ->FOut) (J:GS->Nat->Nat->σ->Prog FOut->Prop) (step:(Int->Int)->σ->σ) (fn fdn:FuncId) (fb:Nat):Prop where
 pl:Q5s N x
 fl:∀st,FL (P st)
 ext:∀{G G':GS} {i f:Nat} {st:σ} {q:Prog FOut},J G i f st q->Ext G G'->J G' i f st q
 go1:∀{G:GS} {i f:Nat} {st:σ} {q:Prog FOut} {C:List Int},J G i f st q->Inv G->Rep C G->(∀x∈C,i64B x)->don st=false->2<=f->i<=100000->∃f' a q',f<=f'+1/\i64B a/\(q.rest []).next=some ⟨1,a,0,0,[],0⟩/\q.rest [rdC C a]=q'.rest []/\J G (i+1) f' (step (rdC C) st) q'
 nx:∀{G:GS} {i f:Nat} {st:σ} {q:Prog FOut},J G i f st q->2<=f->q.next.isNone=don st
 val:∀{G:GS} {i f:Nat} {st:σ} {q:Prog FOut},J G i f st q->don st=true->q.val=out st
 call:∀{G:GS} {i f:Nat} {st:σ} {q:Prog FOut} {B b:Nat} {v:Value} {C:List Int} {size cn od rf:Int} {F:Nat->Prop} {w:World},J G i f st q->Inv G->Rep C G->don st=false->i<=100000->P st F w->MemP B b v C size cn od rf w->(∀z,F z->z≠b/\v.ownBlock≠some z)->C.length<=1000000->(∀x∈C,i64B x)->
  Calls Tryz.prog fn #[.pointer (some ⟨fb,0,none⟩),.pointer (some ⟨b,0,none⟩)] w fun e w'=>e=.returned (.bool (don (step (rdC C) st)))/\P (step (rdC C) st) (fun z=>F z\/w.heap.size<=z) w'/\(∃cn od rf,MemP B b v C size cn od rf w')/\Chg (fun z=>F z\/z=b) w w'
 done:∀{G:GS} {i f:Nat} {st:σ} {q:Prog FOut} {F:Nat->Prop} {w:World},J G i f st q->P st F w->Calls Tryz.prog fdn #[.pointer (some ⟨fb,0,none⟩)] w fun e w'=>e=.returned (.bool (don st))/\w=w'
theorem Q9X {α β:Type} (g:α->Prog β) (hg:∀a,(g a).next=none):∀p:Prog α,(p.bind g).next.isNone=p.next.isNone
 |.ret a=>by show (g a).next.isNone=true;rw[hg a];rfl
 |.ask q k=>rfl
 |.chk k=>Q9X g hg (k false)
 |.stuck p=>Q9X g hg p
structure MS (N:Nat) (x:FX) {σ:Type} (J:GS->Nat->Nat->σ->Prog FOut->Prop) (i:Nat) (s:IX) (G:GS) (st:σ) (f:Nat) (T:List Int):Prop where
 sys:SysI N s G
 lft:∃q,J G i f st q/\((x.tree N).rest T).rest []=q.rest []
 fl:N<=f+i+10
 len:T.length=i
 tb:∀t∈T,i64B t
section
variable (N B y b ff:Nat) (x:FX) {σ:Type} (P:σ->(Nat->Prop)->World->Prop) (don:σ->Bool) (out:σ->FOut) (J:GS->Nat->Nat->σ->Prog FOut->Prop) (step:(Int->Int)->σ->σ) (xb bm:Nat) (tbs:List Nat) (W:World)
def RelD (d:Bool) (c i:Nat) (w:World):Prop:=∃s G st f T,Both N (1680+c) B y b (P st) ff x T d (if d=true then out st else FOut.zero) xb bm tbs s (200000+200*c) W w/\MS N x J i s G st f T/\don st=d
def MidD (d:Bool) (c i:Nat) (w:World):Prop:=∃s G st f T,Both N (1680+c) B y b (P (step (rdC s.C) st)) ff x T false FOut.zero xb bm tbs s (200000+200*c) W w/\MS N x J i s G st f T/\don st=false/\don (step (rdC s.C) st)=d
end
section
variable {N B y b ff:Nat} {x:FX} {σ:Type} {P:σ->(Nat->Prop)->World->Prop} {don:σ->Bool} {out:σ->FOut} {J:GS->Nat->Nat->σ->Prog FOut->Prop} {step:(Int->Int)->σ->σ} {fn fdn:FuncId} {fb xb bm:Nat} {tbs:List Nat} {W w w':World} {d:Bool} {c i:Nat}
theorem RelD.below (M:Mach N x σ P don out J step fn fdn fb) (h:RelD N B y b ff x P don out J xb bm tbs W d c i w) (hb:Below w.heap.size w w'):RelD N B y b ff x P don out J xb bm tbs W d c i w':=by
 obtain ⟨s,G,st,f,T,h1,h2,h3⟩:=h;exact ⟨s,G,st,f,T,h1.below (M.fl st) hb,h2,h3⟩
theorem Both.cells {m k:Nat} {Q:(Nat->Prop)->World->Prop} {T:List Int} {o:FOut} {s:IX} (h:Both N m B y b Q ff x T d o xb bm tbs s k W w):w.cell? ⟨y,0,none⟩=some (.pointer (some ⟨b,0,none⟩))/\w.cell? ⟨y,1,none⟩=some (.pointer (some ⟨xb,0,none⟩))/\w.cell? ⟨xb,3,none⟩=some (.pointer (some ⟨bm,0,none⟩))/\w.cell? ⟨ff,23,none⟩=some (.bool d)/\w.cell? ⟨ff,28,none⟩=some (.int .i64 o.value)/\w.cell? ⟨ff,25,none⟩=some (.bool o.ok):=by
 obtain ⟨G,F,v,own,h⟩:=h;obtain ⟨a0,a1,a2,tv,lv,ln,lxs,inv,picks,hx,hk⟩:=h.yd.ix;obtain ⟨_,_,_,_,_,_,_,hf⟩:=h.rf;exact ⟨h.yd.blk.cell 0,h.yd.blk.cell 1,hx.blk.cell 3,hf.blk.cell 23,hf.blk.cell 28,hf.blk.cell 25⟩
theorem Both.lt {m k:Nat} {Q:(Nat->Prop)->World->Prop} {T:List Int} {o:FOut} {s:IX} (h:Both N m B y b Q ff x T d o xb bm tbs s k W w):Below B W w:=by
 obtain ⟨G,F,v,own,h⟩:=h;exact h.bl
theorem RelD.cells (h:RelD N B y b ff x P don out J xb bm tbs W d c i w):w.cell? ⟨y,0,none⟩=some (.pointer (some ⟨b,0,none⟩))/\w.cell? ⟨y,1,none⟩=some (.pointer (some ⟨xb,0,none⟩))/\w.cell? ⟨xb,3,none⟩=some (.pointer (some ⟨bm,0,none⟩))/\w.cell? ⟨ff,23,none⟩=some (.bool d):=by
 obtain ⟨s,G,st,f,T,h1,h2,h3⟩:=h;obtain ⟨a1,a2,a3,a4,_⟩:=h1.cells;exact ⟨a1,a2,a3,a4⟩
theorem MidD.cells (h:MidD N B y b ff x P don J step xb bm tbs W d c i w):w.cell? ⟨y,0,none⟩=some (.pointer (some ⟨b,0,none⟩))/\w.cell? ⟨y,1,none⟩=some (.pointer (some ⟨xb,0,none⟩))/\w.cell? ⟨xb,3,none⟩=some (.pointer (some ⟨bm,0,none⟩)):=by
 obtain ⟨s,G,st,f,T,h1,h2,h3⟩:=h;obtain ⟨a1,a2,a3,_⟩:=h1.cells;exact ⟨a1,a2,a3⟩
theorem RelD.done (M:Mach N x σ P don out J step fn fdn fb) (h:RelD N B y b ff x P don out J xb bm tbs W d c i w):Calls Tryz.prog fdn #[.pointer (some ⟨fb,0,none⟩)] w fun e w'=>e=.returned (.bool d)/\w=w':=by
 obtain ⟨s,G,st,f,T,⟨G1,F,v,own,h1⟩,h2,h3⟩:=h;obtain ⟨q,hj,_⟩:=h2.lft;have:=M.done hj h1.pf
 rw[h3] at this;exact this
theorem RelD.pick (M:Mach N x σ P don out J step fn fdn fb) (n:Int) (h:RelD N B y b ff x P don out J xb bm tbs W d c i w) (n0:-9223372036854775808<=n) (n1:n<=9223372036854775807) (hN:3000<N) (hc:c<=1000):
  Calls Tryz.prog 52 #[.pointer (some ⟨y,0,none⟩),.int .i64 n] w fun e w'=>e=.returned (.tuple #[])/\RelD N B y b ff x P don out J xb bm tbs W d (c+1) i w':=by
 obtain ⟨s,G,st,f,T,h1,h2,h3⟩:=h
 have hok:s.Ok N (1680+c)/\0<s.T.length:=by
  obtain ⟨G1,F,v,own,h1⟩:=h1;obtain ⟨a0,a1,a2,tv,lv,ln,lxs,inv,picks,hx,hk⟩:=h1.yd.ix;exact ⟨h1.yd.ok,by rw[<-hx.len];exact h1.yd.t0⟩
 obtain ⟨G',hs',hx'⟩:=h2.sys.yardS hok.1 (by omega) hok.2 n;exact (QdQ (M.fl st) n h1 n0 n1 (by omega) (by omega) (by omega)).mono fun e w' hp=>⟨hp.1,_,G',st,f,T,hp.2.le (by omega) (by omega),⟨hs',h2.lft.imp fun q hq=>⟨M.ext hq.1 hx',hq.2⟩,h2.fl,h2.len,h2.tb⟩,h3⟩
theorem RelD.prog (M:Mach N x σ P don out J step fn fdn fb) (h:RelD N B y b ff x P don out J xb bm tbs W false c i w) (hi:i<=1000):
  Calls Tryz.prog fn #[.pointer (some ⟨fb,0,none⟩),.pointer (some ⟨b,0,none⟩)] w fun e w'=>∃d',e=.returned (.bool d')/\MidD N B y b ff x P don J step xb bm tbs W d' c i w':=by
 obtain ⟨s,G,st,f,T,⟨G1,F,v,own,h1⟩,h2,h3⟩:=h;obtain ⟨cn,od,rf,hm⟩:=h1.yd.mem;have hfit:=h1.yd.ok.fit;have hmax:=h1.yd.ok.max;obtain ⟨q,hj,_⟩:=h2.lft;refine (M.call hj h2.sys.inv h2.sys.rep h3 (by omega) h1.pf hm (fun z hz=>⟨(h1.fo z (.inr hz)).2.1,(h1.fo z (.inr hz)).2.2.1⟩) (by omega) h1.yd.ok.cb).mono fun e w' hp=> ?_;exact ⟨_,hp.1,s,G,st,f,T,h1.prog (M.fl _) hp.2.1 hp.2.2.1 hp.2.2.2,h2,h3,rfl⟩
theorem MidD.doc (M:Mach N x σ P don out J step fn fdn fb) (h:MidD N B y b ff x P don J step xb bm tbs W d c i w) (hi:i<=1000) (hN:3000<N):
  Calls Tryz.prog 31 #[.pointer (some ⟨ff,0,none⟩),.pointer (some ⟨bm,0,none⟩)] w fun e w'=>e=.returned (.bool d)/\RelD N B y b ff x P don out J xb bm tbs W d c (i+1) w':=by
 obtain ⟨s,G,st,f,T,h1,h2,h3,h4⟩:=h;have hcb:∀x∈s.C,i64B x:=by obtain ⟨G1,F,v,own,h1⟩:=h1;exact h1.yd.ok.cb
 have hfl:=h2.fl;have hln:=h2.len;obtain ⟨q,hj,hq⟩:=h2.lft;obtain ⟨f',a,q',g1,g2,g3,g4,g5⟩:=M.go1 hj h2.sys.inv h2.sys.rep hcb h3 (by omega) (by omega);have hnx:=M.nx g5 (by omega);refine (Qf3 (M.fl _) q q' a h1 M.pl h2.tb (by omega) (by omega) hq g3 g4 g2).mono fun e w' hp=> ?_
 rw[hnx,h4] at hp
 refine ⟨hp.1,s,G,_,f',T++[rdC s.C a], ?_,⟨h2.sys,⟨q',g5, ?_⟩,by omega,by simp;omega,fun t ht=> ?_⟩,h4⟩
 ·cases d with
  |false=>exact hp.2
  |true=>
   have hv:=M.val g5 h4;have h5:=hp.2
   rw[if_pos rfl,hv] at h5
   rw[if_pos rfl];exact h5
 ·rw[Q2T,<-Q1C [rdC s.C a] ((x.tree N).rest T),hq,Q1C,g4,Q1C]
 ·rcases List.mem_append.1 ht with e|e
  ·exact h2.tb t e
  ·rw[List.mem_singleton.1 e];exact Q4t (QbV hcb) a
theorem RelD.start (M:Mach N x σ P don out J step fn fdn fb) {w0:World} {s:IX} {v:Value} {own:Nat->Nat} {st0:σ} {G0:GS} {f0:Nat} {q0:Prog FOut} {F G:Nat->Prop} (hy:YardP N 1680 B y b v own xb bm tbs s 200000 w0) (ow:∀z,own z≠0->B<=z) (bw:B<=w0.heap.size) (bl:Below B W w0) (hsys:SysI N s G0) (hb:Below w0.heap.size w0 w)
  (hG:P st0 G w) (hF:FrP F ff x [] (don st0) (if don st0=true then out st0 else FOut.zero) w) (h1:∀z,F z\/G z->w0.heap.size<=z) (h2:∀z,F z->G z->False) (hj:J G0 0 f0 st0 q0) (hq:((x.tree N).rest []).rest []=q0.rest []) (hf:N<=f0+10):
  RelD N B y b ff x P don out J xb bm tbs W (don st0) 0 0 w:=
 ⟨s,G0,st0,f0,[],Both.start (M.fl st0) hy ow bw bl hb hG hF h1 h2,⟨hsys,⟨q0,hj,hq⟩,by omega,rfl,by simp⟩,rfl⟩
theorem Mach.new (M:Mach N x σ P don out J step fn fdn fb) {st0:σ} {G0:GS} {f0:Nat} {q0:Prog FOut} {Gs:Nat->Prop} {xv:Value} (hsp:PrP Gs 114 xv x.spots w) (hN:3000<N) (hj:J G0 0 f0 st0 q0) (hq:((x.tree N).rest []).rest []=q0.rest []) (hf:N<=f0+10):
  Calls Tryz.prog 29 #[.int .i64 x.proc,.agg #[.int .i64 x.a,.int .i64 x.b,.int .i64 0,.int .i64 x.p,.int .i64 0,.int .i64 x.w.lo,.int .i64 x.w.hi,.bool x.w.back,.int .i64 x.w.most,.bool x.w.values,.slice none 0 0,.slice none 0 0,xv,.slice none 0 0,.slice none 0 0,.int .i64 0,.int .i64 0,.int .i64 0,.int .i64 x.op.kind,.int .i64 x.op.key,.int .i64 x.op.val]] w fun e w'=>∃ff,e=.returned (.pointer (some ⟨ff,0,none⟩))/\FrP (fun z=>Gs z\/w.heap.size<=z) ff x [] (don st0) (if don st0=true then out st0 else FOut.zero) w'/\w.heap.size<=ff/\Below w.heap.size w w':=by
 obtain ⟨o1,s1,hg1⟩:∃o s,(x.tree N).go ⟨[],0,false,Q20⟩=(o,s):=⟨_,_,rfl⟩;have r1:=Q3a (x.tree N) ⟨[],0,false,Q20⟩ rfl (Nat.zero_le _);simp only[List.drop_zero] at r1;have hn:((x.tree N).rest []).next=q0.next:=by rw[<-Q38 ((x.tree N).rest []),hq,Q38]
 have hv:((x.tree N).rest []).val=q0.val:=by rw[<-Q3s ((x.tree N).rest []),hq,Q3s]
 rw[hn,hv,hg1] at r1
 have hnx:=M.nx hj (by omega);refine (Qai N Gs x xv o1 s1 w M.pl hsp (by omega) hg1).mono fun e w' ⟨ff,he,h1,h2,h3⟩=>⟨ff,he, ?_,h2,h3⟩
 have hd:(!s1.off)=don st0/\(if s1.off=true then FOut.zero else o1)=if don st0=true then out st0 else FOut.zero:=by
  rw[<-hnx]
  cases hh:q0.next with
  |none=>
   rw[hh] at r1
   have e1:o1=q0.val:=r1.1;have e2:s1.off=false:=r1.2;have hd:don st0=true:=by rw[<-hnx,hh];rfl
   rw[e2,e1,M.val hj hd];exact ⟨rfl,rfl⟩
  |some qq=>
   rw[hh] at r1
   have e2:s1.off=true:=r1.1
   rw[e2];exact ⟨rfl,rfl⟩
 rw[hd.1,hd.2] at h1
 exact h1
end
def QgK (N B y b ff:Nat) (x:FX) {σ:Type} (P:σ->(Nat->Prop)->World->Prop) (don:σ->Bool) (out:σ->FOut) (J:GS->Nat->Nat->σ->Prog FOut->Prop) (xb bm:Nat) (tbs:List Nat) (W:World) (bound:Nat) (iv:Value) (w:World):Prop:=∃(d:Bool) (c i:Nat),iv=.int .i64 i/\c<=i/\i<=bound/\RelD N B y b ff x P don out J xb bm tbs W d c i w
def Qh2 (B:Nat) (w:World) (e:Ending) (w':World):Prop:=∃y b xb bm tbs s G v own,e=.returned (.pointer (some ⟨y,0,none⟩))/\YardP 100000 1680 B y b v own xb bm tbs s 200000 w'/\SysI 100000 s G/\(∀z,own z≠0->B<=z)/\Below B w w'
theorem Qc7 (cells:Int) (A:Option Addr) (c:Nat) (keys:List Int) (A2:Option Addr) (c2:Nat) (l:List Int) (w:World)
  (hc0:keys.length<=c) (hc02:l.length<=c2) (h0:-9223372036854775808<=cells) (h1:cells<=9223372036854775807)
  (hq:IntsAt w w.heap.size A keys) (hl:keys.length*8<=140737488351232) (hw:∀i,i<keys.length->-9223372036854775808<=keyAt keys i/\keyAt keys i<=9223372036854775807)
  (hq2:IntsAt w w.heap.size A2 l) (hl2:l.length*8<=140737488351232) (hw2:∀i,i<l.length->-9223372036854775808<=keyAt l i/\keyAt l i<=9223372036854775807):
  Calls Tryz.prog 48 #[.int .i64 cells,.slice A keys.length c,.slice A2 l.length c2] w (Qh2 w.heap.size w):=by
 refine (Q9o 100000 cells A c _ keys A2 c2 _ l w (by decide) rfl rfl hc0 hc02 h0 h1 hq (by omega) hw hq2 (by omega) hw2).mono fun e w' hp=> ?_;obtain ⟨y,b,v,cn,od,rf,own,xb,bm,tbs,k,he,hy,hm,htl,hk,hix,hok,hown,hyB,hoy,hyb,hob,hov,hb⟩:=hp;obtain ⟨G,hs⟩:=QaJ 100000 cells 3 (by decide) keys l (by decide);have hg:=Q5D 100000 cells 3 (by decide) keys l;exact ⟨y,b,xb,bm,tbs,_,G,v,own,he,⟨hy,⟨cn,od,rf,hm⟩,hix.le hk,hok,hoy,hyb,fun e=>(hov y e).2.2 rfl,hob,fun g hg=>(hov g hg).2.1,by omega,by omega,by omega⟩,hs,hown,hb⟩
def RS.tree (s:RS):Prog (Int×Int):=
 if s.next=0 then Q1B s.n s.k
 else if s.next=1 then (Q0e (Q0j s.n 1)).bind fun first=>if s.k<first then .ret (s.degree,0) else if wrap64 (s.degree-1)=1 then .ret (s.degree,1) else
  (Q0e (Q0j s.n (wrap64 (s.degree-1)))).bind fun last=>if last<=s.k then .ret (s.degree,wrap64 (s.degree-1)) else Q4y s.n s.k s.degree (wrap64 (s.degree-1)) first last
 else if s.next=2 then (Q0e (Q0j s.n (wrap64 (s.degree-1)))).bind fun last=>if last<=s.k then .ret (s.degree,wrap64 (s.degree-1)) else Q4y s.n s.k s.degree (wrap64 (s.degree-1)) s.first last
 else if s.next=3 then (Q0e (Q0j s.n s.i)).bind fun q=>if s.k<q then Q1J s.n s.k s.degree s.i.toNat (s.i-1) else Q4G s.n s.k s.degree (wrap64 (s.degree-1)) (wrap64 (s.degree-1)-s.i).toNat (s.i+1)
 else if s.next=4 then Q4G s.n s.k s.degree (wrap64 (s.degree-1)) (wrap64 (s.degree-1)-s.i+1).toNat s.i
 else if s.next=5 then Q1J s.n s.k s.degree (s.i.toNat+1) s.i
 else .ret (s.degree,s.child)
structure RS.Doc (s:RS):Prop where
 d0:s.next≠0->s.next≠6->2<=s.degree/\s.degree<=65537
 i1:s.next=1->s.i=1
 i2:s.next=2->s.i=s.degree-1/\3<=s.degree/\s.first<=s.k
 i3:s.next=3->2<=s.i/\s.i<=s.degree-2
 i4:s.next=4->1<=s.i/\s.i<s.degree-1
 i5:s.next=5->1<s.i/\s.i<=s.degree-1
theorem Q5t {d:Int} (h0:2<=d) (h1:d<=65537):wrap64 (d-1)=d-1:=by unfold wrap64;omega
theorem Q8c (n k d m:Int) (f:Nat) (i:Int) (T:List Int):(Q4G n k d m (f+1) i).rest T=Prog.rest (if i<m/\false=false then (Q0e (Q0j n i)).bind fun q=>if k<q then .ret (d,i-1) else Q4G n k d m f (i+1) else .ret (d,m-1)) T:=rfl
theorem Q6k (n k d:Int) (f:Nat) (i:Int) (T:List Int):(Q1J n k d (f+1) i).rest T=Prog.rest (if 1<i/\false=false then (Q0e (Q0j n i)).bind fun q=>if q<=k then .ret (d,i) else Q1J n k d f (i-1) else .ret (d,1)) T:=rfl
theorem Q9L (n k d m first last:Int) (T:List Int):(Q4y n k d m first last).rest T=Prog.rest (if false=true\/Q0G first last k m<1 then .ret (d,0) else
 if 1<Q0G first last k m then (Q0e (Q0j n (Q0G first last k m))).bind fun q=>if k<q then Q1J n k d (Q0G first last k m).toNat (Q0G first last k m-1) else Q4G n k d m (m-Q0G first last k m).toNat (Q0G first last k m+1)
 else Q4G n k d m (m-Q0G first last k m).toNat (Q0G first last k m+1)) T:=rfl
theorem Qce (s:RS) (i:Int) (h0:2<=s.degree) (h1:s.degree<=65537) (hi:1<=i):(s.up i).Doc/\(s.up i).tree.rest []=(Q4G s.n s.k s.degree (wrap64 (s.degree-1)) (wrap64 (s.degree-1)-i+1).toNat i).rest []:=by
 have hw:=Q5t h0 h1;unfold RS.up;by_cases c:s.degree-1<=i
 ·rw[if_pos c]
  refine ⟨⟨fun _ h=>absurd rfl h,fun h=> ?_,fun h=> ?_,fun h=> ?_,fun h=> ?_,fun h=> ?_⟩, ?_⟩<;>try (simp at h;done)
  rw[hw]
  generalize (s.degree-1-i+1).toNat=f
  cases f with
  |zero=>rfl
  |succ f=>
   rw[Q8c,if_neg (by omega)];rfl
 ·rw[if_neg c]
  exact ⟨⟨fun _ _=>⟨h0,h1⟩,fun h=>by simp at h,fun h=>by simp at h,fun h=>by simp at h,fun _=>⟨hi,by simp;omega⟩,fun h=>by simp at h⟩,rfl⟩
theorem Qat (s:RS) (i:Int) (h0:2<=s.degree) (h1:s.degree<=65537) (hi:i<=s.degree-1):(s.down i).Doc/\(s.down i).tree.rest []=(Q1J s.n s.k s.degree (i.toNat+1) i).rest []:=by
 unfold RS.down;by_cases c:i<=1
 ·rw[if_pos c]
  refine ⟨⟨fun _ h=>absurd rfl h,fun h=> ?_,fun h=> ?_,fun h=> ?_,fun h=> ?_,fun h=> ?_⟩, ?_⟩<;>try (simp at h;done)
  rw[Q6k,if_neg (by omega)];rfl
 ·rw[if_neg c]
  exact ⟨⟨fun _ _=>⟨h0,h1⟩,fun h=>by simp at h,fun h=>by simp at h,fun h=>by simp at h,fun h=>by simp at h,fun _=>⟨by simp;omega,hi⟩⟩,rfl⟩
theorem QgA (s:RS) (h:s.next=6):s.Doc/\s.tree=.ret (s.degree,s.child):=by
 refine ⟨⟨fun _ h'=>absurd h h',fun h'=>by omega,fun h'=>by omega,fun h'=>by omega,fun h'=>by omega,fun h'=>by omega⟩, ?_⟩;unfold RS.tree;rw[if_neg (by omega),if_neg (by omega),if_neg (by omega),if_neg (by omega),if_neg (by omega),if_neg (by omega)]
theorem Q7V (s:RS) (c:Int):(s.ende c).Doc/\(s.ende c).tree.rest []=.ret (s.degree,c):=by
 obtain ⟨h1,h2⟩:=QgA (s.ende c) rfl;exact ⟨h1,by rw[h2];rfl⟩
theorem Qdj (s:RS) (last:Int) (h0:3<=s.degree) (h1:s.degree<=65537) (h2:s.first<=s.k) (h3:s.k<last):(s.guess last).Doc/\(s.guess last).tree.rest []=(Q4y s.n s.k s.degree (wrap64 (s.degree-1)) s.first last).rest []:=by
 have hw:=Q5t (by omega) h1;obtain ⟨g0,g1⟩:=Q4A (f:=s.first) (l:=last) (k:=s.k) (n:=s.degree-1) (by omega) (by omega) h2 h3;unfold RS.guess
 rw[Q9L,hw]
 generalize Q0G s.first last s.k (s.degree-1)=g at g0 g1|-
 rw[if_neg (show ¬(false=true\/g<1) from by simp;omega)]
 by_cases c:1<g
 ·rw[if_pos c,if_pos c]
  refine ⟨⟨fun _ _=>⟨by simp;omega,h1⟩,fun h=>by simp at h,fun h=>by simp at h,fun _=>⟨by simp;omega,by simp;omega⟩,fun h=>by simp at h,fun h=>by simp at h⟩, ?_⟩;unfold RS.tree;simp only[hw];rfl
 ·rw[if_neg c,if_neg c]
  have e:g=1:=by omega
  subst e;obtain ⟨a,b⟩:=Qce s 2 (by omega) h1 (by decide);refine ⟨a,b.trans ?_⟩
  rw[hw,show s.degree-1-2+1=s.degree-1-1 from by omega];rfl
theorem Qeo {R:Int->Int} (s:RS) (hI:s.Inv) (h:s.Doc) (h6:s.next≠6) (hR:s.next=0->1<=R s.n/\R s.n<=65537):
  (s.step R).Doc/\(s.tree.rest []).next=some ⟨1,s.addr,0,0,[],0⟩/\s.tree.rest [R s.addr]=(s.step R).tree.rest []:=by
 rcases hI.st with hn|hn|⟨a,b,-⟩
 ·obtain ⟨r0,r1⟩:=hR hn
  rw[RS.step0 hn]
  have ht:s.tree=Q1B s.n s.k:=by unfold RS.tree;rw[if_pos hn]
  have ha:s.addr=s.n:=by unfold RS.addr;rw[if_pos hn]
  rw[ht,ha]
  by_cases c:R s.n<2
  ·rw[if_pos c]
   obtain ⟨e1,e2⟩:=QgA {s with degree:=R s.n,i:=1,next:=6,child:=0} rfl;refine ⟨e1,rfl, ?_⟩
   rw[e2]
   show Prog.rest (α:=Int×Int) (if wrap64 (R s.n-1)<1 then _ else _) []=_
   rw[if_pos (by unfold wrap64;omega)]
  ·rw[if_neg c]
   refine ⟨⟨fun _ _=>⟨by simp;omega,r1⟩,fun _=>rfl,fun h=>by simp at h,fun h=>by simp at h,fun h=>by simp at h,fun h=>by simp at h⟩,rfl, ?_⟩;show Prog.rest (α:=Int×Int) (if wrap64 (R s.n-1)<1 then _ else _) []=_
   rw[if_neg (by rw[Q5t (by omega) r1];omega)];rfl
 ·exact absurd hn h6
 ·have hne:s.next≠0:=by omega
  obtain ⟨d0,d1⟩:=h.d0 hne h6;have hw:=Q5t d0 d1
  rw[RS.stepK hne h6]
  have ha:s.addr=Q0j s.n s.i:=by unfold RS.addr;rw[if_neg hne]
  rw[ha]
  generalize hv:R (Q0j s.n s.i)=v;have hc:s.next=1\/s.next=2\/s.next=3\/s.next=4\/s.next=5:=by omega
  rcases hc with hn|hn|hn|hn|hn
  ·rw[RS.key1 hn,h.i1 hn]
   have ht:s.tree=(Q0e (Q0j s.n 1)).bind fun first=>if s.k<first then .ret (s.degree,0) else if wrap64 (s.degree-1)=1 then .ret (s.degree,1) else
    (Q0e (Q0j s.n (wrap64 (s.degree-1)))).bind fun last=>if last<=s.k then .ret (s.degree,wrap64 (s.degree-1)) else Q4y s.n s.k s.degree (wrap64 (s.degree-1)) first last:=by
    unfold RS.tree;rw[if_neg hne,if_pos hn]
   rw[ht]
   by_cases c:s.k<v
   ·rw[if_pos c]
    obtain ⟨e1,e2⟩:=QgA {s with first:=v,i:=s.degree-1,next:=6,child:=0} rfl;refine ⟨e1,rfl, ?_⟩
    rw[e2]
    show Prog.rest (α:=Int×Int) (if s.k<v then _ else _) []=_
    rw[if_pos c]
   ·rw[if_neg c]
    by_cases c2:s.degree-1=1
    ·rw[if_pos c2]
     obtain ⟨e1,e2⟩:=QgA {s with first:=v,i:=s.degree-1,next:=6,child:=1} rfl;refine ⟨e1,rfl, ?_⟩
     rw[e2]
     show Prog.rest (α:=Int×Int) (if s.k<v then _ else _) []=_
     rw[if_neg c,if_pos (by rw[hw];exact c2)]
    ·rw[if_neg c2]
     refine ⟨⟨fun _ _=>⟨d0,d1⟩,fun h=>by simp at h,fun _=>⟨rfl,by simp;omega,by simp;omega⟩,fun h=>by simp at h,fun h=>by simp at h,fun h=>by simp at h⟩,rfl, ?_⟩;show Prog.rest (α:=Int×Int) (if s.k<v then _ else _) []=_
     rw[if_neg c,if_neg (by rw[hw];exact c2)];rfl
  ·obtain ⟨i2,i3,i4⟩:=h.i2 hn
   rw[RS.key2 hn]
   have ht:s.tree=(Q0e (Q0j s.n (wrap64 (s.degree-1)))).bind fun last=>if last<=s.k then .ret (s.degree,wrap64 (s.degree-1)) else Q4y s.n s.k s.degree (wrap64 (s.degree-1)) s.first last:=by
    unfold RS.tree;rw[if_neg hne,if_neg (by omega),if_pos hn]
   rw[hw] at ht
   rw[ht,i2]
   by_cases c:s.k<v
   ·rw[if_pos c]
    obtain ⟨e1,e2⟩:=Qdj s v i3 d1 i4 c;refine ⟨e1,rfl, ?_⟩
    rw[e2,hw]
    show Prog.rest (α:=Int×Int) (if v<=s.k then _ else _) []=_
    rw[if_neg (by omega)]
   ·rw[if_neg c]
    obtain ⟨e1,e2⟩:=Q7V s (s.degree-1);refine ⟨e1,rfl, ?_⟩
    rw[e2]
    show Prog.rest (α:=Int×Int) (if v<=s.k then _ else _) []=_
    rw[if_pos (by omega)];rfl
  ·obtain ⟨i2,i3⟩:=h.i3 hn
   rw[RS.key3 hn]
   have ht:s.tree=(Q0e (Q0j s.n s.i)).bind fun q=>if s.k<q then Q1J s.n s.k s.degree s.i.toNat (s.i-1) else Q4G s.n s.k s.degree (wrap64 (s.degree-1)) (wrap64 (s.degree-1)-s.i).toNat (s.i+1):=by
    unfold RS.tree;rw[if_neg hne,if_neg (by omega),if_neg (by omega),if_pos hn]
   rw[ht]
   by_cases c:s.k<v
   ·rw[if_pos c]
    obtain ⟨e1,e2⟩:=Qat s (s.i-1) d0 d1 (by omega);refine ⟨e1,rfl, ?_⟩
    rw[e2]
    show Prog.rest (α:=Int×Int) (if s.k<v then _ else _) []=_
    rw[if_pos c,show (s.i-1).toNat+1=s.i.toNat from by omega]
   ·rw[if_neg c]
    obtain ⟨e1,e2⟩:=Qce s (s.i+1) d0 d1 (by omega);refine ⟨e1,rfl, ?_⟩
    rw[e2]
    show Prog.rest (α:=Int×Int) (if s.k<v then _ else _) []=_
    rw[if_neg c,show wrap64 (s.degree-1)-(s.i+1)+1=wrap64 (s.degree-1)-s.i from by omega]
  ·obtain ⟨i2,i3⟩:=h.i4 hn
   rw[RS.key4 hn]
   have ht:s.tree=Q4G s.n s.k s.degree (wrap64 (s.degree-1)) (wrap64 (s.degree-1)-s.i+1).toNat s.i:=by
    unfold RS.tree;rw[if_neg hne,if_neg (by omega),if_neg (by omega),if_neg (by omega),if_pos hn]
   obtain ⟨f,hf⟩:∃f,(wrap64 (s.degree-1)-s.i+1).toNat=f+1:=⟨(wrap64 (s.degree-1)-s.i).toNat,by omega⟩
   have hu:∀T,s.tree.rest T=((Q0e (Q0j s.n s.i)).bind fun q=>if s.k<q then .ret (s.degree,s.i-1) else Q4G s.n s.k s.degree (wrap64 (s.degree-1)) f (s.i+1)).rest T:=fun T=>by
    rw[ht,hf]
    rw[Q8c,if_pos ⟨by omega,rfl⟩]
   rw[hu,hu]
   by_cases c:s.k<v
   ·rw[if_pos c]
    obtain ⟨e1,e2⟩:=Q7V s (s.i-1);refine ⟨e1,rfl, ?_⟩
    rw[e2]
    show Prog.rest (α:=Int×Int) (if s.k<v then _ else _) []=_
    rw[if_pos c];rfl
   ·rw[if_neg c]
    obtain ⟨e1,e2⟩:=Qce s (s.i+1) d0 d1 (by omega);refine ⟨e1,rfl, ?_⟩
    rw[e2]
    show Prog.rest (α:=Int×Int) (if s.k<v then _ else _) []=_
    rw[if_neg c,show (wrap64 (s.degree-1)-(s.i+1)+1).toNat=f from by omega]
  ·obtain ⟨i2,i3⟩:=h.i5 hn
   rw[RS.key5 hn]
   have ht:s.tree=Q1J s.n s.k s.degree (s.i.toNat+1) s.i:=by
    unfold RS.tree;rw[if_neg hne,if_neg (by omega),if_neg (by omega),if_neg (by omega),if_neg (by omega),if_pos hn]
   have hu:∀T,s.tree.rest T=((Q0e (Q0j s.n s.i)).bind fun q=>if q<=s.k then .ret (s.degree,s.i) else Q1J s.n s.k s.degree s.i.toNat (s.i-1)).rest T:=fun T=>by
    rw[ht]
    rw[Q6k,if_pos ⟨by omega,rfl⟩]
   rw[hu,hu]
   by_cases c:s.k<v
   ·rw[if_pos c]
    obtain ⟨e1,e2⟩:=Qat s (s.i-1) d0 d1 (by omega);refine ⟨e1,rfl, ?_⟩
    rw[e2]
    show Prog.rest (α:=Int×Int) (if v<=s.k then _ else _) []=_
    rw[if_neg (by omega),show (s.i-1).toNat+1=s.i.toNat from by omega]
   ·rw[if_neg c]
    obtain ⟨e1,e2⟩:=Q7V s s.i;refine ⟨e1,rfl, ?_⟩
    rw[e2]
    show Prog.rest (α:=Int×Int) (if v<=s.k then _ else _) []=_
    rw[if_pos (by omega)];rfl
section
variable {α β:Type}
theorem Q2n (f:α->Prog β):∀p:Prog α,(p.bind f).rest []=((p.rest []).bind f).rest []
 |.ret a=>rfl
 |.ask q k=>rfl
 |.chk k=>Q2n f (k false)
 |.stuck p=>by
  show Prog.stuck ((p.bind f).rest [])=Prog.stuck (((p.rest []).bind f).rest [])
  rw[Q2n f p]
theorem Q58 (f:α->Prog β) (v:Int):∀(p:Prog α),(p.next.isSome=true)->(p.bind f).rest [v]=((p.rest [v]).bind f).rest []
 |.ret a,h=>by cases h
 |.ask q k,_=>Q2n f (k v)
 |.chk k,h=>Q58 f v (k false) h
 |.stuck p,h=>by
  show Prog.stuck ((p.bind f).rest [v])=Prog.stuck (((p.rest [v]).bind f).rest [])
  rw[Q58 f v p h]
theorem Q3M:∀p:Prog α,(p.rest []).next=p.next
 |.ret a=>rfl
 |.ask q k=>rfl
 |.chk k=>Q3M (k false)
 |.stuck p=>Q3M p
theorem Q6s (f:α->Prog β) {q:Ask}:∀p:Prog α,p.next=some q->(p.bind f).next=some q
 |.ret a,h=>by cases h
 |.ask q k,h=>h
 |.chk k,h=>Q6s f (k false) h
 |.stuck p,h=>Q6s f p h
theorem Q6r {p p':Prog α} {q:Ask} {v:Int} (f:α->Prog β) (h:(p.rest []).next=some q) (e:p.rest [v]=p'.rest []):((p.bind f).rest []).next=some q/\(p.bind f).rest [v]=(p'.bind f).rest []:=by
 rw[Q3M] at h
 refine ⟨by rw[Q3M];exact Q6s f p h, ?_⟩
 rw[Q58 f v p (by rw[h];rfl),e]
 exact (Q2n f p').symm
end
def PS.tree (s:PS):Prog Int:=
 if s.next=0 then Q2V s.cell
 else if s.next=1 then (Q0e s.cell).bind fun o=>if o=1 then Q0e (s.at_+3) else Q0e (s.at_+2)
 else if s.next=2 then Q0e s.cell
 else .ret s.word
theorem Qgu {R:Int->Int} (s:PS) (hI:s.Inv) (h3:s.next≠3):(s.tree.rest []).next=some ⟨1,s.cell,0,0,[],0⟩/\s.tree.rest [R s.cell]=(s.step R).tree.rest []:=by
 obtain ⟨nx,c,a,w⟩:=s;have hst:=hI.st;clear hI;have hst:nx=0\/nx=1\/nx=2\/nx=3:=hst
 rcases hst with e|e|e|e<;>subst e
 ·refine ⟨rfl, ?_⟩;show Prog.rest (if Q05 (R c)=5 then (Q0e (wAt (R c)+4)).bind fun o=>if o=1 then Q0e (wAt (R c)+3) else Q0e (wAt (R c)+2) else .ret (R c)) []=((if Q05 (R c)=5 then (⟨1,wAt (R c)+4,wAt (R c),w⟩:PS) else ⟨3,c,a,R c⟩).tree).rest [];by_cases h:Q05 (R c)=5
  ·rw[if_pos h,if_pos h];rfl
  ·rw[if_neg h,if_neg h];rfl
 ·refine ⟨rfl, ?_⟩;show Prog.rest (if R c=1 then Q0e (a+3) else Q0e (a+2)) []=((if R c=1 then (⟨2,a+3,a,w⟩:PS) else ⟨2,a+2,a,w⟩).tree).rest [];by_cases h:R c=1
  ·rw[if_pos h,if_pos h];rfl
  ·rw[if_neg h,if_neg h];rfl
 ·exact ⟨rfl,rfl⟩
 ·exact absurd rfl h3
theorem Q7J (n k:Int):(RS.init n k).Doc:=⟨fun h=>absurd rfl h,fun h=>(by cases h),fun h=>(by cases h),fun h=>(by cases h),fun h=>(by cases h),fun h=>(by cases h)⟩
end Go.Proofs.YtblajeildolloaaGreat
