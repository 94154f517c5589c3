/- Part 2 of what the statement of WalkPlays needs. No condition. -/
import Derived.Test.YtblajeildolloaaGreatWalkPlaysB1
import Derived.Deep.RegionLaw
import Derived.Deep.RegionHeld3
import Derived.StillTailTactics
import Derived.SizedLaws
import Derived.ChangeSlices
import Derived.OpenShut
namespace Go.Proofs.YtblajeildolloaaGreat
set_option linter.unusedVariables false
set_option linter.unusedSimpArgs false
open Go.RowKit
set_option maxRecDepth 100000
set_option maxHeartbeats 8000000
def Qha (F:Nat->Prop) (b:Nat) (s:WS) (rv pv prv sv:Value) (x:Int×Int×Int) (w:World) (e:Ending) (w':World):Prop:=
 e=.returned (.tuple #[])/\∃lv',WalkQ (fun x=>F x\/w.heap.size<=x) b {s with levels:=x::s.levels} rv pv lv' prv sv w'/\Chg (fun x=>F x) w w'
theorem QcI (F:Nat->Prop) (b:Nat) (s:WS) (rv pv lv prv sv:Value) (n d i:Int) (w:World) (h:WalkQ F b s rv pv lv prv sv w) (hl:s.levels.length<=1000000):
  Calls Tryz.prog 128 #[.pointer (some ⟨b,9,none⟩),.agg #[.int .i64 n,.int .i64 d,.int .i64 i]] w (Qha F b s rv pv prv sv (n,d,i) w):=by
 refine (Q8E F b 9 181 _ lv n d i s.levels w h.blk (by decide) rfl h.lev hl).mono ?_;rintro e w' ⟨he,lv',hb,hlv,hc⟩;refine ⟨he,lv',(h.mono (fun x hx=>Or.inl hx)).turned hb hlv hc,hc.mono (fun x hx=> ?_)⟩
 rcases hx with rfl|e
 ·exact h.fb
 ·exact h.lev.2 x e
section
variable {F G:Nat->Prop} {b:Nat} {s:WS} {rv pv lv prv sv:Value} {w w':World}
theorem WalkQ.rows (h:WalkQ F b s rv pv lv prv sv w) (m:Chg G w w') (hG:∀x,G x->∃t cs,Blk w x t cs/\(t=134\/t=136\/t=221)):Blk w' b 181 #[.int .i64 s.next,.int .i64 s.lo,.int .i64 s.hi,.bool s.back,.bool s.values,.int .i64 s.most,.int .i64 s.n,rv,pv,lv,.int .i64 s.at_,.int .i64 s.key,prv,sv]/\LvP F lv s.levels w'/\PrP F 52 prv s.pairs w'/\PrP F 114 sv s.spots w':=by
 have k:∀T:TypeId,134≠T->136≠T->221≠T->∀x,G x->∃t cs,Blk w x t cs/\t≠T:=fun T h1 h2 h3 x hx=>by
  obtain ⟨t,cs,hb,e|e|e⟩:=hG x hx
  ·exact ⟨t,cs,hb,by rw[e];exact h1⟩
  ·exact ⟨t,cs,hb,by rw[e];exact h2⟩
  ·exact ⟨t,cs,hb,by rw[e];exact h3⟩
 refine ⟨m.blk h.blk (fun hg=> ?_),h.lev.keep m (k _ (by decide) (by decide) (by decide)),h.prs.keep m (k _ (by decide) (by decide) (by decide)),h.sps.keep m (k _ (by decide) (by decide) (by decide))⟩;obtain ⟨t,cs,hb,ht⟩:=k 181 (by decide) (by decide) (by decide) b hg;exact hb.ne_ h.blk ht rfl
end
section
variable (F:Nat->Prop) (b bm:Nat) (s:WS) (B:Nat) (v:Value) (C:List Int) (size count odd ref:Int) (w:World)
variable (h:WalkP F b s w) (hm:MemP B bm v C size count odd ref w) (hO:Off F bm v) (hI:s.Inv) (hC:C.length<=1000000) (hw:∀i,i<C.length->-9223372036854775808<=keyAt C i/\keyAt C i<=9223372036854775807) (hll:s.levels.length<1000000)
include h hm hO hI hC hw hll
theorem QaV (hn:s.next=0):Calls Tryz.prog 61 #[.pointer (some ⟨b,0,none⟩),.pointer (some ⟨bm,0,none⟩)] w (Q1E F b bm s B v C size count odd ref w):=by
 obtain ⟨rv,pv,lv,prv,sv,h⟩:=h;obtain ⟨rb,rfl,hFr,hr⟩:=h.route;have ha:=LH (WS.acc0 hn);have c0:w.cell? ⟨b,0,none⟩=some (.int .i64 0):=by rw[<-hn];exact h.blk.cell 0
 have c7:w.cell? ⟨b,7,none⟩=some (.pointer (some ⟨rb,0,none⟩)):=h.blk.cell 7;have hrI:=hI.rt;have H:=LH h;have HM:=LH hm;have HR:=LH hr;have HN:=LH hn;have HO:=LH hO;clear h hm hr hn hO;clear hI;go_enter Tryz.func61,Tryz.ntmps61;go_wp2_with (fail);with_reducible refine (QaX rb bm s.route B v C size count odd ref _ HR.out HM.out hrI hC hw).mono ?_
 rintro e w1 ⟨rfl,hr1,hm1,o1⟩;have k1:Chg (fun y=>y=rb\/y=bm) w w1:=Chg.of_only o1 (by simp)
 obtain ⟨hB1,hl1,hp1,hs1⟩:=H.out.rows k1 (fun y hy=>by
  rcases hy with rfl|rfl
  ·exact ⟨_,_,HR.out.blk,.inr (.inl rfl)⟩
  ·exact ⟨_,_,HM.out.blk,.inl rfl⟩)
 have hk1:PeekO F pv s.peek w1:=H.out.peek.keep k1 (fun y hy=>by
  rcases hy with rfl|rfl
  ·exact ⟨_,_,HR.out.blk,by decide⟩
  ·exact ⟨_,_,HM.out.blk,by decide⟩)
 have O1:Hid (Chg (fun x=>F x\/x=bm) w w1):=LH (k1.mono (fun y hy=>hy.imp (fun e=>by rw[e];exact hFr) id));have HM1:=LH hm1;obtain ⟨r1,hr1e⟩:∃r1,s.route.step (rdC C)=r1:=⟨_,rfl⟩
 rw[hr1e] at hr1|-
 have HQ1:Hid (WalkQ F b {s with route:=r1} (.pointer (some ⟨rb,0,none⟩)) pv lv prv sv w1):=LH ⟨H.out.fb,hB1,⟨rb,rfl,hFr,hr1⟩,hk1,hl1,hp1,hs1⟩;have HR1:=LH hr1;clear k1 o1 hm1 H HM HR c0 c7 hB1 hl1 hp1 hs1 hk1 hr1;by_cases h6:r1.next=6
 ·have e6:(r1.next==6)=true:=by simpa using h6
  have hs:=LH (WS.step0e (R:=rdC C) HN.out (by rw[hr1e];exact h6))
  rw[hr1e] at hs
  have c6:w1.cell? ⟨b,6,none⟩=some (.int .i64 s.n):=HQ1.out.blk.cell 6;have c7:w1.cell? ⟨b,7,none⟩=some (.pointer (some ⟨rb,0,none⟩)):=HQ1.out.blk.cell 7;have HRd:Hid (RouteP rb r1 w1.drew):=LH HR1.out;have HQd:Hid (WalkQ F b {s with route:=r1} (.pointer (some ⟨rb,0,none⟩)) pv lv prv sv w1.drew):=LH (HQ1.out.below (Q08 (Drawn.of w1 1) _))
  rw[e6]
  clear e6 hr1e;go_wp2_with (fail)
  go_region_held3 (fun w'=>w'.cell? ⟨b,6,none⟩=some (.int .i64 s.n)/\w'.cell? ⟨b,7,none⟩=some (.pointer (some ⟨rb,0,none⟩))) (first|go_keep|exact ⟨HQ3.out.blk.cell 6,HQ3.out.blk.cell 7⟩) (first|(go_at_call 33;(with_reducible refine (QbM rb r1 _ HRd.out h6).mono ?_);rintro e wq ⟨rfl,rfl⟩)|(go_at_call 34;(with_reducible refine (QdJ rb r1 _ HRd.out).mono ?_);rintro e wq ⟨rfl,rfl⟩)|(go_at_call 128;(with_reducible refine (QcI F b _ _ pv lv prv sv s.n r1.degree r1.child _ HQd.out (Nat.le_of_lt hll)).mono ?_);rintro e w3 ⟨rfl,lv3,hq3,hc3⟩;have HQ3:=LH hq3;have HC3:=LH hc3;clear hq3 hc3))
  have H3:Hid (WalkP (fun x=>F x\/w1.drew.heap.size<=x) b {s with route:=r1,levels:=(s.n,r1.degree,r1.child)::s.levels} w3):=LH ⟨_,_,_,_,_,HQ3.out⟩;have HMd:=LH (HM1.out.below (Q08 (Drawn.of w1 1) _));have Od:Hid (Chg (fun x=>F x\/x=bm) w w1.drew):=LH (O1.out.trans (Chg.of_below (Q08 (Drawn.of w1 1) _)));go_wp2_with (fail);with_reducible refine (Q64 _ b _ _ H3.out (by simp) (by simp;omega)).mono ?_
  rintro e w4 hp;have HX:=LH ((hp.grown HC3.out).out HMd.out Od.out HO.out);obtain ⟨rfl,_,_⟩:=hp;clear HMd Od H3 HQ3 HC3;go_wp2_with (fail);with_reducible refine (Q0V _ _ _ _ HX.out.1).mono ?_
  rintro e w5 ⟨rfl,rfl⟩;go_wp2_with (fail);go_ret;unfold Q1E
  rw[hs.out,ha.out]
  exact ⟨rfl,HX.out⟩
 ·have e6:(r1.next==6)=false:=by simpa using h6
  have hs:=LH (WS.step0 (R:=rdC C) HN.out (by rw[hr1e];exact h6))
  rw[hr1e] at hs
  have HX:Hid (WalkP F b {s with route:=r1} w1):=LH ⟨_,_,_,_,_,HQ1.out⟩
  rw[e6]
  clear e6 hr1e;go_wp2_with (fail);with_reducible refine (Q0V _ _ _ _ HX.out).mono ?_
  rintro e w2 ⟨rfl,rfl⟩;go_wp2_with (fail);go_ret;unfold Q1E
  rw[hs.out,ha.out]
  exact ⟨rfl,HX.out.mono (fun _=>.inl),HM1.out,O1.out⟩
variable (hsl:s.spots.length<=1000000)
include hsl
theorem QaU (hn:s.next=1):Calls Tryz.prog 61 #[.pointer (some ⟨b,0,none⟩),.pointer (some ⟨bm,0,none⟩)] w (Q1E F b bm s B v C size count odd ref w):=by
 obtain ⟨i0,hi0,hz0,hz1,hz2⟩:=info_parts Q4x;obtain ⟨rv,pv,lv,prv,sv,h⟩:=h
 obtain ⟨hlv,p,hp,hpI,hp3⟩:s.levels≠[]/\∃p,s.peek=some p/\p.Inv/\p.next≠3:=by
  rcases hI.st with ⟨e,_⟩|⟨_,q⟩|e|e|e|⟨e,_⟩|e<;>first|exact q|omega
 have hpk:=h.peek
 rw[hp] at hpk
 obtain ⟨pb,rfl,hFp,hP⟩:=hpk;have ha:=LH (WS.acc1 hn hp);have c0:w.cell? ⟨b,0,none⟩=some (.int .i64 1):=by rw[<-hn];exact h.blk.cell 0
 have c8:w.cell? ⟨b,8,none⟩=some (.pointer (some ⟨pb,0,none⟩)):=h.blk.cell 8;have HLV:=LH hI.lv;have H:=LH h;have HM:=LH hm;have HP:=LH hP;have HN:=LH hn;have HPE:=LH hp;have HO:=LH hO;have HNL:=LH hlv;clear h hm hP hn hp hO hlv;clear hI hp3;go_enter Tryz.func61,Tryz.ntmps61;go_wp2_with (fail);with_reducible refine (QaY pb bm p B v C size count odd ref _ HP.out HM.out hpI hC hw).mono ?_
 rintro e w1 ⟨rfl,hP1,hm1,o1⟩;have k1:Chg (fun y=>y=pb\/y=bm) w w1:=Chg.of_only o1 (by simp)
 obtain ⟨hB1,hl1,hp1,hs1⟩:=H.out.rows k1 (fun y hy=>by
  rcases hy with rfl|rfl
  ·exact ⟨_,_,HP.out.blk,.inr (.inr rfl)⟩
  ·exact ⟨_,_,HM.out.blk,.inl rfl⟩)
 have hr1:RouteO F rv s.route w1:=H.out.route.keep k1 (fun y hy=>by
  rcases hy with rfl|rfl
  ·exact ⟨_,_,HP.out.blk,by decide⟩
  ·exact ⟨_,_,HM.out.blk,by decide⟩)
 have O1:Hid (Chg (fun x=>F x\/x=bm) w w1):=LH (k1.mono (fun y hy=>hy.imp (fun e=>by rw[e];exact hFp) id));have HM1:=LH hm1;have hpb:=hpI.step (Q4t hw);obtain ⟨p1,hp1e⟩:∃p1,p.step (rdC C)=p1:=⟨_,rfl⟩
 rw[hp1e] at hP1 hpb|-
 have HQ1:Hid (WalkQ F b {s with peek:=some p1} rv (.pointer (some ⟨pb,0,none⟩)) lv prv sv w1):=LH ⟨H.out.fb,hB1,hr1,⟨pb,rfl,hFp,hP1⟩,hl1,hp1,hs1⟩;have HP1:=LH hP1;clear k1 o1 hm1 H HM HP c0 c8 hB1 hl1 hp1 hs1 hr1 hP1;by_cases h3:p1.next=3
 ·have e3:(p1.next==3)=true:=by simpa using h3
  have hs:=LH (WS.step1e (R:=rdC C) HN.out HPE.out (by rw[hp1e];exact h3))
  rw[hp1e] at hs
  have c8:w1.cell? ⟨b,8,none⟩=some (.pointer (some ⟨pb,0,none⟩)):=HQ1.out.blk.cell 8;have c13:w1.cell? ⟨b,13,none⟩=some sv:=HQ1.out.blk.cell 13;have x0:=hpb.x0;have x1:=hpb.x1;obtain ⟨A,c,rfl⟩:=Q03 HQ1.out.sps.1;have HPd:Hid (WalkP F b {s with peek:=some p1} w1.drew):=LH ⟨_,_,_,_,_,HQ1.out.below (Q08 (Drawn.of w1 1) _)⟩;have n1:=World.new_ne w1 ⟨b,13,none⟩ c13;have hbl:=HQ1.out.blk.lt
  have SLOT:Hid (∀w2,Below w1.drew.heap.size w1.drew w2->w2.cell? ⟨b,8,none⟩=some (.pointer (some ⟨pb,0,none⟩))/\w2.cell? ⟨b,13,none⟩=some (.slice A s.spots.length c)/\PeekP pb p1 w2/\(w2.alloc (.cells #[.int .i64 s.slot,.int .i64 p1.word] 114)).ownsRow 0 114 2 (.slice A s.spots.length c) s.spots.length (Q0p s.spots)/\(∀(j:Nat) (u:Value),([.int .i64 s.slot,.int .i64 p1.word]:List Value)[j]? =some u->(w2.alloc (.cells #[.int .i64 s.slot,.int .i64 p1.word] 114)).cell? ((⟨w2.heap.size,0,none⟩:Addr).add j)=some u)/\Below w1.heap.size w1 (w2.alloc (.cells #[.int .i64 s.slot,.int .i64 p1.word] 114))/\w1.heap.size<=w2.heap.size):=LH (fun w2 hb2=>by
   have hb:=(Q08 (Drawn.of w1 1) w1.heap.size).trans (show Below w1.heap.size w1.drew w2 from hb2);have hbq:=HQ1.out.below hb;have hba:=hb.alloc hb.size (.cells #[.int .i64 s.slot,.int .i64 p1.word] 114);refine ⟨hbq.blk.cell 8,hbq.blk.cell 13,HP1.out.blk.below hb HP1.out.blk.lt,Q0n HQ1.out.sps.1 hba,fun j u hu=> ?_,hba,hb.size⟩;have e:(⟨w2.heap.size,0,none⟩:Addr).add j=⟨w2.heap.size,j,none⟩:=by unfold Addr.add;split<;>simp_all
   rw[e]
   have:=(Blk.new w2 114 #[.int .i64 s.slot,.int .i64 p1.word]).cell j;exact this.trans (by simpa using hu))
  have SLOTC:Hid (Calls Tryz.prog 130 #[.pointer (some ⟨b,0,none⟩)] w1.drew fun e w'=>e=.returned (.int .i64 s.slot)/\Below w1.drew.heap.size w1.drew w'):=LH (Q8m F b {s with peek:=some p1} _ HPd.out HNL.out (Nat.le_of_lt hll))
  rw[e3]
  clear e3 hp1e h3 hpI hpb;go_wp2_with (fail)
  go_region_law (first|(refine step_append_lies _ (by rfl) _ _ _ (by rfl) 0 114 i0 _ 2 16 Tryz.underlying41 hi0 hz0 hz1 hz2 rfl (by omega) (.slice A s.spots.length c) s.spots.length (Q0p s.spots) (by rfl) SF.out.2.2.2.1 ⟨w2.heap.size,0,none⟩ 1 1 [.int .i64 s.slot,.int .i64 p1.word] (by rfl) (by rfl) SF.out.2.2.2.2.1 (by simp[Value.oneCell']) (by omega) (by unfold maxLen;omega) (by omega) (by omega) (w2.heap.size+1) (by simp) ?_;intro gg cap w5 hO5 hg5 hat hlt5;have K5:=HQ1.out.apps SF.out.2.2.2.2.2.1 hO5 hg5 (hat.imp id (fun e=>by have:=SF.out.2.2.2.2.2.2;omega));have c5:=K5.out.1;have f5:=K5.out.2.1;clear hO5 hg5 hat hlt5)|(go_simp;go_at_call 130;(with_reducible refine (SLOTC.out).mono ?_);rintro e w2 ⟨rfl,hb2⟩;have SF:=LH (SLOT.out w2 hb2);have c8b:=SF.out.1;have c13b:=SF.out.2.1;have n2:=World.new_ne w2 ⟨b,13,none⟩ c13b;have hbl2:b<w2.heap.size:=World.block_lt_of_cell? w2 _ c13b;clear hb2)|(go_simp;go_at_call 120;(with_reducible refine (Q6G pb p1 _ SF.out.2.2.1).mono ?_);rintro e wq ⟨rfl,rfl⟩))
  all_goals
   have hP:WalkQ (fun x=>F x\/w1.heap.size<=x) b {s with peek:=some p1,spots:=s.spots++[(s.slot,p1.word)]} rv (.pointer (some ⟨pb,0,none⟩)) lv prv (.slice (some ⟨gg,0,none⟩) (s.spots.length+1) cap) (w5.setCell ⟨b,13,none⟩ (.slice (some ⟨gg,0,none⟩) (s.spots.length+1) cap))/\Chg (fun x=>F x) w1 (w5.setCell ⟨b,13,none⟩ (.slice (some ⟨gg,0,none⟩) (s.spots.length+1) cap)):=K5.out.2.2;clear K5 c5 f5 SF c8b c13b n2 hbl2 n1 c8 c13;revert hP;generalize w5.setCell ⟨b,13,none⟩ (.slice (some ⟨gg,0,none⟩) (s.spots.length+1) cap)=w6;rintro ⟨hq6,hc6⟩;have d8:w6.cell? ⟨b,8,none⟩=some (.pointer (some ⟨pb,0,none⟩)):=hq6.blk.cell 8;have HP6:Hid (PeekP pb p1 w6):=LH (by obtain ⟨pb',e,_,hp⟩:=hq6.peek;cases e;exact hp);have H6:Hid (WalkP (fun x=>F x\/w1.heap.size<=x) b {s with peek:=some p1,spots:=s.spots++[(s.slot,p1.word)]} w6):=LH ⟨_,_,_,_,_,hq6⟩;have HC6:=LH hc6;clear hq6 hc6;go_wp2_with (fail);with_reducible refine (Q6G pb p1 _ HP6.out).mono ?_
   rintro e w7 ⟨rfl,rfl⟩;go_wp2_with (fail);with_reducible refine (QcY _ b _ _ p1.word H6.out (Nat.le_of_lt hll) HLV.out x0 x1).mono ?_
   rintro e w8 hp;have HX:=LH ((hp.grown HC6.out).out HM1.out O1.out HO.out);obtain ⟨rfl,_,_⟩:=hp;go_wp2_with (fail);with_reducible refine (Q0V _ _ _ _ HX.out.1).mono ?_
   rintro e w9 ⟨rfl,rfl⟩;go_wp2_with (fail);go_ret;unfold Q1E
   rw[hs.out,ha.out]
   exact ⟨rfl,HX.out⟩
 ·have e3:(p1.next==3)=false:=by simpa using h3
  have hs:=LH (WS.step1 (R:=rdC C) HN.out HPE.out (by rw[hp1e];exact h3))
  rw[hp1e] at hs
  have HX:Hid (WalkP F b {s with peek:=some p1} w1):=LH ⟨_,_,_,_,_,HQ1.out⟩
  rw[e3]
  clear e3 hp1e;go_wp2_with (fail);with_reducible refine (Q0V _ _ _ _ HX.out).mono ?_
  rintro e w2 ⟨rfl,rfl⟩;go_wp2_with (fail);go_ret;unfold Q1E
  rw[hs.out,ha.out]
  exact ⟨rfl,HX.out.mono (fun _=>.inl),HM1.out,O1.out⟩
theorem Q8g (hpl:s.pairs.length<=1000000):Calls Tryz.prog 61 #[.pointer (some ⟨b,0,none⟩),.pointer (some ⟨bm,0,none⟩)] w (Q1E F b bm s B v C size count odd ref w):=by
 rcases hI.st with ⟨e,_⟩|⟨e,_⟩|e|e|e|⟨e,_⟩|e
 ·exact QaV F b bm s B v C size count odd ref w h hm hO hI hC hw hll e
 ·exact QaU F b bm s B v C size count odd ref w h hm hO hI hC hw hll hsl e
 ·exact QaT F b bm s B v C size count odd ref w h hm hO hI hC hw hll hpl e
 ·exact QaS F b bm s B v C size count odd ref w h hm hO hI hC hll hpl e
 ·exact QaR F b bm s B v C size count odd ref w h hm hO hI hC hw e
 ·exact QaQ F b bm s B v C size count odd ref w h hm hO hI hC hll e
 ·exact QaP F b bm s B v C size count odd ref w h hm e
end
theorem PairsAt.both {w:World} {B:Nat} {A:Option Addr} {L:List (Int×Int)} (h:PairsAt w B A L) (hl:0<L.length):∃ad,A=some ad/\ad.block<B/\∀i,i<L.length->w.cell? (ad.add (i*2))=some (.int .i64 (Q17 L i))/\w.cell? (ad.add (i*2+1))=some (.int .i64 (Q4b L i)):=by
 obtain ⟨ad,e,hb,hc⟩:=h.2 hl;exact ⟨ad,e,hb,fun i hi=>⟨hc _ _ (Q53 hi),hc _ _ (Q7f hi)⟩⟩
theorem Q7C (A A2:Option Addr) (c c2 N N2 B:Nat) (q:List (Int×Int)) (w:World) (hN:N=q.length) (hN2:N2=q.length) (h1:PairsAt w B A q) (h2:PairsAt w B A2 q) (hl:q.length<=1000000):
  Calls Tryz.prog 63 #[.slice A N c,.slice A2 N2 c2] w fun e w'=>e=.returned (.bool true)/\Drawn w w':=by
 subst hN;subst hN2;have H1:=LH h1;have H2:=LH h2;clear h1 h2;go_enter Tryz.func63,Tryz.ntmps63;go_wp2_with (fail)
 go_loopw [5] (fun v wr=>∃(i m:Nat),i<=q.length/\v=.int .i64 i/\wr=w.drewN m) (fun v _=>q.length-(intOf v).toNat)
 case atStart=>exact ⟨0,0,by omega,rfl,rfl⟩
 case round=>
  obtain ⟨i,m,i1,rfl,rfl⟩:=hrel;by_cases hlt:i<q.length
  ·obtain ⟨ad,rfl,_,hc⟩:=H1.out.both (by omega);obtain ⟨k1,v1⟩:=hc i hlt;clear hc;obtain ⟨ad2,rfl,_,hc⟩:=H2.out.both (by omega);obtain ⟨k2,v2⟩:=hc i hlt;clear hc;generalize Q17 q i=x at k1 k2;generalize Q4b q i=y at v1 v2;have u1:w.cell? {block:=(ad.add (i*2)).block,off:=(ad.add (i*2)).off+1}=some (.int .i64 y):=by rw[<-Addr.add_add] at v1;exact v1
   have u2:w.cell? {block:=(ad2.add (i*2)).block,off:=(ad2.add (i*2)).off+1}=some (.int .i64 y):=by rw[<-Addr.add_add] at v2;exact v2
   go_wp2_with (fail)
   go_quiet (fail)
   go_wp2_with (fail)
   go_roundw
   case rel=>exact ⟨i+1,_,by omega,by go_num,rfl⟩
   case measure=>simp[intOf];omega
  ·go_wp2_with (fail);go_ret;exact ⟨rfl,Drawn.of _ _⟩
def MemL (b lo:Nat) (C:List Int) (size:Int) (w:World):Prop:=∃v count odd,MemP b b v C size count odd 0 w/\b<lo/\∀g,v.ownBlock=some g->g<lo
theorem MemC.l {b:Nat} {C:List Int} {size:Int} {w:World} (h:MemC b C size w):MemL b w.heap.size C size w:=by
 obtain ⟨v,c,o,h⟩:=h;exact ⟨v,c,o,h,h.blk.lt,fun g hg=>Q0T h.own g hg⟩
theorem MemL.below {b lo:Nat} {C:List Int} {size:Int} {w w':World} (h:MemL b lo C size w) (hb:Below w.heap.size w w'):MemL b lo C size w':=by
 obtain ⟨v,c,o,h,r⟩:=h;exact ⟨v,c,o,h.below hb,r⟩
def Qe1 (b fb lo:Nat) (C:List Int) (size:Int) (s:WS) (w:World) (e:Ending) (w':World):Prop:=e=.returned (.bool ((s.step (rdC C)).next==6))/\WalkP (fun x=>lo<=x) fb (s.step (rdC C)) w'/\MemL b lo C size w'/\Chg (fun x=>x=b\/lo<=x) w w'
theorem Q8h (b fb lo:Nat) (C:List Int) (size:Int) (s:WS) (w:World) (h:WalkP (fun x=>lo<=x) fb s w) (hm:MemL b lo C size w) (hI:s.Inv) (hlw:lo<=w.heap.size) (hC:C.length<=1000000) (hw:∀x∈C,-9223372036854775808<=x/\x<=9223372036854775807) (h1:s.levels.length<1000) (h2:s.pairs.length<1000) (h3:s.spots.length<1000):
  Calls Tryz.prog 61 #[.pointer (some ⟨fb,0,none⟩),.pointer (some ⟨b,0,none⟩)] w (Qe1 b fb lo C size s w):=by
 obtain ⟨v,count,odd,hm,hb,hv⟩:=hm;refine (Q8g _ fb b s b v C size count odd 0 w h hm ⟨by omega,fun g hg=>by have:=hv g hg;omega⟩ hI hC (QbV hw) (by omega) (by omega) (by omega)).mono ?_;rintro e w' ⟨he,h1,h2,h3⟩;exact ⟨he,h1.mono (fun x hx=>hx.elim id (fun h=>by omega)),⟨v,_,_,h2,hb,hv⟩,h3.mono (fun x hx=>hx.symm)⟩
structure Res where
 why:Int
 found:Bool
 key:Int
 val:Int
 n:Int
 list:List (Int×Int)
def Res.none:Res:=⟨0,false,0,0,0,[]⟩
def Res.err (e:Int):Res:=⟨e,false,0,0,0,[]⟩
structure Op where
 kind:Int
 key:Int
 val:Int
def Q1y:Int:=-9223372036854775808
def Q2M:Int:=9223372036854775807
def Op.answer (o:Op) (l:List (Int×Int)):Res:=
 if o.kind=9 then ⟨0,false,0,0,0,l⟩
 else if o.kind=10 then ⟨0,false,0,0,l.length,[]⟩
 else match l with
  |[]=>Res.none
  |x::_=>⟨0,true,x.1,x.2,0,[]⟩
def Qaa (r:Res) (lv:Value):Value:=.agg #[.int .i64 r.why,.bool r.found,.int .i64 r.key,.int .i64 r.val,.int .i64 r.n,lv]
theorem PrP.nil' {F:Nat->Prop} {T:TypeId} {w:World}:PrP F T (.slice none 0 0) [] w:=⟨World.ownsRow_nil _ _ _ _,fun g hg=>by simp[Value.ownBlock] at hg⟩
theorem Q0Z {w:World} {base base':Nat} {e:TypeId} {size:Nat} {v:Value} {n:Nat} {xs:List Value} (h:w.ownsRow base e size v n xs) (hb:base'<=base):w.ownsRow base' e size v n xs:=
 ⟨h.1,h.2.imp id (fun ⟨g,cap,cur,a,b,c⟩=>⟨g,cap,cur,a,Nat.le_trans hb b,c⟩)⟩
structure Ask where
 kind:Int
 a:Int
 x:Int
 y:Int
 ws:List Int
 tag:Int
inductive Prog (α:Type) where
 |ret (a:α)
 |ask (q:Ask) (k:Int->Prog α)
 |chk (k:Bool->Prog α)
 |stuck (p:Prog α)
def Prog.bind {α β:Type}:Prog α->(α->Prog β)->Prog β
 |.ret a,f=>f a
 |.ask q k,f=>.ask q fun v=>(k v).bind f
 |.chk k,f=>.chk fun o=>(k o).bind f
 |.stuck p,f=>.stuck (p.bind f)
def Q0e (a:Int):Prog Int:=.ask ⟨1,a,0,0,[],0⟩ .ret
def Q2p (a x:Int):Prog Unit:=.ask ⟨2,a,x,0,[],0⟩ fun _=>.ret ()
def Q33 (a old x:Int):Prog Bool:=.ask ⟨3,a,old,x,[],0⟩ fun v=>.ret (v==1)
def Qed (a d:Int):Prog Int:=.ask ⟨4,a,d,0,[],0⟩ .ret
def Q1G (ws:List Int) (tag:Int):Prog Int:=.ask ⟨5,0,0,0,ws,tag⟩ .ret
def Q2V (slot:Int):Prog Int:=(Q0e slot).bind fun w=>if Q05 w=5 then (Q0e (wAt w+4)).bind fun o=>if o=1 then Q0e (wAt w+3) else Q0e (wAt w+2) else .ret w
def Q6D (at_:Int):Prog Unit:=
 (Q0e at_).bind fun p=>(Q0e p).bind fun g=>(Q33 (at_+4) 0 (if g=0 then 1 else 2)).bind fun _=>
 (Q0e (at_+4)).bind fun o=>(Q0e (at_+1)).bind fun s=>(if o=1 then Q0e (at_+3) else Q0e (at_+2)).bind fun v=>
 (Q33 s (wOf 5 at_) v).bind fun _=>.ret ()
def Q3j (slot:Int):Nat->Int->Prog Int
 |0,w=>.stuck (.ret w)
 |n+1,w=>.chk fun off=>if off=false/\Q05 w=5 then (Q6D (wAt w)).bind fun _=>(Q0e slot).bind (Q3j slot n) else .ret w
def Q4M (fuel:Nat) (slot:Int):Prog Int:=(Q0e slot).bind (Q3j slot fuel)
def Q30 (guard place old x:Int):List Int:=[guard,place,old,x,0]
def Q16 (target gate slot:Int):List Int:=[target,gate,slot,0,0]
def Q1m (tag guard place old x:Int):Prog Int:=
 (Q1G (Q30 guard place old x) tag).bind fun a=>if a<=0 then .ret 3 else
 (Q33 place old (wOf 5 a)).bind fun b=>if b=false then .ret 0 else
 (Q0e guard).bind fun g=>(Q33 (wrap64 (a+4)) 0 (if g=0 then 1 else 2)).bind fun _=>
 (Q0e (wrap64 (a+4))).bind fun o=>if o=1 then (Q33 place (wOf 5 a) x).bind fun _=>.ret 1 else (Q33 place (wOf 5 a) old).bind fun _=>.ret 2
def Q1J (n k d:Int):Nat->Int->Prog (Int×Int)
 |0,_=>.ret (d,1)
 |f+1,i=>.chk fun off=>if 1<i/\off=false then (Q0e (Q0j n i)).bind fun q=>if q<=k then .ret (d,i) else Q1J n k d f (i-1) else .ret (d,1)
def Q4G (n k d m:Int):Nat->Int->Prog (Int×Int)
 |0,_=>.ret (d,m-1)
 |f+1,i=>.chk fun off=>if i<m/\off=false then (Q0e (Q0j n i)).bind fun q=>if k<q then .ret (d,i-1) else Q4G n k d m f (i+1) else .ret (d,m-1)
def Q4y (n k d m first last:Int):Prog (Int×Int):=
 .chk fun off=>if off=true\/Q0G first last k m<1 then .ret (d,0) else
 if 1<Q0G first last k m then (Q0e (Q0j n (Q0G first last k m))).bind fun q=>if k<q then Q1J n k d (Q0G first last k m).toNat (Q0G first last k m-1) else Q4G n k d m (m-Q0G first last k m).toNat (Q0G first last k m+1)
 else Q4G n k d m (m-Q0G first last k m).toNat (Q0G first last k m+1)
def Q1B (n k:Int):Prog (Int×Int):=
 (Q0e n).bind fun d=>if wrap64 (d-1)<1 then .ret (d,0) else
 (Q0e (Q0j n 1)).bind fun first=>if k<first then .ret (d,0) else if wrap64 (d-1)=1 then .ret (d,1) else
 (Q0e (Q0j n (wrap64 (d-1)))).bind fun last=>if last<=k then .ret (d,wrap64 (d-1)) else Q4y n k d (wrap64 (d-1)) first last
def Q24 (n k:Int):Prog Int:=(Q1B n k).bind fun r=>.ret (Q06 n r.1 r.2)
def Q4m (k:Int):Nat->Int->Prog (Int×Bool)
 |0,_=>.stuck (.ret (0,false))
 |f+1,n=>.chk fun off=>if off=true then .ret (0,false) else
  (Q24 n k).bind fun s=>(Q2V s).bind fun w=>
  if Q05 w=2 then (Q0e (wAt w)).bind fun q=>if q=k then (Q0e (wAt w+1)).bind fun v=>.ret (v,true) else .ret (0,false)
  else if Q05 w=3 then Q4m k f (wAt w)
  else if Q05 w=4 then (Q0e (wAt w)).bind fun t=>Q4m k f (wAt t)
  else .ret (0,false)
structure WQ where
 lo:Int
 hi:Int
 back:Bool
 most:Int
 values:Bool
structure WAcc where
 pairs:List (Int×Int)
 spots:List (Int×Int)
instance:Inhabited WAcc:=⟨⟨[],[]⟩⟩
def Q43 (x:WQ) (a:Int) (st:WAcc):Prog (WAcc×Bool):=
 (Q0e a).bind fun q=>if q<x.lo\/x.hi<q then .ret (st,false) else
 (if x.values=true then Q0e (a+1) else .ret 0).bind fun v=>
 .ret (⟨st.pairs++[(q,v)],st.spots⟩,decide (0<x.most/\x.most<=((st.pairs++[(q,v)]).length:Int)))
def Q1f (x:WQ) (thr:Int->WAcc->Prog (WAcc×Bool)):Nat->Int->Int->Int->WAcc->Prog (WAcc×Bool)
 |0,_,_,_,st=>.stuck (.ret (st,true))
 |f+1,n,d,i,st=>.chk fun off=>if off=true then .ret (st,true) else
  (Q2V (Q06 n d i)).bind fun w=>.chk fun off2=>if off2=true then .ret (st,true) else
  (if Q05 w=2 then Q43 x (wAt w) ⟨st.pairs,st.spots++[(Q06 n d i,w)]⟩
   else if Q05 w=3 then thr (wAt w) ⟨st.pairs,st.spots++[(Q06 n d i,w)]⟩
   else if Q05 w=4 then (Q0e (wAt w)).bind fun t=>thr (wAt t) ⟨st.pairs,st.spots++[(Q06 n d i,w)]⟩
   else .ret (⟨st.pairs,st.spots++[(Q06 n d i,w)]⟩,false)).bind fun r=>
  if r.2=true then .ret (r.1,true) else
  if x.back=true then (if i=0 then .ret (r.1,false) else (Q0e (Q0j n i)).bind fun q=>if q<=x.lo then .ret (r.1,false) else Q1f x thr f n d (wrap64 (i-1)) r.1)
  else if wrap64 (i+1)=d then .ret (r.1,false) else (Q0e (Q0j n (wrap64 (i+1)))).bind fun q=>if x.hi<q then .ret (r.1,false) else Q1f x thr f n d (wrap64 (i+1)) r.1
def Q0q (x:WQ):Nat->Int->WAcc->Prog (WAcc×Bool)
 |0,_,st=>.stuck (.ret (st,true))
 |f+1,n,st=>(Q1B n (if x.back=true then x.hi else x.lo)).bind fun r=>Q1f x (Q0q x f) (f+1) n r.1 r.2 st
def Q46:List (Int×Int)->Prog Bool
 |[]=>.ret true
 |p::l=>.chk fun off=>if off=true then .ret true else (Q2V p.1).bind fun w=>if w=p.2 then Q46 l else .ret false
def Q23 (sf:Nat) (mk:Int->Prog Int):Nat->Int->Int->Int->Int->Prog Int
 |0,_,_,_,all=>.stuck (.ret all)
 |f+1,n,d,i,all=>.chk fun off=>if i<d/\off=false then
   (Q4M sf (Q06 n d i)).bind fun w=>
   (if Q05 w=2 then .ret (wrap64 (all+1))
    else if Q05 w=3 then (mk (wAt w)).bind fun m=>.ret (wrap64 (all+m))
    else if Q05 w=4 then (Q0e (wAt w)).bind fun t=>(mk (wAt t)).bind fun m=>.ret (wrap64 (all+m))
    else .ret all).bind fun all'=>Q23 sf mk f n d (i+1) all'
  else .ret all
def Q2v:Nat->Int->Prog Int
 |0,_=>.stuck (.ret 0)
 |f+1,n=>(Q0e (n+4)).bind fun s=>if s=0 then
   (Q2p (n+2) 1).bind fun _=>(Q0e n).bind fun d=>(Q23 (f+1) (Q2v f) (f+1) n d 0 0).bind fun all=>(Q2p (n+4) (wrap64 (all+1))).bind fun _=>.ret all
  else .ret (wrap64 (s-1))
def Q0Y (gt:Int->Int->Int->List (Int×Int)->Prog (List (Int×Int))):Nat->Int->Int->Int->Int->Int->Int->List (Int×Int)->Prog (List (Int×Int))
 |0,_,_,_,_,_,_,out=>.stuck (.ret out)
 |f+1,n,d,from_,to,i,rank,out=>.chk fun off=>if (i<d/\rank<to)/\off=false then
   (Q2V (Q06 n d i)).bind fun w=>
   if Q05 w=2 then
    (if from_<=rank then (Q0e (wAt w)).bind fun k=>(Q0e (wAt w+1)).bind fun v=>.ret (out++[(k,v)]) else .ret out).bind fun out'=>Q0Y gt f n d from_ to (i+1) (wrap64 (rank+1)) out'
   else if Q05 w=3\/Q05 w=4 then
    (if Q05 w=4 then (Q0e (wAt w)).bind fun t=>.ret (wAt t) else .ret (wAt w)).bind fun a=>
    (Q0e (a+4)).bind fun s=>
    (if from_<wrap64 (rank+wrap64 (s-1)) then gt a (wrap64 (from_-rank)) (wrap64 (to-rank)) out else .ret out).bind fun out'=>Q0Y gt f n d from_ to (i+1) (wrap64 (rank+wrap64 (s-1))) out'
   else Q0Y gt f n d from_ to (i+1) rank out
  else .ret out
def Q0Q:Nat->Int->Int->Int->List (Int×Int)->Prog (List (Int×Int))
 |0,_,_,_,out=>.stuck (.ret out)
 |f+1,n,from_,to,out=>(Q0e n).bind fun d=>Q0Y (Q0Q f) (f+1) n d from_ to 0 0 out
def Q6I (l:List (Int×Int)) (at_ n:Int):List (Int×Int):=(l.drop at_.toNat).take n.toNat
def Q12 (n:Int) (q c:List Int):List Int:=if c.length=q.length+1 then Q0U n q c else []
def Q2F (gr:List (Int×Int)->Prog (Int×Bool)) (l:List (Int×Int)):Nat->Int->List Int->List Int->Prog (Int×Bool)
 |0,_,q,c=>(Q1G (Q12 l.length q c) 0).bind fun a=>.ret (wOf 3 a,decide (0<a))
 |m+1,i,q,c=>(gr (Q6I l (Q0R l.length i) (Q14 l.length i))).bind fun r=>if r.2=false then .ret (0,false) else
  Q2F gr l m (i+1) (if 0<i then q++[Q17 l (Q0R l.length i).toNat] else q) (c++[r.1])
def Q2b:Nat->List (Int×Int)->Prog (Int×Bool)
 |0,_=>.stuck (.ret (0,false))
 |f+1,l=>if l.length=0 then (Q1G [0] 0).bind fun a=>.ret (wOf 1 a,decide (0<a))
  else if l.length=1 then (Q1G [Q17 l 0,Q4b l 0] 0).bind fun a=>.ret (wOf 2 a,decide (0<a))
  else Q2F (Q2b f) l (Q00 l.length).toNat 0 [] []
def Q8W (l:List (Int×Int)):Prog (Int×Bool):=Q2b (l.length+1) l
def Qe6 (f:Nat) (t n:Int):Prog (Int×Bool):=
 if 2<=n then (Q1G (Q12 n (List.replicate (Q9E (Q00 n) 1-1).toNat 0) (List.replicate (Q9E (Q00 n) 1).toNat 0)) 0).bind fun a=>.ret (wOf 3 a,decide (0<a))
 else (if n=1 then Q0Q f t 0 1 [] else .ret []).bind fun p=>.chk fun off=>if off=true then .ret (0,false) else Q8W p
def Q5r (f:Nat) (t n x d i:Int):Prog Bool:=
 (Q0Q f t (Q0R n i) (Q0R n i+Q14 n i) []).bind fun p=>.chk fun off=>if off=true then .ret true else
 (Q8W p).bind fun r=>if r.2=false then .ret false else
 (if 0<i/\p≠[] then Q2p (Q0j x i) (Q17 p 0) else .ret ()).bind fun _=>(Q33 (Q06 x d i) 0 r.1).bind fun _=>.ret true
def Q2N (at_ t n x d:Int):Nat->Prog Bool
 |0=>.stuck (.ret true)
 |f+1=>.chk fun off=>if off=true then .ret true else (Qed (wrap64 (at_+4)) 1).bind fun i=>if d<=i then .ret true else
  .chk fun off2=>if off2=true then .ret true else (Q5r f t n x d i).bind fun ok=>if ok=false then .ret false else Q2N at_ t n x d f
def Q3k (f:Nat) (t n x d:Int):Nat->Int->Prog Bool
 |0,_=>.ret true
 |m+1,j=>.chk fun off=>if off=true then .ret true else (Q0e (Q06 x d j)).bind fun c=>.chk fun off2=>
  if c≠0\/off2=true then Q3k f t n x d m (j+1) else (Q5r f t n x d j).bind fun ok=>if ok=false then .ret false else Q3k f t n x d m (j+1)
def Q2u (f:Nat) (at_ t n x:Int):Prog Bool:=
 (Q2N at_ t n x (Q00 n) f).bind fun ok=>if ok=false then .ret false else Q3k f t n x (Q00 n) (Q00 n).toNat 0
def Q2A (f:Nat) (at_:Int):Prog Bool:=
 (Q0e at_).bind fun t0=>(Q2v f (wAt t0)).bind fun n=>(Q0e (wrap64 (at_+3))).bind fun w=>.chk fun off=>if off=true then .ret true else
 (if w=0 then (Qe6 f (wAt t0) n).bind fun r=>if r.2=false then .ret (0,false) else (Q33 (wrap64 (at_+3)) 0 r.1).bind fun _=>(Q0e (wrap64 (at_+3))).bind fun w'=>.ret (w',true)
  else .ret (w,true)).bind fun r=>if r.2=false then .ret false else
 (if 2<=n then Q2u f at_ (wAt t0) n (wAt r.1) else .ret true).bind fun ok=>if ok=false then .ret false else
 (Q0e (wrap64 (at_+1))).bind fun g=>(Q0e (wrap64 (at_+2))).bind fun s=>(Q1m 0 g s (wOf 4 at_) r.1).bind fun o=>.ret (o !=3)
structure Entry where
 node:Int
 slot:Int
 word:Int
def Q4j (f:Nat) (e:Entry):Prog Bool:=
 (Q1G (Q16 e.word (wrap64 (e.node+2)) e.slot) 0).bind fun a=>if a<=0 then .ret false else
 (Q1m 0 (wrap64 (e.node+2)) e.slot e.word (wOf 4 a)).bind fun o=>if o=1 then Q2A f a else if o=3 then .ret false else .ret true
def Q0J (f:Nat):List Entry->Option Entry->Prog Unit
 |[],first=>.chk fun off=>if off=true then .ret () else (match first with
  |some e=>(Q4j f e).bind fun _=>.ret ()
  |none=>.ret ())
 |e::l,first=>.chk fun off=>if off=true then .ret () else
  (Qed (wAt e.word+3) 1).bind fun c=>(Q0e (wAt e.word+1)).bind fun s=>Q0J f l (if first.isNone=true/\Q5m s<=wrap64 (c+1) then some e else first)
def Q1w (o:Op) (w q:Int) (leaf there:Bool):Prog (Int×Bool):=
 if o.kind=3 then (Q1G [0] 0).bind fun a=>.ret (wOf 1 a,decide (0<a)) else
 (Q1G [o.key,o.val] 0).bind fun a=>if ¬0<a\/leaf=false\/there=true then .ret (wOf 2 a,decide (0<a)) else
 (Q1G (Q12 2 [if q<o.key then o.key else q] (if o.key<q then [wOf 2 a,w] else [w,wOf 2 a])) 0).bind fun b=>.ret (wOf 3 b,decide (0<b))
instance:Inhabited Res:=⟨Res.none⟩
def Qe9 (f:Nat) (o:Op) (n s w:Int) (path:List Entry):Prog (Res×Bool):=
 (if Q05 w=2 then (Q0e (wAt w)).bind fun q=>if q=o.key then (Q0e (wAt w+1)).bind fun v=>.ret (q,Res.mk 0 true q v 0 []) else .ret (q,Res.none) else .ret (0,Res.none)).bind fun r=>
 .chk fun off=>if off=true\/(o.kind=1/\r.2.found=true)\/(o.kind=3/\r.2.found=false) then .ret (r.2,true) else
 (Q1w o w r.1 (decide (Q05 w=2)) r.2.found).bind fun x=>if x.2=false then .ret (Res.err 8,true) else
 (Q1m 1 (wrap64 (n+2)) s w x.1).bind fun d=>if d=3 then .ret (Res.err 8,true) else
 (if d=1/\(o.kind≠2\/r.2.found=false) then Q0J f path none else .ret ()).bind fun _=>.ret (r.2,decide (d=1))
def Q13 (f:Nat) (o:Op):Nat->Int->List Entry->Prog (Res×Bool)
 |0,_,_=>.stuck (.ret (Res.none,true))
 |m+1,n,path=>.chk fun off=>if off=true then .ret (Res.none,true) else
  (Q24 n o.key).bind fun s=>(Q4M m s).bind fun w=>
  if Q05 w=4 then (Q2A f (wAt w)).bind fun ok=>if ok=false then .ret (Res.err 8,true) else .ret (Res.none,false)
  else if Q05 w=3 then Q13 f o m (wAt w) (path++[⟨n,s,w⟩])
  else Qe9 f o n s w path
def Q1K (o:Op):Nat->Prog Res
 |0=>.stuck (.ret Res.none)
 |f+1=>.chk fun off=>if off=true then .ret Res.none else (Q13 f o f 1 []).bind fun r=>if r.2=true then .ret r.1 else Q1K o f
def Q3G (o:Op):WQ:=
 if o.kind=5 then ⟨Q1y,o.key,true,1,true⟩
 else if o.kind=6 then ⟨o.key,Q2M,false,1,true⟩
 else if o.kind=8 then ⟨Q1y,Q2M,true,1,true⟩
 else if o.kind=9\/o.kind=10 then ⟨o.key,o.val,false,0,decide (o.kind=9)⟩
 else ⟨Q1y,Q2M,false,1,true⟩
def Q27 (f:Nat) (o:Op):Nat->Prog Res
 |0=>.ret (Res.err 9)
 |b+1=>.chk fun off=>if off=true then .ret (Res.err 9) else
  (Q0q (Q3G o) f 1 ⟨[],[]⟩).bind fun r=>.chk fun off2=>if off2=true then .ret (Res.err 9) else
  (Q46 r.1.spots).bind fun same=>if same=true then .ret (o.answer r.1.pairs) else Q27 f o b
def Q5k (f:Nat) (o:Op) (budget:Int):Prog Res:=
 if o.kind=4 then (Q4m o.key f 1).bind fun r=>if r.2=true then .ret ⟨0,true,o.key,r.1,0,[]⟩ else .ret Res.none
 else Q27 f o budget.toNat
structure RunS where
 tape:List Int
 at_:Nat
 off:Bool
 next:Ask
def Q3h (q:Ask) (s:RunS):Int×RunS:=
 if s.off=true then (0,s) else if s.at_<s.tape.length then (keyAt s.tape s.at_,{s with at_:=s.at_+1}) else (0,{s with off:=true,next:=q})
def Prog.go {α:Type}:Prog α->RunS->α×RunS
 |.ret a,s=>(a,s)
 |.ask q k,s=>(k (Q3h q s).1).go (Q3h q s).2
 |.chk k,s=>(k s.off).go s
 |.stuck p,s=>p.go s
section
variable {α β:Type}
theorem Q8Y (q:Ask) (k:Int->Prog α) (s:RunS):(Prog.ask q k).go s=(k (Q3h q s).1).go (Q3h q s).2:=rfl
theorem Q0B (k:Bool->Prog α) (s:RunS):(Prog.chk k).go s=(k s.off).go s:=rfl
theorem Q01:∀(p:Prog α) (f:α->Prog β) (s:RunS),(p.bind f).go s=(f (p.go s).1).go (p.go s).2
 |.ret a,f,s=>rfl
 |.ask q k,f,s=>Q01 (k (Q3h q s).1) f (Q3h q s).2
 |.chk k,f,s=>Q01 (k s.off) f s
 |.stuck p,f,s=>Q01 p f s
def RunS.left (s:RunS):Nat:=if s.off=true then 0 else s.tape.length-s.at_+1
theorem QdX (q:Ask) (s:RunS):(Q3h q s).2.tape=s.tape:=by
 unfold Q3h;by_cases h:s.off=true
 ·rw[if_pos h]
 ·rw[if_neg h]
  by_cases h2:s.at_<s.tape.length
  ·rw[if_pos h2]
  ·rw[if_neg h2]
theorem Q5A {q:Ask} {s:RunS} (h:s.off=true):Q3h q s=(0,s):=if_pos h
def Prog.rest {α:Type}:Prog α->List Int->Prog α
 |.ret a,_=>.ret a
 |.ask q k,[]=>.ask q k
 |.ask _ k,v::t=>(k v).rest t
 |.chk k,t=>(k false).rest t
 |.stuck p,t=>.stuck (p.rest t)
theorem Q73:∀(p:Prog α) (s:RunS),s.off=true->(p.go s).2=s
 |.ret a,s,h=>rfl
 |.ask q k,s,h=>by rw[Q8Y,Q5A h];exact Q73 _ s h
 |.chk k,s,h=>Q73 (k s.off) s h
 |.stuck p,s,h=>Q73 p s h
def Prog.next {α:Type}:Prog α->Option Ask
 |.ret _=>none
 |.ask q _=>some q
 |.chk k=>(k false).next
 |.stuck p=>p.next
def Prog.val {α:Type} [Inhabited α]:Prog α->α
 |.ret a=>a
 |.ask _ _=>default
 |.chk k=>(k false).val
 |.stuck p=>p.val
theorem Q3a [Inhabited α]:∀(p:Prog α) (s:RunS),s.off=false->s.at_<=s.tape.length->
  match (p.rest (s.tape.drop s.at_)).next with
  |none=>(p.go s).1=(p.rest (s.tape.drop s.at_)).val/\(p.go s).2.off=false
  |some q=>(p.go s).2.off=true/\(p.go s).2.next=q
 |.ret a,s,h,_=>⟨rfl,h⟩
 |.chk k,s,h,hl=>by
  have:=Q3a (k false) s h hl
  rw[Q0B,h]
  exact this
 |.stuck p,s,h,hl=>Q3a p s h hl
 |.ask q k,s,h,hl=>by
  by_cases hlt:s.at_<s.tape.length
  ·have e:Q3h q s=(keyAt s.tape s.at_,{s with at_:=s.at_+1}):=by unfold Q3h;rw[if_neg (by rw[h];decide),if_pos hlt]
   have ed:s.tape.drop s.at_=keyAt s.tape s.at_::s.tape.drop (s.at_+1):=by
    rw[List.drop_eq_getElem_cons hlt]
    unfold keyAt
    rw[List.getD_eq_getElem?_getD,List.getElem?_eq_getElem hlt];rfl
   have:=Q3a (k (keyAt s.tape s.at_)) {s with at_:=s.at_+1} h hlt
   rw[Q8Y,e,ed]
   exact this
  ·have e:Q3h q s=(0,{s with off:=true,next:=q}):=by unfold Q3h;rw[if_neg (by rw[h];decide),if_neg hlt]
   have ed:s.tape.drop s.at_=[]:=by rw[List.drop_eq_nil_iff];omega
   rw[Q8Y,e,ed]
   have hf:=Q73 (k 0) {s with off:=true,next:=q} rfl;show ((k 0).go {s with off:=true,next:=q}).2.off=true/\((k 0).go {s with off:=true,next:=q}).2.next=q
   rw[hf]
   exact ⟨rfl,rfl⟩
end
def i64B (x:Int):Prop:=-9223372036854775808<=x/\x<=9223372036854775807
theorem i64B.lo {x:Int} (h:i64B x):-9223372036854775808<=x:=h.1
theorem i64B.hi {x:Int} (h:i64B x):x<=9223372036854775807:=h.2
structure Ask.Ok (q:Ask):Prop where
 k0:1<=q.kind
 k1:q.kind<=5
 a:i64B q.a
 x:i64B q.x
 y:i64B q.y
 ws:∀v∈q.ws,i64B v
 len:q.ws.length<=1000000
def Prog.Ok {α:Type} (P:α->Prop):Prog α->Prop
 |.ret a=>P a
 |.ask q k=>q.Ok/\∀v,i64B v->(k v).Ok P
 |.chk k=>∀b,(k b).Ok P
 |.stuck p=>p.Ok P
structure RunS.Bd (s:RunS):Prop where
 vals:∀x∈s.tape,i64B x
 len:s.tape.length<=1000000000
 at_:s.at_<=s.tape.length
theorem Q0l (x:Int):i64B (wrap64 x):=by unfold wrap64 i64B;omega
theorem Q0f:i64B 0:=by unfold i64B;omega
theorem i64B.of {x:Int} (h0:-9223372036854775808<=x) (h1:x<=9223372036854775807):i64B x:=⟨h0,h1⟩
theorem Q3n (w:Int) {d:Int} (h0:0<=d) (h1:d<=100):i64B (wAt w+d):=by have:=Q0D w;unfold i64B;omega
theorem Q0H (w:Int):i64B (wAt w):=by have:=Q0D w;unfold i64B;omega
theorem Q0M (k a:Int):i64B (wOf k a):=by have:=Qcd k a;unfold i64B;omega
theorem Q11 (n i:Int):i64B (Q0j n i):=by
 unfold Q0j i64B
 split
 ·rename_i h;have h1:=Q0N h.1;have h2:=Q0N h.2;omega
 ·omega
theorem Q0r (n d i:Int):i64B (Q06 n d i):=by have:=Q6l (n:=n) (d:=d) (i:=i);unfold i64B;omega
theorem QdZ {s:RunS} (h:s.Bd) (q:Ask):i64B (Q3h q s).1/\(Q3h q s).2.Bd:=by
 unfold Q3h;by_cases h1:s.off=true
 ·rw[if_pos h1];exact ⟨Q0f,h⟩
 ·rw[if_neg h1]
  by_cases h2:s.at_<s.tape.length
  ·rw[if_pos h2]
   exact ⟨h.vals _ (by unfold keyAt;rw[List.getD_eq_getElem?_getD,List.getElem?_eq_getElem h2];exact List.getElem_mem _),h.vals,h.len,h2⟩
  ·rw[if_neg h2]
   exact ⟨Q0f,h.vals,h.len,h.at_⟩
section
variable {α β:Type} {P P':α->Prop} {Q:β->Prop}
theorem Q07:∀{p:Prog α} {f:α->Prog β},p.Ok P->(∀a,P a->(f a).Ok Q)->(p.bind f).Ok Q
 |.ret a,f,hp,hf=>hf a hp
 |.ask q k,f,hp,hf=>⟨hp.1,fun v hv=>Q07 (hp.2 v hv) hf⟩
 |.chk k,f,hp,hf=>fun b=>Q07 (hp b) hf
 |.stuck p,f,hp,hf=>Q07 (p:=p) hp hf
theorem Q0h {c:Prop} [Decidable c] {p q:Prog α} (h1:c->p.Ok P) (h2:¬c->q.Ok P):(if c then p else q).Ok P:=by
 split
 ·exact h1 (by assumption)
 ·exact h2 (by assumption)
theorem QeU:∀(p:Prog α) (s:RunS),p.Ok P->s.Bd->P (p.go s).1/\(p.go s).2.Bd
 |.ret a,s,hp,hs=>⟨hp,hs⟩
 |.ask q k,s,hp,hs=>QeU (k (Q3h q s).1) (Q3h q s).2 (hp.2 _ (QdZ hs q).1) (QdZ hs q).2
 |.chk k,s,hp,hs=>QeU (k s.off) s (hp s.off) hs
 |.stuck p,s,hp,hs=>QeU p s hp hs
theorem Q7P:∀(p:Prog α) (s:RunS),(p.go s).2.tape=s.tape
 |.ret a,s=>rfl
 |.ask q k,s=>by rw[Q8Y,Q7P,QdX]
 |.chk k,s=>Q7P (k s.off) s
 |.stuck p,s=>Q7P p s
theorem Q0k (p:Prog α) (s:RunS):∃v s',p.go s=(v,s'):=⟨_,_,rfl⟩
theorem Q0b {p:Prog α} {s s':RunS} {v:α} (hg:p.go s=(v,s')) (hp:p.Ok P) (hs:s.Bd):P v/\s'.Bd:=by
 have:=QeU p s hp hs;rw[hg] at this;exact this
end
theorem Qe0 {k a x y t:Int} {ws:List Int} (k0:1<=k) (k1:k<=5) (ha:i64B a) (hx:i64B x) (hy:i64B y) (h:∀v∈ws,i64B v) (hl:ws.length<=1000000):Ask.Ok ⟨k,a,x,y,ws,t⟩:=⟨k0,k1,ha,hx,hy,h,hl⟩
theorem Qez:∀v∈([]:List Int),i64B v:=fun v hv=>by cases hv
theorem Q04 {a:Int} (h:i64B a):(Q0e a).Ok i64B:=⟨Qe0 (by decide) (by decide) h Q0f Q0f Qez (by decide),fun v hv=>hv⟩
theorem Q2o {a x:Int} (h:i64B a) (hx:i64B x):(Q2p a x).Ok (fun _=>True):=⟨Qe0 (by decide) (by decide) h hx Q0f Qez (by decide),fun v hv=>trivial⟩
theorem Q1j {a x y:Int} (h:i64B a) (hx:i64B x) (hy:i64B y):(Q33 a x y).Ok (fun _=>True):=⟨Qe0 (by decide) (by decide) h hx hy Qez (by decide),fun v hv=>trivial⟩
theorem Q82 {a x:Int} (h:i64B a) (hx:i64B x):(Qed a x).Ok i64B:=⟨Qe0 (by decide) (by decide) h hx Q0f Qez (by decide),fun v hv=>hv⟩
theorem Q19 {ws:List Int} {t:Int} (h:∀v∈ws,i64B v) (hl:ws.length<=1000000):(Q1G ws t).Ok i64B:=⟨Qe0 (by decide) (by decide) Q0f Q0f Q0f h hl,fun v hv=>hv⟩
theorem Q29 {slot:Int} (h:i64B slot):(Q2V slot).Ok i64B:=
 Q07 (Q04 h) fun w hw=>Q0h (fun _=>Q07 (Q04 (Q3n w (by decide) (by decide))) fun o _=>Q0h (fun _=>Q04 (Q3n w (by decide) (by decide))) fun _=>Q04 (Q3n w (by decide) (by decide))) fun _=>hw
theorem Qan {a:Int} (h0:0<=a) (h1:a<=65536):(Q6D a).Ok (fun _=>True):=by
 have b:∀d,0<=d->d<=100->i64B (a+d):=fun d _ _=>by unfold i64B;omega
 refine Q07 (Q04 (by have:=b 0 (by decide) (by decide);simpa using this)) fun p hp=>Q07 (Q04 hp) fun g _=>Q07 (Q1j (b 4 (by decide) (by decide)) Q0f (by split<;>unfold i64B<;>omega)) fun _ _=> ?_;refine Q07 (Q04 (b 4 (by decide) (by decide))) fun o _=>Q07 (Q04 (b 1 (by decide) (by decide))) fun s hs=>Q07 (P:=i64B) (Q0h (fun _=>Q04 (b 3 (by decide) (by decide))) fun _=>Q04 (b 2 (by decide) (by decide))) fun v hv=> ?_;exact Q07 (Q1j hs (Q0M _ _) hv) fun _ _=>trivial
theorem Q8o {slot:Int} (h:i64B slot):∀(f:Nat) {w:Int},i64B w->(Q3j slot f w).Ok i64B
 |0,w,hw=>hw
 |f+1,w,hw=>fun b=>Q0h (fun _=>Q07 (Qan (Q0D w).1 (Q0D w).2) fun _ _=>Q07 (Q04 h) fun w' hw'=>Q8o h f hw') fun _=>hw
theorem Q4l {slot:Int} (h:i64B slot) (f:Nat):(Q4M f slot).Ok i64B:=Q07 (Q04 h) fun _ hw=>Q8o h f hw
theorem Q7Y {c:Prop} [Decidable c] {a b:Int} (h1:i64B a) (h2:i64B b):i64B (if c then a else b):=by split<;>assumption
theorem Q10:i64B 1:=by unfold i64B;omega
theorem Q36:i64B 2:=by unfold i64B;omega
theorem Q1p {tag guard place old x:Int} (hg:i64B guard) (hp:i64B place) (ho:i64B old) (hx:i64B x):(Q1m tag guard place old x).Ok (fun r=>0<=r/\r<=3):=by
 refine Q07 (P:=i64B) (Q19 (fun v hv=> ?_) (by simp[Q30])) fun a ha=>Q0h (fun _=>by show (0:Int)<=3/\(3:Int)<=3;omega) fun hn=> ?_
 ·simp[Q30] at hv;rcases hv with rfl|rfl|rfl|rfl|rfl<;>first|assumption|exact Q0f
 ·refine Q07 (Q1j hp ho (Q0M _ _)) fun b _=>Q0h (fun _=>by show (0:Int)<=0/\(0:Int)<=3;omega) fun _=>Q07 (Q04 hg) fun g _=> ?_;refine Q07 (Q1j (Q0l _) Q0f (Q7Y Q10 Q36)) fun _ _=>Q07 (Q04 (Q0l _)) fun o _=>Q0h (fun _=> ?_) fun _=> ?_
  ·exact Q07 (Q1j hp (Q0M _ _) hx) fun _ _=>by show (0:Int)<=1/\(1:Int)<=3;omega
  ·exact Q07 (Q1j hp (Q0M _ _) ho) fun _ _=>by show (0:Int)<=2/\(2:Int)<=3;omega
def Qeh (r:Int×Int):Prop:=i64B r.1/\i64B r.2
theorem Q94 {n k d:Int} (hd:i64B d):∀(f:Nat) {i:Int},i64B i->(Q1J n k d f i).Ok Qeh
 |0,i,hi=>⟨hd,Q10⟩
 |f+1,i,hi=>fun b=>Q0h (fun h=>Q07 (Q04 (Q11 n i)) fun q _=>Q0h (fun _=>⟨hd,hi⟩) fun _=>Q94 hd f ⟨by have:=h.1;omega,by have:=hi.hi;omega⟩) fun _=>⟨hd,Q10⟩
theorem Qcg {n k d m:Int} (hd:i64B d) (hm:i64B m) (m1:1<=m):∀(f:Nat) {i:Int},1<=i->i64B i->(Q4G n k d m f i).Ok Qeh
 |0,i,_,hi=>⟨hd,⟨by show _<=m-1;omega,by show m-1<=_;have:=hm.hi;omega⟩⟩
 |f+1,i,i1,hi=>fun b=>Q0h (fun h=>Q07 (Q04 (Q11 n i)) fun q _=>Q0h (fun _=>⟨hd,⟨by show _<=i-1;omega,by show i-1<=_;have:=hi.hi;omega⟩⟩) fun _=>Qcg hd hm m1 f (by omega) ⟨by omega,by have:=h.1;have:=hm.hi;omega⟩) fun _=>⟨hd,⟨by show _<=m-1;omega,by show m-1<=_;have:=hm.hi;omega⟩⟩
theorem Q4p {n k:Int} (hn:i64B n):(Q1B n k).Ok Qeh:=by
 refine Q07 (Q04 hn) fun d hd=>Q0h (fun _=>⟨hd,Q0f⟩) fun h1=>Q07 (Q04 (Q11 _ _)) fun first _=>Q0h (fun _=>⟨hd,Q0f⟩) fun _=>Q0h (fun _=>⟨hd,Q10⟩) fun h2=> ?_;refine Q07 (Q04 (Q11 _ _)) fun last _=>Q0h (fun _=>⟨hd,Q0l _⟩) fun h3 b=>Q0h (fun _=>⟨hd,Q0f⟩) fun h4=> ?_;have hm:=Q0l (d-1);have hm2:=hm.hi;generalize wrap64 (d-1)=m at*;have hj:=Q4z first last k m (by omega);generalize Q0G first last k m=j at*;have h5:¬j<1:=fun h=>h4 (.inr h)
 have up:(Q4G n k d m (m-j).toNat (j+1)).Ok Qeh:=Qcg hd hm (by omega) _ (by omega) ⟨by omega,by
  by_cases hj1:1<j
  ·have:=hj.2 hj1;omega
  ·omega⟩
 exact Q0h (fun h6=>Q07 (Q04 (Q11 _ _)) fun q _=>Q0h (fun _=>Q94 hd _ ⟨by omega,by have:=hj.2 h6;omega⟩) fun _=>up) fun _=>up
theorem Q3C {n k:Int} (hn:i64B n):(Q24 n k).Ok i64B:=Q07 (Q4p hn) fun r _=>Q0r _ _ _
theorem Q7v {k:Int}:∀(f:Nat) {n:Int},i64B n->(Q4m k f n).Ok (fun r=>i64B r.1)
 |0,n,hn=>Q0f
 |f+1,n,hn=>fun b=>Q0h (fun _=>Q0f) fun _=>Q07 (Q3C hn) fun s hs=>Q07 (Q29 hs) fun w _=>
  Q0h (fun _=>Q07 (Q04 (Q0H w)) fun q _=>Q0h (fun _=>Q07 (Q04 (Q3n w (by decide) (by decide))) fun v hv=>hv) fun _=>Q0f) fun _=>
  Q0h (fun _=>Q7v f (Q0H w)) fun _=>Q0h (fun _=>Q07 (Q04 (Q0H w)) fun t _=>Q7v f (Q0H t)) fun _=>Q0f
def LB (l:List (Int×Int)):Prop:=∀p∈l,i64B p.1/\i64B p.2
theorem LB.nil:LB []:=fun p hp=>by cases hp
theorem LB.snoc {l:List (Int×Int)} {a b:Int} (h:LB l) (ha:i64B a) (hb:i64B b):LB (l++[(a,b)]):=fun p hp=>by
 rcases List.mem_append.1 hp with hp|hp
 ·exact h p hp
 ·rw[List.mem_singleton.1 hp];exact ⟨ha,hb⟩
theorem LB.at_ {l:List (Int×Int)} (h:LB l) (i:Nat):i64B (Q17 l i)/\i64B (Q4b l i):=by
 unfold Q17 Q4b
 rw[List.getD_eq_getElem?_getD]
 by_cases hi:i<l.length
 ·rw[List.getElem?_eq_getElem hi];exact h _ (List.getElem_mem hi)
 ·rw[List.getElem?_eq_none (by omega)];exact ⟨Q0f,Q0f⟩
theorem LB.sub {l:List (Int×Int)} (h:LB l) (a b:Int):LB (Q6I l a b):=fun p hp=>h p (List.mem_of_mem_drop (List.mem_of_mem_take hp))
structure WAcc.B (st:WAcc):Prop where
 pairs:LB st.pairs
 spots:LB st.spots
theorem Q3J {w:Int}:i64B (wAt w+1):=Q3n w (by decide) (by decide)
theorem Q2I {a d:Int} (h0:0<=a) (h1:a<=65536) (d0:0<=d) (d1:d<=100):i64B (a+d):=by unfold i64B;omega
theorem Q1V {a:Int} (h0:0<=a) (h1:a<=65536):i64B a:=by unfold i64B;omega
theorem Q8N {x:WQ} {a:Int} {st:WAcc} (h0:0<=a) (h1:a<=65536) (hs:st.B):(Q43 x a st).Ok (fun r=>r.1.B):=
 Q07 (Q04 (Q1V h0 h1)) fun q hq=>Q0h (fun _=>hs) fun _=>Q07 (P:=i64B) (Q0h (fun _=>Q04 (Q2I h0 h1 (by decide) (by decide))) fun _=>Q0f) fun v hv=>⟨hs.pairs.snoc hq hv,hs.spots⟩
theorem Q5F {x:WQ} {thr:Int->WAcc->Prog (WAcc×Bool)} (ht:∀n st,0<=n->n<=65536->st.B->(thr n st).Ok (fun r=>r.1.B)):∀(f:Nat) (n d i:Int) (st:WAcc),st.B->(Q1f x thr f n d i st).Ok (fun r=>r.1.B)
 |0,n,d,i,st,hs=>hs
 |f+1,n,d,i,st,hs=>fun b=>Q0h (fun _=>hs) fun _=>Q07 (Q29 (Q0r n d i)) fun w hw b2=>Q0h (fun _=>hs) fun _=>
  have hs2:WAcc.B ⟨st.pairs,st.spots++[(Q06 n d i,w)]⟩:=⟨hs.pairs,hs.spots.snoc (Q0r n d i) hw⟩
  Q07 (P:=fun r:WAcc×Bool=>r.1.B) (Q0h (fun _=>Q8N (Q0D w).1 (Q0D w).2 hs2) fun _=>Q0h (fun _=>ht _ _ (Q0D w).1 (Q0D w).2 hs2) fun _=>Q0h (fun _=>Q07 (Q04 (Q0H w)) fun t _=>ht _ _ (Q0D t).1 (Q0D t).2 hs2) fun _=>hs2) fun r hr=>
  Q0h (fun _=>hr) fun _=>Q0h (fun _=>Q0h (fun _=>hr) fun _=>Q07 (Q04 (Q11 _ _)) fun q _=>Q0h (fun _=>hr) fun _=>Q5F ht f n d _ r.1 hr) fun _=>
  Q0h (fun _=>hr) fun _=>Q07 (Q04 (Q11 _ _)) fun q _=>Q0h (fun _=>hr) fun _=>Q5F ht f n d _ r.1 hr
theorem Q2s {x:WQ}:∀(f:Nat) (n:Int) (st:WAcc),0<=n->n<=65536->st.B->(Q0q x f n st).Ok (fun r=>r.1.B)
 |0,n,st,_,_,hs=>hs
 |f+1,n,st,h0,h1,hs=>Q07 (Q4p (Q1V h0 h1)) fun r _=>Q5F (fun n st h0 h1 hs=>Q2s f n st h0 h1 hs) (f+1) n r.1 r.2 st hs
theorem Q6u:∀(l:List (Int×Int)),LB l->(Q46 l).Ok (fun _=>True)
 |[],_=>trivial
 |p::l,h=>fun b=>Q0h (fun _=>trivial) fun _=>Q07 (Q29 (h p (List.mem_cons_self ..)).1) fun w _=>Q0h (fun _=>Q6u l fun q hq=>h q (List.mem_cons_of_mem _ hq)) fun _=>trivial
theorem Q63 {sf:Nat} {mk:Int->Prog Int} (hm:∀n,0<=n->n<=65536->(mk n).Ok i64B):∀(f:Nat) (n d i all:Int),i64B all->(Q23 sf mk f n d i all).Ok i64B
 |0,n,d,i,all,h=>h
 |f+1,n,d,i,all,h=>fun b=>Q0h (fun _=>Q07 (Q4l (Q0r n d i) sf) fun w hw=>Q07 (P:=i64B)
   (Q0h (fun _=>Q0l _) fun _=>Q0h (fun _=>Q07 (hm _ (Q0D w).1 (Q0D w).2) fun m _=>Q0l _) fun _=>Q0h (fun _=>Q07 (Q04 (Q0H w)) fun t _=>Q07 (hm _ (Q0D t).1 (Q0D t).2) fun m _=>Q0l _) fun _=>h)
   fun all' h'=>Q63 hm f n d (i+1) all' h') fun _=>h
theorem Q3P:∀(f:Nat) (n:Int),0<=n->n<=65536->(Q2v f n).Ok i64B
 |0,n,_,_=>Q0f
 |f+1,n,h0,h1=>Q07 (Q04 (Q2I h0 h1 (by decide) (by decide))) fun s _=>Q0h (fun _=>Q07 (Q2o (Q2I h0 h1 (by decide) (by decide)) Q10) fun _ _=>Q07 (Q04 (Q1V h0 h1)) fun d _=>
   Q07 (Q63 (fun n h0 h1=>Q3P f n h0 h1) (f+1) n d 0 0 Q0f) fun all ha=>Q07 (Q2o (Q2I h0 h1 (by decide) (by decide)) (Q0l _)) fun _ _=>ha) fun _=>Q0l _
theorem Q3b {gt:Int->Int->Int->List (Int×Int)->Prog (List (Int×Int))} (hg:∀n a b out,0<=n->n<=65536->LB out->(gt n a b out).Ok LB):∀(f:Nat) (n d from_ to i rank:Int) (out:List (Int×Int)),LB out->(Q0Y gt f n d from_ to i rank out).Ok LB
 |0,n,d,from_,to,i,rank,out,h=>h
 |f+1,n,d,from_,to,i,rank,out,h=>fun b=>Q0h (fun _=>Q07 (Q29 (Q0r n d i)) fun w hw=>
   Q0h (fun _=>Q07 (P:=LB) (Q0h (fun _=>Q07 (Q04 (Q0H w)) fun k hk=>Q07 (Q04 Q3J) fun v hv=>h.snoc hk hv) fun _=>h) fun out' h'=>Q3b hg f n d from_ to _ _ out' h')
   fun _=>Q0h (fun _=>Q07 (P:=fun a=>0<=a/\a<=65536) (Q0h (fun _=>Q07 (Q04 (Q0H w)) fun t _=>Q0D t) fun _=>Q0D w) fun a ha=>Q07 (Q04 (Q2I ha.1 ha.2 (by decide) (by decide))) fun s _=>
    Q07 (P:=LB) (Q0h (fun _=>hg _ _ _ _ ha.1 ha.2 h) fun _=>h) fun out' h'=>Q3b hg f n d from_ to _ _ out' h')
   fun _=>Q3b hg f n d from_ to _ _ out h) fun _=>h
theorem Q1T:∀(f:Nat) (n a b:Int) (out:List (Int×Int)),0<=n->n<=65536->LB out->(Q0Q f n a b out).Ok LB
 |0,n,a,b,out,_,_,h=>h
 |f+1,n,a,b,out,h0,h1,h=>Q07 (Q04 (Q1V h0 h1)) fun d _=>Q3b (fun n a b out h0 h1 h=>Q1T f n a b out h0 h1 h) (f+1) n d a b 0 0 out h
def VB (l:List Int):Prop:=∀x∈l,i64B x
theorem VB.snoc {l:List Int} {a:Int} (h:VB l) (ha:i64B a):VB (l++[a]):=fun x hx=>by
 rcases List.mem_append.1 hx with hx|hx
 ·exact h x hx
 ·rw[List.mem_singleton.1 hx];exact ha
theorem VB.ite {c:Prop} [Decidable c] {a b:List Int} (h1:VB a) (h2:VB b):VB (if c then a else b):=by split<;>assumption
theorem Q1S {n:Int} {q c:List Int} (hn:c.length=q.length+1->i64B n) (hq:VB q) (hc:VB c) (hl:c.length<=1000):VB (Q12 n q c)/\(Q12 n q c).length<=1000000:=by
 unfold Q12
 split
 ·rename_i e;refine ⟨fun x hx=> ?_, ?_⟩
  ·unfold Q0U at hx
   rcases List.mem_append.1 hx with hx|hx
   ·rcases List.mem_append.1 hx with hx|hx
    ·simp only[List.mem_cons,List.not_mem_nil,or_false] at hx;have:=hn e;unfold i64B at this|-;omega
    ·exact hq x hx
   ·exact hc x hx
  ·unfold Q0U;simp;omega
 ·exact ⟨fun x hx=>(by cases hx),by simp⟩
theorem Q8X {gr:List (Int×Int)->Prog (Int×Bool)} {l:List (Int×Int)} (hl:LB l) (hg:∀p,LB p->(gr p).Ok (fun r=>i64B r.1)):∀(m:Nat) (i:Int) (q c:List Int),(m:Int)+c.length=Q00 l.length->VB q->VB c->(Q2F gr l m i q c).Ok (fun r=>i64B r.1)
 |0,i,q,c,hd,hq,hc=>by
  have hdl:=Q2l l.length;have hz:=Q96 (n:=(l.length:Int))
  have hn:c.length=q.length+1->i64B (l.length:Int):=fun e=>by
   unfold i64B;by_cases h2:(l.length:Int)<2\/16384<(l.length:Int)
   ·have:=Q1a h2;omega
   ·omega
  have:=Q1S (n:=(l.length:Int)) (q:=q) (c:=c) hn hq hc (by omega);exact Q07 (Q19 this.1 this.2) fun a _=>Q0M _ _
 |m+1,i,q,c,hd,hq,hc=>Q07 (hg _ (hl.sub _ _)) fun r hr=>Q0h (fun _=>Q0f) fun _=>Q8X hl hg m (i+1) _ _ (by simp;omega) (VB.ite (hq.snoc (hl.at_ _).1) hq) (hc.snoc hr)
theorem Q60 {a:Int} (h:i64B a):VB [a]:=fun x hx=>by rw[List.mem_singleton.1 hx];exact h
theorem Q5c {a b:Int} (h:i64B a) (g:i64B b):VB [a,b]:=fun x hx=>by
 rcases List.mem_cons.1 hx with rfl|hx
 ·exact h
 ·rw[List.mem_singleton.1 hx];exact g
theorem Q7O:∀(f:Nat) (l:List (Int×Int)),LB l->(Q2b f l).Ok (fun r=>i64B r.1)
 |0,l,_=>Q0f
 |f+1,l,h=>Q0h (fun _=>Q07 (Q19 (Q60 Q0f) (by decide)) fun a _=>Q0M _ _) fun _=>Q0h (fun _=>Q07 (Q19 (Q5c (h.at_ 0).1 (h.at_ 0).2) (by simp)) fun a _=>Q0M _ _) fun _=>
   Q8X h (fun p hp=>Q7O f p hp) _ 0 [] [] (by have:=Q1q l.length;simp;omega) (fun x hx=>by cases hx) (fun x hx=>by cases hx)
theorem Q7N {l:List (Int×Int)} (h:LB l):(Q8W l).Ok (fun r=>i64B r.1):=Q7O _ l h
theorem Qab (n:Nat):VB (List.replicate n 0):=fun x hx=>by rw[(List.mem_replicate.1 hx).2];exact Q0f
theorem Qch {f:Nat} {t n:Int} (h0:0<=t) (h1:t<=65536) (hn:i64B n):(Qe6 f t n).Ok (fun r=>i64B r.1):=by
 have hd:=Q2l n;have hw:=Q1S (n:=n) (q:=List.replicate (Q9E (Q00 n) 1-1).toNat 0) (c:=List.replicate (Q9E (Q00 n) 1).toNat 0) (fun _=>hn) (Qab _) (Qab _) (by simp;unfold Q9E;split<;>omega);exact Q0h (fun _=>Q07 (Q19 hw.1 hw.2) fun a _=>Q0M _ _) fun _=>Q07 (P:=LB) (Q0h (fun _=>Q1T f t 0 1 [] h0 h1 LB.nil) fun _=>LB.nil) fun p hp b=>Q0h (fun _=>Q0f) fun _=>Q7N hp
theorem Q3O {f:Nat} {t n x d i:Int} (h0:0<=t) (h1:t<=65536):(Q5r f t n x d i).Ok (fun _=>True):=
 Q07 (Q1T f t _ _ [] h0 h1 LB.nil) fun p hp b=>Q0h (fun _=>trivial) fun _=>Q07 (Q7N hp) fun r hr=>Q0h (fun _=>trivial) fun _=>
  Q07 (P:=fun _=>True) (Q0h (fun _=>Q2o (Q11 _ _) (hp.at_ 0).1) fun _=>trivial) fun _ _=>Q07 (Q1j (Q0r _ _ _) Q0f hr) fun _ _=>trivial
theorem Q7a {at_ t n x d:Int} (h0:0<=t) (h1:t<=65536):∀(g f:Nat),(Q2N at_ t n x d f).Ok (fun _=>True)
 |_,0=>trivial
 |g,f+1=>fun b=>Q0h (fun _=>trivial) fun _=>Q07 (Q82 (Q0l _) Q10) fun i _=>Q0h (fun _=>trivial) fun _ b2=>Q0h (fun _=>trivial) fun _=>Q07 (Q3O h0 h1) fun ok _=>Q0h (fun _=>trivial) fun _=>Q7a h0 h1 g f
theorem Q5Q {f:Nat} {t n x d:Int} (h0:0<=t) (h1:t<=65536):∀(m:Nat) (j:Int),(Q3k f t n x d m j).Ok (fun _=>True)
 |0,_=>trivial
 |m+1,j=>fun b=>Q0h (fun _=>trivial) fun _=>Q07 (Q04 (Q0r _ _ _)) fun c _ b2=>Q0h (fun _=>Q5Q h0 h1 m (j+1)) fun _=>Q07 (Q3O h0 h1) fun ok _=>Q0h (fun _=>trivial) fun _=>Q5Q h0 h1 m (j+1)
theorem Q5Z {f:Nat} {at_ t n x:Int} (h0:0<=t) (h1:t<=65536):(Q2u f at_ t n x).Ok (fun _=>True):=
 Q07 (Q7a h0 h1 f f) fun ok _=>Q0h (fun _=>trivial) fun _=>Q5Q h0 h1 _ _
theorem Q4r {f:Nat} {at_:Int} (ha:i64B at_):(Q2A f at_).Ok (fun _=>True):=
 Q07 (Q04 ha) fun t0 _=>Q07 (Q3P f _ (Q0D t0).1 (Q0D t0).2) fun n hn=>Q07 (Q04 (Q0l _)) fun w hw b=>Q0h (fun _=>trivial) fun _=>
 Q07 (P:=fun r:_×_=>i64B r.1) (Q0h (fun _=>Q07 (Qch (Q0D t0).1 (Q0D t0).2 hn) fun r hr=>Q0h (fun _=>Q0f) fun _=>Q07 (Q1j (Q0l _) Q0f hr) fun _ _=>Q07 (Q04 (Q0l _)) fun w' hw'=>hw') fun _=>hw) fun r hr=>
 Q0h (fun _=>trivial) fun _=>Q07 (P:=fun _=>True) (Q0h (fun _=>Q5Z (Q0D t0).1 (Q0D t0).2) fun _=>trivial) fun ok _=>Q0h (fun _=>trivial) fun _=>
 Q07 (Q04 (Q0l _)) fun g hg=>Q07 (Q04 (Q0l _)) fun s hs=>Q07 (Q1p hg hs (Q0M _ _) hr) fun o _=>trivial
structure Entry.B (e:Entry):Prop where
 node:i64B e.node
 slot:i64B e.slot
 word:i64B e.word
theorem Qcr {f:Nat} {e:Entry} (h:e.B):(Q4j f e).Ok (fun _=>True):=
 Q07 (Q19 (fun v hv=>by
  simp[Q16] at hv
  rcases hv with rfl|rfl|rfl|rfl|rfl<;>first|exact h.word|exact h.slot|exact Q0l _|exact Q0f) (by simp[Q16])) fun a ha=>Q0h (fun _=>trivial) fun _=>
 Q07 (Q1p (Q0l _) h.slot h.word (Q0M _ _)) fun o _=>Q0h (fun _=>Q4r ha) fun _=>Q0h (fun _=>trivial) fun _=>trivial
theorem Q4L {f:Nat}:∀(l:List Entry) (first:Option Entry),(∀e∈l,e.B)->(∀e,first=some e->e.B)->(Q0J f l first).Ok (fun _=>True)
 |[],first,_,hf=>fun b=>Q0h (fun _=>trivial) fun _=>by
  rcases first with _|e
  ·exact trivial
  ·exact Q07 (Qcr (hf e rfl)) fun _ _=>trivial
 |e::l,first,hl,hf=>fun b=>Q0h (fun _=>trivial) fun _=>Q07 (Q82 (Q3n _ (by decide) (by decide)) Q10) fun c _=>Q07 (Q04 Q3J) fun s _=>Q4L l _ (fun x hx=>hl x (List.mem_cons_of_mem _ hx)) fun x hx=>by
  split at hx
  ·injection hx with hx;subst hx;exact hl _ (List.mem_cons_self ..)
  ·exact hf x hx
structure Op.B (o:Op):Prop where
 key:i64B o.key
 val:i64B o.val
theorem Q1Z {o:Op} {w q:Int} {leaf there:Bool} (ho:o.B) (hw:i64B w) (hq:i64B q):(Q1w o w q leaf there).Ok (fun r=>i64B r.1):=by
 refine Q0h (fun _=>Q07 (Q19 (Q60 Q0f) (by decide)) fun a _=>Q0M _ _) fun _=>Q07 (Q19 (Q5c ho.key ho.val) (by simp)) fun a _=>Q0h (fun _=>Q0M _ _) fun _=> ?_;have:=Q1S (n:=2) (q:=[if q<o.key then o.key else q]) (c:=if o.key<q then [wOf 2 a,w] else [w,wOf 2 a]) (fun _=>Q36) (Q60 (Q7Y ho.key hq)) (by split<;>first|exact Q5c (Q0M _ _) hw|exact Q5c hw (Q0M _ _)) (by split<;>simp);exact Q07 (Q19 this.1 this.2) fun b _=>Q0M _ _
theorem QfX {f:Nat} {o:Op} {n s w:Int} {path:List Entry} (ho:o.B) (hs:i64B s) (hw:i64B w) (hp:∀e∈path,e.B):(Qe9 f o n s w path).Ok (fun _=>True):=
 Q07 (P:=fun r:_×_=>i64B r.1) (Q0h (fun _=>Q07 (Q04 (Q0H w)) fun q hq=>Q0h (fun _=>Q07 (Q04 Q3J) fun v _=>hq) fun _=>hq) fun _=>Q0f) fun r hr b=>Q0h (fun _=>trivial) fun _=>
 Q07 (Q1Z ho hw hr) fun x hx=>Q0h (fun _=>trivial) fun _=>Q07 (Q1p (Q0l _) hs hw hx) fun d _=>Q0h (fun _=>trivial) fun _=>
 Q07 (P:=fun _=>True) (Q0h (fun _=>Q4L path none hp (fun e he=>by cases he)) fun _=>trivial) fun _ _=>trivial
theorem Q3F {f:Nat} {o:Op} (ho:o.B):∀(m:Nat) (n:Int) (path:List Entry),i64B n->(∀e∈path,e.B)->(Q13 f o m n path).Ok (fun _=>True)
 |0,n,path,_,_=>trivial
 |m+1,n,path,hn,hp=>fun b=>Q0h (fun _=>trivial) fun _=>Q07 (Q3C hn) fun s hs=>Q07 (Q4l hs m) fun w hw=>
  Q0h (fun _=>Q07 (Q4r (Q0H w)) fun ok _=>Q0h (fun _=>trivial) fun _=>trivial) fun _=>
  Q0h (fun _=>Q3F ho m _ _ (Q0H w) fun e he=>by
   rcases List.mem_append.1 he with he|he
   ·exact hp e he
   ·rw[List.mem_singleton.1 he];exact ⟨hn,hs,hw⟩) fun _=>QfX ho hs hw hp
theorem Q7c {o:Op} (ho:o.B):∀(f:Nat),(Q1K o f).Ok (fun _=>True)
 |0=>trivial
 |f+1=>fun b=>Q0h (fun _=>trivial) fun _=>Q07 (Q3F ho f 1 [] Q10 (fun e he=>by cases he)) fun r _=>Q0h (fun _=>trivial) fun _=>Q7c ho f
theorem Q5P {f:Nat} {o:Op}:∀(b:Nat),(Q27 f o b).Ok (fun _=>True)
 |0=>trivial
 |b+1=>fun b1=>Q0h (fun _=>trivial) fun _=>Q07 (Q2s f 1 ⟨[],[]⟩ (by decide) (by decide) ⟨LB.nil,LB.nil⟩) fun r hr b2=>Q0h (fun _=>trivial) fun _=>Q07 (Q6u _ hr.spots) fun same _=>Q0h (fun _=>trivial) fun _=>Q5P b
theorem QcG {f:Nat} {o:Op} {budget:Int}:(Q5k f o budget).Ok (fun _=>True):=
 Q0h (fun _=>Q07 (Q7v f Q10) fun r _=>Q0h (fun _=>trivial) fun _=>trivial) fun _=>Q5P _
theorem QeH {f:Nat} {o:Op} {n s w:Int} {path:List Entry} (ho:o.B) (hs:i64B s) (hw:i64B w) (hp:∀e∈path,e.B):(Qe9 f o n s w path).Ok (fun r=>r.1.list=[]):=
 Q07 (P:=fun r:Int×Res=>i64B r.1/\r.2.list=[]) (Q0h (fun _=>Q07 (Q04 (Q0H w)) fun q hq=>Q0h (fun _=>Q07 (Q04 Q3J) fun v _=>⟨hq,rfl⟩) fun _=>⟨hq,rfl⟩) fun _=>⟨Q0f,rfl⟩) fun r hr b=>Q0h (fun _=>hr.2) fun _=>
 Q07 (Q1Z ho hw hr.1) fun x hx=>Q0h (fun _=>rfl) fun _=>Q07 (Q1p (Q0l _) hs hw hx) fun d _=>Q0h (fun _=>rfl) fun _=>
 Q07 (P:=fun _=>True) (Q0h (fun _=>Q4L path none hp (fun e he=>by cases he)) fun _=>trivial) fun _ _=>hr.2
theorem Q4D {f:Nat} {o:Op} (ho:o.B):∀(m:Nat) (n:Int) (path:List Entry),i64B n->(∀e∈path,e.B)->(Q13 f o m n path).Ok (fun r=>r.1.list=[])
 |0,n,path,_,_=>rfl
 |m+1,n,path,hn,hp=>fun b=>Q0h (fun _=>rfl) fun _=>Q07 (Q3C hn) fun s hs=>Q07 (Q4l hs m) fun w hw=>
  Q0h (fun _=>Q07 (Q4r (Q0H w)) fun ok _=>Q0h (fun _=>rfl) fun _=>rfl) fun _=>
  Q0h (fun _=>Q4D ho m _ _ (Q0H w) fun e he=>by
   rcases List.mem_append.1 he with he|he
   ·exact hp e he
   ·rw[List.mem_singleton.1 he];exact ⟨hn,hs,hw⟩) fun _=>QeH ho hs hw hp
theorem Q6m {o:Op} (ho:o.B):∀(f:Nat),(Q1K o f).Ok (fun r=>r.list=[])
 |0=>rfl
 |f+1=>fun b=>Q0h (fun _=>rfl) fun _=>Q07 (Q4D ho f 1 [] Q10 (fun e he=>by cases he)) fun r hr=>Q0h (fun _=>hr) fun _=>Q6m ho f
def Prog.Dp {α:Type}:Prog α->Nat->(α->Nat->Prop)->Prop
 |_,0,_=>True
 |.ret a,n+1,Q=>Q a (n+1)
 |.ask _ k,n+1,Q=>∀v,(k v).Dp n Q
 |.chk k,n+1,Q=>(k false).Dp (n+1) Q
 |.stuck _,_+1,_=>False
section
variable {α β:Type} {Q Q':α->Nat->Prop} {R:β->Nat->Prop} {n:Nat}
theorem Q6j {a:α} (h:0<n->Q a n):(Prog.ret a).Dp n Q:=by
 cases n with
 |zero=>trivial
 |succ n=>exact h (by omega)
theorem Qfu {k:Bool->Prog α} (h:(k false).Dp n Q):(Prog.chk k).Dp n Q:=by
 cases n with
 |zero=>trivial
 |succ n=>exact h
theorem Qgz {q:Ask} {k:Int->Prog α} (h:∀m,m+1=n->∀v,(k v).Dp m Q):(Prog.ask q k).Dp n Q:=by
 cases n with
 |zero=>trivial
 |succ n=>exact h n rfl
theorem Q3e:∀{p:Prog α} {n:Nat},p.Dp n Q->(∀a m,m<=n->0<m->Q a m->Q' a m)->p.Dp n Q'
 |_,0,_,_=>by unfold Prog.Dp;trivial
 |.ret a,n+1,h,i=>i a _ (Nat.le_refl _) (by omega) h
 |.ask q k,n+1,h,i=>fun v=>Q3e (p:=k v) (n:=n) (h v) fun a m hm=>i a m (by omega)
 |.chk k,n+1,h,i=>Q3e (p:=k false) (n:=n+1) h i
 |.stuck _,n+1,h,_=>h.elim
theorem Q51 {f:α->Prog β}:∀{p:Prog α} {n:Nat},p.Dp n (fun a m=>(f a).Dp m R)->(p.bind f).Dp n R
 |_,0,_=>by unfold Prog.Dp;trivial
 |.ret a,n+1,h=>h
 |.ask q k,n+1,h=>fun v=>Q51 (p:=k v) (n:=n) (h v)
 |.chk k,n+1,h=>Q51 (p:=k false) (n:=n+1) h
 |.stuck _,n+1,h=>h.elim
def Prog.D {α:Type} (p:Prog α) (n:Nat):Prop:=p.Dp n fun _ m=>m<=n
def Prog.D1 {α:Type} (p:Prog α) (n:Nat):Prop:=p.Dp n fun _ m=>m<n
theorem Prog.D1.le {p:Prog α} (h:p.D1 n):p.D n:=Q3e h fun _ _ _ _ e=>Nat.le_of_lt e
theorem Q0s {a:α}:(Prog.ret a).D n:=Q6j fun _=>Nat.le_refl _
theorem Prog.D.bind {p:Prog α} {f:α->Prog β} (h:p.D n) (i:∀a m,m<=n->(f a).D m):(p.bind f).D n:=
 Q51 (Q3e h fun a m _ _ hm=>Q3e (i a m hm) fun _ k _ _ hk=>Nat.le_trans hk hm)
theorem Prog.D1.bind {p:Prog α} {f:α->Prog β} (h:p.D1 n) (i:∀a m,m<n->(f a).D m):(p.bind f).D1 n:=
 Q51 (Q3e h fun a m _ _ hm=>Q3e (i a m hm) fun _ k _ _ hk=>Nat.lt_of_le_of_lt hk hm)
theorem Prog.D1.bindl {p:Prog α} {f:α->Prog β} (h:p.D1 n) (i:∀a m,m<n->(f a).D m):(p.bind f).D n:=Prog.D1.le (Prog.D1.bind h i)
theorem Q0w {c:Prop} [Decidable c] {p q:Prog α} (h:c->p.D n) (i:¬c->q.D n):(if c then p else q).D n:=by split;exact h ‹_›;exact i ‹_›
theorem QfA {c:Prop} [Decidable c] {p q:Prog α} (h:c->p.D1 n) (i:¬c->q.D1 n):(if c then p else q).D1 n:=by split;exact h ‹_›;exact i ‹_›
theorem Q2x {k:Bool->Prog α} (h:∀b,(k b).D n):(Prog.chk k).D n:=Qfu (h false)
theorem QgE {k:Bool->Prog α} (h:(k false).D1 n):(Prog.chk k).D1 n:=Qfu h
end
section
variable {n:Nat}
theorem QdC {α:Type} {q:Ask} {k:Int->α}:(Prog.ask q fun v=>.ret (k v)).D1 n:=Qgz fun m hm v=>Q6j fun _=>by omega
theorem d_read {a:Int}:(Q0e a).D1 n:=QdC (k:=fun v=>v)
theorem d_write {a x:Int}:(Q2p a x).D1 n:=QdC (k:=fun _=>())
theorem d_cas {a x y:Int}:(Q33 a x y).D1 n:=QdC (k:=fun v=>v==1)
theorem d_add {a x:Int}:(Qed a x).D1 n:=QdC (k:=fun v=>v)
theorem d_make {ws:List Int} {t:Int}:(Q1G ws t).D1 n:=QdC (k:=fun v=>v)
theorem d_peek {s:Int}:(Q2V s).D1 n:=d_read.bind fun w m _=>Q0w (fun _=>d_read.bindl fun o _ _=>Q0w (fun _=>d_read.le) fun _=>d_read.le) fun _=>Q0s
theorem d_help {a:Int}:(Q6D a).D1 n:=d_read.bind fun _ _ _=>d_read.bindl fun _ _ _=>d_cas.bindl fun _ _ _=>d_read.bindl fun _ _ _=>d_read.bindl fun _ _ _=>Prog.D1.bindl (QfA (fun _=>d_read) fun _=>d_read) fun _ _ _=>d_cas.bindl fun _ _ _=>Q0s
theorem Qaw {s:Int}:∀(f n:Nat) (w:Int),n<=f->(Q3j s f w).D n
 |0,n,w,h=>by
   obtain rfl:n=0:=by omega
   unfold Prog.D Prog.Dp;trivial
 |f+1,n,w,h=>Q2x fun off=>Q0w (fun _=>d_help.bindl fun _ m hm=>d_read.bindl fun w' k hk=>Qaw f k w' (by omega)) fun _=>Q0s
theorem Qfv {f:Nat} {s:Int} (h:n<=f+1):(Q4M f s).D1 n:=d_read.bind fun w m hm=>Qaw f m w (by omega)
theorem d_dcss {t g p o x:Int}:(Q1m t g p o x).D1 n:=d_make.bind fun a _ _=>Q0w (fun _=>Q0s) fun _=>d_cas.bindl fun b _ _=>Q0w (fun _=>Q0s) fun _=>d_read.bindl fun _ _ _=>d_cas.bindl fun _ _ _=>d_read.bindl fun _ _ _=>Q0w (fun _=>d_cas.bindl fun _ _ _=>Q0s) fun _=>d_cas.bindl fun _ _ _=>Q0s
theorem Qfz {a k d:Int}:∀(f n:Nat) (i:Int),(Q1J a k d f i).D n
 |0,n,i=>Q0s
 |f+1,n,i=>Q2x fun off=>Q0w (fun _=>d_read.bindl fun q m _=>Q0w (fun _=>Q0s) fun _=>Qfz f m _) fun _=>Q0s
theorem QgY {a k d m0:Int}:∀(f n:Nat) (i:Int),(Q4G a k d m0 f i).D n
 |0,n,i=>Q0s
 |f+1,n,i=>Q2x fun off=>Q0w (fun _=>d_read.bindl fun q m _=>Q0w (fun _=>Q0s) fun _=>QgY f m _) fun _=>Q0s
theorem Qgc {a k d m f l:Int}:(Q4y a k d m f l).D n:=Q2x fun off=>Q0w (fun _=>Q0s) fun _=>Q0w (fun _=>d_read.bindl fun q _ _=>Q0w (fun _=>Qfz _ _ _) fun _=>QgY _ _ _) fun _=>QgY _ _ _
theorem d_route {a k:Int}:(Q1B a k).D1 n:=d_read.bind fun d _ _=>Q0w (fun _=>Q0s) fun _=>d_read.bindl fun f _ _=>Q0w (fun _=>Q0s) fun _=>Q0w (fun _=>Q0s) fun _=>d_read.bindl fun l _ _=>Q0w (fun _=>Q0s) fun _=>Qgc
theorem d_child {a k:Int}:(Q24 a k).D1 n:=d_route.bind fun _ _ _=>Q0s
theorem Qdz {k:Int}:∀(f n:Nat) (a:Int),n<=f->(Q4m k f a).D n
 |0,n,a,h=>by
   obtain rfl:n=0:=by omega
   unfold Prog.D Prog.Dp;trivial
 |f+1,n,a,h=>Q2x fun off=>Q0w (fun _=>Q0s) fun _=>d_child.bindl fun s m hm=>d_peek.bindl fun w m2 hm2=>
   Q0w (fun _=>d_read.bindl fun q _ _=>Q0w (fun _=>d_read.bindl fun _ _ _=>Q0s) fun _=>Q0s) fun _=>Q0w (fun _=>Qdz f m2 _ (by omega)) fun _=>Q0w (fun _=>d_read.bindl fun t m3 hm3=>Qdz f m3 _ (by omega)) fun _=>Q0s
theorem d_meets {x:WQ} {a:Int} {st:WAcc}:(Q43 x a st).D1 n:=d_read.bind fun q _ _=>Q0w (fun _=>Q0s) fun _=>Prog.D.bind (Q0w (fun _=>d_read.le) fun _=>Q0s) fun _ _ _=>Q0s
theorem Q7W {x:WQ} {thr:Int->WAcc->Prog (WAcc×Bool)} {N:Nat} (ht:∀a st m,m<N->(thr a st).D m) {nn:Int}:∀(f n:Nat) (d i:Int) (st:WAcc),n<=N->n<=f->(Q1f x thr f nn d i st).D n
 |0,n,d,i,st,_,h=>by
   obtain rfl:n=0:=by omega
   unfold Prog.D Prog.Dp;trivial
 |f+1,n,d,i,st,hN,h=>Q2x fun off=>Q0w (fun _=>Q0s) fun _=>d_peek.bindl fun w m hm=>Q2x fun off2=>Q0w (fun _=>Q0s) fun _=>
   Prog.D.bind (Q0w (fun _=>d_meets.le) fun _=>Q0w (fun _=>ht _ _ _ (by omega)) fun _=>Q0w (fun _=>d_read.bindl fun t m2 hm2=>ht _ _ _ (by omega)) fun _=>Q0s) fun r m2 hm2=>
   Q0w (fun _=>Q0s) fun _=>Q0w (fun _=>Q0w (fun _=>Q0s) fun _=>d_read.bindl fun q m3 hm3=>Q0w (fun _=>Q0s) fun _=>Q7W ht f m3 _ _ _ (by omega) (by omega)) fun _=>
   Q0w (fun _=>Q0s) fun _=>d_read.bindl fun q m3 hm3=>Q0w (fun _=>Q0s) fun _=>Q7W ht f m3 _ _ _ (by omega) (by omega)
theorem Q97 {x:WQ}:∀(f n:Nat) (a:Int) (st:WAcc),n<=f->(Q0q x f a st).D n
 |0,n,a,st,h=>by
   obtain rfl:n=0:=by omega
   unfold Prog.D Prog.Dp;trivial
 |f+1,n,a,st,h=>d_route.bindl fun r m hm=>Q7W (N:=m) (fun a st k hk=>Q97 f k a st (by omega)) (f+1) m _ _ _ (Nat.le_refl _) (by omega)
theorem QdF:∀(l:List (Int×Int)) (n:Nat),(Q46 l).D n
 |[],n=>Q0s
 |p::l,n=>Q2x fun off=>Q0w (fun _=>Q0s) fun _=>d_peek.bindl fun w m _=>Q0w (fun _=>QdF l m) fun _=>Q0s
theorem Qay {sf:Nat} {mk:Int->Prog Int} {N:Nat} (hm:∀a m,m<N->(mk a).D m) (hs:N<=sf) {nn d:Int}:∀(f n:Nat) (i all:Int),n<=N->n<=f->(Q23 sf mk f nn d i all).D n
 |0,n,i,all,_,h=>by
   obtain rfl:n=0:=by omega
   unfold Prog.D Prog.Dp;trivial
 |f+1,n,i,all,hN,h=>Q2x fun off=>Q0w (fun _=>Prog.D1.bindl (Qfv (by omega)) fun w m h1=>
   Prog.D.bind (Q0w (fun _=>Q0s) fun _=>Q0w (fun _=>Prog.D.bind (hm _ _ (by omega)) fun _ _ _=>Q0s) fun _=>Q0w (fun _=>d_read.bindl fun t m2 h2=>Prog.D.bind (hm _ _ (by omega)) fun _ _ _=>Q0s) fun _=>Q0s) fun all' m2 h2=>Qay hm hs f m2 _ _ (by omega) (by omega)) fun _=>Q0s
theorem Qfx:∀(f n:Nat) (a:Int),n<=f->(Q2v f a).D n
 |0,n,a,h=>by
   obtain rfl:n=0:=by omega
   unfold Prog.D Prog.Dp;trivial
 |f+1,n,a,h=>d_read.bindl fun s m hm=>Q0w (fun _=>d_write.bindl fun _ m2 h2=>d_read.bindl fun d m3 h3=>Prog.D.bind (Qay (N:=m3) (fun a k hk=>Qfx f k a (by omega)) (by omega) (f+1) m3 _ _ (Nat.le_refl _) (by omega)) fun _ _ _=>d_write.bindl fun _ _ _=>Q0s) fun _=>Q0s
theorem Q3W {gt:Int->Int->Int->List (Int×Int)->Prog (List (Int×Int))} {N:Nat} (hg:∀a b c o m,m<N->(gt a b c o).D m) {nn d fr to:Int}:∀(f n:Nat) (i rank:Int) (out:List (Int×Int)),n<=N->n<=f->(Q0Y gt f nn d fr to i rank out).D n
 |0,n,i,rank,out,_,h=>by
   obtain rfl:n=0:=by omega
   unfold Prog.D Prog.Dp;trivial
 |f+1,n,i,rank,out,hN,h=>Q2x fun off=>Q0w (fun _=>d_peek.bindl fun w m hm=>
   Q0w (fun _=>Prog.D.bind (Q0w (fun _=>d_read.bindl fun _ _ _=>d_read.bindl fun _ _ _=>Q0s) fun _=>Q0s) fun o m2 h2=>Q3W hg f m2 _ _ _ (by omega) (by omega)) fun _=>
   Q0w (fun _=>Prog.D.bind (Q0w (fun _=>d_read.bindl fun _ _ _=>Q0s) fun _=>Q0s) fun a m2 h2=>d_read.bindl fun s m3 h3=>Prog.D.bind (Q0w (fun _=>hg _ _ _ _ _ (by omega)) fun _=>Q0s) fun o m4 h4=>Q3W hg f m4 _ _ _ (by omega) (by omega)) fun _=>Q3W hg f m _ _ _ (by omega) (by omega)) fun _=>Q0s
theorem Q7X:∀(f n:Nat) (a fr to:Int) (out:List (Int×Int)),n<=f->(Q0Q f a fr to out).D n
 |0,n,a,fr,to,out,h=>by
   obtain rfl:n=0:=by omega
   unfold Prog.D Prog.Dp;trivial
 |f+1,n,a,fr,to,out,h=>d_read.bindl fun d m hm=>Q3W (N:=m) (fun a b c o k hk=>Q7X f k a b c o (by omega)) (f+1) m _ _ _ (Nat.le_refl _) (by omega)
theorem Qaz {gr:List (Int×Int)->Prog (Int×Bool)} {l:List (Int×Int)} (hg:∀i n,0<=i->i<Q00 l.length->(gr (Q6I l (Q0R l.length i) (Q14 l.length i))).D n):∀(m n:Nat) (i:Int) (q c:List Int),0<=i->i+m=Q00 l.length->(Q2F gr l m i q c).D n
 |0,n,i,q,c,_,_=>d_make.bindl fun _ _ _=>Q0s
 |m+1,n,i,q,c,h0,h1=>Prog.D.bind (hg i n h0 (by omega)) fun r k _=>Q0w (fun _=>Q0s) fun _=>Qaz hg m k _ _ _ (by omega) (by omega)
theorem Qfy:∀(f n:Nat) (l:List (Int×Int)),l.length<f->(Q2b f l).D n
 |0,n,l,h=>absurd h (by omega)
 |f+1,n,l,h=>Q0w (fun _=>d_make.bindl fun _ _ _=>Q0s) fun h0=>Q0w (fun _=>d_make.bindl fun _ _ _=>Q0s) fun h1=>by
   have hd:=Q1q l.length;refine Qaz (fun i k i0 i1=>Qfy f k _ ?_) _ _ _ _ _ (Int.le_refl _) (by omega);have h2:2<=(l.length:Int):=by omega
   have h3:(l.length:Int)<=16384:=by
    rcases Int.lt_or_le 16384 (l.length:Int) with e|e
    ·have:Q00 l.length=0:=if_pos (.inr e);omega
    ·exact e
   have:=(Q26 h2 h3 i0 i1).2;unfold Q6I
   rw[List.length_take]
   omega
theorem QdD {l:List (Int×Int)}:(Q8W l).D n:=Qfy _ _ _ (by omega)
theorem QgZ {f:Nat} {t k:Int} (h:n<=f):(Qe6 f t k).D n:=Q0w (fun _=>d_make.bindl fun _ _ _=>Q0s) fun _=>Prog.D.bind (Q0w (fun _=>Q7X f n _ _ _ _ h) fun _=>Q0s) fun p m hm=>Q2x fun off=>Q0w (fun _=>Q0s) fun _=>QdD
theorem Qfw {f:Nat} {t k x d i:Int} (h:n<=f):(Q5r f t k x d i).D n:=Prog.D.bind (Q7X f n _ _ _ _ h) fun p m hm=>Q2x fun off=>Q0w (fun _=>Q0s) fun _=>Prog.D.bind QdD fun r m2 _=>Q0w (fun _=>Q0s) fun _=>Prog.D.bind (Q0w (fun _=>d_write.le) fun _=>Q0s) fun _ _ _=>d_cas.bindl fun _ _ _=>Q0s
theorem QdE {a t k x d:Int}:∀(f n:Nat),n<=f->(Q2N a t k x d f).D n
 |0,n,h=>by
   obtain rfl:n=0:=by omega
   unfold Prog.D Prog.Dp;trivial
 |f+1,n,h=>Q2x fun off=>Q0w (fun _=>Q0s) fun _=>d_add.bindl fun i m hm=>Q0w (fun _=>Q0s) fun _=>Q2x fun off2=>Q0w (fun _=>Q0s) fun _=>Prog.D.bind (Qfw (by omega)) fun ok m2 h2=>Q0w (fun _=>Q0s) fun _=>QdE f m2 (by omega)
theorem QdA {f:Nat} {t k x d:Int}:∀(m n:Nat) (j:Int),n<=f->(Q3k f t k x d m j).D n
 |0,n,j,h=>Q0s
 |m+1,n,j,h=>Q2x fun off=>Q0w (fun _=>Q0s) fun _=>d_read.bindl fun c m1 h1=>Q2x fun off2=>Q0w (fun _=>QdA m m1 _ (by omega)) fun _=>Prog.D.bind (Qfw (by omega)) fun ok m2 h2=>Q0w (fun _=>Q0s) fun _=>QdA m m2 _ (by omega)
theorem Qgb {f:Nat} {a t k x:Int} (h:n<=f):(Q2u f a t k x).D n:=Prog.D.bind (QdE f n h) fun ok m hm=>Q0w (fun _=>Q0s) fun _=>QdA _ _ _ (by omega)
theorem QdB {f:Nat} {a:Int} (h:n<=f+1):(Q2A f a).D1 n:=d_read.bind fun t m hm=>Prog.D.bind (Qfx f m _ (by omega)) fun k m2 h2=>d_read.bindl fun w m3 h3=>Q2x fun off=>Q0w (fun _=>Q0s) fun _=>
 Prog.D.bind (Q0w (fun _=>Prog.D.bind (QgZ (by omega)) fun r m4 h4=>Q0w (fun _=>Q0s) fun _=>d_cas.bindl fun _ _ _=>d_read.bindl fun _ _ _=>Q0s) fun _=>Q0s) fun r m4 h4=>Q0w (fun _=>Q0s) fun _=>
 Prog.D.bind (Q0w (fun _=>Qgb (by omega)) fun _=>Q0s) fun ok m5 h5=>Q0w (fun _=>Q0s) fun _=>d_read.bindl fun g _ _=>d_read.bindl fun s _ _=>d_dcss.bindl fun o _ _=>Q0s
theorem Qg9 {f:Nat} {e:Entry} (h:n<=f):(Q4j f e).D n:=d_make.bindl fun a m hm=>Q0w (fun _=>Q0s) fun _=>d_dcss.bindl fun o m2 h2=>Q0w (fun _=>(QdB (by omega)).le) fun _=>Q0w (fun _=>Q0s) fun _=>Q0s
theorem Qdy {f:Nat}:∀(l:List Entry) (n:Nat) (first:Option Entry),n<=f->(Q0J f l first).D n
 |[],n,first,h=>Q2x fun off=>Q0w (fun _=>Q0s) fun _=>by
   cases first with
   |none=>exact Q0s
   |some e=>exact Prog.D.bind (Qg9 h) fun _ _ _=>Q0s
 |e::l,n,first,h=>Q2x fun off=>Q0w (fun _=>Q0s) fun _=>d_add.bindl fun c m hm=>d_read.bindl fun s m2 h2=>Qdy l m2 _ (by omega)
theorem Qgd {o:Op} {w q:Int} {a b:Bool}:(Q1w o w q a b).D n:=Q0w (fun _=>d_make.bindl fun _ _ _=>Q0s) fun _=>d_make.bindl fun _ _ _=>Q0w (fun _=>Q0s) fun _=>d_make.bindl fun _ _ _=>Q0s
theorem Qh0 {f:Nat} {o:Op} {k s w:Int} {path:List Entry} (h:n<=f):(Qe9 f o k s w path).D n:=
 Prog.D.bind (Q0w (fun _=>d_read.bindl fun q _ _=>Q0w (fun _=>d_read.bindl fun _ _ _=>Q0s) fun _=>Q0s) fun _=>Q0s) fun r m hm=>Q2x fun off=>Q0w (fun _=>Q0s) fun _=>
 Prog.D.bind Qgd fun x m2 h2=>Q0w (fun _=>Q0s) fun _=>d_dcss.bindl fun d m3 h3=>Q0w (fun _=>Q0s) fun _=>Prog.D.bind (Q0w (fun _=>Qdy _ _ _ (by omega)) fun _=>Q0s) fun _ _ _=>Q0s
theorem Q98 {f:Nat} {o:Op}:∀(m n:Nat) (a:Int) (path:List Entry),n<=f->n<=m->(Q13 f o m a path).D1 n
 |0,n,a,path,_,h=>by
   obtain rfl:n=0:=by omega
   unfold Prog.D1 Prog.Dp;trivial
 |m+1,n,a,path,hf,h=>QgE (QfA (fun e=>absurd e (by decide)) fun _=>d_child.bind fun s k hk=>Prog.D1.bindl (Qfv (by omega)) fun w k2 h2=>
   Q0w (fun _=>Prog.D1.bindl (QdB (by omega)) fun ok _ _=>Q0w (fun _=>Q0s) fun _=>Q0s) fun _=>Q0w (fun _=>(Q98 m k2 _ _ (by omega) (by omega)).le) fun _=>Qh0 (by omega))
theorem QaA {o:Op}:∀(f n:Nat),n=0\/n<f->(Q1K o f).D n
 |0,n,h=>by
   obtain rfl:n=0:=by omega
   unfold Prog.D Prog.Dp;trivial
 |f+1,n,h=>Q2x fun off=>Q0w (fun _=>Q0s) fun _=>Prog.D1.bindl (Q98 f n 1 [] (by omega) (by omega)) fun r m hm=>Q0w (fun _=>Q0s) fun _=>QaA f m (by omega)
theorem Qax {f:Nat} {o:Op}:∀(b n:Nat),n<=f->(Q27 f o b).D n
 |0,n,h=>Q0s
 |b+1,n,h=>Q2x fun off=>Q0w (fun _=>Q0s) fun _=>Prog.D.bind (Q97 f n _ _ h) fun r m hm=>Q2x fun off2=>Q0w (fun _=>Q0s) fun _=>Prog.D.bind (QdF _ _) fun same m2 h2=>Q0w (fun _=>Q0s) fun _=>Qax b m2 (by omega)
theorem Qga {f:Nat} {o:Op} {b:Int} (h:n<=f):(Q5k f o b).D n:=Q0w (fun _=>Prog.D.bind (Qdz f n 1 h) fun r _ _=>Q0w (fun _=>Q0s) fun _=>Q0s) fun _=>Qax _ _ h
end
structure RunQ (F:Nat->Prop) (rb:Nat) (s:RunS) (tv wv:Value) (rec laid:Int) (w:World):Prop where
 fb:F rb
 blk:Blk w rb 145 #[tv,.int .i64 s.at_,.bool s.off,.int .i64 s.next.kind,.int .i64 s.next.a,.int .i64 s.next.x,.int .i64 s.next.y,wv,.int .i64 rec,.int .i64 laid]
 tape:w.ownsRow 0 2 1 tv s.tape.length (s.tape.map (Value.int .i64))
 ws:w.ownsRow 0 2 1 wv s.next.ws.length (s.next.ws.map (Value.int .i64))
 ft:∀g,tv.ownBlock=some g->F g
 fw:∀g,wv.ownBlock=some g->F g
def RunP (F:Nat->Prop) (rb:Nat) (s:RunS) (w:World):Prop:=∃tv wv rec laid,RunQ F rb s tv wv rec laid w
def RAt (F:Nat->Prop) (rb:Nat) (w0:World) (s:RunS) (w:World):Prop:=RunP (fun x=>F x\/w0.heap.size<=x) rb s w/\Chg (fun x=>x=rb) w0 w
section
variable {F G:Nat->Prop} {rb:Nat} {s s':RunS} {tv wv:Value} {rec laid:Int} {w0 w w':World}
theorem RunQ.mono (h:RunQ F rb s tv wv rec laid w) (hs:∀x,F x->G x):RunQ G rb s tv wv rec laid w:=⟨hs _ h.fb,h.blk,h.tape,h.ws,fun g hg=>hs _ (h.ft g hg),fun g hg=>hs _ (h.fw g hg)⟩
theorem RunP.mono (h:RunP F rb s w) (hs:∀x,F x->G x):RunP G rb s w:=by
 obtain ⟨tv,wv,rec,laid,h⟩:=h;exact ⟨tv,wv,rec,laid,h.mono hs⟩
theorem RunQ.chg (h:RunQ F rb s tv wv rec laid w) (m:Chg G w w') (hd:∀x,F x->G x->False):RunQ F rb s tv wv rec laid w':=
 ⟨h.fb,m.blk h.blk (fun e=>hd _ h.fb e),m.own h.tape (fun g hg e=>hd _ (h.ft g hg) e),m.own h.ws (fun g hg e=>hd _ (h.fw g hg) e),h.ft,h.fw⟩
theorem RunP.chg (h:RunP F rb s w) (m:Chg G w w') (hd:∀x,F x->G x->False):RunP F rb s w':=by
 obtain ⟨tv,wv,rec,laid,h⟩:=h;exact ⟨tv,wv,rec,laid,h.chg m hd⟩
theorem RunP.below (h:RunP F rb s w) (hb:Below w.heap.size w w'):RunP F rb s w':=h.chg (G:=fun _=>False) (Chg.of_below hb) (fun _ _ hg=>hg)
theorem RunP.lt (h:RunP F rb s w):rb<w.heap.size:=by obtain ⟨tv,wv,rec,laid,h⟩:=h;exact h.blk.lt
theorem RAt.refl (h:RunP F rb s w):RAt F rb w s w:=⟨h.mono (fun _=>.inl),Chg.refl _ _⟩
theorem RAt.below (h:RAt F rb w0 s w) (hb:Below w.heap.size w w'):RAt F rb w0 s w':=⟨h.1.below hb,h.2.trans (Chg.of_below hb)⟩
theorem RAt.lt (h:RAt F rb w0 s w):rb<w.heap.size:=h.1.lt
theorem RAt.drew (h:RAt F rb w0 s w):RAt F rb w0 s w.drew:=h.below (Q08 (Drawn.of w 1) _)
theorem RAt.off (h:RAt F rb w0 s w):w.cell? ⟨rb,2,none⟩=some (.bool s.off):=by
 obtain ⟨tv,wv,rec,laid,h⟩:=h.1;exact h.blk.cell 2
end
section
variable (F:Nat->Prop) (rb:Nat) (w0:World)
theorem Q4E (s:RunS) (q:Ask) (qv:Value) (w:World) (h:RAt F rb w0 s w) (hs:s.Bd) (hq:w.ownsRow 0 2 1 qv q.ws.length (q.ws.map (Value.int .i64))) (hn:∀g,qv.ownBlock=some g->w0.heap.size<=g):
  Calls Tryz.prog 259 #[.pointer (some ⟨rb,0,none⟩),.agg #[.int .i64 q.kind,.int .i64 q.a,.int .i64 q.x,.int .i64 q.y,qv]] w fun e w'=>e=.returned (.int .i64 (Q3h q s).1)/\RAt F rb w0 (Q3h q s).2 w':=by
 obtain ⟨qA,qc,rfl⟩:=Q03 hq;have hb1:=(Below.refl w.heap.size w).alloc (Nat.le_refl _) (.cells #[.int .i64 q.kind,.int .i64 q.a,.int .i64 q.x,.int .i64 q.y,(.slice qA q.ws.length qc)] 143);have hQ1:=Blk.new w 143 #[.int .i64 q.kind,.int .i64 q.a,.int .i64 q.x,.int .i64 q.y,(.slice qA q.ws.length qc)];have hP1:=h.below hb1;have hq1:=Q0n hq hb1;have hqlt:=Q0T hq;have hblt:=h.lt;have HQ:=LH hQ1;have HO:=LH hq1;have HN:=LH hn;clear hQ1 hq1 hn;clear hb1 hq h;by_cases h1:s.off=true
 ·have HA:=LH (Q5A (q:=q) h1);have c2:=hP1.off
  rw[h1] at c2
  have HP:=LH hP1;clear hP1;clear h1;go_enter Tryz.func259,Tryz.ntmps259;go_wp2_with (fail);go_ret
  rw[HA.out]
  exact ⟨rfl,HP.out⟩
 ·have h1':s.off=false:=by simpa using h1
  have hl:=hs.len;have ha:=hs.at_;have HS:Hid (RAt F rb w0 s _):=LH hP1;clear hP1;by_cases h2:s.at_<s.tape.length
  ·have HA:=LH (show Q3h q s=(keyAt s.tape s.at_,{s with at_:=s.at_+1}) by unfold Q3h;rw[if_neg h1,if_pos h2]);have c2:=HS.out.off
   rw[h1'] at c2
   have c0:∃A c,(w.alloc (.cells #[.int .i64 q.kind,.int .i64 q.a,.int .i64 q.x,.int .i64 q.y,(.slice qA q.ws.length qc)] 143)).cell? ⟨rb,0,none⟩=some (.slice A s.tape.length c):=by
    obtain ⟨⟨tv,wv,rec,laid,hp⟩,_⟩:=HS.out;obtain ⟨A,c,rfl⟩:=Q03 hp.tape;exact ⟨A,c,hp.blk.cell 0⟩
   have c1:(w.alloc (.cells #[.int .i64 q.kind,.int .i64 q.a,.int .i64 q.x,.int .i64 q.y,(.slice qA q.ws.length qc)] 143)).cell? ⟨rb,1,none⟩=some (.int .i64 s.at_):=by
    obtain ⟨⟨tv,wv,rec,laid,hp⟩,_⟩:=HS.out;exact hp.blk.cell 1
   obtain ⟨A,c,c0⟩:=c0;have h2i:(s.at_:Int)<s.tape.length:=by omega
   clear h1;go_enter Tryz.func259,Tryz.ntmps259;go_wp2_with (fail);generalize w.alloc (.cells #[.int .i64 q.kind,.int .i64 q.a,.int .i64 q.x,.int .i64 q.y,(.slice qA q.ws.length qc)] 143)=w1 at HS HQ HO c0 c1 c2|-
   go_quiet (fail)
   have HSd:Hid (RAt F rb w0 s (w1.drewN nq)):=LH (HS.out.below (Q08 (Drawn.of _ _) _));generalize w1.drewN nq=w2 at HSd|-;clear c0 c1 c2 HS HQ HO;obtain ⟨⟨tv,wv,rec,laid,hp⟩,hc⟩:=HSd.out;have c1:w2.cell? ⟨rb,1,none⟩=some (.int .i64 s.at_):=hp.blk.cell 1;have f1:=hp.blk.frozen 1;have hc2:=Chg.of_mv (F:=fun x=>x=rb) (Mv.set1 w2 rb 1 (.int .i64 ((s.at_:Int)+1))) rfl;have ht2:=hc2.own hp.tape (Q0t hp.tape hp.blk (by decide));have HW:Hid (RAt F rb w0 {s with at_:=s.at_+1} (w2.setCell ⟨rb,1,none⟩ (.int .i64 ((s.at_:Int)+1)))):=LH ⟨⟨tv,wv,rec,laid,hp.fb,hp.blk.set_ 1 _,ht2,hc2.own hp.ws (Q0t hp.ws hp.blk (by decide)),hp.ft,hp.fw⟩,hc.trans hc2⟩;obtain ⟨A,c,rfl⟩:=Q03 hp.tape;have d0:(w2.setCell ⟨rb,1,none⟩ (.int .i64 ((s.at_:Int)+1))).cell? ⟨rb,0,none⟩=some (.slice A s.tape.length c):=(hp.blk.set_ 1 _).cell 0;have d1:(w2.setCell ⟨rb,1,none⟩ (.int .i64 ((s.at_:Int)+1))).cell? ⟨rb,1,none⟩=some (.int .i64 ((s.at_:Int)+1)):=(hp.blk.set_ 1 _).cell 1;obtain ⟨ad,rfl,_,hce⟩:=(IntsAt.of_own ht2).2.cells (by omega);have hx:=hce s.at_ h2;clear hp hc HSd hc2 ht2 hce;go_wp2_with (fail);generalize w2.setCell ⟨rb,1,none⟩ (.int .i64 ((s.at_:Int)+1))=w3 at HW d0 d1 hx|-;clear c1 f1;have e1:(s.at_:Int)+1-1=s.at_:=by omega
   have e2:IntKind.i64.wrap ((s.at_:Int)+1-1)=s.at_:=by rw[e1];exact IntWalk.i64_in _ (by omega)
   have e3:(0:Int)<=s.at_:=by omega
   have e4:((s.at_:Int)).toNat=s.at_:=by omega
   go_quiet (fail)
   go_wp2_with (fail);go_ret
   rw[HA.out]
   exact ⟨rfl,HW.out.below (Q08 (Drawn.of _ _) _)⟩
  ·have HA:=LH (show Q3h q s=(0,{s with off:=true,next:=q}) by unfold Q3h;rw[if_neg h1,if_neg h2]);have c2:=HS.out.off
   rw[h1'] at c2
   have c0:∃A c,(w.alloc (.cells #[.int .i64 q.kind,.int .i64 q.a,.int .i64 q.x,.int .i64 q.y,(.slice qA q.ws.length qc)] 143)).cell? ⟨rb,0,none⟩=some (.slice A s.tape.length c):=by
    obtain ⟨⟨tv,wv,rec,laid,hp⟩,_⟩:=HS.out;obtain ⟨A,c,rfl⟩:=Q03 hp.tape;exact ⟨A,c,hp.blk.cell 0⟩
   have c1:(w.alloc (.cells #[.int .i64 q.kind,.int .i64 q.a,.int .i64 q.x,.int .i64 q.y,(.slice qA q.ws.length qc)] 143)).cell? ⟨rb,1,none⟩=some (.int .i64 s.at_):=by
    obtain ⟨⟨tv,wv,rec,laid,hp⟩,_⟩:=HS.out;exact hp.blk.cell 1
   obtain ⟨A,c,c0⟩:=c0;have h2i:¬(s.at_:Int)<s.tape.length:=by omega
   clear h1;go_enter Tryz.func259,Tryz.ntmps259;go_wp2_with (fail);generalize w.alloc (.cells #[.int .i64 q.kind,.int .i64 q.a,.int .i64 q.x,.int .i64 q.y,(.slice qA q.ws.length qc)] 143)=w1 at HS HQ HO c0 c1 c2|-;generalize w.heap.size=qb at HQ hqlt|-
   go_quiet (fail)
   have HSd:Hid (RAt F rb w0 s (w1.drewN nq)):=LH (HS.out.below (Q08 (Drawn.of _ _) _));have HQd:=LH (HQ.out.below (Q08 (Drawn.of w1 nq) _) HQ.out.lt);have HOd:=LH (Q0n HO.out (Q08 (Drawn.of w1 nq) _));generalize w1.drewN nq=w2 at HSd HQd HOd|-;clear c0 c1 c2 HS HQ HO;obtain ⟨⟨tv,wv,rec,laid,hp⟩,hc⟩:=HSd.out;obtain ⟨wA,wc,rfl⟩:=Q03 hp.ws;have hne:rb≠qb:=hp.blk.ne_ HQd.out (by decide);have c2:w2.cell? ⟨rb,2,none⟩=some (.bool s.off):=hp.blk.cell 2;have f2:=hp.blk.frozen 2;have hp3:=hp.blk.set_ 2 (.bool true);have hQ3:=HQd.out.far (p:=⟨rb,2,none⟩) (fun e=>hne (by simpa using e.symm)) (.bool true);have d3:(w2.setCell ⟨rb,2,none⟩ (.bool true)).cell? ⟨rb,3,none⟩=some (.int .i64 s.next.kind):=hp3.cell 3;have g3:=hp3.frozen 3;have d4:(w2.setCell ⟨rb,2,none⟩ (.bool true)).cell? ⟨rb,4,none⟩=some (.int .i64 s.next.a):=hp3.cell 4;have g4:=hp3.frozen 4;have d5:(w2.setCell ⟨rb,2,none⟩ (.bool true)).cell? ⟨rb,5,none⟩=some (.int .i64 s.next.x):=hp3.cell 5;have g5:=hp3.frozen 5;have d6:(w2.setCell ⟨rb,2,none⟩ (.bool true)).cell? ⟨rb,6,none⟩=some (.int .i64 s.next.y):=hp3.cell 6;have g6:=hp3.frozen 6;have d7:(w2.setCell ⟨rb,2,none⟩ (.bool true)).cell? ⟨rb,7,none⟩=some (.slice wA s.next.ws.length wc):=hp3.cell 7;have g7:=hp3.frozen 7;have q0:(w2.setCell ⟨rb,2,none⟩ (.bool true)).cell? ⟨qb,0,none⟩=some (.int .i64 q.kind):=hQ3.cell 0;have q1:(w2.setCell ⟨rb,2,none⟩ (.bool true)).cell? ⟨qb,1,none⟩=some (.int .i64 q.a):=hQ3.cell 1;have q2:(w2.setCell ⟨rb,2,none⟩ (.bool true)).cell? ⟨qb,2,none⟩=some (.int .i64 q.x):=hQ3.cell 2;have q3:(w2.setCell ⟨rb,2,none⟩ (.bool true)).cell? ⟨qb,3,none⟩=some (.int .i64 q.y):=hQ3.cell 3;have q4:(w2.setCell ⟨rb,2,none⟩ (.bool true)).cell? ⟨qb,4,none⟩=some ((.slice qA q.ws.length qc)):=hQ3.cell 4;have hc2:Chg (fun x=>x=rb) w2 ((((((w2.setCell ⟨rb,2,none⟩ (.bool true)).setCell ⟨rb,3,none⟩ (.int .i64 q.kind)).setCell ⟨rb,4,none⟩ (.int .i64 q.a)).setCell ⟨rb,5,none⟩ (.int .i64 q.x)).setCell ⟨rb,6,none⟩ (.int .i64 q.y)).setCell ⟨rb,7,none⟩ (.slice qA q.ws.length qc)):=Chg.of_mv ((((((Mv.set1 w2 rb 2 (.bool true)).trans_ (Mv.set1 _ rb 3 (.int .i64 q.kind))).trans_ (Mv.set1 _ rb 4 (.int .i64 q.a))).trans_ (Mv.set1 _ rb 5 (.int .i64 q.x))).trans_ (Mv.set1 _ rb 6 (.int .i64 q.y))).trans_ (Mv.set1 _ rb 7 (.slice qA q.ws.length qc))) rfl;have HW:Hid (RAt F rb w0 {s with off:=true,next:=q} ((((((w2.setCell ⟨rb,2,none⟩ (.bool true)).setCell ⟨rb,3,none⟩ (.int .i64 q.kind)).setCell ⟨rb,4,none⟩ (.int .i64 q.a)).setCell ⟨rb,5,none⟩ (.int .i64 q.x)).setCell ⟨rb,6,none⟩ (.int .i64 q.y)).setCell ⟨rb,7,none⟩ (.slice qA q.ws.length qc))):=LH ⟨⟨tv,(.slice qA q.ws.length qc),rec,laid,hp.fb,(((((hp3.set_ 3 (.int .i64 q.kind)).set_ 4 (.int .i64 q.a)).set_ 5 (.int .i64 q.x)).set_ 6 (.int .i64 q.y)).set_ 7 (.slice qA q.ws.length qc)),hc2.own hp.tape (Q0t hp.tape hp.blk (by decide)),hc2.own HOd.out (Q0t HOd.out hp.blk (by decide)),hp.ft,fun g hg=>.inr (HN.out g hg)⟩,hc.trans hc2⟩;clear hp hc HSd hp3 hQ3 hc2 HQd HOd;go_wp2_with (fail);go_ret
   rw[HA.out]
   exact ⟨rfl,HW.out⟩
end
theorem Qef {x:Int} (h:¬(8<x/\1<=x%8/\x%8<=5/\x/8<=65536)):wB x=false:=by
 cases hb:wB x with
 |false=>rfl
 |true=>have:=Q5G hb;omega
theorem QgT {x:Int} (h1:8<x) (h2:1<=x%8) (h3:x%8<=5) (h4:x/8<=65536):wB x=true:=by
 unfold wB
 rw[Bool.and_eq_true]
 exact ⟨decide_eq_true (by omega),Q4W h2 h3 (by omega) h4⟩
theorem Q2B (x:Int) (w:World) (x0:-9223372036854775808<=x) (x1:x<=9223372036854775807):Calls Tryz.prog 188 #[.int .i64 x] w fun e w'=>e=.returned (.bool (wB x))/\w=w':=by
 by_cases h1:8<x
 ·have hm:0<=x%8/\x%8<=7:=by omega
  have hd:0<=x/8:=by omega
  have hx:0<=x:=by omega
  have em:x.tmod 8=x%8:=by rw[Int.tmod_eq_emod_of_nonneg hx]
  have ed:x.tdiv 8=x/8:=by rw[Int.tdiv_eq_ediv_of_nonneg hx]
  by_cases h2:1<=x%8
  ·by_cases h3:x%8<=5
   ·by_cases h4:x/8<=65536
    ·have HB:=LH (QgT h1 h2 h3 h4);go_enter Tryz.func188,Tryz.ntmps188;go_wp2_with (fail);go_ret
     rw[HB.out]
     exact ⟨rfl,rfl⟩
    ·have HB:=LH (Qef (x:=x) (by omega));go_enter Tryz.func188,Tryz.ntmps188;go_wp2_with (fail);go_ret
     rw[HB.out]
     exact ⟨rfl,rfl⟩
   ·have HB:=LH (Qef (x:=x) (by omega));go_enter Tryz.func188,Tryz.ntmps188;go_wp2_with (fail);go_ret
    rw[HB.out]
    exact ⟨rfl,rfl⟩
  ·have HB:=LH (Qef (x:=x) (by omega));go_enter Tryz.func188,Tryz.ntmps188;go_wp2_with (fail);go_ret
   rw[HB.out]
   exact ⟨rfl,rfl⟩
 ·have HB:=LH (Qef (x:=x) (by omega));go_enter Tryz.func188,Tryz.ntmps188;go_wp2_with (fail);go_ret
  rw[HB.out]
  exact ⟨rfl,rfl⟩
theorem Q0A (x:Int) (w:World) (x0:-9223372036854775808<=x) (x1:x<=9223372036854775807):Calls Tryz.prog 141 #[.int .i64 x] w fun e w'=>e=.returned (.int .i64 (Q05 x))/\w=w':=by
 cases hb:wB x with
 |true=>
  have h:=Q5G hb;have HK:=LH (show Q05 x=x%8 by unfold Q05;rw[hb];rfl);have em:x.tmod 8=x%8:=by rw[Int.tmod_eq_emod_of_nonneg (by omega)]
  have h8:0<=x:=by omega
  have HB:=LH hb;clear hb;clear h;go_enter Tryz.func141,Tryz.ntmps141;go_wp2_with (fail);with_reducible refine (Q2B x _ x0 x1).mono ?_
  rintro e w1 ⟨rfl,rfl⟩
  rw[HB.out]
  go_wp2_with (fail);go_ret
  rw[HK.out]
  exact ⟨rfl,rfl⟩
 |false=>
  have HK:=LH (show Q05 x=0 by unfold Q05;rw[hb];rfl);have HB:=LH hb;clear hb;go_enter Tryz.func141,Tryz.ntmps141;go_wp2_with (fail);with_reducible refine (Q2B x _ x0 x1).mono ?_
  rintro e w1 ⟨rfl,rfl⟩
  rw[HB.out]
  go_wp2_with (fail);go_ret
  rw[HK.out]
  exact ⟨rfl,rfl⟩
theorem Q0x (x:Int) (w:World) (x0:-9223372036854775808<=x) (x1:x<=9223372036854775807):Calls Tryz.prog 142 #[.int .i64 x] w fun e w'=>e=.returned (.int .i64 (wAt x))/\w=w':=by
 cases hb:wB x with
 |true=>
  have h:=Q5G hb;have HK:=LH (show wAt x=x/8 by unfold wAt;rw[hb];rfl);have ed:x.tdiv 8=x/8:=by rw[Int.tdiv_eq_ediv_of_nonneg (by omega)]
  have h8:0<=x:=by omega
  have HB:=LH hb;clear hb;clear h;go_enter Tryz.func142,Tryz.ntmps142;go_wp2_with (fail);with_reducible refine (Q2B x _ x0 x1).mono ?_
  rintro e w1 ⟨rfl,rfl⟩
  rw[HB.out]
  go_wp2_with (fail);go_ret
  rw[HK.out]
  exact ⟨rfl,rfl⟩
 |false=>
  have HK:=LH (show wAt x=0 by unfold wAt;rw[hb];rfl);have HB:=LH hb;clear hb;go_enter Tryz.func142,Tryz.ntmps142;go_wp2_with (fail);with_reducible refine (Q2B x _ x0 x1).mono ?_
  rintro e w1 ⟨rfl,rfl⟩
  rw[HB.out]
  go_wp2_with (fail);go_ret
  rw[HK.out]
  exact ⟨rfl,rfl⟩
theorem Q0I (k a:Int) (w:World):Calls Tryz.prog 228 #[.int .i64 k,.int .i64 a] w fun e w'=>e=.returned (.int .i64 (wOf k a))/\w=w':=by
 by_cases h1:1<=k
 ·by_cases h2:k<=5
  ·by_cases h3:1<=a
   ·by_cases h4:a<=65536
    ·have HW:=LH (show wOf k a=8*a+k by unfold wOf;rw[Q4W h1 h2 h3 h4,if_pos rfl];omega);go_enter Tryz.func228,Tryz.ntmps228;go_wp2_with (fail);go_ret
     rw[HW.out]
     exact ⟨rfl,rfl⟩
    ·have HW:=LH (show wOf k a=0 by unfold wOf;rw[Q2D (by omega)];rfl);have g:65536<a:=by omega
     go_enter Tryz.func228,Tryz.ntmps228;go_wp2_with (fail);go_ret
     rw[HW.out]
     exact ⟨rfl,rfl⟩
   ·have HW:=LH (show wOf k a=0 by unfold wOf;rw[Q2D (by omega)];rfl);have g:a<1:=by omega
    go_enter Tryz.func228,Tryz.ntmps228;go_wp2_with (fail);go_ret
    rw[HW.out]
    exact ⟨rfl,rfl⟩
  ·have HW:=LH (show wOf k a=0 by unfold wOf;rw[Q2D (by omega)];rfl);have g:5<k:=by omega
   go_enter Tryz.func228,Tryz.ntmps228;go_wp2_with (fail);go_ret
   rw[HW.out]
   exact ⟨rfl,rfl⟩
 ·have HW:=LH (show wOf k a=0 by unfold wOf;rw[Q2D (by omega)];rfl);have g:k<1:=by omega
  go_enter Tryz.func228,Tryz.ntmps228;go_wp2_with (fail);go_ret
  rw[HW.out]
  exact ⟨rfl,rfl⟩
theorem Q15 (x:Int) (w:World):Calls Tryz.prog 254 #[.int .i64 x] w fun e w'=>e=.returned (.bool (Q18 x))/\w=w':=by
 by_cases h0:0<=x
 ·by_cases h1:x<=1099511627776
  ·have HN:=LH (show Q18 x=true by unfold Q18;rw[decide_eq_true h0,decide_eq_true h1];rfl);go_enter Tryz.func254,Tryz.ntmps254;go_wp2_with (fail);go_ret
   rw[HN.out]
   exact ⟨rfl,rfl⟩
  ·have HN:=LH (show Q18 x=false by unfold Q18;rw[decide_eq_false h1,Bool.and_false]);go_enter Tryz.func254,Tryz.ntmps254;go_wp2_with (fail);go_ret
   rw[HN.out]
   exact ⟨rfl,rfl⟩
 ·have HN:=LH (show Q18 x=false by unfold Q18;rw[decide_eq_false h0,Bool.false_and]);go_enter Tryz.func254,Tryz.ntmps254;go_wp2_with (fail);go_ret
  rw[HN.out]
  exact ⟨rfl,rfl⟩
theorem Q1l (n i:Int) (w:World):Calls Tryz.prog 231 #[.int .i64 n,.int .i64 i] w fun e w'=>e=.returned (.int .i64 (Q0j n i))/\w=w':=by
 cases hn:Q18 n with
 |false=>
  have HK:=LH (show Q0j n i=0 by unfold Q0j;rw[hn];simp);have HN:=LH hn;clear hn;go_enter Tryz.func231,Tryz.ntmps231;go_wp2_with (fail);with_reducible refine (Q15 n _).mono ?_
  rintro e w1 ⟨rfl,rfl⟩
  rw[HN.out]
  go_wp2_with (fail);go_ret
  rw[HK.out]
  exact ⟨rfl,rfl⟩
 |true=>
  cases hi:Q18 i with
  |false=>
   have HK:=LH (show Q0j n i=0 by unfold Q0j;rw[hi];simp);have HN:=LH hn;have HI:=LH hi;clear hn hi;go_enter Tryz.func231,Tryz.ntmps231;go_wp2_with (fail);with_reducible refine (Q15 n _).mono ?_
   rintro e w1 ⟨rfl,rfl⟩
   rw[HN.out]
   go_wp2_with (fail);with_reducible refine (Q15 i _).mono ?_
   rintro e w1 ⟨rfl,rfl⟩
   rw[HI.out]
   go_wp2_with (fail);go_ret
   rw[HK.out]
   exact ⟨rfl,rfl⟩
  |true=>
   have HK:=LH (show Q0j n i=n+4+i by unfold Q0j;rw[hn,hi];simp);obtain ⟨n0,n1⟩:=Q0N hn;obtain ⟨i0,i1⟩:=Q0N hi;have HN:=LH hn;have HI:=LH hi;clear hn hi;go_enter Tryz.func231,Tryz.ntmps231;go_wp2_with (fail);with_reducible refine (Q15 n _).mono ?_
   rintro e w1 ⟨rfl,rfl⟩
   rw[HN.out]
   go_wp2_with (fail);with_reducible refine (Q15 i _).mono ?_
   rintro e w1 ⟨rfl,rfl⟩
   rw[HI.out]
   go_wp2_with (fail);go_ret
   rw[HK.out]
   exact ⟨rfl,rfl⟩
theorem Q0F (n d i:Int) (w:World):Calls Tryz.prog 219 #[.int .i64 n,.int .i64 d,.int .i64 i] w fun e w'=>e=.returned (.int .i64 (Q06 n d i))/\w=w':=by
 cases hn:Q18 n with
 |false=>
  have HK:=LH (show Q06 n d i=0 by unfold Q06;rw[hn];simp);have HN:=LH hn;clear hn;go_enter Tryz.func219,Tryz.ntmps219;go_wp2_with (fail);with_reducible refine (Q15 n _).mono ?_
  rintro e w1 ⟨rfl,rfl⟩
  rw[HN.out]
  go_wp2_with (fail);go_ret
  rw[HK.out]
  exact ⟨rfl,rfl⟩
 |true=>
  cases hd:Q18 d with
  |false=>
   have HK:=LH (show Q06 n d i=0 by unfold Q06;rw[hd];simp);have HN:=LH hn;have HD:=LH hd;clear hn hd;go_enter Tryz.func219,Tryz.ntmps219;go_wp2_with (fail);with_reducible refine (Q15 n _).mono ?_
   rintro e w1 ⟨rfl,rfl⟩
   rw[HN.out]
   go_wp2_with (fail);with_reducible refine (Q15 d _).mono ?_
   rintro e w1 ⟨rfl,rfl⟩
   rw[HD.out]
   go_wp2_with (fail);go_ret
   rw[HK.out]
   exact ⟨rfl,rfl⟩
  |true=>
   cases hi:Q18 i with
   |false=>
    have HK:=LH (show Q06 n d i=0 by unfold Q06;rw[hi];simp);have HN:=LH hn;have HD:=LH hd;have HI:=LH hi;clear hn hd hi;go_enter Tryz.func219,Tryz.ntmps219;go_wp2_with (fail);with_reducible refine (Q15 n _).mono ?_
    rintro e w1 ⟨rfl,rfl⟩
    rw[HN.out]
    go_wp2_with (fail);with_reducible refine (Q15 d _).mono ?_
    rintro e w1 ⟨rfl,rfl⟩
    rw[HD.out]
    go_wp2_with (fail);with_reducible refine (Q15 i _).mono ?_
    rintro e w1 ⟨rfl,rfl⟩
    rw[HI.out]
    go_wp2_with (fail);go_ret
    rw[HK.out]
    exact ⟨rfl,rfl⟩
   |true=>
    have HK:=LH (show Q06 n d i=n+4+d+i by unfold Q06;rw[hn,hd,hi];simp);obtain ⟨n0,n1⟩:=Q0N hn;obtain ⟨d0,d1⟩:=Q0N hd;obtain ⟨i0,i1⟩:=Q0N hi;have HN:=LH hn;have HD:=LH hd;have HI:=LH hi;clear hn hd hi;go_enter Tryz.func219,Tryz.ntmps219;go_wp2_with (fail);with_reducible refine (Q15 n _).mono ?_
    rintro e w1 ⟨rfl,rfl⟩
    rw[HN.out]
    go_wp2_with (fail);with_reducible refine (Q15 d _).mono ?_
    rintro e w1 ⟨rfl,rfl⟩
    rw[HD.out]
    go_wp2_with (fail);with_reducible refine (Q15 i _).mono ?_
    rintro e w1 ⟨rfl,rfl⟩
    rw[HI.out]
    go_wp2_with (fail);go_ret
    rw[HK.out]
    exact ⟨rfl,rfl⟩
def Q86 (L:List Int) (w:World) (e:Ending) (w':World):Prop:=∃v,e=.returned v/\w'.ownsRow w.heap.size 2 1 v L.length (L.map (Value.int .i64))/\Below w.heap.size w w'
theorem Q4v (w:World) (L:List Int) (vs:Array Value) (n c:Nat) (hv:vs.toList=L.map (Value.int .i64)) (hn:n=L.length) (hc:c=L.length) (hl:0<L.length) (hm:L.length<=1000000):Q86 L w (.returned (.slice (some ⟨w.heap.size,0,none⟩) n c)) (w.alloc (.cells vs 2)):=by
 subst hn;subst hc;have e:vs=(L.map (Value.int .i64)).toArray:=by rw[<-hv]
 have hs:vs.size=L.length:=by rw[e];simp
 have:=World.ownsRow_lit (base:=w.heap.size) (e:=2) (size:=1) w vs L.length (Nat.le_refl _) (by unfold maxLen;omega) (by rw[hs];omega)
 rw[hv] at this
 exact ⟨_,rfl,this,(Below.refl _ _).alloc (Nat.le_refl _) _⟩
theorem QbN (g p o x:Int) (w:World):Calls Tryz.prog 230 #[.int .i64 g,.int .i64 p,.int .i64 o,.int .i64 x] w (Q86 (Q30 g p o x) w):=by
 go_enter Tryz.func230,Tryz.ntmps230;go_wp2_with (fail);go_ret;exact Q4v w (Q30 g p o x) _ _ _ rfl rfl rfl (by simp[Q30]) (by simp[Q30])
theorem Q7w (t g s:Int) (w:World):Calls Tryz.prog 244 #[.int .i64 t,.int .i64 g,.int .i64 s] w (Q86 (Q16 t g s) w):=by
 go_enter Tryz.func244,Tryz.ntmps244;go_wp2_with (fail);go_ret;exact Q4v w (Q16 t g s) _ _ _ rfl rfl rfl (by simp[Q16]) (by simp[Q16])
theorem Q4Z (k x:Int) (w:World):Calls Tryz.prog 237 #[.int .i64 k,.int .i64 x] w (Q86 [k,x] w):=by
 go_enter Tryz.func237,Tryz.ntmps237;go_wp2_with (fail);go_ret;exact Q4v w [k,x] _ _ _ rfl rfl rfl (by simp) (by simp)
theorem Q3c (w:World):Calls Tryz.prog 236 #[] w (Q86 [0] w):=by
 go_enter Tryz.func236,Tryz.ntmps236;go_wp2_with (fail);go_ret;exact Q4v w [0] _ _ _ rfl rfl rfl (by decide) (by decide)
theorem Q61 (n:Nat):∀g,(Value.slice none 0 0).ownBlock=some g->n<=g:=fun g hg=>by simp[Value.ownBlock] at hg
section
variable (F:Nat->Prop) (rb:Nat) (w0:World)
theorem Q0d (s s':RunS) (v a:Int) (w:World) (h:RAt F rb w0 s w) (hs:s.Bd) (hg:(Q0e a).go s=(v,s')):
  Calls Tryz.prog 226 #[.pointer (some ⟨rb,0,none⟩),.int .i64 a] w fun e w'=>e=.returned (.int .i64 v)/\RAt F rb w0 s' w':=by
 have hg:Q3h ⟨1,a,0,0,[],0⟩ s=(v,s'):=hg;have HG:=LH hg;have H:=LH h;clear hg h;go_enter Tryz.func226,Tryz.ntmps226;go_wp2_with (fail);with_reducible refine (Q4E F rb w0 s ⟨1,a,0,0,[],0⟩ (.slice none 0 0) _ H.out hs (World.ownsRow_nil _ _ _ _) (Q61 _)).mono ?_
 rintro e w1 ⟨rfl,h1⟩
 rw[HG.out] at h1|-
 have H1:=LH h1;clear h1;clear HG H;go_wp2_with (fail);go_ret;exact ⟨rfl,H1.out⟩
theorem Q2e (s s':RunS) (v:Unit) (a x:Int) (w:World) (h:RAt F rb w0 s w) (hs:s.Bd) (hg:(Q2p a x).go s=(v,s')):
  Calls Tryz.prog 235 #[.pointer (some ⟨rb,0,none⟩),.int .i64 a,.int .i64 x] w fun e w'=>e=.returned (.tuple #[])/\RAt F rb w0 s' w':=by
 have hg:(Q3h ⟨2,a,x,0,[],0⟩ s).2=s':=congrArg Prod.snd hg;have HG:=LH hg;have H:=LH h;clear hg h;go_enter Tryz.func235,Tryz.ntmps235;go_wp2_with (fail);with_reducible refine (Q4E F rb w0 s ⟨2,a,x,0,[],0⟩ (.slice none 0 0) _ H.out hs (World.ownsRow_nil _ _ _ _) (Q61 _)).mono ?_
 rintro e w1 ⟨rfl,h1⟩
 rw[HG.out] at h1
 have H1:=LH h1;clear h1;clear HG H;go_wp2_with (fail)
 go_end0
 exact ⟨rfl,H1.out⟩
theorem Q1g (s s':RunS) (v:Bool) (a x y:Int) (w:World) (h:RAt F rb w0 s w) (hs:s.Bd) (hg:(Q33 a x y).go s=(v,s')):
  Calls Tryz.prog 227 #[.pointer (some ⟨rb,0,none⟩),.int .i64 a,.int .i64 x,.int .i64 y] w fun e w'=>e=.returned (.bool v)/\RAt F rb w0 s' w':=by
 have hg:((Q3h ⟨3,a,x,y,[],0⟩ s).1==1,(Q3h ⟨3,a,x,y,[],0⟩ s).2)=(v,s'):=hg;injection hg with h1 h2;have HV:=LH h1;have HG:=LH h2;have H:=LH h;clear h;clear h1 h2;go_enter Tryz.func227,Tryz.ntmps227;go_wp2_with (fail);with_reducible refine (Q4E F rb w0 s ⟨3,a,x,y,[],0⟩ (.slice none 0 0) _ H.out hs (World.ownsRow_nil _ _ _ _) (Q61 _)).mono ?_
 rintro e w1 ⟨rfl,h1⟩
 rw[HG.out] at h1
 have H1:=LH h1;clear h1;clear HG H;generalize (Q3h ⟨3,a,x,y,[],0⟩ s).1=z at HV|-;go_wp2_with (fail);go_ret;rw[<-HV.out];exact ⟨rfl,H1.out⟩
theorem QaD (s s':RunS) (v a x:Int) (w:World) (h:RAt F rb w0 s w) (hs:s.Bd) (hg:(Qed a x).go s=(v,s')):
  Calls Tryz.prog 245 #[.pointer (some ⟨rb,0,none⟩),.int .i64 a,.int .i64 x] w fun e w'=>e=.returned (.int .i64 v)/\RAt F rb w0 s' w':=by
 have hg:Q3h ⟨4,a,x,0,[],0⟩ s=(v,s'):=hg;have HG:=LH hg;have H:=LH h;clear hg h;go_enter Tryz.func245,Tryz.ntmps245;go_wp2_with (fail);with_reducible refine (Q4E F rb w0 s ⟨4,a,x,0,[],0⟩ (.slice none 0 0) _ H.out hs (World.ownsRow_nil _ _ _ _) (Q61 _)).mono ?_
 rintro e w1 ⟨rfl,h1⟩
 rw[HG.out] at h1|-
 have H1:=LH h1;clear h1;clear HG H;go_wp2_with (fail);go_ret;exact ⟨rfl,H1.out⟩
theorem Q1x (s s':RunS) (v:Int) (ws:List Int) (t:Int) (qv:Value) (w:World) (h:RAt F rb w0 s w) (hs:s.Bd) (hq:w.ownsRow 0 2 1 qv ws.length (ws.map (Value.int .i64))) (hn:∀g,qv.ownBlock=some g->w0.heap.size<=g) (hg:(Q1G ws t).go s=(v,s')):
  Calls Tryz.prog 229 #[.pointer (some ⟨rb,0,none⟩),qv] w fun e w'=>e=.returned (.tuple #[.int .i64 v,.bool (decide (0<v))])/\RAt F rb w0 s' w':=by
 have hg:Q3h ⟨5,0,0,0,ws,t⟩ s=(v,s'):=hg;obtain ⟨qA,qc,rfl⟩:=Q03 hq;have HG:=LH hg;have H:=LH h;have HQ:=LH hq;have HN:=LH hn;clear hg h hq hn;go_enter Tryz.func229,Tryz.ntmps229;go_wp2_with (fail);with_reducible refine (Q4E F rb w0 s ⟨5,0,0,0,ws,t⟩ (.slice qA ws.length qc) _ H.out hs HQ.out HN.out).mono ?_
 rintro e w1 ⟨rfl,h1⟩
 rw[HG.out] at h1|-
 have H1:=LH h1;clear h1;clear HG H HQ HN;go_wp2_with (fail)
 go_ret2
 exact ⟨rfl,H1.out⟩
theorem Q3u (s0 s':RunS) (v slot:Int) (w:World) (h:RAt F rb w0 s0 w) (d0:s0.Bd) (hg:(Q2V slot).go s0=(v,s')) (hb:i64B slot):
  Calls Tryz.prog 194 #[.pointer (some ⟨rb,0,none⟩),.int .i64 slot] w fun e w'=>e=.returned (.int .i64 v)/\RAt F rb w0 s' w':=by
 unfold Q2V at hg;have HG:=LH hg;have H0:=LH h;clear hg h;go_enter Tryz.func194,Tryz.ntmps194;obtain ⟨v1,s1,g1⟩:=Q0k (Q0e slot) s0;have hg:=HG.out;clear HG
 rw[Q01,g1] at hg
 have HG:=LH hg;clear hg;obtain ⟨b1,d1⟩:=Q0b g1 (Q04 hb) d0;have G1:=LH g1;clear g1;go_wp2_with (fail);with_reducible refine (Q0d F rb w0 s0 s1 v1 slot _ H0.out d0 G1.out).mono ?_
 rintro e w1 ⟨rfl,h1⟩;have H1:=LH h1;clear h1 H0 G1;have ha:=Q0D v1;go_wp2_with (fail);with_reducible refine (Q0A v1 _ b1.lo b1.hi).mono ?_
 rintro e w2 ⟨rfl,rfl⟩;by_cases k:Q05 v1=5
 ·have hg:=HG.out;clear HG
  rw[if_pos k] at hg
  have HG:=LH hg;clear hg;have e5:(Q05 v1==5)=true:=by simpa using k
  clear k;go_wp2_with (fail);with_reducible refine (Q0x v1 _ b1.lo b1.hi).mono ?_
  rintro e w2 ⟨rfl,rfl⟩;obtain ⟨v2,s2,g2⟩:=Q0k (Q0e (wAt v1+4)) s1;have hg:=HG.out;clear HG
  rw[Q01,g2] at hg
  have HG:=LH hg;clear hg;obtain ⟨b2,d2⟩:=Q0b g2 (Q04 (Q3n v1 (by decide) (by decide))) d1;have G2:=LH g2;clear g2;go_wp2_with (fail);with_reducible refine (Q0d F rb w0 s1 s2 v2 (wAt v1+4) _ H1.out d1 G2.out).mono ?_
  rintro e w2 ⟨rfl,h2⟩;have H2:=LH h2;clear h2 H1 G2;by_cases k1:v2=1
  ·have hg:=HG.out;clear HG
   rw[if_pos k1] at hg
   have HG:=LH hg;clear hg;have e1:(v2==1)=true:=by simpa using k1
   clear k1;go_wp2_with (fail);with_reducible refine (Q0d F rb w0 s2 s' v (wAt v1+3) _ H2.out d2 HG.out).mono ?_
   rintro e w3 ⟨rfl,h3⟩;have H3:=LH h3;clear h3;go_wp2_with (fail);go_ret;exact ⟨rfl,H3.out⟩
  ·have hg:=HG.out;clear HG
   rw[if_neg k1] at hg
   have HG:=LH hg;clear hg;have e1:(v2==1)=false:=by simpa using k1
   clear k1;go_wp2_with (fail);with_reducible refine (Q0d F rb w0 s2 s' v (wAt v1+2) _ H2.out d2 HG.out).mono ?_
   rintro e w3 ⟨rfl,h3⟩;have H3:=LH h3;clear h3;go_wp2_with (fail);go_ret;exact ⟨rfl,H3.out⟩
 ·have hg:=HG.out;clear HG
  rw[if_neg k] at hg
  have HG:=LH hg;clear hg;have e5:(Q05 v1==5)=false:=by simpa using k
  clear k;obtain ⟨rfl,rfl⟩:=Prod.mk.inj HG.out;go_wp2_with (fail);go_ret;exact ⟨rfl,H1.out⟩
theorem Qdh (s0 s':RunS) (v:Unit) (at_:Int) (w:World) (h:RAt F rb w0 s0 w) (d0:s0.Bd) (hg:(Q6D at_).go s0=(v,s')) (a0:0<=at_) (a1:at_<=65536):
  Calls Tryz.prog 195 #[.pointer (some ⟨rb,0,none⟩),.int .i64 at_] w fun e w'=>e=.returned (.tuple #[])/\RAt F rb w0 s' w':=by
 have bb:∀d,0<=d->d<=100->i64B (at_+d):=fun d _ _=>⟨by omega,by omega⟩;have b00:i64B at_:=⟨by omega,by omega⟩;unfold Q6D at hg;have HG:=LH hg;have H0:=LH h;have BB:=LH bb;clear hg h bb;go_enter Tryz.func195,Tryz.ntmps195;obtain ⟨v1,s1,g1⟩:=Q0k (Q0e at_) s0;have hg:=HG.out;clear HG
 rw[Q01,g1] at hg
 have HG:=LH hg;clear hg;obtain ⟨b1,d1⟩:=Q0b g1 (Q04 b00) d0;have G1:=LH g1;clear g1;go_wp2_with (fail);with_reducible refine (Q0d F rb w0 s0 s1 v1 at_ _ H0.out d0 G1.out).mono ?_
 rintro e w1 ⟨rfl,h1⟩;have H1:=LH h1;clear h1 H0 G1;obtain ⟨v2,s2,g2⟩:=Q0k (Q0e v1) s1;have hg:=HG.out;clear HG
 rw[Q01,g2] at hg
 have HG:=LH hg;clear hg;obtain ⟨b2,d2⟩:=Q0b g2 (Q04 b1) d1;have G2:=LH g2;clear g2;go_wp2_with (fail);with_reducible refine (Q0d F rb w0 s1 s2 v2 v1 _ H1.out d1 G2.out).mono ?_
 rintro e w2 ⟨rfl,h2⟩;have H2:=LH h2;clear h2 H1 G2
 have fin:∀(s6:RunS) (w6:World) (v5 v6:Int),Hid (RAt F rb w0 s6 w6)->s6.Bd->Hid (((Q33 v5 (wOf 5 at_) v6).bind fun _=>Prog.ret ()).go s6=(v,s'))->∃vv,(Q33 v5 (wOf 5 at_) v6).go s6=(vv,s'):=fun s6 w6 v5 v6 _ _ hG=>by
  have:=hG.out
  rw[Q01] at this
  have e:((Q33 v5 (wOf 5 at_) v6).go s6).2=s':=congrArg Prod.snd this;exact ⟨((Q33 v5 (wOf 5 at_) v6).go s6).1,Prod.ext rfl e⟩
 have FIN:=LH fin;clear fin;by_cases kg:v2=0
 ·have eg:(v2 !=0)=false:=by simpa using kg
  have hg:=HG.out;clear HG
  rw[show (if v2=0 then (1:Int) else 2)=1 from if_pos kg] at hg
  have HG:=LH hg;clear hg;clear kg;obtain ⟨v3,s3,g3⟩:=Q0k (Q33 (at_+4) 0 1) s2;have hg:=HG.out;clear HG
  rw[Q01,g3] at hg
  have HG:=LH hg;clear hg;obtain ⟨b3,d3⟩:=Q0b g3 (Q1j (BB.out 4 (by decide) (by decide)) Q0f Q10) d2;have G3:=LH g3;clear g3;go_wp2_with (fail);with_reducible refine (Q1g F rb w0 s2 s3 v3 (at_+4) 0 1 _ H2.out d2 G3.out).mono ?_
  rintro e w3 ⟨rfl,h3⟩;have H3:=LH h3;clear h3 H2 G3;obtain ⟨v4,s4,g4⟩:=Q0k (Q0e (at_+4)) s3;have hg:=HG.out;clear HG
  rw[Q01,g4] at hg
  have HG:=LH hg;clear hg;obtain ⟨b4,d4⟩:=Q0b g4 (Q04 (BB.out 4 (by decide) (by decide))) d3;have G4:=LH g4;clear g4;go_wp2_with (fail);with_reducible refine (Q0d F rb w0 s3 s4 v4 (at_+4) _ H3.out d3 G4.out).mono ?_
  rintro e w4 ⟨rfl,h4⟩;have H4:=LH h4;clear h4 H3 G4;obtain ⟨v5,s5,g5⟩:=Q0k (Q0e (at_+1)) s4;have hg:=HG.out;clear HG
  rw[Q01,g5] at hg
  have HG:=LH hg;clear hg;obtain ⟨b5,d5⟩:=Q0b g5 (Q04 (BB.out 1 (by decide) (by decide))) d4;have G5:=LH g5;clear g5;go_wp2_with (fail);with_reducible refine (Q0d F rb w0 s4 s5 v5 (at_+1) _ H4.out d4 G5.out).mono ?_
  rintro e w5 ⟨rfl,h5⟩;have H5:=LH h5;clear h5 H4 G5;by_cases ko:v4=1
  ·have eo:(v4==1)=true:=by simpa using ko
   have hg:=HG.out;clear HG
   rw[if_pos ko] at hg
   have HG:=LH hg;clear hg;clear ko;obtain ⟨v6,s6,g6⟩:=Q0k (Q0e (at_+3)) s5;have hg:=HG.out;clear HG
   rw[Q01,g6] at hg
   have HG:=LH hg;clear hg;obtain ⟨b6,d6⟩:=Q0b g6 (Q04 (BB.out 3 (by decide) (by decide))) d5;have G6:=LH g6;clear g6;go_wp2_with (fail);with_reducible refine (Q0d F rb w0 s5 s6 v6 (at_+3) _ H5.out d5 G6.out).mono ?_
   rintro e w6 ⟨rfl,h6⟩;have H6:=LH h6;clear h6 H5 G6;obtain ⟨vv,hvv⟩:=FIN.out s6 w6 v5 v6 H6 d6 HG;have HV:=LH hvv;clear hvv FIN HG;go_wp2_with (fail);with_reducible refine (Q0I 5 at_ _).mono ?_
   rintro e w7 ⟨rfl,rfl⟩;go_wp2_with (fail);with_reducible refine (Q1g F rb w0 s6 s' vv v5 (wOf 5 at_) v6 _ H6.out d6 HV.out).mono ?_
   rintro e w7 ⟨rfl,h7⟩;have H7:=LH h7;clear h7;go_wp2_with (fail)
   go_end0
   exact ⟨rfl,H7.out⟩
  ·have eo:(v4==1)=false:=by simpa using ko
   have hg:=HG.out;clear HG
   rw[if_neg ko] at hg
   have HG:=LH hg;clear hg;clear ko;obtain ⟨v6,s6,g6⟩:=Q0k (Q0e (at_+2)) s5;have hg:=HG.out;clear HG
   rw[Q01,g6] at hg
   have HG:=LH hg;clear hg;obtain ⟨b6,d6⟩:=Q0b g6 (Q04 (BB.out 2 (by decide) (by decide))) d5;have G6:=LH g6;clear g6;go_wp2_with (fail);with_reducible refine (Q0d F rb w0 s5 s6 v6 (at_+2) _ H5.out d5 G6.out).mono ?_
   rintro e w6 ⟨rfl,h6⟩;have H6:=LH h6;clear h6 H5 G6;obtain ⟨vv,hvv⟩:=FIN.out s6 w6 v5 v6 H6 d6 HG;have HV:=LH hvv;clear hvv FIN HG;go_wp2_with (fail);with_reducible refine (Q0I 5 at_ _).mono ?_
   rintro e w7 ⟨rfl,rfl⟩;go_wp2_with (fail);with_reducible refine (Q1g F rb w0 s6 s' vv v5 (wOf 5 at_) v6 _ H6.out d6 HV.out).mono ?_
   rintro e w7 ⟨rfl,h7⟩;have H7:=LH h7;clear h7;go_wp2_with (fail)
   go_end0
   exact ⟨rfl,H7.out⟩
 ·have eg:(v2 !=0)=true:=by simpa using kg
  have hg:=HG.out;clear HG
  rw[show (if v2=0 then (1:Int) else 2)=2 from if_neg kg] at hg
  have HG:=LH hg;clear hg;clear kg;obtain ⟨v3,s3,g3⟩:=Q0k (Q33 (at_+4) 0 2) s2;have hg:=HG.out;clear HG
  rw[Q01,g3] at hg
  have HG:=LH hg;clear hg;obtain ⟨b3,d3⟩:=Q0b g3 (Q1j (BB.out 4 (by decide) (by decide)) Q0f Q36) d2;have G3:=LH g3;clear g3;go_wp2_with (fail);with_reducible refine (Q1g F rb w0 s2 s3 v3 (at_+4) 0 2 _ H2.out d2 G3.out).mono ?_
  rintro e w3 ⟨rfl,h3⟩;have H3:=LH h3;clear h3 H2 G3;obtain ⟨v4,s4,g4⟩:=Q0k (Q0e (at_+4)) s3;have hg:=HG.out;clear HG
  rw[Q01,g4] at hg
  have HG:=LH hg;clear hg;obtain ⟨b4,d4⟩:=Q0b g4 (Q04 (BB.out 4 (by decide) (by decide))) d3;have G4:=LH g4;clear g4;go_wp2_with (fail);with_reducible refine (Q0d F rb w0 s3 s4 v4 (at_+4) _ H3.out d3 G4.out).mono ?_
  rintro e w4 ⟨rfl,h4⟩;have H4:=LH h4;clear h4 H3 G4;obtain ⟨v5,s5,g5⟩:=Q0k (Q0e (at_+1)) s4;have hg:=HG.out;clear HG
  rw[Q01,g5] at hg
  have HG:=LH hg;clear hg;obtain ⟨b5,d5⟩:=Q0b g5 (Q04 (BB.out 1 (by decide) (by decide))) d4;have G5:=LH g5;clear g5;go_wp2_with (fail);with_reducible refine (Q0d F rb w0 s4 s5 v5 (at_+1) _ H4.out d4 G5.out).mono ?_
  rintro e w5 ⟨rfl,h5⟩;have H5:=LH h5;clear h5 H4 G5;by_cases ko:v4=1
  ·have eo:(v4==1)=true:=by simpa using ko
   have hg:=HG.out;clear HG
   rw[if_pos ko] at hg
   have HG:=LH hg;clear hg;clear ko;obtain ⟨v6,s6,g6⟩:=Q0k (Q0e (at_+3)) s5;have hg:=HG.out;clear HG
   rw[Q01,g6] at hg
   have HG:=LH hg;clear hg;obtain ⟨b6,d6⟩:=Q0b g6 (Q04 (BB.out 3 (by decide) (by decide))) d5;have G6:=LH g6;clear g6;go_wp2_with (fail);with_reducible refine (Q0d F rb w0 s5 s6 v6 (at_+3) _ H5.out d5 G6.out).mono ?_
   rintro e w6 ⟨rfl,h6⟩;have H6:=LH h6;clear h6 H5 G6;obtain ⟨vv,hvv⟩:=FIN.out s6 w6 v5 v6 H6 d6 HG;have HV:=LH hvv;clear hvv FIN HG;go_wp2_with (fail);with_reducible refine (Q0I 5 at_ _).mono ?_
   rintro e w7 ⟨rfl,rfl⟩;go_wp2_with (fail);with_reducible refine (Q1g F rb w0 s6 s' vv v5 (wOf 5 at_) v6 _ H6.out d6 HV.out).mono ?_
   rintro e w7 ⟨rfl,h7⟩;have H7:=LH h7;clear h7;go_wp2_with (fail)
   go_end0
   exact ⟨rfl,H7.out⟩
  ·have eo:(v4==1)=false:=by simpa using ko
   have hg:=HG.out;clear HG
   rw[if_neg ko] at hg
   have HG:=LH hg;clear hg;clear ko;obtain ⟨v6,s6,g6⟩:=Q0k (Q0e (at_+2)) s5;have hg:=HG.out;clear HG
   rw[Q01,g6] at hg
   have HG:=LH hg;clear hg;obtain ⟨b6,d6⟩:=Q0b g6 (Q04 (BB.out 2 (by decide) (by decide))) d5;have G6:=LH g6;clear g6;go_wp2_with (fail);with_reducible refine (Q0d F rb w0 s5 s6 v6 (at_+2) _ H5.out d5 G6.out).mono ?_
   rintro e w6 ⟨rfl,h6⟩;have H6:=LH h6;clear h6 H5 G6;obtain ⟨vv,hvv⟩:=FIN.out s6 w6 v5 v6 H6 d6 HG;have HV:=LH hvv;clear hvv FIN HG;go_wp2_with (fail);with_reducible refine (Q0I 5 at_ _).mono ?_
   rintro e w7 ⟨rfl,rfl⟩;go_wp2_with (fail);with_reducible refine (Q1g F rb w0 s6 s' vv v5 (wOf 5 at_) v6 _ H6.out d6 HV.out).mono ?_
   rintro e w7 ⟨rfl,h7⟩;have H7:=LH h7;clear h7;go_wp2_with (fail)
   go_end0
   exact ⟨rfl,H7.out⟩
end
def Q65 (rb len:Nat) (w:World):Nat:=match w.cell? ⟨rb,2,none⟩,w.cell? ⟨rb,1,none⟩ with
 |some (.bool false),some (.int _ n)=>len-n.toNat+1
 |_,_=>0
section
variable {F:Nat->Prop} {rb:Nat} {w0 w:World} {s:RunS}
theorem Q0u (h:RAt F rb w0 s w):Q65 rb s.tape.length w=s.left:=by
 obtain ⟨⟨tv,wv,rec,laid,hp⟩,_⟩:=h;have c1:w.cell? ⟨rb,1,none⟩=some (.int .i64 s.at_):=hp.blk.cell 1;have c2:w.cell? ⟨rb,2,none⟩=some (.bool s.off):=hp.blk.cell 2;unfold Q65 RunS.left
 rw[c1,c2]
 cases s.off<;>simp
theorem QdY (q:Ask) {s:RunS} (h:s.off=false) (ha:s.at_<=s.tape.length):(Q3h q s).2.left<s.left:=by
 unfold Q3h RunS.left
 rw[h]
 by_cases h2:s.at_<s.tape.length
 ·simp[h2,h];omega
 ·simp[h2]
theorem QbY (q:Ask) (s:RunS):(Q3h q s).2.left<=s.left:=by
 by_cases h:s.off=true
 ·rw[Q5A h];exact Nat.le_refl _
 ·unfold Q3h RunS.left;have h':s.off=false:=by simpa using h
  rw[h']
  by_cases h2:s.at_<s.tape.length
  ·simp[h2,h'];omega
  ·simp[h2]
theorem Q6e {α:Type}:∀(p:Prog α) (s:RunS),(p.go s).2.left<=s.left
 |.ret a,s=>Nat.le_refl _
 |.ask q k,s=>Nat.le_trans (Q6e (k (Q3h q s).1) (Q3h q s).2) (QbY q s)
 |.chk k,s=>Q6e (k s.off) s
 |.stuck p,s=>Q6e p s
end
theorem Q0c {F:Nat->Prop} {rb:Nat} {w0 w:World} {s:RunS} {b:Bool} (h:RAt F rb w0 s w) (hb:s.off=b):w.cell? ⟨rb,2,none⟩=some (.bool b):=by rw[<-hb];exact h.off
section
variable (F:Nat->Prop) (rb:Nat) (w0:World)
def Qgi (n k d:Int) (v:Int×Int) (s':RunS) (iv:Value) (wr:World):Prop:=∃(I:Int) (s:RunS),iv=.int .i64 I/\0<=I/\I<=70000/\RAt F rb w0 s wr/\s.Bd/\(Q1J n k d (I.toNat+1) I).go s=(v,s')
def RUp (n k d m:Int) (v:Int×Int) (s':RunS) (iv:Value) (wr:World):Prop:=∃(I:Int) (f:Nat) (s:RunS),iv=.int .i64 I/\1<=I/\I<=m/\m-I<=f/\RAt F rb w0 s wr/\s.Bd/\(Q4G n k d m f I).go s=(v,s')
theorem Q2S (s0 s':RunS) (v:Int×Int) (n k:Int) (w:World) (h:RAt F rb w0 s0 w) (d0:s0.Bd) (hg:(Q1B n k).go s0=(v,s')) (hn:i64B n) (hk:i64B k):
  Calls Tryz.prog 198 #[.pointer (some ⟨rb,0,none⟩),.int .i64 n,.int .i64 k] w fun e w'=>e=.returned (.tuple #[.int .i64 v.1,.int .i64 v.2])/\RAt F rb w0 s' w':=by
 unfold Q1B at hg;have K0:=hk.lo;have K1:=hk.hi;have HG:=LH hg;have H0:=LH h;clear hg h;go_enter Tryz.func198,Tryz.ntmps198;obtain ⟨v1,s1,g1⟩:=Q0k (Q0e n) s0;have hg:=HG.out;clear HG
 rw[Q01,g1] at hg
 have HG:=LH hg;clear hg;obtain ⟨b1,d1⟩:=Q0b g1 (Q04 hn) d0;have G1:=LH g1;clear g1;go_wp2_with (fail);with_reducible refine (Q0d F rb w0 s0 s1 v1 n _ H0.out d0 G1.out).mono ?_
 rintro e w1 ⟨rfl,h1⟩;have H1:=LH h1;clear h1 H0 G1;have hm:=Q0l (v1-1);have m0:=hm.lo;have m1:=hm.hi;clear hm;by_cases k1:wrap64 (v1-1)<1
 ·have hg:=HG.out;clear HG
  rw[if_pos k1] at hg
  have HG:=LH hg;clear hg;obtain ⟨rfl,rfl⟩:=Prod.mk.inj HG.out;go_wp2_with (fail)
  go_ret2
  exact ⟨rfl,H1.out⟩
 ·have hg:=HG.out;clear HG
  rw[if_neg k1] at hg
  have HG:=LH hg;clear hg;go_wp2_with (fail);with_reducible refine (Q1l n 1 _).mono ?_
  rintro e w2 ⟨rfl,rfl⟩;generalize wrap64 (v1-1)=m at HG m0 m1 k1|-;obtain ⟨v2,s2,g2⟩:=Q0k (Q0e (Q0j n 1)) s1;have hg:=HG.out;clear HG
  rw[Q01,g2] at hg
  have HG:=LH hg;clear hg;obtain ⟨b2,d2⟩:=Q0b g2 (Q04 (Q11 n 1)) d1;have G2:=LH g2;clear g2;go_wp2_with (fail);with_reducible refine (Q0d F rb w0 s1 s2 v2 (Q0j n 1) _ H1.out d1 G2.out).mono ?_
  rintro e w2 ⟨rfl,h2⟩;have H2:=LH h2;clear h2 H1 G2;by_cases k2:k<v2
  ·have hg:=HG.out;clear HG
   rw[if_pos k2] at hg
   have HG:=LH hg;clear hg;obtain ⟨rfl,rfl⟩:=Prod.mk.inj HG.out;go_wp2_with (fail)
   go_ret2
   exact ⟨rfl,H2.out⟩
  ·have hg:=HG.out;clear HG
   rw[if_neg k2] at hg
   have HG:=LH hg;clear hg;by_cases k3:m=1
   ·have hg:=HG.out;clear HG
    rw[if_pos k3] at hg
    have HG:=LH hg;clear hg;have e3:(m==1)=true:=by simpa using k3
    clear k3;obtain ⟨rfl,rfl⟩:=Prod.mk.inj HG.out;go_wp2_with (fail)
    go_ret2
    exact ⟨rfl,H2.out⟩
   ·have hg:=HG.out;clear HG
    rw[if_neg k3] at hg
    have HG:=LH hg;clear hg;have e3:(m==1)=false:=by simpa using k3
    have m2:2<=m:=by omega
    clear k3;go_wp2_with (fail);with_reducible refine (Q1l n m _).mono ?_
    rintro e w3 ⟨rfl,rfl⟩;obtain ⟨v3,s3,g3⟩:=Q0k (Q0e (Q0j n m)) s2;have hg:=HG.out;clear HG
    rw[Q01,g3] at hg
    have HG:=LH hg;clear hg;obtain ⟨b3,d3⟩:=Q0b g3 (Q04 (Q11 n m)) d2;have G3:=LH g3;clear g3;go_wp2_with (fail);with_reducible refine (Q0d F rb w0 s2 s3 v3 (Q0j n m) _ H2.out d2 G3.out).mono ?_
    rintro e w3 ⟨rfl,h3⟩;have H3:=LH h3;clear h3 H2 G3;by_cases k4:v3<=k
    ·have hg:=HG.out;clear HG
     rw[if_pos k4] at hg
     have HG:=LH hg;clear hg;obtain ⟨rfl,rfl⟩:=Prod.mk.inj HG.out;go_wp2_with (fail)
     go_ret2
     exact ⟨rfl,H3.out⟩
    ·have hg:=HG.out;clear HG
     rw[if_neg k4] at hg
     have HG:=LH hg;clear hg;go_wp2_with (fail);with_reducible refine (Q8z v2 v3 k m _ b2.lo b2.hi b3.lo b3.hi K0 K1 (by omega) (by omega)).mono ?_
     rintro e w4 ⟨rfl,hd⟩;have H4:=LH (H3.out.below (Q08 hd _));clear hd H3;have hj:=Q4z v2 v3 k m (by omega)
     have hj2:Q0G v2 v3 k m<=70000:=by
      by_cases c:m<2\/65536<m\/k<v2\/v3<=k
      ·rw[Q1i c];omega
      ·have:=Q4A (f:=v2) (l:=v3) (k:=k) (n:=m) (by omega) (by omega) (by omega) (by omega);omega
     unfold Q4y at HG;have hg:=HG.out;clear HG
     rw[Q0B] at hg
     have HG:=LH hg;clear hg;generalize Q0G v2 v3 k m=j at HG hj hj2|-
     cases ho:s3.off with
     |true=>
      have c2:=Q0c H4.out ho;have hg:=HG.out;clear HG
      rw[ho] at hg
      have HG:=LH hg;clear hg;clear ho;have hg:=HG.out;clear HG
      rw[if_pos (.inl rfl)] at hg
      have HG:=LH hg;clear hg;obtain ⟨rfl,rfl⟩:=Prod.mk.inj HG.out;go_wp2_with (fail)
      go_ret2
      exact ⟨rfl,H4.out⟩
     |false=>
      have c2:=Q0c H4.out ho;have hg:=HG.out;clear HG
      rw[ho] at hg
      have HG:=LH hg;clear hg;clear ho;by_cases k5:j<1
      ·have hg:=HG.out;clear HG
       rw[if_pos (.inr k5)] at hg
       have HG:=LH hg;clear hg;obtain ⟨rfl,rfl⟩:=Prod.mk.inj HG.out;go_wp2_with (fail)
       go_ret2
       exact ⟨rfl,H4.out⟩
      ·have hg:=HG.out;clear HG
       rw[if_neg (fun h=>h.elim (fun e=>Bool.false_ne_true e) k5)] at hg
       have HG:=LH hg;clear hg;by_cases k6:1<j
       ·have hg:=HG.out;clear HG
        rw[if_pos k6] at hg
        have HG:=LH hg;clear hg;go_wp2_with (fail);with_reducible refine (Q1l n j _).mono ?_
        rintro e w4b ⟨rfl,rfl⟩;have H3:Hid (RAt F rb w0 s3 w4):=H4;clear H4;obtain ⟨v5,s5,g5⟩:=Q0k (Q0e (Q0j n j)) s3;have hg:=HG.out;clear HG
        rw[Q01,g5] at hg
        have HG:=LH hg;clear hg;obtain ⟨b5,d5⟩:=Q0b g5 (Q04 (Q11 n j)) d3;have G5:=LH g5;clear g5;go_wp2_with (fail);with_reducible refine (Q0d F rb w0 s3 s5 v5 (Q0j n j) _ H3.out d3 G5.out).mono ?_
        rintro e w5 ⟨rfl,h5⟩;have H5:=LH h5;clear h5 H3 G5;by_cases k7:k<v5
        ·have hg:=HG.out;clear HG
         rw[if_pos k7] at hg
         have HG:=LH hg;clear hg;go_wp2_with (fail)
         go_loopw [13] (fun iv wr=>Qgi F rb w0 n k v1 v s' iv wr) (fun iv _=>(intOf iv).toNat)
         case atStart=>unfold Qgi;exact ⟨j-1,_,rfl,by omega,by omega,H5.out,d5,by rw[show (j-1).toNat+1=j.toNat by omega];exact HG.out⟩
         case round=>
          obtain ⟨I,sI,rfl,i0,i1,hI,dI,hgI⟩:=hrel;clear H5 HG;have HI:=LH hI;have HG:=LH hgI;clear hI hgI;unfold Q1J at HG;have hg:=HG.out;clear HG
          rw[Q0B] at hg
          have HG:=LH hg;clear hg;by_cases hlt:1<I
          ·cases ho:sI.off with
           |true=>
            have c2:=Q0c HI.out ho;have hg:=HG.out;clear HG
            rw[ho] at hg
            have HG:=LH hg;clear hg;clear ho;have hg:=HG.out;clear HG
            rw[if_neg (fun h=>Bool.false_ne_true h.2.symm)] at hg
            have HG:=LH hg;clear hg;obtain ⟨rfl,rfl⟩:=Prod.mk.inj HG.out;go_wp2_with (fail)
            go_ret2
            exact ⟨rfl,HI.out⟩
           |false=>
            have c2:=Q0c HI.out ho;have hg:=HG.out;clear HG
            rw[ho] at hg
            have HG:=LH hg;clear hg;clear ho;have hg:=HG.out;clear HG
            rw[if_pos ⟨hlt,rfl⟩] at hg
            have HG:=LH hg;clear hg;go_wp2_with (fail);with_reducible refine (Q1l n I _).mono ?_
            rintro e w6 ⟨rfl,rfl⟩;obtain ⟨vJ,sJ,gJ⟩:=Q0k (Q0e (Q0j n I)) sI;have hg:=HG.out;clear HG
            rw[Q01,gJ] at hg
            have HG:=LH hg;clear hg;obtain ⟨bJ,dJ⟩:=Q0b gJ (Q04 (Q11 n I)) dI;have GJ:=LH gJ;clear gJ;go_wp2_with (fail);with_reducible refine (Q0d F rb w0 sI sJ vJ (Q0j n I) _ HI.out dI GJ.out).mono ?_
            rintro e wJ ⟨rfl,hJ⟩;have HJ:=LH hJ;clear hJ HI GJ;by_cases kq:vJ<=k
            ·have hg:=HG.out;clear HG
             rw[if_pos kq] at hg
             have HG:=LH hg;clear hg;obtain ⟨rfl,rfl⟩:=Prod.mk.inj HG.out;go_wp2_with (fail)
             go_ret2
             exact ⟨rfl,HJ.out⟩
            ·have hg:=HG.out;clear HG
             rw[if_neg kq] at hg
             have HG:=LH hg;clear hg;go_wp2_with (fail)
             go_roundw
             case rel=>unfold Qgi;exact ⟨I-1,_,rfl,by omega,by omega,HJ.out,dJ,by rw[show (I-1).toNat+1=I.toNat by omega];exact HG.out⟩
             case measure=>simp[intOf];omega
          ·have hg:=HG.out;clear HG
           rw[if_neg (fun h=>hlt h.1)] at hg
           have HG:=LH hg;clear hg;obtain ⟨rfl,rfl⟩:=Prod.mk.inj HG.out;have c2:=HI.out.off;go_wp2_with (fail)
           go_ret2
           exact ⟨rfl,HI.out⟩
        ·have hg:=HG.out;clear HG
         rw[if_neg k7] at hg
         have HG:=LH hg;clear hg;go_wp2_with (fail)
         go_loopw [14] (fun iv wr=>RUp F rb w0 n k v1 m v s' iv wr) (fun iv _=>(m-intOf iv).toNat)
         case atStart=>unfold RUp;exact ⟨j+1,_,_,rfl,by omega,by omega,by omega,H5.out,d5,HG.out⟩
         case round=>
          obtain ⟨I,f,sI,rfl,i0,i1,i2,hI,dI,hgI⟩:=hrel;clear H5 HG;have HI:=LH hI;have HG:=LH hgI;clear hI hgI;by_cases hlt:I<m
          ·obtain ⟨f,rfl⟩:∃g,f=g+1:=⟨f-1,by omega⟩;unfold Q4G at HG;have hg:=HG.out;clear HG
           rw[Q0B] at hg
           have HG:=LH hg;clear hg
           cases ho:sI.off with
           |true=>
            have c2:=Q0c HI.out ho;have hg:=HG.out;clear HG
            rw[ho] at hg
            have HG:=LH hg;clear hg;clear ho;have hg:=HG.out;clear HG
            rw[if_neg (fun h=>Bool.false_ne_true h.2.symm)] at hg
            have HG:=LH hg;clear hg;obtain ⟨rfl,rfl⟩:=Prod.mk.inj HG.out;go_wp2_with (fail)
            go_ret2
            exact ⟨rfl,HI.out⟩
           |false=>
            have c2:=Q0c HI.out ho;have hg:=HG.out;clear HG
            rw[ho] at hg
            have HG:=LH hg;clear hg;clear ho;have hg:=HG.out;clear HG
            rw[if_pos ⟨hlt,rfl⟩] at hg
            have HG:=LH hg;clear hg;go_wp2_with (fail);with_reducible refine (Q1l n I _).mono ?_
            rintro e w5 ⟨rfl,rfl⟩;obtain ⟨vJ,sJ,gJ⟩:=Q0k (Q0e (Q0j n I)) sI;have hg:=HG.out;clear HG
            rw[Q01,gJ] at hg
            have HG:=LH hg;clear hg;obtain ⟨bJ,dJ⟩:=Q0b gJ (Q04 (Q11 n I)) dI;have GJ:=LH gJ;clear gJ;go_wp2_with (fail);with_reducible refine (Q0d F rb w0 sI sJ vJ (Q0j n I) _ HI.out dI GJ.out).mono ?_
            rintro e wJ ⟨rfl,hJ⟩;have HJ:=LH hJ;clear hJ HI GJ;by_cases kq:k<vJ
            ·have hg:=HG.out;clear HG
             rw[if_pos kq] at hg
             have HG:=LH hg;clear hg;obtain ⟨rfl,rfl⟩:=Prod.mk.inj HG.out;go_wp2_with (fail)
             go_ret2
             exact ⟨rfl,HJ.out⟩
            ·have hg:=HG.out;clear HG
             rw[if_neg kq] at hg
             have HG:=LH hg;clear hg;go_wp2_with (fail)
             go_roundw
             case rel=>unfold RUp;exact ⟨I+1,f,_,rfl,by omega,by omega,by omega,HJ.out,dJ,HG.out⟩
             case measure=>simp[intOf];omega
          ·have he:(Q4G n k v1 m f I).go sI=((v1,m-1),sI):=by
            rcases f with _|f
            ·rfl
            ·unfold Q4G;rw[Q0B,if_neg (fun h=>hlt h.1)];rfl
           rw[he] at HG
           obtain ⟨rfl,rfl⟩:=Prod.mk.inj HG.out;have c2:=HI.out.off;go_wp2_with (fail)
           go_ret2
           exact ⟨rfl,HI.out⟩
       ·have hg:=HG.out;clear HG
        rw[if_neg k6] at hg
        have HG:=LH hg;clear hg;go_wp2_with (fail)
        go_loopw [14] (fun iv wr=>RUp F rb w0 n k v1 m v s' iv wr) (fun iv _=>(m-intOf iv).toNat)
        case atStart=>unfold RUp;exact ⟨j+1,_,_,rfl,by omega,by omega,by omega,H4.out,d3,HG.out⟩
        case round=>
         obtain ⟨I,f,sI,rfl,i0,i1,i2,hI,dI,hgI⟩:=hrel;clear H4 HG;have HI:=LH hI;have HG:=LH hgI;clear hI hgI;by_cases hlt:I<m
         ·obtain ⟨f,rfl⟩:∃g,f=g+1:=⟨f-1,by omega⟩;unfold Q4G at HG;have hg:=HG.out;clear HG
          rw[Q0B] at hg
          have HG:=LH hg;clear hg
          cases ho:sI.off with
          |true=>
           have c2:=Q0c HI.out ho;have hg:=HG.out;clear HG
           rw[ho] at hg
           have HG:=LH hg;clear hg;clear ho;have hg:=HG.out;clear HG
           rw[if_neg (fun h=>Bool.false_ne_true h.2.symm)] at hg
           have HG:=LH hg;clear hg;obtain ⟨rfl,rfl⟩:=Prod.mk.inj HG.out;go_wp2_with (fail)
           go_ret2
           exact ⟨rfl,HI.out⟩
          |false=>
           have c2:=Q0c HI.out ho;have hg:=HG.out;clear HG
           rw[ho] at hg
           have HG:=LH hg;clear hg;clear ho;have hg:=HG.out;clear HG
           rw[if_pos ⟨hlt,rfl⟩] at hg
           have HG:=LH hg;clear hg;go_wp2_with (fail);with_reducible refine (Q1l n I _).mono ?_
           rintro e w5 ⟨rfl,rfl⟩;obtain ⟨vJ,sJ,gJ⟩:=Q0k (Q0e (Q0j n I)) sI;have hg:=HG.out;clear HG
           rw[Q01,gJ] at hg
           have HG:=LH hg;clear hg;obtain ⟨bJ,dJ⟩:=Q0b gJ (Q04 (Q11 n I)) dI;have GJ:=LH gJ;clear gJ;go_wp2_with (fail);with_reducible refine (Q0d F rb w0 sI sJ vJ (Q0j n I) _ HI.out dI GJ.out).mono ?_
           rintro e wJ ⟨rfl,hJ⟩;have HJ:=LH hJ;clear hJ HI GJ;by_cases kq:k<vJ
           ·have hg:=HG.out;clear HG
            rw[if_pos kq] at hg
            have HG:=LH hg;clear hg;obtain ⟨rfl,rfl⟩:=Prod.mk.inj HG.out;go_wp2_with (fail)
            go_ret2
            exact ⟨rfl,HJ.out⟩
           ·have hg:=HG.out;clear HG
            rw[if_neg kq] at hg
            have HG:=LH hg;clear hg;go_wp2_with (fail)
            go_roundw
            case rel=>unfold RUp;exact ⟨I+1,f,_,rfl,by omega,by omega,by omega,HJ.out,dJ,HG.out⟩
            case measure=>simp[intOf];omega
         ·have he:(Q4G n k v1 m f I).go sI=((v1,m-1),sI):=by
           rcases f with _|f
           ·rfl
           ·unfold Q4G;rw[Q0B,if_neg (fun h=>hlt h.1)];rfl
          rw[he] at HG
          obtain ⟨rfl,rfl⟩:=Prod.mk.inj HG.out;have c2:=HI.out.off;go_wp2_with (fail)
          go_ret2
          exact ⟨rfl,HI.out⟩
theorem Q7b (s0 s':RunS) (v:Int) (n k:Int) (w:World) (h:RAt F rb w0 s0 w) (d0:s0.Bd) (hg:(Q24 n k).go s0=(v,s')) (hn:i64B n) (hk:i64B k):
  Calls Tryz.prog 233 #[.pointer (some ⟨rb,0,none⟩),.int .i64 n,.int .i64 k] w fun e w'=>e=.returned (.int .i64 v)/\RAt F rb w0 s' w':=by
 unfold Q24 at hg;obtain ⟨v1,s1,g1⟩:=Q0k (Q1B n k) s0
 rw[Q01,g1] at hg
 obtain ⟨rfl,rfl⟩:=Prod.mk.inj hg;have H0:=LH h;have G1:=LH g1;clear h g1;clear hg;go_enter Tryz.func233,Tryz.ntmps233;go_wp2_with (fail);with_reducible refine (Q2S F rb w0 s0 s1 v1 n k _ H0.out d0 G1.out hn hk).mono ?_
 rintro e w1 ⟨rfl,h1⟩;have H1:=LH h1;clear h1;go_wp2_with (fail);with_reducible refine (Q0F n v1.1 v1.2 _).mono ?_
 rintro e w2 ⟨rfl,rfl⟩;go_wp2_with (fail);go_ret;exact ⟨rfl,H1.out⟩
end
theorem QeV {α:Type} (q:Ask) (k:Int->Prog α) {s:RunS} (h:s.off=false) (ha:s.Bd):((Prog.ask q k).go s).2.left<s.left:=
 Nat.lt_of_le_of_lt (Q6e (k (Q3h q s).1) (Q3h q s).2) (QdY q h ha.at_)
theorem Q5v {α:Type} (a:Int) (f:Int->Prog α) {s:RunS} (h:s.off=false) (ha:s.Bd):(((Q0e a).bind f).go s).2.left<s.left:=QeV ⟨1,a,0,0,[],0⟩ f h ha
theorem QeT (a:Int) {s:RunS} (h:s.off=false) (ha:s.Bd):((Q6D a).go s).2.left<s.left:=Q5v a _ h ha
theorem Q0i {α:Type} {p:Prog α} {s s':RunS} {v:α} (h:p.go s=(v,s')):s'.left<=s.left:=by have:=Q6e p s;rw[h] at this;exact this
theorem Q7r {α:Type} {p:Prog α} {s s':RunS} {v:α} (h:p.go s=(v,s')) (ho:s.off=true):s'=s:=by have:=Q73 p s ho;rw[h] at this;exact this
theorem Q0v {α:Type} {p:Prog α} {s s':RunS} {v:α} (h:p.go s=(v,s')):s'.tape=s.tape:=by have:=Q7P p s;rw[h] at this;exact this
theorem Qb4 {slot:Int} {s:RunS} (h:s.off=true):∀(f:Nat) (w:Int),(Q3j slot f w).go s=(w,s)
 |0,w=>rfl
 |f+1,w=>by unfold Q3j;rw[Q0B,if_neg (by rw[h];simp)];rfl
section
variable (F:Nat->Prop) (rb:Nat) (w0:World)
def Qgh (slot:Int) (v:Int) (s':RunS) (T:List Int) (xv:Value) (wr:World):Prop:=∃(x:Int) (f:Nat) (s:RunS),xv=.int .i64 x/\i64B x/\(s.off=false->s.left<f)/\s.tape=T/\RAt F rb w0 s wr/\s.Bd/\(Q3j slot f x).go s=(v,s')
theorem Q8n (s0 s':RunS) (v:Int) (f:Nat) (slot:Int) (w:World) (h:RAt F rb w0 s0 w) (d0:s0.Bd) (hg:(Q4M f slot).go s0=(v,s')) (hb:i64B slot) (hf:s0.left<=f):
  Calls Tryz.prog 196 #[.pointer (some ⟨rb,0,none⟩),.int .i64 slot] w fun e w'=>e=.returned (.int .i64 v)/\RAt F rb w0 s' w':=by
 unfold Q4M at hg
 have hl:∀v1 s1,(Q0e slot).go s0=(v1,s1)->s1.off=false->s1.left<f:=fun v1 s1 h1 h2=>by
  cases ho:s0.off with
  |true=>have:=Q7r h1 ho;rw[this,ho] at h2;cases h2
  |false=>
   have:=QeV ⟨1,slot,0,0,[],0⟩ Prog.ret ho d0
   rw[show (Prog.ask ⟨1,slot,0,0,[],0⟩ Prog.ret).go s0=(v1,s1) from h1] at this
   have this:s1.left<s0.left:=this;omega
 have HG:=LH hg;have H0:=LH h;have HLF:=LH hl;clear hg h hl;obtain ⟨v1,s1,g1⟩:=Q0k (Q0e slot) s0;have HLF1:=LH (HLF.out v1 s1 g1);have HT:=LH (Q0v g1);have hg:=HG.out;clear HG
 rw[Q01,g1] at hg
 have HG:=LH hg;clear hg;obtain ⟨b1,d1⟩:=Q0b g1 (Q04 hb) d0;have G1:=LH g1;clear g1 HLF hf;go_enter Tryz.func196,Tryz.ntmps196;go_wp2_with (fail);with_reducible refine (Q0d F rb w0 s0 s1 v1 slot _ H0.out d0 G1.out).mono ?_
 rintro e w1 ⟨rfl,h1⟩;have H1:=LH h1;clear h1 H0 G1;go_wp2_with (fail)
 go_loopw [5] (fun xv wr=>Qgh F rb w0 slot v s' s1.tape xv wr) (fun _ wr=>Q65 rb s1.tape.length wr)
 case atStart=>unfold Qgh;exact ⟨v1,f,s1,rfl,b1,HLF1.out,rfl,H1.out,d1,HG.out⟩
 case round=>
  obtain ⟨x,f1,s2,rfl,b2,hl2,ht2,h2,d2,hg2⟩:=hrel;clear H1 HG HLF1;have H2:=LH h2;have HG:=LH hg2;have HL2:=LH hl2;have HT2:=LH ht2;clear h2 hg2 hl2 ht2
  cases ho:s2.off with
  |true=>
   have c2:=Q0c H2.out ho;have hg:=HG.out;clear HG
   rw[Qb4 ho] at hg
   have HG:=LH hg;clear hg;clear ho;obtain ⟨rfl,rfl⟩:=Prod.mk.inj HG.out;go_wp2_with (fail);go_ret;exact ⟨rfl,H2.out⟩
  |false=>
   have c2:=Q0c H2.out ho;have hlt:=HL2.out ho;have HO:=LH ho;obtain ⟨g,rfl⟩:∃g,f1=g+1:=⟨f1-1,by omega⟩;unfold Q3j at HG;have hg:=HG.out;clear HG
   rw[Q0B] at hg
   have HG:=LH hg;clear hg;have hg:=HG.out;clear HG
   rw[ho] at hg
   have HG:=LH hg;clear hg;clear ho;by_cases k:Q05 x=5
   ·have hg:=HG.out;clear HG
    rw[if_pos ⟨rfl,k⟩] at hg
    have HG:=LH hg;clear hg;have e5:(Q05 x==5)=true:=by simpa using k
    clear k;have ha:=Q0D x;go_wp2_with (fail);with_reducible refine (Q0A x _ b2.lo b2.hi).mono ?_
    rintro e w3 ⟨rfl,rfl⟩;go_wp2_with (fail);with_reducible refine (Q0x x _ b2.lo b2.hi).mono ?_
    rintro e w3 ⟨rfl,rfl⟩;obtain ⟨v3,s3,g3⟩:=Q0k (Q6D (wAt x)) s2;have hl3:s3.left<s2.left:=by have:=QeT (wAt x) HO.out d2;rw[g3] at this;exact this
    have ht3:=Q0v g3;have hg:=HG.out;clear HG
    rw[Q01,g3] at hg
    have HG:=LH hg;clear hg;obtain ⟨_,d3⟩:=Q0b g3 (Qan ha.1 ha.2) d2;have G3:=LH g3;clear g3;go_wp2_with (fail);with_reducible refine (Qdh F rb w0 s2 s3 v3 (wAt x) _ H2.out d2 G3.out ha.1 ha.2).mono ?_
    rintro e w3 ⟨rfl,h3⟩;have H3:=LH h3;have HL3:=LH hl3;have HT3:=LH ht3;clear h3 hl3 ht3 G3;obtain ⟨v4,s4,g4⟩:=Q0k (Q0e slot) s3;have HL4:=LH (Q0i g4);have HT4:=LH (Q0v g4);have hg:=HG.out;clear HG
    rw[Q01,g4] at hg
    have HG:=LH hg;clear hg;obtain ⟨b4,d4⟩:=Q0b g4 (Q04 hb) d3;have G4:=LH g4;clear g4;go_wp2_with (fail);with_reducible refine (Q0d F rb w0 s3 s4 v4 slot _ H3.out d3 G4.out).mono ?_
    rintro e w4 ⟨rfl,h4⟩;have H4:=LH h4;clear h4 G4;go_wp2_with (fail)
    go_roundw
    case rel=>unfold Qgh;exact ⟨v4,g,s4,rfl,b4,fun _=>by have:=HL3.out;have:=HL4.out;omega,by rw[HT4.out,HT3.out,HT2.out],H4.out,d4,HG.out⟩
    case measure=>
     have e4:=Q0u H4.out;have e2:=Q0u H2.out
     rw[HT4.out,HT3.out,HT2.out] at e4
     rw[HT2.out] at e2
     have:=HL3.out;have:=HL4.out;omega
   ·have hg:=HG.out;clear HG
    rw[if_neg (fun h=>k h.2)] at hg
    have HG:=LH hg;clear hg;have e5:(Q05 x==5)=false:=by simpa using k
    clear k;obtain ⟨rfl,rfl⟩:=Prod.mk.inj HG.out;go_wp2_with (fail);with_reducible refine (Q0A x _ b2.lo b2.hi).mono ?_
    rintro e w3 ⟨rfl,rfl⟩;go_wp2_with (fail);go_ret;exact ⟨rfl,H2.out⟩
theorem RAt.setRec {F:Nat->Prop} {rb:Nat} {w0 w:World} {s:RunS} (h:RAt F rb w0 s w) (a:Int):RAt F rb w0 s (w.setCell ⟨rb,8,none⟩ (.int .i64 a))/\(∃r,w.cell? ⟨rb,8,none⟩=some (.int .i64 r))/\w.frozen? ⟨rb,8,none⟩=false:=by
 obtain ⟨⟨tv,wv,rec,laid,hp⟩,hc⟩:=h;have hc2:=Chg.of_mv (F:=fun x=>x=rb) (Mv.set1 w rb 8 (.int .i64 a)) rfl;exact ⟨⟨⟨tv,wv,a,laid,hp.fb,hp.blk.set_ 8 _,hc2.own hp.tape (Q0t hp.tape hp.blk (by decide)),hc2.own hp.ws (Q0t hp.ws hp.blk (by decide)),hp.ft,hp.fw⟩,hc.trans hc2⟩,⟨rec,hp.blk.cell 8⟩,hp.blk.frozen 8⟩
theorem Q1t (s0 s':RunS) (v:Int) (tag guard place old x:Int) (w:World) (h:RAt F rb w0 s0 w) (d0:s0.Bd) (hg:(Q1m tag guard place old x).go s0=(v,s')) (hgd:i64B guard) (hp:i64B place) (ho:i64B old) (hx:i64B x):
  Calls Tryz.prog 197 #[.pointer (some ⟨rb,0,none⟩),.int .i64 guard,.int .i64 place,.int .i64 old,.int .i64 x] w fun e w'=>e=.returned (.int .i64 v)/\RAt F rb w0 s' w':=by
 unfold Q1m at hg;have HG:=LH hg;have H0:=LH h;clear hg h;go_enter Tryz.func197,Tryz.ntmps197;go_wp2_with (fail);with_reducible refine (QbN guard place old x _).mono ?_
 rintro e wa ⟨qv,rfl,hq,hqb⟩;have HQ:=LH (Q0Z hq (Nat.zero_le _));have HN:=LH (fun g (hg:qv.ownBlock=some g)=>Nat.le_trans H0.out.2.size (hq.lt g hg).1);have H0a:=LH (H0.out.below hqb);clear hq hqb H0;obtain ⟨v1,s1,g1⟩:=Q0k (Q1G (Q30 guard place old x) tag) s0;have hg:=HG.out;clear HG
 rw[Q01,g1] at hg
 have HG:=LH hg;clear hg;obtain ⟨b1,d1⟩:=Q0b g1 (Q19 (by intro y hy;simp[Q30] at hy;rcases hy with rfl|rfl|rfl|rfl|rfl<;>first|assumption|exact Q0f) (by simp[Q30])) d0;have G1:=LH g1;clear g1;go_wp2_with (fail);with_reducible refine (Q1x F rb w0 s0 s1 v1 (Q30 guard place old x) tag qv _ H0a.out d0 HQ.out HN.out G1.out).mono ?_
 rintro e w1 ⟨rfl,h1⟩;have H1:=LH h1;clear h1 H0a HQ HN G1;have b10:=b1.lo;have b11:=b1.hi;by_cases k1:v1<=0
 ·have e1:decide (0<v1)=false:=decide_eq_false (by omega);have hg:=HG.out;clear HG
  rw[if_pos k1] at hg
  have HG:=LH hg;clear hg;obtain ⟨rfl,rfl⟩:=Prod.mk.inj HG.out
  rw[e1]
  clear e1 k1;go_wp2_with (fail);go_ret;exact ⟨rfl,H1.out⟩
 ·have e1:decide (0<v1)=true:=decide_eq_true (by omega);have hg:=HG.out;clear HG
  rw[if_neg k1] at hg
  have HG:=LH hg;clear hg
  rw[e1]
  clear e1;obtain ⟨hr,⟨rc,c8⟩,f8⟩:=H1.out.setRec v1;have H2:Hid (RAt F rb w0 s1 (w1.setCell ⟨rb,8,none⟩ (.int .i64 v1))):=LH hr;clear hr;go_wp2_with (fail);generalize w1.setCell ⟨rb,8,none⟩ (.int .i64 v1)=w1b at H2|-;clear H1 c8 f8;with_reducible refine (Q0I 5 v1 _).mono ?_
  rintro e w2 ⟨rfl,rfl⟩;have H1:Hid (RAt F rb w0 s1 w1b):=H2;clear H2;obtain ⟨v2,s2,g2⟩:=Q0k (Q33 place old (wOf 5 v1)) s1;have hg:=HG.out;clear HG
  rw[Q01,g2] at hg
  have HG:=LH hg;clear hg;obtain ⟨b2,d2⟩:=Q0b g2 (Q1j hp ho (Q0M _ _)) d1;have G2:=LH g2;clear g2;go_wp2_with (fail);with_reducible refine (Q1g F rb w0 s1 s2 v2 place old (wOf 5 v1) _ H1.out d1 G2.out).mono ?_
  rintro e w2 ⟨rfl,h2⟩;have H2:=LH h2;clear h2 H1 G2
  cases v2 with
  |false=>
   have hg:=HG.out;clear HG
   rw[if_pos rfl] at hg
   have HG:=LH hg;clear hg;obtain ⟨rfl,rfl⟩:=Prod.mk.inj HG.out;go_wp2_with (fail);go_ret;exact ⟨rfl,H2.out⟩
  |true=>
   have hg:=HG.out;clear HG
   rw[if_neg (fun h=>Bool.false_ne_true h.symm)] at hg
   have HG:=LH hg;clear hg;obtain ⟨v3,s3,g3⟩:=Q0k (Q0e guard) s2;have hg:=HG.out;clear HG
   rw[Q01,g3] at hg
   have HG:=LH hg;clear hg;obtain ⟨b3,d3⟩:=Q0b g3 (Q04 hgd) d2;have G3:=LH g3;clear g3;go_wp2_with (fail);with_reducible refine (Q0d F rb w0 s2 s3 v3 guard _ H2.out d2 G3.out).mono ?_
   rintro e w3 ⟨rfl,h3⟩;have H3:=LH h3;clear h3 H2 G3;by_cases kg:v3=0
   ·have eg:(v3 !=0)=false:=by simpa using kg
    have hg:=HG.out;clear HG
    rw[show (if v3=0 then (1:Int) else 2)=1 from if_pos kg] at hg
    have HG:=LH hg;clear hg;clear kg;obtain ⟨v4,s4,g4⟩:=Q0k (Q33 (wrap64 (v1+4)) 0 1) s3;have hg:=HG.out;clear HG
    rw[Q01,g4] at hg
    have HG:=LH hg;clear hg;obtain ⟨b4,d4⟩:=Q0b g4 (Q1j (Q0l _) Q0f Q10) d3;have G4:=LH g4;clear g4;go_wp2_with (fail);with_reducible refine (Q1g F rb w0 s3 s4 v4 (wrap64 (v1+4)) 0 1 _ H3.out d3 G4.out).mono ?_
    rintro e w4 ⟨rfl,h4⟩;have H4:=LH h4;clear h4 H3 G4;obtain ⟨v5,s5,g5⟩:=Q0k (Q0e (wrap64 (v1+4))) s4;have hg:=HG.out;clear HG
    rw[Q01,g5] at hg
    have HG:=LH hg;clear hg;obtain ⟨b5,d5⟩:=Q0b g5 (Q04 (Q0l _)) d4;have G5:=LH g5;clear g5;go_wp2_with (fail);with_reducible refine (Q0d F rb w0 s4 s5 v5 (wrap64 (v1+4)) _ H4.out d4 G5.out).mono ?_
    rintro e w5 ⟨rfl,h5⟩;have H5:=LH h5;clear h5 H4 G5;by_cases ko:v5=1
    ·have eo:(v5==1)=true:=by simpa using ko
     have hg:=HG.out;clear HG
     rw[if_pos ko] at hg
     have HG:=LH hg;clear hg;clear ko;obtain ⟨v6,s6,g6⟩:=Q0k (Q33 place (wOf 5 v1) x) s5;have hg:=HG.out;clear HG
     rw[Q01,g6] at hg
     have HG:=LH hg;clear hg;obtain ⟨b6,d6⟩:=Q0b g6 (Q1j hp (Q0M _ _) hx) d5;have G6:=LH g6;clear g6;go_wp2_with (fail);with_reducible refine (Q1g F rb w0 s5 s6 v6 place (wOf 5 v1) x _ H5.out d5 G6.out).mono ?_
     rintro e w6 ⟨rfl,h6⟩;have H6:=LH h6;clear h6 H5 G6;obtain ⟨rfl,rfl⟩:=Prod.mk.inj HG.out;go_wp2_with (fail);go_ret;exact ⟨rfl,H6.out⟩
    ·have eo:(v5==1)=false:=by simpa using ko
     have hg:=HG.out;clear HG
     rw[if_neg ko] at hg
     have HG:=LH hg;clear hg;clear ko;obtain ⟨v6,s6,g6⟩:=Q0k (Q33 place (wOf 5 v1) old) s5;have hg:=HG.out;clear HG
     rw[Q01,g6] at hg
     have HG:=LH hg;clear hg;obtain ⟨b6,d6⟩:=Q0b g6 (Q1j hp (Q0M _ _) ho) d5;have G6:=LH g6;clear g6;go_wp2_with (fail);with_reducible refine (Q1g F rb w0 s5 s6 v6 place (wOf 5 v1) old _ H5.out d5 G6.out).mono ?_
     rintro e w6 ⟨rfl,h6⟩;have H6:=LH h6;clear h6 H5 G6;obtain ⟨rfl,rfl⟩:=Prod.mk.inj HG.out;go_wp2_with (fail);go_ret;exact ⟨rfl,H6.out⟩
   ·have eg:(v3 !=0)=true:=by simpa using kg
    have hg:=HG.out;clear HG
    rw[show (if v3=0 then (1:Int) else 2)=2 from if_neg kg] at hg
    have HG:=LH hg;clear hg;clear kg;obtain ⟨v4,s4,g4⟩:=Q0k (Q33 (wrap64 (v1+4)) 0 2) s3;have hg:=HG.out;clear HG
    rw[Q01,g4] at hg
    have HG:=LH hg;clear hg;obtain ⟨b4,d4⟩:=Q0b g4 (Q1j (Q0l _) Q0f Q36) d3;have G4:=LH g4;clear g4;go_wp2_with (fail);with_reducible refine (Q1g F rb w0 s3 s4 v4 (wrap64 (v1+4)) 0 2 _ H3.out d3 G4.out).mono ?_
    rintro e w4 ⟨rfl,h4⟩;have H4:=LH h4;clear h4 H3 G4;obtain ⟨v5,s5,g5⟩:=Q0k (Q0e (wrap64 (v1+4))) s4;have hg:=HG.out;clear HG
    rw[Q01,g5] at hg
    have HG:=LH hg;clear hg;obtain ⟨b5,d5⟩:=Q0b g5 (Q04 (Q0l _)) d4;have G5:=LH g5;clear g5;go_wp2_with (fail);with_reducible refine (Q0d F rb w0 s4 s5 v5 (wrap64 (v1+4)) _ H4.out d4 G5.out).mono ?_
    rintro e w5 ⟨rfl,h5⟩;have H5:=LH h5;clear h5 H4 G5;by_cases ko:v5=1
    ·have eo:(v5==1)=true:=by simpa using ko
     have hg:=HG.out;clear HG
     rw[if_pos ko] at hg
     have HG:=LH hg;clear hg;clear ko;obtain ⟨v6,s6,g6⟩:=Q0k (Q33 place (wOf 5 v1) x) s5;have hg:=HG.out;clear HG
     rw[Q01,g6] at hg
     have HG:=LH hg;clear hg;obtain ⟨b6,d6⟩:=Q0b g6 (Q1j hp (Q0M _ _) hx) d5;have G6:=LH g6;clear g6;go_wp2_with (fail);with_reducible refine (Q1g F rb w0 s5 s6 v6 place (wOf 5 v1) x _ H5.out d5 G6.out).mono ?_
     rintro e w6 ⟨rfl,h6⟩;have H6:=LH h6;clear h6 H5 G6;obtain ⟨rfl,rfl⟩:=Prod.mk.inj HG.out;go_wp2_with (fail);go_ret;exact ⟨rfl,H6.out⟩
    ·have eo:(v5==1)=false:=by simpa using ko
     have hg:=HG.out;clear HG
     rw[if_neg ko] at hg
     have HG:=LH hg;clear hg;clear ko;obtain ⟨v6,s6,g6⟩:=Q0k (Q33 place (wOf 5 v1) old) s5;have hg:=HG.out;clear HG
     rw[Q01,g6] at hg
     have HG:=LH hg;clear hg;obtain ⟨b6,d6⟩:=Q0b g6 (Q1j hp (Q0M _ _) ho) d5;have G6:=LH g6;clear g6;go_wp2_with (fail);with_reducible refine (Q1g F rb w0 s5 s6 v6 place (wOf 5 v1) old _ H5.out d5 G6.out).mono ?_
     rintro e w6 ⟨rfl,h6⟩;have H6:=LH h6;clear h6 H5 G6;obtain ⟨rfl,rfl⟩:=Prod.mk.inj HG.out;go_wp2_with (fail);go_ret;exact ⟨rfl,H6.out⟩
def Qfb (k:Int) (v:Int×Bool) (s':RunS) (T:List Int) (nv:Value) (wr:World):Prop:=∃(n:Int) (f:Nat) (s:RunS),nv=.int .i64 n/\i64B n/\(s.off=false->s.left<f)/\s.tape=T/\RAt F rb w0 s wr/\s.Bd/\(Q4m k f n).go s=(v,s')
theorem Qcy {k n:Int} {s:RunS} (h:s.off=true):∀f,(Q4m k f n).go s=((0,false),s)
 |0=>rfl
 |f+1=>by unfold Q4m;rw[Q0B,if_pos h];rfl
theorem Q9c (n k:Int) {s:RunS} (h:s.off=false) (ha:s.Bd):((Q24 n k).go s).2.left<s.left:=Q5v n _ h ha
theorem Qcx (s0 s':RunS) (v:Int×Bool) (f:Nat) (k:Int) (w:World) (h:RAt F rb w0 s0 w) (d0:s0.Bd) (hg:(Q4m k f 1).go s0=(v,s')) (hk:i64B k) (hf:s0.left<f):
  Calls Tryz.prog 199 #[.pointer (some ⟨rb,0,none⟩),.int .i64 k] w fun e w'=>e=.returned (.tuple #[.int .i64 v.1,.bool v.2])/\RAt F rb w0 s' w':=by
 have HG:=LH hg;have H0:=LH h;have HLF:=LH hf;clear hg h hf;go_enter Tryz.func199,Tryz.ntmps199;go_wp2_with (fail)
 go_loopw [6] (fun nv wr=>Qfb F rb w0 k v s' s0.tape nv wr) (fun _ wr=>Q65 rb s0.tape.length wr)
 case atStart=>unfold Qfb;exact ⟨1,f,s0,rfl,Q10,fun _=>HLF.out,rfl,H0.out,d0,HG.out⟩
 case round=>
  obtain ⟨n,f1,s1,rfl,hn,hl1,ht1,h1,d1,hg1⟩:=hrel;clear H0 HG HLF d0;have H1:=LH h1;have HG:=LH hg1;have HL0:=LH hl1;have HT0:=LH ht1;clear h1 hg1 hl1 ht1
  cases ho:s1.off with
  |true=>
   have c2:=Q0c H1.out ho;have hg:=HG.out;clear HG
   rw[Qcy ho] at hg
   have HG:=LH hg;clear hg;clear ho;obtain ⟨rfl,rfl⟩:=Prod.mk.inj HG.out;go_wp2_with (fail)
   go_ret2
   exact ⟨rfl,H1.out⟩
  |false=>
   have c2:=Q0c H1.out ho;have hlt:=HL0.out ho;have HO:=LH ho;obtain ⟨g,rfl⟩:∃g,f1=g+1:=⟨f1-1,by omega⟩;unfold Q4m at HG;have hg:=HG.out;clear HG
   rw[Q0B] at hg
   have HG:=LH hg;clear hg;have hg:=HG.out;clear HG
   rw[ho] at hg
   have HG:=LH hg;clear hg;clear ho;have hg:=HG.out;clear HG
   rw[if_neg Bool.false_ne_true] at hg
   have HG:=LH hg;clear hg;obtain ⟨v2,s2,g2⟩:=Q0k (Q24 n k) s1;have HL2:=LH (show s2.left<s1.left by have:=Q9c n k HO.out d1;rw[g2] at this;exact this);have HT2:=LH (Q0v g2);have hg:=HG.out;clear HG
   rw[Q01,g2] at hg
   have HG:=LH hg;clear hg;obtain ⟨b2,d2⟩:=Q0b g2 (Q3C hn) d1;have G2:=LH g2;clear g2;go_wp2_with (fail);with_reducible refine (Q7b F rb w0 s1 s2 v2 n k _ H1.out d1 G2.out hn hk).mono ?_
   rintro e w2 ⟨rfl,h2⟩;have H2:=LH h2;clear h2 G2;obtain ⟨v3,s3,g3⟩:=Q0k (Q2V v2) s2;have HL3:=LH (Q0i g3);have HT3:=LH (Q0v g3);have hg:=HG.out;clear HG
   rw[Q01,g3] at hg
   have HG:=LH hg;clear hg;obtain ⟨b3,d3⟩:=Q0b g3 (Q29 b2) d2;have G3:=LH g3;clear g3;go_wp2_with (fail);with_reducible refine (Q3u F rb w0 s2 s3 v3 v2 _ H2.out d2 G3.out b2).mono ?_
   rintro e w3 ⟨rfl,h3⟩;have H3:=LH h3;clear h3 G3 H2;have ha:=Q0D v3;go_wp2_with (fail);with_reducible refine (Q0x v3 _ b3.lo b3.hi).mono ?_
   rintro e w4 ⟨rfl,rfl⟩;go_wp2_with (fail);with_reducible refine (Q0A v3 _ b3.lo b3.hi).mono ?_
   rintro e w4 ⟨rfl,rfl⟩;by_cases k2:Q05 v3=2
   ·have hg:=HG.out;clear HG
    rw[if_pos k2] at hg
    have HG:=LH hg;clear hg;have e2:(Q05 v3==2)=true:=by simpa using k2
    clear k2;obtain ⟨v4,s4,g4⟩:=Q0k (Q0e (wAt v3)) s3;have hg:=HG.out;clear HG
    rw[Q01,g4] at hg
    have HG:=LH hg;clear hg;obtain ⟨b4,d4⟩:=Q0b g4 (Q04 (Q0H v3)) d3;have G4:=LH g4;clear g4;go_wp2_with (fail);with_reducible refine (Q0d F rb w0 s3 s4 v4 (wAt v3) _ H3.out d3 G4.out).mono ?_
    rintro e w4 ⟨rfl,h4⟩;have H4:=LH h4;clear h4 H3 G4;by_cases kq:v4=k
    ·have hg:=HG.out;clear HG
     rw[if_pos kq] at hg
     have HG:=LH hg;clear hg;have eq:(v4 !=k)=false:=by simpa using kq
     clear kq;obtain ⟨v5,s5,g5⟩:=Q0k (Q0e (wAt v3+1)) s4;have hg:=HG.out;clear HG
     rw[Q01,g5] at hg
     have HG:=LH hg;clear hg;obtain ⟨b5,d5⟩:=Q0b g5 (Q04 (Q3n v3 (by decide) (by decide))) d4;have G5:=LH g5;clear g5;go_wp2_with (fail);with_reducible refine (Q0d F rb w0 s4 s5 v5 (wAt v3+1) _ H4.out d4 G5.out).mono ?_
     rintro e w5 ⟨rfl,h5⟩;have H5:=LH h5;clear h5 H4 G5;obtain ⟨rfl,rfl⟩:=Prod.mk.inj HG.out;go_wp2_with (fail)
     go_ret2
     exact ⟨rfl,H5.out⟩
    ·have hg:=HG.out;clear HG
     rw[if_neg kq] at hg
     have HG:=LH hg;clear hg;have eq:(v4 !=k)=true:=by simpa using kq
     clear kq;obtain ⟨rfl,rfl⟩:=Prod.mk.inj HG.out;go_wp2_with (fail)
     go_ret2
     exact ⟨rfl,H4.out⟩
   ·have hg:=HG.out;clear HG
    rw[if_neg k2] at hg
    have HG:=LH hg;clear hg;have e2:(Q05 v3==2)=false:=by simpa using k2
    by_cases k3:Q05 v3=3
    ·have hg:=HG.out;clear HG
     rw[if_pos k3] at hg
     have HG:=LH hg;clear hg;have e3:(Q05 v3==3)=true:=by simpa using k3
     clear k2 k3;go_wp2_with (fail)
     go_roundw
     case rel=>unfold Qfb;exact ⟨wAt v3,g,s3,rfl,Q0H v3,fun _=>by have:=HL3.out;have:=HL2.out;omega,by rw[HT3.out,HT2.out,HT0.out],H3.out,d3,HG.out⟩
     case measure=>
      have e4:=Q0u H3.out;have e1:=Q0u H1.out
      rw[HT3.out,HT2.out,HT0.out] at e4
      rw[HT0.out] at e1
      have:=HL3.out;have:=HL2.out;omega
    ·have hg:=HG.out;clear HG
     rw[if_neg k3] at hg
     have HG:=LH hg;clear hg;have e3:(Q05 v3==3)=false:=by simpa using k3
     by_cases k4:Q05 v3=4
     ·have hg:=HG.out;clear HG
      rw[if_pos k4] at hg
      have HG:=LH hg;clear hg;have e4:(Q05 v3==4)=true:=by simpa using k4
      clear k2 k3 k4;obtain ⟨v4,s4,g4⟩:=Q0k (Q0e (wAt v3)) s3;have HL4:=LH (Q0i g4);have HT4:=LH (Q0v g4);have hg:=HG.out;clear HG
      rw[Q01,g4] at hg
      have HG:=LH hg;clear hg;obtain ⟨b4,d4⟩:=Q0b g4 (Q04 (Q0H v3)) d3;have G4:=LH g4;clear g4;go_wp2_with (fail);with_reducible refine (Q0d F rb w0 s3 s4 v4 (wAt v3) _ H3.out d3 G4.out).mono ?_
      rintro e w4 ⟨rfl,h4⟩;have H4:=LH h4;clear h4 H3 G4;go_wp2_with (fail);with_reducible refine (Q0x v4 _ b4.lo b4.hi).mono ?_
      rintro e w5 ⟨rfl,rfl⟩;go_wp2_with (fail)
      go_roundw
      case rel=>unfold Qfb;exact ⟨wAt v4,g,s4,rfl,Q0H v4,fun _=>by have:=HL4.out;have:=HL3.out;have:=HL2.out;omega,by rw[HT4.out,HT3.out,HT2.out,HT0.out],H4.out,d4,HG.out⟩
      case measure=>
       have e4:=Q0u H4.out;have e1:=Q0u H1.out
       rw[HT4.out,HT3.out,HT2.out,HT0.out] at e4
       rw[HT0.out] at e1
       have:=HL4.out;have:=HL3.out;have:=HL2.out;omega
     ·have hg:=HG.out;clear HG
      rw[if_neg k4] at hg
      have HG:=LH hg;clear hg;have e4:(Q05 v3==4)=false:=by simpa using k4
      clear k2 k3 k4;obtain ⟨rfl,rfl⟩:=Prod.mk.inj HG.out;go_wp2_with (fail)
      go_ret2
      exact ⟨rfl,H3.out⟩
end
def Q3x (L:List (Int×Int)):List Int:=L.map (·.1)
theorem Q1Y (L:List (Int×Int)):(Q3x L).length=L.length:=by simp[Q3x]
theorem Q5x (L:List (Int×Int)) (i:Nat) (h:i<L.length):keyAt (Q3x L) i=Q17 L i:=by
 unfold keyAt Q17 Q3x
 rw[List.getD_eq_getElem?_getD,List.getD_eq_getElem?_getD]
 simp[h]
def Q6C:List (Int×Int)->Int->Int->List (Int×Int)
 |[],k,v=>[(k,v)]
 |p::L,k,v=>if p.1<k then p::Q6C L k v else if p.1=k then (k,v)::L else (k,v)::p::L
theorem Q7y:∀(L:List (Int×Int)) (k v:Int),Qew L k v=Q6C L k v
 |[],k,v=>rfl
 |p::L,k,v=>by
  have ih:=Q7y L k v;unfold Qew at ih|-;by_cases c:p.1<k
  ·have ep:Q0m (p::L) k=Q0m L k+1:=by simp[Q0m,c]
   have er:Q6C (p::L) k v=p::Q6C L k v:=by simp[Q6C,c]
   have e:Q17 (p::L) (Q0m L k+1)=Q17 L (Q0m L k):=rfl;simp only[ep,er,e];rw[<-ih];by_cases d:Q0m L k<L.length/\Q17 L (Q0m L k)=k
   ·rw[if_pos d,if_pos ⟨by simp only[List.length_cons];omega,d.2⟩];simp
   ·rw[if_neg d,if_neg fun h=>d ⟨by have:=h.1;simp only[List.length_cons] at this;omega,h.2⟩];simp
  ·have ep:Q0m (p::L) k=0:=by simp[Q0m,c]
   have e:Q17 (p::L) 0=p.1:=rfl;simp only[ep,e];by_cases d:p.1=k
   ·have er:Q6C (p::L) k v=(k,v)::L:=by simp only[Q6C];rw[if_neg c,if_pos d]
    rw[er,if_pos ⟨by simp,d⟩];simp
   ·have er:Q6C (p::L) k v=(k,v)::p::L:=by simp only[Q6C];rw[if_neg c,if_neg d]
    rw[er,if_neg fun h=>d h.2];simp
theorem Qac:∀(L:List (Int×Int)) (k v x:Int),x∈Q3x (Q6C L k v)->x=k\/x∈Q3x L
 |[],k,v,x,h=>by simp[Q6C,Q3x] at h;exact .inl h
 |p::L,k,v,x,h=>by
  simp only[Q6C] at h
  split at h
  ·simp only[Q3x,List.map_cons,List.mem_cons] at h|-
   rcases h with h|h
   ·exact .inr (.inl h)
   ·rcases Qac L k v x h with h|h
    ·exact .inl h
    ·exact .inr (.inr h)
  ·split at h
   ·simp only[Q3x,List.map_cons,List.mem_cons] at h|-
    rcases h with h|h
    ·exact .inl h
    ·exact .inr (.inr h)
   ·simp only[Q3x,List.map_cons,List.mem_cons] at h|-;exact h
theorem Qae:∀(L:List (Int×Int)) (k v:Int),(Q3x L).Pairwise (·<·)->(Q3x (Q6C L k v)).Pairwise (·<·)
 |[],k,v,_=>by simp[Q6C,Q3x]
 |p::L,k,v,h=>by
  have h':(∀x∈Q3x L,p.1<x)/\(Q3x L).Pairwise (·<·):=List.pairwise_cons.1 h;simp only[Q6C]
  split
  ·rename_i c;refine List.pairwise_cons.2 ⟨fun x hx=> ?_,Qae L k v h'.2⟩
   rcases Qac L k v x hx with e|e
   ·subst e;exact c
   ·exact h'.1 x e
  ·split
   ·rename_i c d;exact List.pairwise_cons.2 ⟨fun x hx=>by have:=h'.1 x hx;simp only;omega,h'.2⟩
   ·rename_i c d;refine List.pairwise_cons.2 ⟨fun x hx=> ?_,h⟩
    rcases List.mem_cons.1 hx with e|e
    ·have e2:x=p.1:=e;simp only;omega
    ·have:=h'.1 x e;simp only;omega
theorem Qad:∀(L:List (Int×Int)) (k v:Int),(Q6C L k v).length<=L.length+1
 |[],k,v=>by simp[Q6C]
 |p::L,k,v=>by
  have:=Qad L k v;simp only[Q6C]
  split
  ·simp only[List.length_cons];omega
  ·split<;>simp
theorem Qcj (n k:Int) (hk:0<k):(if n.tmod k<0 then n.tmod k+k else n.tmod k)=n%k:=by
 have h0:=Int.emod_nonneg n (show k≠0 by omega);have h1:=Int.emod_lt_of_pos n hk
 rw[Int.tmod_eq_emod]
 split<;>split<;>omega
theorem Q48 (n k:Int) (hk:0<k):-k<n.tmod k/\n.tmod k<k:=by
 have h0:=Int.emod_nonneg n (show k≠0 by omega);have h1:=Int.emod_lt_of_pos n hk
 rw[Int.tmod_eq_emod]
 split<;>omega
theorem Q1u (n k:Int) (w:World) (h0:-9223372036854775808<=n) (h1:n<=9223372036854775807) (hk:0<k) (k1:k<=9223372036854775807):
  Calls Tryz.prog 22 #[.int .i64 n,.int .i64 k] w fun e w'=>e=.returned (.int .i64 (n%k))/\w=w':=by
 obtain ⟨b0,b1⟩:=Q48 n k hk;have H:=LH (Qcj n k hk);by_cases c:n.tmod k<0
 ·rw[if_pos c] at H
  go_enter Tryz.func22,Tryz.ntmps22
  go_wp2
  go_ret;exact ⟨Q0y H.out,rfl⟩
 ·rw[if_neg c] at H
  go_enter Tryz.func22,Tryz.ntmps22
  go_wp2
  go_ret;exact ⟨Q0y H.out,rfl⟩
theorem Q3B (n k:Int) (hk:0<k):0<=n%k/\n%k<k:=⟨Int.emod_nonneg n (by omega),Int.emod_lt_of_pos n hk⟩
open Go.RowKit Go.ChangeShapes Go.WideShapes
def IsRow (k:IntKind) (w:World) (a:Option Addr) (len cap:Nat) (zs:List Int):Prop:=
 (a=none/\len=0/\cap=0/\zs=[])\/
 ∃x,a=some x/\len<=cap/\cap<=maxLen/\zs.length=cap/\(∀i,i<zs.length->w.cell? (x.add i)=some (.int k (zs.getD i 0)))/\∀n∈zs,(Lit.int k n).wf=true
theorem row_sized {H:Type} {enc:TypeId×Value->H} {P:Program} {W:World} {base:Nat} {spare:Nat->Bool} {held:Bool} {t e:TypeId} {k:IntKind} {a:Option Addr} {len cap:Nat} {d:DataW H} {ps:List MemPlace} {ts:List TypeId} {ds:List (DataW H)} {j:Nat}
  (hsz:(DataW.weightsEach P ts ds).all (·<=reachBytes)=true) (ht:ts[j]? =some t) (hd:ds[j]? =some d) (hu:P.underlying t=some (.slice e)) (he:P.underlying e=some (.int k)) (hc:P.cellsOf e=1) {B:Nat} (hB:P.bytesOf e=B)
  (h:DataW.Trod enc P W base spare held t (.slice a len cap) d ps):len*B<=140737488351232:=by
 obtain ⟨fuel,hf⟩:=h
 rcases open_ints hu he hc hf with ⟨hcs,_⟩|⟨x,l,c,zs,hcs,_,hl,_,hz,hx,_,_⟩
 ·simp[Value.cells] at hcs;obtain ⟨rfl,rfl,rfl⟩:=hcs;simp
 ·simp[Value.cells] at hcs;obtain ⟨rfl,rfl,rfl⟩:=hcs;obtain ⟨hx,_⟩:=Prod.mk.inj hx;subst hx;have z:=sized_slice hsz ht hd hu
  rw[hB] at z
  have hl2:len<=zs.length:=by
   rw[hz]
   split
   ·exact hl
   ·exact Nat.le_refl _
  have h1:(lits (H:=H) k (zs.take len)).length+(lits (H:=H) k (zs.drop len)).length=zs.length:=by
   simp[lits];omega
  rw[h1] at z
  exact Nat.le_trans (Nat.mul_le_mul_right _ hl2) z
theorem row_ints {w:World} {a:Option Addr} {len cap:Nat} {zs:List Int} (h:IsRow .i64 w a len cap zs):
  ∃q:List Int,len=q.length/\q.length<=cap/\IntsAt w w.heap.size a q/\∀i,i<q.length->-9223372036854775808<=keyAt q i/\keyAt q i<=9223372036854775807:=by
 rcases h with ⟨rfl,rfl,rfl,rfl⟩|⟨x,rfl,hl,_,hz,hcell,hw⟩
 ·exact ⟨[],rfl,Nat.le_refl _,Reads.none_,fun i h=>absurd h (by simp)⟩
 ·have hlen:(zs.take len).length=len:=by rw[List.length_take];omega
  have key:∀i,i<len->keyAt (zs.take len) i=zs.getD i 0:=fun i hi=>by
   unfold keyAt
   rw[List.getD_eq_getElem?_getD,List.getD_eq_getElem?_getD,List.getElem?_take,if_pos hi]
  refine ⟨zs.take len,hlen.symm,by rw[hlen];exact hl,⟨by simp,fun hn=>⟨x,rfl, ?_,fun j u hu=> ?_⟩⟩,fun i hi=> ?_⟩
  ·have:=World.block_lt_of_cell? w _ (hcell 0 (by omega))
   rwa [Q0O] at this
  ·have hj:j<len:=by
    rcases Nat.lt_or_ge j len with g|g
    ·exact g
    ·rw[List.getElem?_eq_none (by simp;omega)] at hu;cases hu
   rw[hcell j (by omega)]
   rw[List.getElem?_map,List.getElem?_take,if_pos hj,List.getElem?_eq_getElem (by omega)] at hu
   rw[List.getD_eq_getElem?_getD,List.getElem?_eq_getElem (by omega)]
   exact hu
  ·have hi':i<len:=by omega
   rw[key i hi',List.getD_eq_getElem?_getD,List.getElem?_eq_getElem (by omega)]
   exact Go.bounds_i64 (hw _ (List.getElem_mem _))
def bdI (x:Int):Prop:=-9223372036854775808<=x/\x<=9223372036854775807
def PB (l:List (Int×Int)):Prop:=∀p∈l,bdI p.1/\bdI p.2
theorem PB.at_ {l:List (Int×Int)} (h:PB l) (i:Nat):bdI (l.getD i (0,0)).1/\bdI (l.getD i (0,0)).2:=by
 by_cases hi:i<l.length
 ·have e:l.getD i (0,0)=l[i]:=by simp[List.getD,hi]
  rw[e]
  exact h _ (List.getElem_mem hi)
 ·have e:l.getD i (0,0)=(0,0):=by simp[List.getD,List.getElem?_eq_none (by omega:l.length<=i)]
  rw[e]
  unfold bdI;decide
theorem PB.key {l:List (Int×Int)} (h:PB l) (i:Nat):bdI (Q17 l i):=(h.at_ i).1
theorem PB.val {l:List (Int×Int)} (h:PB l) (i:Nat):bdI (Q4b l i):=(h.at_ i).2
theorem Q8S {l:List (Int×Int)} (h:PB l):∀i,∀x∈Q1n l i,bdI x
 |0,x,hx=>by cases hx
 |1,x,hx=>by cases hx
 |i+2,x,hx=>by
  unfold Q1n at hx
  rcases List.mem_append.1 hx with hx|hx
  ·exact Q8S h (i+1) x hx
  ·rw[List.mem_singleton.1 hx];exact h.key _
theorem Q8R:∀f C l,0<=(Q0S f C l).2/\(Q0S f C l).2<=524293
 |0,C,l=>by unfold Q0S;omega
 |f+1,C,l=>by
  unfold Q0S
  split
  ·exact Qcd _ _
  ·split<;>exact Qcd _ _
theorem Qda:∀(f:Nat) (C:List Int) (l:List (Int×Int)),(∀x∈C,bdI x)->PB l->l.length<=16384->∀x∈(Q0S f C l).1,bdI x
 |0,C,l,hC,_,_=>hC
 |f+1,C,l,hC,hl,hn=>by
  unfold Q0S
  split
  ·intro x hx
   rcases List.mem_append.1 hx with hx|hx
   ·exact hC x hx
   ·have:x=0:=by simpa using hx
    rw[this];unfold bdI;decide
  ·split
   ·intro x hx
    rcases List.mem_append.1 hx with hx|hx
    ·exact hC x hx
    ·rcases List.mem_cons.1 hx with rfl|hx
     ·exact hl.key 0
     ·have:x=_:=List.mem_singleton.1 hx
      rw[this];exact hl.val 0
   ·rename_i c0 c1;have hd:=Q0L (n:=l.length) (by omega) (by omega)
    have key:∀i,(∀x∈(Q0P (Q0S f) C l i).1,bdI x)/\∀x∈(Q0P (Q0S f) C l i).2,bdI x:=by
     intro i
     induction i with
     |zero=>exact ⟨hC,fun x hx=>by cases hx⟩
     |succ i ih=>
      refine ⟨Qda f _ _ ih.1 (fun p hp=>hl p (List.mem_of_mem_drop (List.mem_of_mem_take hp))) (by simp;omega),fun x hx=> ?_⟩
      rcases List.mem_append.1 hx with hx|hx
      ·exact ih.2 x hx
      ·have e:x=_:=List.mem_singleton.1 hx;have:=Q8R f (Q0P (Q0S f) C l i).1 ((l.drop (Q0R l.length i).toNat).take (Q14 l.length i).toNat)
       rw[e];unfold bdI;omega
    intro x hx
    rcases List.mem_append.1 hx with hx|hx
    ·exact (key _).1 x hx
    ·unfold Q0U at hx
     rcases List.mem_append.1 hx with hx|hx
     ·rcases List.mem_append.1 hx with hx|hx
      ·rw[Q1R] at hx
       simp only[List.mem_cons,List.not_mem_nil,or_false] at hx;unfold bdI;omega
      ·exact Q8S hl _ x hx
     ·exact (key _).2 x hx
def SomePairsO (L:List (Int×Int)) (w:World) (e:Ending) (w':World):Prop:=∃A c,e=.returned (.slice A L.length c)/\L.length<=c/\PairsAt w' w'.heap.size A L/\Below w.heap.size w w'/\∀ad,A=some ad->w.heap.size<=ad.block
theorem SomePairsO.of_own {L:List (Int×Int)} {w w':World} {et:TypeId} {v:Value} {n:Nat} (h:w'.ownsRow w.heap.size et 2 v n (Q0p L)) (hb:Below w.heap.size w w'):SomePairsO L w (.returned v) w':=by
 have hn:n=L.length:=by have:=h.1;rw[Q52] at this;omega
 subst hn
 rcases h.2 with ⟨rfl,h0⟩|⟨g,cap,cur,rfl,hg,_,hle,_⟩
 ·have:L=[]:=List.eq_nil_of_length_eq_zero h0;subst this;exact ⟨none,0,rfl,Nat.le_refl _,Reads.none_,hb,fun ad h=>by cases h⟩
 ·exact ⟨_,cap,rfl,hle,Reads.of_own h,hb,fun ad e=>by injection e with e;subst e;exact hg⟩
section
attribute [local go_sem] Q4o Sem.run_pure Array.toList_empty
theorem Qex (A:Option Addr) (c:Nat) (L:List (Int×Int)) (k v:Int) (w:World) (hq:PairsAt w w.heap.size A L) (hl:L.length<=80) (hc:L.length<=c):
  Calls Tryz.prog 87 #[.slice A L.length c,.int .i64 k,.int .i64 v] w (SomePairsO (Qew L k v) w):=by
 obtain ⟨i0,hi0,hz0,hz1,hz2⟩:=info_parts Q3y;have hn:=Q8H L k;have e1:((Q0m L k:Int)+1).toNat=Q0m L k+1:=by omega
 rcases A with _|ad
 ·have hL:L=[]:=by
   rcases Nat.eq_zero_or_pos L.length with g|g
   ·exact List.eq_nil_of_length_eq_zero g
   ·obtain ⟨ad,h,_⟩:=hq.2 g
    cases h
  subst hL;have ep:Q0m [] k=0:=rfl;have HE:=LH (show Qew [] k v=[(k,v)] from rfl);clear e1;go_enter Tryz.func87,Tryz.ntmps87;go_wp2_with (fail);refine (Q8G none c [] k w hq hl).mono ?_;rintro e V1 ⟨rfl,hd⟩;have hge:=(Q3d hd).2;have hB1:=(Q3d hd).1;clear hq hd
  rw[ep]
  have hc0:0<=c:=hc;go_wp2_with (first|(at_builtin;refine Q09 _ rfl _ _ 40 rfl w.heap.size 52 i0 (.agg #[.int .i64 0,.int .i64 0]) 2 16 Tryz.underlying40 hi0 hz0 hz1 hz2 rfl (by decide) _ 0 [] rfl (World.ownsRow_lit V1 #[] 0 (by omega) (by simp[maxLen]) rfl) w.heap.size none 0 _ [] rfl Reads.none_ (by simp) (by simp only[maxLen];omega) (by omega) (by simp;omega) ?_;intro v1 W1 hown1 hg1 hb1;clear hb1;simp only[Nat.zero_add,List.nil_append] at hown1;have hB2:Below w.heap.size w W1:=(hB1.alloc (by omega) _).grown hg1 (by simp;omega) (fun g hg=>by injection hg with hg;subst hg;exact hge);clear hg1;have hz1':=hB2.size)|(at_builtin;refine Q09 _ rfl _ _ 40 rfl w.heap.size 52 i0 (.agg #[.int .i64 0,.int .i64 0]) 2 16 Tryz.underlying40 hi0 hz0 hz1 hz2 rfl (by decide) v1 0 [] rfl (hown1.alloc _) (W1.heap.size+1) (some ⟨W1.heap.size,0,none⟩) 1 1 [.int .i64 k,.int .i64 v] rfl (Q2f _ _ _ _) (by simp[Value.oneCell']) (by simp only[maxLen];omega) (by omega) (by simp;omega) ?_;intro v2 W2 hown2 hg2 hb2;clear hb2;simp only[Nat.zero_add,List.nil_append] at hown2;have hB3:Below w.heap.size w W2:=(hB2.alloc hz1' _).grown hg2 (by simp;omega) (fun g hg=>(hown1.lt g hg).1);clear hg2;have hz2':=hB3.size)|(at_builtin;refine Q09 _ rfl _ _ 40 rfl w.heap.size 52 i0 (.agg #[.int .i64 0,.int .i64 0]) 2 16 Tryz.underlying40 hi0 hz0 hz1 hz2 rfl (by decide) v2 1 [.int .i64 k,.int .i64 v] rfl hown2 w.heap.size none 0 _ [] rfl Reads.none_ (by simp) (by simp only[maxLen];omega) (by omega) (by omega) ?_;intro v3 W3 hown3 hg3 hb3;clear hb3;have hB4:Below w.heap.size w W3:=hB3.grown hg3 (by omega) (fun g hg=>(hown2.lt g hg).1);clear hg3))
  all_goals go_ret
  all_goals exact SomePairsO.of_own (L:=Qew [] k v) (by rw[HE.out];exact hown3) hB4
 go_enter Tryz.func87,Tryz.ntmps87;go_wp2_with (fail);refine (Q8G (some ad) c L k w hq hl).mono ?_;rintro e V1 ⟨rfl,hd⟩;have hge:=(Q3d hd).2;have hB1:=(Q3d hd).1;have HQ:=LH hq;clear hq hd;by_cases hlt:Q0m L k<L.length
 ·by_cases hk:Q17 L (Q0m L k)=k
  ·have E:=LH (Q5W (L:=L) (k:=k) (v:=v) (n:=Q0m L k+1) (if_pos ⟨hlt,hk⟩));have hk':(Q17 L (Q0m L k)==k)=true:=by simpa using hk
   by_cases hcn:c=Q0m L k+1
   ·go_wp2_with (first|(at_builtin;refine Q09 _ rfl _ _ 40 rfl w.heap.size 52 i0 (.agg #[.int .i64 0,.int .i64 0]) 2 16 Tryz.underlying40 hi0 hz0 hz1 hz2 rfl (by decide) _ 0 [] rfl (World.ownsRow_lit V1 #[] 0 (by omega) (by simp[maxLen]) rfl) w.heap.size _ _ _ (Q0p (L.take (Q0m L k))) rfl ((PairsAt.take (Reads.below HQ.out hB1) hn).alloc (by omega) _) Q1e (by simp only[maxLen];omega) (by omega) (by simp;omega) ?_;intro v1 W1 hown1 hg1 hb1;clear hb1;simp only[Nat.zero_add,List.nil_append] at hown1;have hB2:Below w.heap.size w W1:=(hB1.alloc (by omega) _).grown hg1 (by simp;omega) (fun g hg=>by injection hg with hg;subst hg;exact hge);clear hg1;have hz1':=hB2.size)|(at_builtin;refine Q09 _ rfl _ _ 40 rfl w.heap.size 52 i0 (.agg #[.int .i64 0,.int .i64 0]) 2 16 Tryz.underlying40 hi0 hz0 hz1 hz2 rfl (by decide) v1 (Q0m L k) (Q0p (L.take (Q0m L k))) rfl (hown1.alloc _) (W1.heap.size+1) (some ⟨W1.heap.size,0,none⟩) 1 1 [.int .i64 k,.int .i64 v] rfl (Q2f _ _ _ _) (by simp[Value.oneCell']) (by simp only[maxLen];omega) (by omega) (by simp;omega) ?_;intro v2 W2 hown2 hg2 hb2;clear hb2;have hB3:Below w.heap.size w W2:=(hB2.alloc hz1' _).grown hg2 (by simp;omega) (fun g hg=>(hown1.lt g hg).1);clear hg2;have hz2':=hB3.size;have hcell:=PairsAt.keyAt (Reads.below HQ.out hB3) hlt)|(at_builtin;have HR3:Reads W2 w.heap.size 2 (some ad) (L.length-(Q0m L k+1)) (Q0p (L.drop (Q0m L k+1))):=PairsAt.cut0 (Reads.below HQ.out hB3) (by omega) (by omega);refine Q09 _ rfl _ _ 40 rfl w.heap.size 52 i0 (.agg #[.int .i64 0,.int .i64 0]) 2 16 Tryz.underlying40 hi0 hz0 hz1 hz2 rfl (by decide) v2 (Q0m L k+1) (Q0p (L.take (Q0m L k))++[.int .i64 k,.int .i64 v]) rfl hown2 w.heap.size (some ad) (L.length-(Q0m L k+1)) _ (Q0p (L.drop (Q0m L k+1))) rfl HR3 Q1e (by simp only[maxLen];omega) (by omega) (by omega) ?_;intro v3 W3 hown3 hg3 hb3;clear hb3;have hB4:Below w.heap.size w W3:=hB3.grown hg3 (by omega) (fun g hg=>(hown2.lt g hg).1);clear hg3));go_ret
    rw[E.out] at hown3
    exact SomePairsO.of_own hown3 hB4
   ·go_wp2_with (first|(at_builtin;refine Q09 _ rfl _ _ 40 rfl w.heap.size 52 i0 (.agg #[.int .i64 0,.int .i64 0]) 2 16 Tryz.underlying40 hi0 hz0 hz1 hz2 rfl (by decide) _ 0 [] rfl (World.ownsRow_lit V1 #[] 0 (by omega) (by simp[maxLen]) rfl) w.heap.size _ _ _ (Q0p (L.take (Q0m L k))) rfl ((PairsAt.take (Reads.below HQ.out hB1) hn).alloc (by omega) _) Q1e (by simp only[maxLen];omega) (by omega) (by simp;omega) ?_;intro v1 W1 hown1 hg1 hb1;clear hb1;simp only[Nat.zero_add,List.nil_append] at hown1;have hB2:Below w.heap.size w W1:=(hB1.alloc (by omega) _).grown hg1 (by simp;omega) (fun g hg=>by injection hg with hg;subst hg;exact hge);clear hg1;have hz1':=hB2.size)|(at_builtin;refine Q09 _ rfl _ _ 40 rfl w.heap.size 52 i0 (.agg #[.int .i64 0,.int .i64 0]) 2 16 Tryz.underlying40 hi0 hz0 hz1 hz2 rfl (by decide) v1 (Q0m L k) (Q0p (L.take (Q0m L k))) rfl (hown1.alloc _) (W1.heap.size+1) (some ⟨W1.heap.size,0,none⟩) 1 1 [.int .i64 k,.int .i64 v] rfl (Q2f _ _ _ _) (by simp[Value.oneCell']) (by simp only[maxLen];omega) (by omega) (by simp;omega) ?_;intro v2 W2 hown2 hg2 hb2;clear hb2;have hB3:Below w.heap.size w W2:=(hB2.alloc hz1' _).grown hg2 (by simp;omega) (fun g hg=>(hown1.lt g hg).1);clear hg2;have hz2':=hB3.size;have hcell:=PairsAt.keyAt (Reads.below HQ.out hB3) hlt)|(at_builtin;have HR3:Reads W2 w.heap.size 2 (some (ad.add ((Q0m L k+1)*2))) (L.length-(Q0m L k+1)) (Q0p (L.drop (Q0m L k+1))):=PairsAt.cut (Reads.below HQ.out hB3) (by omega);refine Q09 _ rfl _ _ 40 rfl w.heap.size 52 i0 (.agg #[.int .i64 0,.int .i64 0]) 2 16 Tryz.underlying40 hi0 hz0 hz1 hz2 rfl (by decide) v2 (Q0m L k+1) (Q0p (L.take (Q0m L k))++[.int .i64 k,.int .i64 v]) rfl hown2 w.heap.size (some (ad.add ((Q0m L k+1)*2))) (L.length-(Q0m L k+1)) _ (Q0p (L.drop (Q0m L k+1))) rfl HR3 Q1e (by simp only[maxLen];omega) (by omega) (by omega) ?_;intro v3 W3 hown3 hg3 hb3;clear hb3;have hB4:Below w.heap.size w W3:=hB3.grown hg3 (by omega) (fun g hg=>(hown2.lt g hg).1);clear hg3));go_ret
    rw[E.out] at hown3
    exact SomePairsO.of_own hown3 hB4
  ·have E:=LH (Q5W (L:=L) (k:=k) (v:=v) (n:=Q0m L k) (if_neg fun h=>hk h.2));have hk':(Q17 L (Q0m L k)==k)=false:=by simpa using hk
   have hcn:¬c=Q0m L k:=by omega
   ·go_wp2_with (first|(at_builtin;refine Q09 _ rfl _ _ 40 rfl w.heap.size 52 i0 (.agg #[.int .i64 0,.int .i64 0]) 2 16 Tryz.underlying40 hi0 hz0 hz1 hz2 rfl (by decide) _ 0 [] rfl (World.ownsRow_lit V1 #[] 0 (by omega) (by simp[maxLen]) rfl) w.heap.size _ _ _ (Q0p (L.take (Q0m L k))) rfl ((PairsAt.take (Reads.below HQ.out hB1) hn).alloc (by omega) _) Q1e (by simp only[maxLen];omega) (by omega) (by simp;omega) ?_;intro v1 W1 hown1 hg1 hb1;clear hb1;simp only[Nat.zero_add,List.nil_append] at hown1;have hB2:Below w.heap.size w W1:=(hB1.alloc (by omega) _).grown hg1 (by simp;omega) (fun g hg=>by injection hg with hg;subst hg;exact hge);clear hg1;have hz1':=hB2.size)|(at_builtin;refine Q09 _ rfl _ _ 40 rfl w.heap.size 52 i0 (.agg #[.int .i64 0,.int .i64 0]) 2 16 Tryz.underlying40 hi0 hz0 hz1 hz2 rfl (by decide) v1 (Q0m L k) (Q0p (L.take (Q0m L k))) rfl (hown1.alloc _) (W1.heap.size+1) (some ⟨W1.heap.size,0,none⟩) 1 1 [.int .i64 k,.int .i64 v] rfl (Q2f _ _ _ _) (by simp[Value.oneCell']) (by simp only[maxLen];omega) (by omega) (by simp;omega) ?_;intro v2 W2 hown2 hg2 hb2;clear hb2;have hB3:Below w.heap.size w W2:=(hB2.alloc hz1' _).grown hg2 (by simp;omega) (fun g hg=>(hown1.lt g hg).1);clear hg2;have hz2':=hB3.size;have hcell:=PairsAt.keyAt (Reads.below HQ.out hB3) hlt)|(at_builtin;have HR3:Reads W2 w.heap.size 2 (some (ad.add ((Q0m L k)*2))) (L.length-(Q0m L k)) (Q0p (L.drop (Q0m L k))):=PairsAt.cut (Reads.below HQ.out hB3) (by omega);refine Q09 _ rfl _ _ 40 rfl w.heap.size 52 i0 (.agg #[.int .i64 0,.int .i64 0]) 2 16 Tryz.underlying40 hi0 hz0 hz1 hz2 rfl (by decide) v2 (Q0m L k+1) (Q0p (L.take (Q0m L k))++[.int .i64 k,.int .i64 v]) rfl hown2 w.heap.size (some (ad.add ((Q0m L k)*2))) (L.length-(Q0m L k)) _ (Q0p (L.drop (Q0m L k))) rfl HR3 Q1e (by simp only[maxLen];omega) (by omega) (by omega) ?_;intro v3 W3 hown3 hg3 hb3;clear hb3;have hB4:Below w.heap.size w W3:=hB3.grown hg3 (by omega) (fun g hg=>(hown2.lt g hg).1);clear hg3));go_ret
    rw[E.out] at hown3
    exact SomePairsO.of_own hown3 hB4
 ·have E:=LH (Q5W (L:=L) (k:=k) (v:=v) (n:=Q0m L k) (if_neg fun h=>hlt h.1));by_cases hcn:c=Q0m L k
  ·go_wp2_with (first|(at_builtin;refine Q09 _ rfl _ _ 40 rfl w.heap.size 52 i0 (.agg #[.int .i64 0,.int .i64 0]) 2 16 Tryz.underlying40 hi0 hz0 hz1 hz2 rfl (by decide) _ 0 [] rfl (World.ownsRow_lit V1 #[] 0 (by omega) (by simp[maxLen]) rfl) w.heap.size _ _ _ (Q0p (L.take (Q0m L k))) rfl ((PairsAt.take (Reads.below HQ.out hB1) hn).alloc (by omega) _) Q1e (by simp only[maxLen];omega) (by omega) (by simp;omega) ?_;intro v1 W1 hown1 hg1 hb1;clear hb1;simp only[Nat.zero_add,List.nil_append] at hown1;have hB2:Below w.heap.size w W1:=(hB1.alloc (by omega) _).grown hg1 (by simp;omega) (fun g hg=>by injection hg with hg;subst hg;exact hge);clear hg1;have hz1':=hB2.size)|(at_builtin;refine Q09 _ rfl _ _ 40 rfl w.heap.size 52 i0 (.agg #[.int .i64 0,.int .i64 0]) 2 16 Tryz.underlying40 hi0 hz0 hz1 hz2 rfl (by decide) v1 (Q0m L k) (Q0p (L.take (Q0m L k))) rfl (hown1.alloc _) (W1.heap.size+1) (some ⟨W1.heap.size,0,none⟩) 1 1 [.int .i64 k,.int .i64 v] rfl (Q2f _ _ _ _) (by simp[Value.oneCell']) (by simp only[maxLen];omega) (by omega) (by simp;omega) ?_;intro v2 W2 hown2 hg2 hb2;clear hb2;have hB3:Below w.heap.size w W2:=(hB2.alloc hz1' _).grown hg2 (by simp;omega) (fun g hg=>(hown1.lt g hg).1);clear hg2;have hz2':=hB3.size)|(at_builtin;have HR3:Reads W2 w.heap.size 2 (some ad) (L.length-(Q0m L k)) (Q0p (L.drop (Q0m L k))):=PairsAt.cut0 (Reads.below HQ.out hB3) (by omega) (by omega);refine Q09 _ rfl _ _ 40 rfl w.heap.size 52 i0 (.agg #[.int .i64 0,.int .i64 0]) 2 16 Tryz.underlying40 hi0 hz0 hz1 hz2 rfl (by decide) v2 (Q0m L k+1) (Q0p (L.take (Q0m L k))++[.int .i64 k,.int .i64 v]) rfl hown2 w.heap.size (some ad) (L.length-(Q0m L k)) _ (Q0p (L.drop (Q0m L k))) rfl HR3 Q1e (by simp only[maxLen];omega) (by omega) (by omega) ?_;intro v3 W3 hown3 hg3 hb3;clear hb3;have hB4:Below w.heap.size w W3:=hB3.grown hg3 (by omega) (fun g hg=>(hown2.lt g hg).1);clear hg3));go_ret
   rw[E.out] at hown3
   exact SomePairsO.of_own hown3 hB4
  ·go_wp2_with (first|(at_builtin;refine Q09 _ rfl _ _ 40 rfl w.heap.size 52 i0 (.agg #[.int .i64 0,.int .i64 0]) 2 16 Tryz.underlying40 hi0 hz0 hz1 hz2 rfl (by decide) _ 0 [] rfl (World.ownsRow_lit V1 #[] 0 (by omega) (by simp[maxLen]) rfl) w.heap.size _ _ _ (Q0p (L.take (Q0m L k))) rfl ((PairsAt.take (Reads.below HQ.out hB1) hn).alloc (by omega) _) Q1e (by simp only[maxLen];omega) (by omega) (by simp;omega) ?_;intro v1 W1 hown1 hg1 hb1;clear hb1;simp only[Nat.zero_add,List.nil_append] at hown1;have hB2:Below w.heap.size w W1:=(hB1.alloc (by omega) _).grown hg1 (by simp;omega) (fun g hg=>by injection hg with hg;subst hg;exact hge);clear hg1;have hz1':=hB2.size)|(at_builtin;refine Q09 _ rfl _ _ 40 rfl w.heap.size 52 i0 (.agg #[.int .i64 0,.int .i64 0]) 2 16 Tryz.underlying40 hi0 hz0 hz1 hz2 rfl (by decide) v1 (Q0m L k) (Q0p (L.take (Q0m L k))) rfl (hown1.alloc _) (W1.heap.size+1) (some ⟨W1.heap.size,0,none⟩) 1 1 [.int .i64 k,.int .i64 v] rfl (Q2f _ _ _ _) (by simp[Value.oneCell']) (by simp only[maxLen];omega) (by omega) (by simp;omega) ?_;intro v2 W2 hown2 hg2 hb2;clear hb2;have hB3:Below w.heap.size w W2:=(hB2.alloc hz1' _).grown hg2 (by simp;omega) (fun g hg=>(hown1.lt g hg).1);clear hg2;have hz2':=hB3.size)|(at_builtin;have HR3:Reads W2 w.heap.size 2 (some (ad.add ((Q0m L k)*2))) (L.length-(Q0m L k)) (Q0p (L.drop (Q0m L k))):=PairsAt.cut (Reads.below HQ.out hB3) (by omega);refine Q09 _ rfl _ _ 40 rfl w.heap.size 52 i0 (.agg #[.int .i64 0,.int .i64 0]) 2 16 Tryz.underlying40 hi0 hz0 hz1 hz2 rfl (by decide) v2 (Q0m L k+1) (Q0p (L.take (Q0m L k))++[.int .i64 k,.int .i64 v]) rfl hown2 w.heap.size (some (ad.add ((Q0m L k)*2))) (L.length-(Q0m L k)) _ (Q0p (L.drop (Q0m L k))) rfl HR3 Q1e (by simp only[maxLen];omega) (by omega) (by omega) ?_;intro v3 W3 hown3 hg3 hb3;clear hb3;have hB4:Below w.heap.size w W3:=hB3.grown hg3 (by omega) (fun g hg=>(hown2.lt g hg).1);clear hg3));go_ret
   rw[E.out] at hown3
   exact SomePairsO.of_own hown3 hB4
end
theorem Q8C:∀(L:List (Int×Int)) (k v:Int) (x:Int×Int),x∈Q6C L k v->x=(k,v)\/x∈L
 |[],k,v,x,h=>by simp[Q6C] at h;exact .inl h
 |p::L,k,v,x,h=>by
  simp only[Q6C] at h
  split at h
  ·rcases List.mem_cons.1 h with h|h
   ·exact .inr (by simp[h])
   ·rcases Q8C L k v x h with h|h
    ·exact .inl h
    ·exact .inr (List.mem_cons_of_mem _ h)
  ·split at h
   ·rcases List.mem_cons.1 h with h|h
    ·exact .inl h
    ·exact .inr (List.mem_cons_of_mem _ h)
   ·rcases List.mem_cons.1 h with h|h
    ·exact .inl h
    ·exact .inr h
def Q8U (l:List Int):Nat->List (Int×Int)
 |0=>[]
 |k+1=>Qew (Q8U l k) (keyAt l k%97-40) k
def hpL (l:List Int):List (Int×Int):=Q8U l (min l.length 60)
theorem Q7K (l:List Int):∀k,(Q8U l k).length<=k
 |0=>Nat.le_refl _
 |k+1=>by
  have:=Q7K l k
  rw[Q8U,Q7y]
  have:=Qad (Q8U l k) (keyAt l k%97-40) k;omega
theorem Q7L (l:List Int):∀k,(Q3x (Q8U l k)).Pairwise (·<·)
 |0=>by simp[Q8U,Q3x]
 |k+1=>by rw[Q8U,Q7y];exact Qae _ _ _ (Q7L l k)
theorem Qdg (l:List Int):∀k,k<=60->PB (Q8U l k)
 |0,_=>fun p hp=>by cases hp
 |k+1,h=>fun p hp=>by
  rw[Q8U,Q7y] at hp
  rcases Q8C _ _ _ _ hp with rfl|hp
  ·have:=Int.emod_nonneg (keyAt l k) (show (97:Int)≠0 by decide);have:=Int.emod_lt_of_pos (keyAt l k) (show (0:Int)<97 by decide);unfold bdI;simp only;omega
  ·exact Qdg l k (by omega) p hp
theorem Q7M (l:List Int):(hpL l).length<=60:=by
 have:=Q7K l (min l.length 60);unfold hpL;omega
theorem Qfp (l:List Int):PB (hpL l):=Qdg l _ (by omega)
theorem QfZ (l:List Int):Qgn (hpL l):=fun i hi=>by
 have h:=Q7L l (min l.length 60);have:=List.pairwise_iff_getElem.1 h i (i+1) (by rw[Q1Y];show i<(hpL l).length;omega) (by rw[Q1Y];exact hi) (by omega);rw[<-Q5x (hpL l) i (by omega),<-Q5x (hpL l) (i+1) hi];unfold keyAt
 rw[List.getD_eq_getElem?_getD,List.getD_eq_getElem?_getD,List.getElem?_eq_getElem (by rw[Q1Y];omega),List.getElem?_eq_getElem (by rw[Q1Y];exact hi)]
 exact this
def Qgm (l:List Int) (w:World) (v i:Value) (wr:World):Prop:=∃(k:Nat) (A:Option Addr) (c:Nat),k<=l.length/\k<=60/\v=.slice A (Q8U l k).length c/\i=.int .i64 k/\(Q8U l k).length<=c/\PairsAt wr wr.heap.size A (Q8U l k)/\Below w.heap.size w wr/\∀ad,A=some ad->w.heap.size<=ad.block
theorem Qdi (A:Option Addr) (c N:Nat) (l:List Int) (w:World) (hN:N=l.length) (hq:IntsAt w w.heap.size A l) (hl:l.length<=140737488351232) (hw:∀i,i<l.length->-9223372036854775808<=keyAt l i/\keyAt l i<=9223372036854775807):
  Calls Tryz.prog 170 #[.slice A N c] w (SomePairsO (hpL l) w):=by
 subst hN;have HQ:=LH hq;have HW:=LH hw;clear hq hw;go_enter Tryz.func170,Tryz.ntmps170;go_wp2_with (fail)
 go_loopw [3,4] (fun v i wr=>Qgm l w v i wr) (fun _ i _=>l.length-(intOf i).toNat)
 case atStart=>unfold Qgm;exact ⟨0,none,0,by omega,by omega,rfl,rfl,Nat.le_refl _,Reads.none_,Below.refl _ _,fun ad h=>by cases h⟩
 case round=>
  obtain ⟨k,A1,c1,k1,k2,rfl,rfl,hc1,hp,hB,hf⟩:=hrel;have hlen:=Q7K l k;have HP:=LH hp;have HF:=LH hf;clear hp hf;by_cases hlt:k<l.length/\k<60
  ·obtain ⟨hlt1,hlt2⟩:=hlt;obtain ⟨ad,rfl,hbl,hc⟩:=(HQ.out.below hB).cells (by omega);have hcell:=hc k hlt1;have HWk:=LH (HW.out k hlt1);have e:=LH (show Q8U l (k+1)=Qew (Q8U l k) (keyAt l k%97-40) k from rfl);have HL:=LH hlen;clear hc hlen;generalize keyAt l k=x at hcell HWk e;go_wp2_with (fail);with_reducible refine (Q1u x 97 _ HWk.out.1 HWk.out.2 (by decide) (by decide)).mono ?_
   rintro e w1 ⟨rfl,rfl⟩;have hx:=Q3B x 97 (by decide);generalize x%97=y at e hx|-;go_wp2_with (fail);with_reducible refine (Qex A1 c1 (Q8U l k) (y-40) k _ HP.out (by have:=HL.out;omega) hc1).mono ?_
   rintro e V2 ⟨A2,c2,rfl,hc2,hp2,hb,hf2⟩;rw[<-e.out] at hc2 hp2|-;have hB2:=hB.trans (hb.mono hB.size);have HP2:=LH hp2;have hz:=hB.size;have HF2:Hid (∀ad,A2=some ad->w.heap.size<=ad.block):=LH (fun a ha=>Nat.le_trans hz (hf2 a ha));clear hp2 hf2 hb hcell hB hz;go_wp2_with (fail)
   go_roundw
   case rel=>unfold Qgm;exact ⟨k+1,A2,c2,by omega,by omega,rfl,by go_num,hc2,HP2.out,hB2,HF2.out⟩
   case measure=>simp[intOf];omega
  ·have hk:hpL l=Q8U l k:=by unfold hpL;congr 1;omega
   have HK:=LH hk;have HB:=LH hB;clear hk hB hlen;by_cases hlt1:k<l.length
   ·have hlt3:¬(k:Int)<60:=by omega
    clear hlt;go_wp2_with (fail);go_ret;unfold SomePairsO
    rw[HK.out]
    exact ⟨A1,c1,rfl,hc1,HP.out,HB.out,HF.out⟩
   ·clear hlt;go_wp2_with (fail);go_ret;unfold SomePairsO
    rw[HK.out]
    exact ⟨A1,c1,rfl,hc1,HP.out,HB.out,HF.out⟩
def exQ (max:Int) (q:Ask) (C:List Int):Int×List Int:=
 if q.kind=1 then (rdC C q.a,C)
 else if q.kind=2 then (0,wrC C q.a q.x)
 else if q.kind=3 then (if (1<=q.a/\q.a<=C.length)/\rdC C q.a=q.x then (1,wrC C q.a q.y) else (0,C))
 else if q.kind=4 then (rdC C q.a,wrC C q.a (wrap64 (rdC C q.a+q.x)))
 else if q.kind=5 then (if q.ws.length=0\/max-C.length<q.ws.length then (0,C) else ((C.length:Int)+1,C++q.ws))
 else (0,C)
def inB (C:List Int) (a:Int):Bool:=decide (1<=a/\a<=(C.length:Int))
theorem Q6b {C:List Int} {a:Int} (h:1<=a/\a<=(C.length:Int)):inB C a=true:=decide_eq_true h
theorem Q71 {C:List Int} {a:Int} (h:¬(1<=a/\a<=(C.length:Int))):inB C a=false:=decide_eq_false h
structure M7Q (F:Nat->Prop) (bm:Nat) (C:List Int) (max:Int) (v:Value) (cnt odd rf:Int) (w:World):Prop where
 fb:F bm
 blk:Blk w bm 132 #[.int .i64 max,v,.int .i64 cnt,.int .i64 odd,.int .i64 rf]
 row:w.ownsRow 0 2 1 v C.length (C.map (Value.int .i64))
 fr:∀g,v.ownBlock=some g->F g
def M7 (F:Nat->Prop) (bm:Nat) (C:List Int) (max:Int) (w:World):Prop:=∃v cnt odd rf,M7Q F bm C max v cnt odd rf w
section
variable {F G:Nat->Prop} {bm:Nat} {C:List Int} {max:Int} {v:Value} {cnt odd rf:Int} {w w':World}
theorem M7Q.mono (h:M7Q F bm C max v cnt odd rf w) (hs:∀x,F x->G x):M7Q G bm C max v cnt odd rf w:=⟨hs _ h.fb,h.blk,h.row,fun g hg=>hs _ (h.fr g hg)⟩
theorem M7Q.chg (h:M7Q F bm C max v cnt odd rf w) (m:Chg G w w') (hd:∀x,F x->G x->False):M7Q F bm C max v cnt odd rf w':=
 ⟨h.fb,m.blk h.blk (fun e=>hd _ h.fb e),m.own h.row (fun g hg e=>hd _ (h.fr g hg) e),h.fr⟩
theorem M7Q.below (h:M7Q F bm C max v cnt odd rf w) (hb:Below w.heap.size w w'):M7Q F bm C max v cnt odd rf w':=h.chg (G:=fun _=>False) (Chg.of_below hb) (fun _ _ hg=>hg)
theorem M7.mono (h:M7 F bm C max w) (hs:∀x,F x->G x):M7 G bm C max w:=by obtain ⟨v,a,b,c,h⟩:=h;exact ⟨v,a,b,c,h.mono hs⟩
theorem M7.chg (h:M7 F bm C max w) (m:Chg G w w') (hd:∀x,F x->G x->False):M7 F bm C max w':=by obtain ⟨v,a,b,c,h⟩:=h;exact ⟨v,a,b,c,h.chg m hd⟩
theorem M7.below (h:M7 F bm C max w) (hb:Below w.heap.size w w'):M7 F bm C max w':=h.chg (G:=fun _=>False) (Chg.of_below hb) (fun _ _ hg=>hg)
theorem M7.lt (h:M7 F bm C max w):bm<w.heap.size:=by obtain ⟨v,a,b,c,h⟩:=h;exact h.blk.lt
theorem M7Q.set (h:M7Q F bm C max v cnt odd rf w) (k:Nat) (hk:k≠1) (u:Value) {max' cnt' odd' rf':Int} (he:(#[.int .i64 max,v,.int .i64 cnt,.int .i64 odd,.int .i64 rf]:Array Value).setIfInBounds k u=#[.int .i64 max',v,.int .i64 cnt',.int .i64 odd',.int .i64 rf']):M7Q F bm C max' v cnt' odd' rf' (w.setCell ⟨bm,k,none⟩ u):=
 ⟨h.fb,by have:=h.blk.set_ k u;rw[he] at this;exact this,(Chg.of_mv (F:=fun x=>x=bm) (Mv.set1 w bm k u) rfl).own h.row (Q0t h.row h.blk (by decide)),h.fr⟩
theorem Chg.set1 (w:World) (b k:Nat) (u:Value):Chg (fun x=>x=b) w (w.setCell ⟨b,k,none⟩ u):=Chg.of_mv (Mv.set1 w b k u) rfl
end
section
variable (F:Nat->Prop) (bm:Nat) (C:List Int) (max:Int)
theorem Q5y (v:Value) (cnt odd rf a:Int) (w:World) (h:M7Q F bm C max v cnt odd rf w) (hC:C.length<=1000000):
  Calls Tryz.prog 211 #[.pointer (some ⟨bm,0,none⟩),.int .i64 a] w fun e w'=>e=.returned (.bool (inB C a))/\(∃odd',M7Q F bm C max v (Q2m cnt) odd' rf w')/\Chg (fun x=>x=bm) w w':=by
 obtain ⟨A,c,rfl⟩:=Q03 h.row;have H:=LH (h.set 2 (by decide) (.int .i64 (Q2m cnt)) rfl);have c2:w.cell? ⟨bm,2,none⟩=some (.int .i64 cnt):=h.blk.cell 2;have f2:=h.blk.frozen 2;have h1:=(h.set 2 (by decide) (.int .i64 (Q2m cnt)) rfl);have d1:(w.setCell ⟨bm,2,none⟩ (.int .i64 (wrap64 (cnt+1)))).cell? ⟨bm,1,none⟩=some (.slice A C.length c):=h1.blk.cell 1;have d3:(w.setCell ⟨bm,2,none⟩ (.int .i64 (wrap64 (cnt+1)))).cell? ⟨bm,3,none⟩=some (.int .i64 odd):=h1.blk.cell 3;have g3:(w.setCell ⟨bm,2,none⟩ (.int .i64 (wrap64 (cnt+1)))).frozen? ⟨bm,3,none⟩=false:=h1.blk.frozen 3;have H3:=LH (h1.set 3 (by decide) (.int .i64 (wrap64 (odd+1))) rfl);clear h h1;by_cases h0:a<1
 ·have HD:=LH (Q71 (C:=C) (a:=a) (by omega));go_enter Tryz.func211,Tryz.ntmps211;go_wp2_with (fail);go_ret
  rw[HD.out]
  exact ⟨rfl,⟨_,H3.out⟩,(Chg.set1 _ _ _ _).trans (Chg.set1 _ _ _ _)⟩
 ·by_cases h2:(C.length:Int)<a
  ·have HD:=LH (Q71 (C:=C) (a:=a) (by omega));go_enter Tryz.func211,Tryz.ntmps211;go_wp2_with (fail);go_ret
   rw[HD.out]
   exact ⟨rfl,⟨_,H3.out⟩,(Chg.set1 _ _ _ _).trans (Chg.set1 _ _ _ _)⟩
  ·have HD:=LH (Q6b (C:=C) (a:=a) (by omega));go_enter Tryz.func211,Tryz.ntmps211;go_wp2_with (fail);go_ret
   rw[HD.out]
   exact ⟨rfl,⟨_,H.out⟩,Chg.set1 _ _ _ _⟩
theorem QcD (a:Int) (w:World) (h:M7 F bm C max w) (hC:C.length<=1000000):
  Calls Tryz.prog 156 #[.pointer (some ⟨bm,0,none⟩),.int .i64 a] w fun e w'=>e=.returned (.int .i64 (rdC C a))/\M7 F bm C max w'/\Chg (fun x=>x=bm) w w':=by
 obtain ⟨v,cnt,odd,rf,h⟩:=h;have H:=LH h;clear h;go_enter Tryz.func156,Tryz.ntmps156;go_wp2_with (fail);with_reducible refine (Q5y F bm C max v cnt odd rf a _ H.out hC).mono ?_
 rintro e w1 ⟨rfl,⟨odd',h1⟩,hc⟩;obtain ⟨A,c,rfl⟩:=Q03 h1.row;have d1:w1.cell? ⟨bm,1,none⟩=some (.slice A C.length c):=h1.blk.cell 1;by_cases ha:1<=a/\a<=(C.length:Int)
 ·rw[Q6b ha]
  obtain ⟨k,rfl⟩:∃k:Nat,a=(k:Int)+1:=⟨(a-1).toNat,by omega⟩;have HR:=LH (show rdC C ((k:Int)+1)=keyAt C k from Q5U (C:=C) (a:=k+1) (by omega) (by omega));obtain ⟨ad,rfl,_,hce⟩:=(IntsAt.of_own h1.row).2.cells (by omega);have hx:=hce k (by omega);have e1:(k:Int)+1-1=k:=by omega
  have hk2:k<C.length:=by omega
  have hk1:(k:Int)<C.length:=by omega
  have H1:=LH h1;have HC:=LH hc;clear h1 hc;clear hce H ha;generalize keyAt C k=x at hx HR;go_wp2_with (fail);go_ret
  rw[HR.out]
  exact ⟨rfl,⟨_,_,_,_,H1.out⟩,HC.out⟩
 ·rw[Q71 ha]
  have HR:=LH (Q4a (C:=C) (a:=a) (by omega));have H1:=LH h1;have HC:=LH hc;clear h1 hc;clear ha H;go_wp2_with (fail);go_ret
  rw[HR.out]
  exact ⟨rfl,⟨_,_,_,_,H1.out⟩,HC.out⟩
theorem M7Q.at_ {F:Nat->Prop} {bm:Nat} {C:List Int} {max cnt odd rf:Int} {v:Value} {w:World} (h:M7Q F bm C max v cnt odd rf w) {k:Nat} (hk:k<C.length):∃g c,v=.slice (some ⟨g,0,none⟩) C.length c/\w.cell? ⟨g,k,none⟩=some (.int .i64 (keyAt C k))/\w.frozen? ⟨g,k,none⟩=false/\
  (∀x:Int,M7Q F bm (C.set k x) max v cnt odd rf (w.setCell ⟨g,k,none⟩ (.int .i64 x))/\Chg F w (w.setCell ⟨g,k,none⟩ (.int .i64 x))):=by
 obtain ⟨g,c,rfl,_,_⟩:=h.row.form (by omega)
 have hx:w.cell? ⟨g,k,none⟩=some (.int .i64 (keyAt C k)):=by
  rw[h.row.cellAt k (by simp;omega)]
  rw[List.getElem?_map,List.getElem?_eq_getElem hk]
  simp[keyAt,List.getD_eq_getElem?_getD,List.getElem?_eq_getElem hk]
 have hne:bm≠g:=fun e=>Q0o h.row h.blk (by decide) (by simp[Value.ownBlock,e]);refine ⟨g,c,rfl,hx,h.row.frozenAt k,fun x=>⟨⟨h.fb,h.blk.far (p:=⟨g,k,none⟩) hne _, ?_,h.fr⟩,Chg.of_mv (F:=F) (Mv.set1 w g k (.int .i64 x)) (h.fr g rfl)⟩⟩;obtain ⟨hs,hs2⟩:=h.row.stored k (.int .i64 x)
 rw[List.length_set,List.map_set]
 exact hs
theorem Q6F (a x:Int) (w:World) (h:M7 F bm C max w) (hC:C.length<=1000000):
  Calls Tryz.prog 157 #[.pointer (some ⟨bm,0,none⟩),.int .i64 a,.int .i64 x] w fun e w'=>e=.returned (.tuple #[])/\M7 F bm (wrC C a x) max w'/\Chg F w w':=by
 obtain ⟨v,cnt,odd,rf,h⟩:=h;have fb:=h.fb;have H:=LH h;clear h;go_enter Tryz.func157,Tryz.ntmps157;go_wp2_with (fail);with_reducible refine (Q5y F bm C max v cnt odd rf a _ H.out hC).mono ?_
 rintro e w1 ⟨rfl,⟨odd',h1⟩,hc⟩;by_cases ha:1<=a/\a<=(C.length:Int)
 ·rw[Q6b ha]
  obtain ⟨k,rfl⟩:∃k:Nat,a=(k:Int)+1:=⟨(a-1).toNat,by omega⟩;have HR:=LH (show wrC C ((k:Int)+1) x=C.set k x by unfold wrC;rw[if_pos ha];congr 1);obtain ⟨g,c,rfl,d0,f0,hw⟩:=h1.at_ (k:=k) (by omega);have d1:w1.cell? ⟨bm,1,none⟩=some (.slice (some ⟨g,0,none⟩) C.length c):=h1.blk.cell 1;have e1:(k:Int)+1-1=k:=by omega
  have hk2:k<C.length:=by omega
  have hk1:(k:Int)<C.length:=by omega
  have HW:=LH (hw x);have HC:Hid (Chg F w w1):=LH (hc.mono (fun y hy=>hy▸fb));clear H ha h1 hw hc;go_wp2_with (fail)
  go_end0
  rw[HR.out]
  exact ⟨rfl,⟨_,_,_,_,HW.out.1⟩,HC.out.trans HW.out.2⟩
 ·rw[Q71 ha]
  have HR:=LH (show wrC C a x=C from if_neg ha);have HC:Hid (Chg F w w1):=LH (hc.mono (fun y hy=>hy▸fb));have H1:=LH h1;clear h1;clear ha H hc;go_wp2_with (fail)
  go_end0
  rw[HR.out]
  exact ⟨rfl,⟨_,_,_,_,H1.out⟩,HC.out⟩
def QbR (C:List Int) (a x y:Int):Bool×List Int:=if (1<=a/\a<=C.length)/\rdC C a=x then (true,wrC C a y) else (false,C)
theorem Qf2 (a x y:Int) (w:World) (h:M7 F bm C max w) (hC:C.length<=1000000):
  Calls Tryz.prog 158 #[.pointer (some ⟨bm,0,none⟩),.int .i64 a,.int .i64 x,.int .i64 y] w fun e w'=>e=.returned (.bool (QbR C a x y).1)/\M7 F bm (QbR C a x y).2 max w'/\Chg F w w':=by
 obtain ⟨v,cnt,odd,rf,h⟩:=h;have fb:=h.fb;have H:=LH h;clear h;go_enter Tryz.func158,Tryz.ntmps158;go_wp2_with (fail);with_reducible refine (Q5y F bm C max v cnt odd rf a _ H.out hC).mono ?_
 rintro e w1 ⟨rfl,⟨odd',h1⟩,hc⟩;have HC:Hid (Chg F w w1):=LH (hc.mono (fun y hy=>hy▸fb));clear hc H;by_cases ha:1<=a/\a<=(C.length:Int)
 ·rw[Q6b ha]
  obtain ⟨k,rfl⟩:∃k:Nat,a=(k:Int)+1:=⟨(a-1).toNat,by omega⟩;have hr:rdC C ((k:Int)+1)=keyAt C k:=Q5U (C:=C) (a:=k+1) (by omega) (by omega);have hr2:wrC C ((k:Int)+1) y=C.set k y:=by unfold wrC;rw[if_pos ha];congr 1
  obtain ⟨g,c,rfl,d0,f0,hw⟩:=h1.at_ (k:=k) (by omega);have d1:w1.cell? ⟨bm,1,none⟩=some (.slice (some ⟨g,0,none⟩) C.length c):=h1.blk.cell 1;have e1:(k:Int)+1-1=k:=by omega
  have hk2:k<C.length:=by omega
  have hk1:(k:Int)<C.length:=by omega
  have HW:=LH (hw y);have H1:=LH h1;by_cases hx:keyAt C k=x
  ·have HK:=LH (show QbR C ((k:Int)+1) x y=(true,C.set k y) by unfold QbR;rw[if_pos ⟨ha,by rw[hr];exact hx⟩,hr2]);have ex:(keyAt C k !=x)=false:=by simpa using hx
   clear ha h1 hw hr hr2 hx;generalize keyAt C k=z at d0 ex;go_wp2_with (fail);go_ret
   rw[HK.out]
   exact ⟨rfl,⟨_,_,_,_,HW.out.1⟩,HC.out.trans HW.out.2⟩
  ·have HK:=LH (show QbR C ((k:Int)+1) x y=(false,C) by unfold QbR;rw[if_neg (fun h=>hx (by rw[<-hr];exact h.2))]);have ex:(keyAt C k !=x)=true:=by simpa using hx
   clear ha h1 hw hr hr2 hx;generalize keyAt C k=z at d0 ex;go_wp2_with (fail);go_ret
   rw[HK.out]
   exact ⟨rfl,⟨_,_,_,_,H1.out⟩,HC.out⟩
 ·rw[Q71 ha]
  have HK:=LH (show QbR C a x y=(false,C) from if_neg (fun h=>ha h.1));have H1:=LH h1;clear h1;clear ha;go_wp2_with (fail);go_ret
  rw[HK.out]
  exact ⟨rfl,⟨_,_,_,_,H1.out⟩,HC.out⟩
theorem Qf8 (a x:Int) (w:World) (h:M7 F bm C max w) (hC:C.length<=1000000):
  Calls Tryz.prog 159 #[.pointer (some ⟨bm,0,none⟩),.int .i64 a,.int .i64 x] w fun e w'=>e=.returned (.int .i64 (rdC C a))/\M7 F bm (wrC C a (wrap64 (rdC C a+x))) max w'/\Chg F w w':=by
 obtain ⟨v,cnt,odd,rf,h⟩:=h;have fb:=h.fb;have H:=LH h;clear h;go_enter Tryz.func159,Tryz.ntmps159;go_wp2_with (fail);with_reducible refine (Q5y F bm C max v cnt odd rf a _ H.out hC).mono ?_
 rintro e w1 ⟨rfl,⟨odd',h1⟩,hc⟩;have HC:Hid (Chg F w w1):=LH (hc.mono (fun y hy=>hy▸fb));clear hc H;by_cases ha:1<=a/\a<=(C.length:Int)
 ·rw[Q6b ha]
  obtain ⟨k,rfl⟩:∃k:Nat,a=(k:Int)+1:=⟨(a-1).toNat,by omega⟩;have hr:rdC C ((k:Int)+1)=keyAt C k:=Q5U (C:=C) (a:=k+1) (by omega) (by omega);have hr2:∀y,wrC C ((k:Int)+1) y=C.set k y:=fun y=>by unfold wrC;rw[if_pos ha];congr 1
  obtain ⟨g,c,rfl,d0,f0,hw⟩:=h1.at_ (k:=k) (by omega);have d1:w1.cell? ⟨bm,1,none⟩=some (.slice (some ⟨g,0,none⟩) C.length c):=h1.blk.cell 1;have e1:(k:Int)+1-1=k:=by omega
  have hk2:k<C.length:=by omega
  have hk1:(k:Int)<C.length:=by omega
  have HW:=LH (hw (wrap64 (keyAt C k+x)));have HR:=LH (show rdC C ((k:Int)+1)=keyAt C k/\wrC C ((k:Int)+1) (wrap64 (rdC C ((k:Int)+1)+x))=C.set k (wrap64 (keyAt C k+x)) from ⟨hr,by rw[hr,hr2]⟩);clear ha h1 hw hr hr2;generalize keyAt C k=z at d0 HW HR;go_wp2_with (fail);go_ret
  rw[HR.out.2,HR.out.1]
  exact ⟨rfl,⟨_,_,_,_,HW.out.1⟩,HC.out.trans HW.out.2⟩
 ·rw[Q71 ha]
  have hr:=Q4a (C:=C) (a:=a) (by omega);have hr2:wrC C a (wrap64 (rdC C a+x))=C:=if_neg ha;have H1:=LH h1;have HA:=LH hr;have HB:=LH hr2;clear h1 hr hr2;clear ha;go_wp2_with (fail);go_ret
  rw[HB.out,HA.out]
  exact ⟨rfl,⟨_,_,_,_,H1.out⟩,HC.out⟩
def mkC (C:List Int) (max:Int) (ws:List Int):Int×List Int:=if ws.length=0\/max-C.length<ws.length then (0,C) else ((C.length:Int)+1,C++ws)
theorem Q2X (A:Option Addr) (c N:Nat) (q:List Int) (w:World) (hN:N=q.length) (h:M7 F bm C max w) (hC:C.length<=1000000) (hm0:(C.length:Int)<=max) (hm:max<=65536) (hq:w.ownsRow 0 2 1 (.slice A q.length c) q.length (q.map (Value.int .i64))) (hql:q.length<=1000000):
  Calls Tryz.prog 26 #[.pointer (some ⟨bm,0,none⟩),.slice A N c] w fun e w'=>e=.returned (.tuple #[.int .i64 (mkC C max q).1,.bool (decide (0<(mkC C max q).1))])/\M7 (fun x=>F x\/w.heap.size<=x) bm (mkC C max q).2 max w'/\Chg F w w':=by
 subst hN;obtain ⟨i0,hi0,hz0,hz1,hz2⟩:=info_parts Q1h;obtain ⟨v,cnt,odd,rf,h⟩:=h;obtain ⟨A0,c0',rfl⟩:=Q03 h.row;have fb:=h.fb;have h1':=h.set 2 (by decide) (.int .i64 (Q2m cnt)) (cnt':=Q2m cnt) rfl;have c2:w.cell? ⟨bm,2,none⟩=some (.int .i64 cnt):=h.blk.cell 2;have f2:=h.blk.frozen 2;have M1:=LH (Chg.set1 w bm 2 (.int .i64 (Q2m cnt)));have eb:wrap64 (cnt+1)=Q2m cnt:=rfl;have HQ:=LH ((Chg.set1 w bm 2 (.int .i64 (Q2m cnt))).own hq (Q0t hq h.blk (by decide)));have hsz:(w.setCell ⟨bm,2,none⟩ (.int .i64 (Q2m cnt))).heap.size=w.heap.size:=by simp
 have SZ:=LH hsz;clear hq h hsz;by_cases h0:q.length=0\/max-C.length<q.length
 ·have HK:=LH (show mkC C max q=(0,C) from if_pos h0);by_cases h00:q.length=0
  ·have e0:((q.length:Int)==0)=true:=by simpa using h00
   clear h0 h00;go_enter Tryz.func26,Tryz.ntmps26;go_wp2_with (fail)
   try rw[eb]
   clear eb c2 f2;generalize w.setCell ⟨bm,2,none⟩ (.int .i64 (Q2m cnt))=w1 at h1' M1 HQ SZ|-;have c1:w1.cell? ⟨bm,1,none⟩=some (.slice A0 C.length c0'):=h1'.blk.cell 1;have c0:w1.cell? ⟨bm,0,none⟩=some (.int .i64 max):=h1'.blk.cell 0;have H1:=LH h1';clear h1'
   go_quiet (fail)
   have h1q:=H1.out.below (Q08 (Drawn.of w1 nq) _);have D1:=LH (Q08 (Drawn.of w1 nq) w1.heap.size);clear c0 c1;generalize w1.drewN nq=w2 at h1q D1|-;have c4:w2.cell? ⟨bm,4,none⟩=some (.int .i64 rf):=h1q.blk.cell 4;have f4:=h1q.blk.frozen 4;have H2:=LH (h1q.set 4 (by decide) (.int .i64 (wrap64 (rf+1))) (rf':=wrap64 (rf+1)) rfl);clear h1q;go_wp2_with (fail)
   go_ret2
   rw[HK.out]
   exact ⟨rfl,⟨_,_,_,_,H2.out.mono (fun _=>.inl)⟩,((M1.out.trans (Chg.of_below D1.out)).trans (Chg.set1 _ _ _ _)).mono (fun x hx=>hx▸fb)⟩
  ·have e0:((q.length:Int)==0)=false:=by rw[beq_eq_false_iff_ne];omega
   have hlt:max-(C.length:Int)<q.length:=by omega
   clear h0 h00;go_enter Tryz.func26,Tryz.ntmps26;go_wp2_with (fail)
   try rw[eb]
   clear eb c2 f2;generalize w.setCell ⟨bm,2,none⟩ (.int .i64 (Q2m cnt))=w1 at h1' M1 HQ SZ|-;have c1:w1.cell? ⟨bm,1,none⟩=some (.slice A0 C.length c0'):=h1'.blk.cell 1;have c0:w1.cell? ⟨bm,0,none⟩=some (.int .i64 max):=h1'.blk.cell 0;have H1:=LH h1';clear h1'
   go_quiet (fail)
   have h1q:=H1.out.below (Q08 (Drawn.of w1 nq) _);have D1:=LH (Q08 (Drawn.of w1 nq) w1.heap.size);clear c0 c1;generalize w1.drewN nq=w2 at h1q D1|-;have c4:w2.cell? ⟨bm,4,none⟩=some (.int .i64 rf):=h1q.blk.cell 4;have f4:=h1q.blk.frozen 4;have H2:=LH (h1q.set 4 (by decide) (.int .i64 (wrap64 (rf+1))) (rf':=wrap64 (rf+1)) rfl);clear h1q;go_wp2_with (fail)
   go_ret2
   rw[HK.out]
   exact ⟨rfl,⟨_,_,_,_,H2.out.mono (fun _=>.inl)⟩,((M1.out.trans (Chg.of_below D1.out)).trans (Chg.set1 _ _ _ _)).mono (fun x hx=>hx▸fb)⟩
 ·have HK:=LH (show mkC C max q=((C.length:Int)+1,C++q) from if_neg h0);have e0:((q.length:Int)==0)=false:=by rw[beq_eq_false_iff_ne];omega
  have hlt:¬max-(C.length:Int)<q.length:=by omega
  clear h0;go_enter Tryz.func26,Tryz.ntmps26;go_wp2_with (fail)
  try rw[eb]
  clear eb c2 f2;generalize w.setCell ⟨bm,2,none⟩ (.int .i64 (Q2m cnt))=w1 at h1' M1 HQ SZ|-;have c1:w1.cell? ⟨bm,1,none⟩=some (.slice A0 C.length c0'):=h1'.blk.cell 1;have c0:w1.cell? ⟨bm,0,none⟩=some (.int .i64 max):=h1'.blk.cell 0;have H1:=LH h1';clear h1'
  go_quiet (fail)
  have h1q:=H1.out.below (Q08 (Drawn.of w1 nq) _);have D1:=LH (Q08 (Drawn.of w1 nq) w1.heap.size);have HQ2:=LH (show IntsAt (w1.drewN nq) (w1.drewN nq).heap.size A q from Reads.of_own (Q0n HQ.out (Q08 (Drawn.of w1 nq) _)));have hz3:w.heap.size<=(w1.drewN nq).heap.size:=by have:=SZ.out;show w.heap.size<=w1.heap.size;omega
  have SZ2:=LH (show (w1.drewN nq).heap.size=w.heap.size from SZ.out);clear c0 c1;generalize w1.drewN nq=w2 at D1 h1q HQ2 hz3 SZ2|-;have c1:w2.cell? ⟨bm,1,none⟩=some (.slice A0 C.length c0'):=h1q.blk.cell 1;have f1:=h1q.blk.frozen 1;have H2:=LH h1q;have hown:=h1q.row;clear h1q;go_wp2_with (at_builtin;refine Q09 _ rfl _ _ 22 rfl 0 2 i0 (.int .i64 0) 1 8 Tryz.underlying22 hi0 hz0 hz1 hz2 rfl (by decide) (.slice A0 C.length c0') C.length (C.map (Value.int .i64)) rfl hown w2.heap.size A q.length c (q.map (Value.int .i64)) rfl HQ2.out (Q3T q) ?p1 ?p2 ?p3 ?_;(case p1=>(unfold maxLen;omega));(case p2=>omega);(case p3=>omega);intro v' w3 hO' hg hvb;obtain ⟨A1,c1',rfl⟩:=Q03 hO';have HV:=LH hvb;clear hvb;have hb3:=H2.out.blk.grown hg (fun e=>Q0o H2.out.row H2.out.blk (by decide) e.symm);have HB3:=LH hb3;have HO:=LH hO';have HGG:=LH hg;have c3:w3.cell? ⟨bm,1,none⟩=some (.slice A0 C.length c0'):=hb3.cell 1;have f3:=hb3.frozen 1;clear hb3 hO' hg)
  go_ret2
  rw[HK.out]
  have hb3:=HB3.out;have hO':=HO.out;have hc3:=Chg.set1 w3 bm 1 (.slice A1 (C.length+q.length) c1');refine ⟨?_,⟨_,_,_,_,.inl fb,hb3.set_ 1 _, ?_,fun g hg=> ?_⟩, ?_⟩
  ·rw[decide_eq_true (show (0:Int)<(C.length:Int)+1 by omega)]
   rfl
  ·rw[List.map_append,List.length_append]
   exact hc3.own hO' (Q0t hO' hb3 (by decide))
  ·rcases HV.out with e|e
   ·exact .inl (H2.out.fr g (e▸hg))
   ·rw[e] at hg;injection hg with hg;exact .inr (by rw[<-hg];have:=SZ2.out;omega)
  ·refine (((M1.out.mono (fun x hx=>hx▸fb)).trans (Chg.of_below D1.out)).trans ((Chg.of_grown HGG.out).mono (fun x hx=> ?_))).trans (hc3.mono (fun x hx=>hx▸fb));exact H2.out.fr x hx
theorem Q1s (a:Int) (w:World) (h:M7 F bm C max w) (hC:C.length<=1000000):
  Calls Tryz.prog 140 #[.pointer (some ⟨bm,0,none⟩),.int .i64 a] w fun e w'=>e=.returned (.int .i64 (rdC C a))/\w=w':=by
 obtain ⟨v,cnt,odd,rf,h⟩:=h;obtain ⟨A,c,rfl⟩:=Q03 h.row;have d1:w.cell? ⟨bm,1,none⟩=some (.slice A C.length c):=h.blk.cell 1;by_cases ha:1<=a/\a<=(C.length:Int)
 ·obtain ⟨k,rfl⟩:∃k:Nat,a=(k:Int)+1:=⟨(a-1).toNat,by omega⟩;have HR:=LH (show rdC C ((k:Int)+1)=keyAt C k from Q5U (C:=C) (a:=k+1) (by omega) (by omega));obtain ⟨ad,rfl,_,hce⟩:=(IntsAt.of_own h.row).2.cells (by omega);have hx:=hce k (by omega);have e1:(k:Int)+1-1=k:=by omega
  have hk2:k<C.length:=by omega
  have hk1:(k:Int)<C.length:=by omega
  clear hce ha h;generalize keyAt C k=x at hx HR;go_enter Tryz.func140,Tryz.ntmps140;go_wp2_with (fail);go_ret
  rw[HR.out]
  exact ⟨rfl,rfl⟩
 ·have HR:=LH (Q4a (C:=C) (a:=a) (by omega));by_cases h1:a<1
  ·clear ha h;go_enter Tryz.func140,Tryz.ntmps140;go_wp2_with (fail);go_ret
   rw[HR.out]
   exact ⟨rfl,rfl⟩
  ·have h2:(C.length:Int)<a:=by omega
   clear ha h;go_enter Tryz.func140,Tryz.ntmps140;go_wp2_with (fail);go_ret
   rw[HR.out]
   exact ⟨rfl,rfl⟩
end
theorem QeA (n:Int) (w:World) (h1:1<=n) (h2:n<=65536):
  Calls Tryz.prog 25 #[.int .i64 n] w fun e w'=>e=.returned (.tuple #[.pointer (some ⟨w.heap.size,0,none⟩),.int .i64 0])/\M7 (fun x=>w.heap.size<=x) w.heap.size [] n w'/\Below w.heap.size w w':=by
 have H:=LH (Blk.new w 132 #[.int .i64 n,.slice none 0 0,.int .i64 0,.int .i64 0,.int .i64 0]);go_enter Tryz.func25,Tryz.ntmps25;go_wp2_with (fail)
 go_ret2
 exact ⟨rfl,⟨_,_,_,_,Nat.le_refl _,H.out,World.ownsRow_nil _ _ _ _,fun g hg=>Q61 _ g hg⟩,(Below.refl _ _).alloc (Nat.le_refl _) _⟩
theorem Qar {max:Int} {q:Ask} {C:List Int} (h:q.kind=1):exQ max q C=(rdC C q.a,C):=if_pos h
theorem Q92 {max:Int} {q:Ask} {C:List Int} (h:q.kind=2):exQ max q C=(0,wrC C q.a q.x):=by unfold exQ;rw[if_neg (by omega),if_pos h]
theorem Qdq {max:Int} {q:Ask} {C:List Int} (h:q.kind=3):exQ max q C=(if (QbR C q.a q.x q.y).1=true then 1 else 0,(QbR C q.a q.x q.y).2):=by
 unfold exQ QbR;rw[if_neg (by omega),if_neg (by omega),if_pos h];by_cases c:(1<=q.a/\q.a<=C.length)/\rdC C q.a=q.x
 ·rw[if_pos c,if_pos c];rfl
 ·rw[if_neg c,if_neg c];rfl
theorem Qds {max:Int} {q:Ask} {C:List Int} (h:q.kind=4):exQ max q C=(rdC C q.a,wrC C q.a (wrap64 (rdC C q.a+q.x))):=by unfold exQ;rw[if_neg (by omega),if_neg (by omega),if_neg (by omega),if_pos h]
theorem Qas {max:Int} {q:Ask} {C:List Int} (h:q.kind=5):exQ max q C=mkC C max q.ws:=by unfold exQ;rw[if_neg (by omega),if_neg (by omega),if_neg (by omega),if_neg (by omega),if_pos h];rfl
def upd {β:Type} (f:Int->β) (n:Int) (v:β):Int->β:=fun m=>if m=n then v else f m
def Q5b {β:Type} (f:Int->Int->β) (n i:Int) (v:β):Int->Int->β:=fun m j=>if m=n/\j=i then v else f m j
theorem Q0g {β:Type} (f:Int->β) (n:Int) (v:β):upd f n v n=v:=if_pos rfl
theorem Q0z {β:Type} (f:Int->β) {n m:Int} (v:β) (h:m≠n):upd f n v m=f m:=if_neg h
theorem Q1H {β:Type} (f:Int->Int->β) (n i:Int) (v:β):Q5b f n i v n i=v:=if_pos ⟨rfl,rfl⟩
theorem Q1N {β:Type} (f:Int->Int->β) {n i m j:Int} (v:β) (h:¬(m=n/\j=i)):Q5b f n i v m j=f m j:=if_neg h
structure GS where
 ty:Int->Int
 deg:Int->Int
 lo:Int->Int
 hi:Int->Int
 ks:Int->Int->Int
 nd:Int->Int
 ix:Int->Int
 own:Int->Nat
 k1:Int->Int
 v1:Int->Int
 tgt:Int->Int
 od:Int->Int
 nw:Int->Int
 gate:Int->Bool
 sum:Int->Int
 key:Int->Int->Int
 slot:Int->Int->Int
 res:Int->Int
 out:Int->Int
 placed:Int->Bool
 late:Int->Bool
def GS.len (G:GS) (a:Int):Int:=if G.ty a=1 then 1 else if G.ty a=2 then 2 else if G.ty a=3 then 4+2*G.deg a else 5
theorem len1 {G:GS} {a:Int} (h:G.ty a=1):G.len a=1:=if_pos h
theorem len2 {G:GS} {a:Int} (h:G.ty a=2):G.len a=2:=by unfold GS.len;rw[if_neg (by omega),if_pos h]
theorem Q3Z {G:GS} {a:Int} (h:G.ty a=3):G.len a=4+2*G.deg a:=by unfold GS.len;rw[if_neg (by omega),if_neg (by omega),if_pos h]
theorem Qd8 {G:GS} {a:Int} (h:G.ty a=4):G.len a=5:=by unfold GS.len;rw[if_neg (by omega),if_neg (by omega),if_neg (by omega)]
theorem Qd7 {G:GS} {a:Int} (h:G.ty a=5):G.len a=5:=by unfold GS.len;rw[if_neg (by omega),if_neg (by omega),if_neg (by omega)]
def bI (b:Bool):Int:=if b=true then 1 else 0
def GS.sa (G:GS) (n i:Int):Int:=n+4+G.deg n+i
structure GS.At (G:GS) (n i:Int):Prop where
 ty:G.ty n=3
 i0:0<=i
 i1:i<G.deg n
structure Rep (C:List Int) (G:GS):Prop where
 big:(C.length:Int)<=16384
 ty:∀a,0<=G.ty a/\G.ty a<=5
 low:∀a,G.ty a≠0->1<=a
 top:∀a,G.ty a≠0->a+G.len a<=C.length+1
 dis:∀a b,G.ty a≠0->G.ty b≠0->a<b->a+G.len a<=b
 leaf:∀a,G.ty a=2->rdC C a=G.k1 a/\rdC C (a+1)=G.v1 a
 deg:∀n,G.ty n=3->1<=G.deg n/\rdC C n=G.deg n
 gate:∀n,G.ty n=3->rdC C (n+2)=bI (G.gate n)
 sum:∀n,G.ty n=3->rdC C (n+4)=G.sum n
 key:∀n i,G.ty n=3->1<=i->i<G.deg n->rdC C (n+4+i)=G.key n i
 slot:∀n i,G.At n i->rdC C (G.sa n i)=G.slot n i
 rebP:∀r,G.ty r=4->G.At (G.nd r) (G.ix r)
 reb:∀r,G.ty r=4->rdC C r=wOf 3 (G.tgt r)/\rdC C (r+1)=G.nd r+2/\rdC C (r+2)=G.sa (G.nd r) (G.ix r)/\rdC C (r+3)=G.res r
 dcsP:∀a,G.ty a=5->G.At (G.nd a) (G.ix a)
 dcs:∀a,G.ty a=5->rdC C a=G.nd a+2/\rdC C (a+1)=G.sa (G.nd a) (G.ix a)/\rdC C (a+2)=G.od a/\rdC C (a+3)=G.nw a/\rdC C (a+4)=G.out a
theorem QgR {C:List Int} {a x:Int} (h0:1<=a) (h1:a<=C.length):rdC (wrC C a x) a=x:=by
 unfold rdC
 rw[if_pos (by rw[Q21];exact ⟨h0,h1⟩)]
 unfold wrC
 rw[if_pos ⟨h0,h1⟩]
 unfold keyAt
 rw[List.getD_eq_getElem?_getD,List.getElem?_set_self (by omega)];rfl
theorem QgQ {C:List Int} {a b x:Int} (h:b≠a):rdC (wrC C a x) b=rdC C b:=by
 unfold rdC
 rw[Q21]
 by_cases hb:1<=b/\b<=C.length
 ·rw[if_pos hb,if_pos hb]
  unfold wrC;by_cases ha:1<=a/\a<=C.length
  ·rw[if_pos ha]
   unfold keyAt
   rw[List.getD_eq_getElem?_getD,List.getD_eq_getElem?_getD,List.getElem?_set_ne (by omega)]
  ·rw[if_neg ha]
 ·rw[if_neg hb,if_neg hb]
section
variable {C:List Int} {G:GS}
theorem Rep.cell (h:Rep C G) {a b i j:Int} (ta:G.ty a≠0) (tb:G.ty b≠0) (i0:0<=i) (i1:i<G.len a) (j0:0<=j) (j1:j<G.len b) (e:a+i=b+j):a=b/\i=j:=by
 by_cases h1:a<b
 ·have:=h.dis a b ta tb h1;omega
 ·by_cases h2:b<a
  ·have:=h.dis b a tb ta h2;omega
  ·omega
theorem Rep.wr {h:Rep C G} {a b i j x:Int} (tb:G.ty b≠0) (j0:0<=j) (j1:j<G.len b) (ta:G.ty a≠0) (i0:0<=i) (i1:i<G.len a):rdC (wrC C (b+j) x) (a+i)=if a=b/\i=j then x else rdC C (a+i):=by
 by_cases e:a=b/\i=j
 ·rw[if_pos e,e.1,e.2]
  have:=h.low b tb;have:=h.top b tb;exact QgR (by omega) (by omega)
 ·rw[if_neg e]
  exact QgQ (fun e'=>e (h.cell ta tb i0 i1 j0 j1 e'))
theorem Rep.write (h:Rep C G) {b j x:Int} (tb:G.ty b≠0) (j0:0<=j) (j1:j<G.len b) {G':GS}
  (e1:G'.ty=G.ty) (e2:G'.deg=G.deg) (e3:G'.nd=G.nd) (e4:G'.ix=G.ix) (e5:G'.k1=G.k1) (e6:G'.v1=G.v1) (e7:G'.tgt=G.tgt) (e8:G'.od=G.od) (e9:G'.nw=G.nw)
  (b2:G.ty b=2->False) (b3:G.ty b=3->1<=j) (b4:G.ty b=4->3<=j) (b5:G.ty b=5->4<=j)
  (hg:∀n,G.ty n=3->bI (G'.gate n)=if n=b/\2=j then x else bI (G.gate n))
  (hs:∀n,G.ty n=3->G'.sum n=if n=b/\4=j then x else G.sum n)
  (hk:∀n i,G.ty n=3->1<=i->i<G.deg n->G'.key n i=if n=b/\4+i=j then x else G.key n i)
  (hl:∀n i,G.At n i->G'.slot n i=if n=b/\4+G.deg n+i=j then x else G.slot n i)
  (hr:∀r,G.ty r=4->G'.res r=if r=b/\3=j then x else G.res r)
  (ho:∀a,G.ty a=5->G'.out a=if a=b/\4=j then x else G.out a):Rep (wrC C (b+j) x) G':=by
 have el:G'.len=G.len:=by funext a;unfold GS.len;rw[e1,e2]
 have ea:G'.At=G.At:=by
  funext n i
  exact propext ⟨fun h=>⟨by rw[<-e1];exact h.ty,h.i0,by rw[<-e2];exact h.i1⟩,fun h=>⟨by rw[e1];exact h.ty,h.i0,by rw[e2];exact h.i1⟩⟩
 have es:G'.sa=G.sa:=by funext n i;unfold GS.sa;rw[e2]
 have z:∀a:Int,a=a+0:=fun a=>by omega
 have W:∀(a i:Int),G.ty a≠0->0<=i->i<G.len a->rdC (wrC C (b+j) x) (a+i)=if a=b/\i=j then x else rdC C (a+i):=fun a i ta i0 i1=>Rep.wr (h:=h) tb j0 j1 ta i0 i1;refine ⟨by rw[Q21];exact h.big,by rw[e1];exact h.ty,by rw[e1];exact h.low,by rw[e1,el,Q21];exact h.top,by rw[e1,el];exact h.dis, ?_, ?_, ?_, ?_, ?_, ?_, ?_, ?_, ?_, ?_⟩
 ·rw[e1,e5,e6]
  intro a ha;have l:=len2 ha;refine ⟨?_, ?_⟩
  ·rw[z a,W a 0 (by omega) (by omega) (by omega),if_neg (fun e:a=b/\_=>b2 (e.1▸ha)),<-z a];exact (h.leaf a ha).1
  ·rw[W a 1 (by omega) (by omega) (by omega),if_neg (fun e:a=b/\_=>b2 (e.1▸ha))];exact (h.leaf a ha).2
 ·rw[e1,e2]
  intro n hn;have l:=Q3Z hn;have hd:=h.deg n hn;refine ⟨hd.1, ?_⟩
  rw[z n,W n 0 (by omega) (by omega) (by omega),if_neg (fun e=>by have:=b3 (e.1▸hn);omega),<-z n];exact hd.2
 ·rw[e1]
  intro n hn;have l:=Q3Z hn;have hd:=h.deg n hn
  rw[W n 2 (by omega) (by omega) (by omega),hg n hn,h.gate n hn]
 ·rw[e1]
  intro n hn;have l:=Q3Z hn;have hd:=h.deg n hn
  rw[W n 4 (by omega) (by omega) (by omega),hs n hn,h.sum n hn]
 ·rw[e1,e2]
  intro n i hn i0 i1;have l:=Q3Z hn;have hd:=h.deg n hn
  rw[show n+4+i=n+(4+i) by omega,W n (4+i) (by omega) (by omega) (by omega),hk n i hn i0 i1,<-h.key n i hn i0 i1,show n+4+i=n+(4+i) by omega]
 ·rw[ea,es]
  intro n i hn;have l:=Q3Z hn.ty;have h0:=hn.i0;have h1:=hn.i1;have t:=hn.ty
  rw[show G.sa n i=n+(4+G.deg n+i) by unfold GS.sa;omega,W n (4+G.deg n+i) (by omega) (by omega) (by omega),hl n i hn,<-h.slot n i hn,show G.sa n i=n+(4+G.deg n+i) by unfold GS.sa;omega]
 ·rw[e1,ea,e3,e4];exact h.rebP
 ·rw[e1,e3,e4,e7,es]
  intro r hr4;have l:=Qd8 hr4;obtain ⟨r0,r1,r2,r3⟩:=h.reb r hr4;refine ⟨?_, ?_, ?_, ?_⟩
  ·rw[z r,W r 0 (by omega) (by omega) (by omega),if_neg (fun e=>by have:=b4 (e.1▸hr4);omega),<-z r];exact r0
  ·rw[W r 1 (by omega) (by omega) (by omega),if_neg (fun e=>by have:=b4 (e.1▸hr4);omega)];exact r1
  ·rw[W r 2 (by omega) (by omega) (by omega),if_neg (fun e=>by have:=b4 (e.1▸hr4);omega)];exact r2
  ·rw[W r 3 (by omega) (by omega) (by omega),hr r hr4,r3]
 ·rw[e1,ea,e3,e4];exact h.dcsP
 ·rw[e1,e3,e4,e8,e9,es]
  intro a ha;have l:=Qd7 ha;obtain ⟨r0,r1,r2,r3,r4⟩:=h.dcs a ha;refine ⟨?_, ?_, ?_, ?_, ?_⟩
  ·rw[z a,W a 0 (by omega) (by omega) (by omega),if_neg (fun e=>by have:=b5 (e.1▸ha);omega),<-z a];exact r0
  ·rw[W a 1 (by omega) (by omega) (by omega),if_neg (fun e=>by have:=b5 (e.1▸ha);omega)];exact r1
  ·rw[W a 2 (by omega) (by omega) (by omega),if_neg (fun e=>by have:=b5 (e.1▸ha);omega)];exact r2
  ·rw[W a 3 (by omega) (by omega) (by omega),if_neg (fun e=>by have:=b5 (e.1▸ha);omega)];exact r3
  ·rw[W a 4 (by omega) (by omega) (by omega),ho a ha,r4]
theorem Rep.free (h:Rep C G) {b j x:Int} (tb:G.ty b≠0) (j0:0<=j) (j1:j<G.len b) (b2:G.ty b=2->False) (b3:G.ty b=3->j=3\/j=1) (b4:G.ty b=4->j=4) (b5:G.ty b=5->False):Rep (wrC C (b+j) x) G:=
 h.write tb j0 j1 rfl rfl rfl rfl rfl rfl rfl rfl rfl b2 (fun t=>by have:=b3 t;omega) (fun t=>by have:=b4 t;omega) (fun t=>(b5 t).elim)
  (fun n hn=>(if_neg (fun e=>by have:=b3 (e.1▸hn);omega)).symm) (fun n hn=>(if_neg (fun e=>by have:=b3 (e.1▸hn);omega)).symm)
  (fun n i hn i0 i1=>(if_neg (fun e=>by have:=b3 (e.1▸hn);omega)).symm) (fun n i hn=>(if_neg (fun e=>by have:=b3 (e.1▸hn.ty);have:=hn.i0;have:=hn.i1;omega)).symm)
  (fun r hr=>(if_neg (fun e=>by have:=b4 (e.1▸hr);omega)).symm) (fun a ha=>(if_neg (fun e:a=b/\_=>b5 (e.1▸ha))).symm)
theorem Rep.setGate (h:Rep C G) {n:Int} (hn:G.ty n=3):Rep (wrC C (n+2) 1) {G with gate:=upd G.gate n true}:=by
 have l:=Q3Z hn;have hd:=(h.deg n hn).1;refine h.write (by omega) (by omega) (by omega) rfl rfl rfl rfl rfl rfl rfl rfl rfl (fun t=>by omega) (fun _=>by omega) (fun t=>by omega) (fun t=>by omega) (fun m hm=> ?_) (fun m _=>(if_neg (by omega)).symm) (fun m i _ _ _=>(if_neg (by omega)).symm) (fun m i hm=>(if_neg (by have:=hm.i0;have:=hm.i1;omega)).symm) (fun r hr=>(if_neg (by omega)).symm) (fun a _=>(if_neg (by omega)).symm);by_cases e:m=n
 ·rw[e,if_pos ⟨rfl,rfl⟩];show bI (upd G.gate n true n)=1;rw[Q0g];rfl
 ·rw[if_neg (fun h=>e h.1)];show bI (upd G.gate n true m)=_;rw[Q0z _ _ e]
theorem Rep.setSum (h:Rep C G) {n x:Int} (hn:G.ty n=3):Rep (wrC C (n+4) x) {G with sum:=upd G.sum n x}:=by
 have l:=Q3Z hn;have hd:=(h.deg n hn).1;refine h.write (by omega) (by omega) (by omega) rfl rfl rfl rfl rfl rfl rfl rfl rfl (fun t=>by omega) (fun _=>by omega) (fun t=>by omega) (fun t=>by omega) (fun m hm=>(if_neg (by omega)).symm) (fun m _=> ?_) (fun m i _ _ _=>(if_neg (by omega)).symm) (fun m i hm=>(if_neg (by have:=hm.i0;have:=hm.i1;omega)).symm) (fun r hr=>(if_neg (by omega)).symm) (fun a ha=>(if_neg (fun e=>by rw[e.1] at ha;omega)).symm);by_cases e:m=n
 ·rw[e,if_pos ⟨rfl,rfl⟩];exact Q0g _ _ _
 ·rw[if_neg (fun h=>e h.1)];exact Q0z _ _ e
theorem Rep.setKey (h:Rep C G) {n i x:Int} (hn:G.ty n=3) (i0:1<=i) (i1:i<G.deg n):Rep (wrC C (n+4+i) x) {G with key:=Q5b G.key n i x}:=by
 have l:=Q3Z hn
 rw[show n+4+i=n+(4+i) by omega]
 refine h.write (by omega) (by omega) (by omega) rfl rfl rfl rfl rfl rfl rfl rfl rfl (fun t=>by omega) (fun _=>by omega) (fun t=>by omega) (fun t=>by omega) (fun m hm=>(if_neg (by omega)).symm) (fun m _=>(if_neg (by omega)).symm) (fun m j _ _ _=> ?_) (fun m j hm=>(if_neg (fun e=>by have:=hm.i0;rw[e.1] at e;omega)).symm) (fun r hr=>(if_neg (by omega)).symm) (fun a ha=>(if_neg (by omega)).symm);by_cases e:m=n/\j=i
 ·rw[if_pos ⟨e.1,by omega⟩,e.1,e.2];exact Q1H _ _ _ _
 ·rw[if_neg (fun h=>e ⟨h.1,by omega⟩)];exact Q1N _ _ e
theorem Rep.setSlot (h:Rep C G) {n i x:Int} (hn:G.At n i) {pl la:Int->Bool}:Rep (wrC C (G.sa n i) x) {G with slot:=Q5b G.slot n i x,placed:=pl,late:=la}:=by
 have l:=Q3Z hn.ty;have h0:=hn.i0;have h1:=hn.i1;have t:=hn.ty
 rw[show G.sa n i=n+(4+G.deg n+i) by unfold GS.sa;omega]
 refine h.write (by omega) (by omega) (by omega) rfl rfl rfl rfl rfl rfl rfl rfl rfl (fun t=>by omega) (fun _=>by omega) (fun t=>by omega) (fun t=>by omega) (fun m hm=>(if_neg (by omega)).symm) (fun m _=>(if_neg (by omega)).symm) (fun m j hm3 j0 j1=>(if_neg (fun e:m=n/\_=>by obtain ⟨rfl,e2⟩:=e;omega)).symm) (fun m j hm=> ?_) (fun r hr=>(if_neg (by omega)).symm) (fun a ha=>(if_neg (by omega)).symm);by_cases e:m=n/\j=i
 ·rw[if_pos ⟨e.1,by rw[e.1,e.2]⟩,e.1,e.2];exact Q1H _ _ _ _
 ·rw[if_neg (fun h=>e ⟨h.1,by have:=h.2;rw[h.1] at this;omega⟩)];exact Q1N _ _ e
theorem Rep.setRes (h:Rep C G) {r x:Int} (hr:G.ty r=4):Rep (wrC C (r+3) x) {G with res:=upd G.res r x}:=by
 have l:=Qd8 hr;refine h.write (by omega) (by omega) (by omega) rfl rfl rfl rfl rfl rfl rfl rfl rfl (fun t=>by omega) (fun t=>by omega) (fun t=>by omega) (fun t=>by omega) (fun m hm=>(if_neg (by omega)).symm) (fun m _=>(if_neg (by omega)).symm) (fun m i _ _ _=>(if_neg (by omega)).symm) (fun m i hm=>(if_neg (fun e=>by have:=hm.ty;rw[e.1] at this;omega)).symm) (fun a ha=> ?_) (fun a ha=>(if_neg (by omega)).symm);by_cases e:a=r
 ·rw[e,if_pos ⟨rfl,rfl⟩];exact Q0g _ _ _
 ·rw[if_neg (fun h=>e h.1)];exact Q0z _ _ e
theorem Rep.setOut (h:Rep C G) {a x:Int} (ha:G.ty a=5):Rep (wrC C (a+4) x) {G with out:=upd G.out a x}:=by
 have l:=Qd7 ha;refine h.write (by omega) (by omega) (by omega) rfl rfl rfl rfl rfl rfl rfl rfl rfl (fun t=>by omega) (fun t=>by omega) (fun t=>by omega) (fun t=>by omega) (fun m hm=>(if_neg (by omega)).symm) (fun m hm=>(if_neg (fun e=>by rw[e.1] at hm;omega)).symm) (fun m i _ _ _=>(if_neg (by omega)).symm) (fun m i hm=>(if_neg (fun e=>by have:=hm.ty;rw[e.1] at this;omega)).symm) (fun r hr=>(if_neg (by omega)).symm) (fun b hb=> ?_);by_cases e:b=a
 ·rw[e,if_pos ⟨rfl,rfl⟩];exact Q0g _ _ _
 ·rw[if_neg (fun h=>e h.1)];exact Q0z _ _ e
end
structure OffG (m:Int) (G G':GS):Prop where
 ty:∀a,a≠m->G'.ty a=G.ty a
 deg:∀a,a≠m->G'.deg a=G.deg a
 lo:∀a,a≠m->G'.lo a=G.lo a
 hi:∀a,a≠m->G'.hi a=G.hi a
 ks:∀a,a≠m->G'.ks a=G.ks a
 nd:∀a,a≠m->G'.nd a=G.nd a
 ix:∀a,a≠m->G'.ix a=G.ix a
 own:∀a,a≠m->G'.own a=G.own a
 k1:∀a,a≠m->G'.k1 a=G.k1 a
 v1:∀a,a≠m->G'.v1 a=G.v1 a
 tgt:∀a,a≠m->G'.tgt a=G.tgt a
 od:∀a,a≠m->G'.od a=G.od a
 nw:∀a,a≠m->G'.nw a=G.nw a
 gate:∀a,a≠m->G'.gate a=G.gate a
 sum:∀a,a≠m->G'.sum a=G.sum a
 key:∀a,a≠m->G'.key a=G.key a
 slot:∀a,a≠m->G'.slot a=G.slot a
 res:∀a,a≠m->G'.res a=G.res a
 out:∀a,a≠m->G'.out a=G.out a
 placed:∀a,a≠m->G'.placed a=G.placed a
 late:∀a,a≠m->G'.late a=G.late a
theorem Qgs {C X:List Int} {a:Int} (h2:a<=C.length):rdC (C++X) a=rdC C a:=by
 unfold rdC;by_cases h1:1<=a
 ·rw[if_pos ⟨h1,by simp;omega⟩,if_pos ⟨h1,h2⟩]
  unfold keyAt
  rw[List.getD_eq_getElem?_getD,List.getD_eq_getElem?_getD,List.getElem?_append_left (by omega)]
 ·rw[if_neg (by omega),if_neg (by omega)]
theorem Qfm {C X:List Int} {j:Nat} (h:j<X.length):rdC (C++X) ((C.length:Int)+1+j)=keyAt X j:=by
 unfold rdC
 rw[if_pos ⟨by omega,by simp;omega⟩]
 unfold keyAt
 rw[List.getD_eq_getElem?_getD,List.getD_eq_getElem?_getD,List.getElem?_append_right (by omega)]
 congr 2
 omega
section
variable {C:List Int} {G G':GS}
theorem Rep.used (h:Rep C G) {a:Int} (t:G.ty a≠0):a<=C.length:=by
 have h1:=h.top a t;have h2:=h.ty a;have:G.ty a=1\/G.ty a=2\/G.ty a=3\/G.ty a=4\/G.ty a=5:=by omega
 rcases this with e|e|e|e|e
 ·rw[len1 e] at h1;omega
 ·rw[len2 e] at h1;omega
 ·rw[Q3Z e] at h1;have:=(h.deg a e).1;omega
 ·rw[Qd8 e] at h1;omega
 ·rw[Qd7 e] at h1;omega
theorem Rep.fresh (h:Rep C G) {a:Int} (ha:(C.length:Int)<a):G.ty a=0:=by
 apply Classical.byContradiction;intro t;have:=h.used t;omega
theorem Rep.neNew (h:Rep C G) {a m:Int} (hm:m=C.length+1) (t:G.ty a≠0):a≠m:=by
 have:=h.used t;omega
structure New (C:List Int) (G:GS) (m:Int):Prop where
 ty:1<=G.ty m/\G.ty m<=5
 leaf:G.ty m=2->rdC C m=G.k1 m/\rdC C (m+1)=G.v1 m
 deg:G.ty m=3->1<=G.deg m/\rdC C m=G.deg m
 gate:G.ty m=3->rdC C (m+2)=bI (G.gate m)
 sum:G.ty m=3->rdC C (m+4)=G.sum m
 key:∀i,G.ty m=3->1<=i->i<G.deg m->rdC C (m+4+i)=G.key m i
 slot:∀i,G.At m i->rdC C (G.sa m i)=G.slot m i
 rebP:G.ty m=4->G.At (G.nd m) (G.ix m)
 reb:G.ty m=4->rdC C m=wOf 3 (G.tgt m)/\rdC C (m+1)=G.nd m+2/\rdC C (m+2)=G.sa (G.nd m) (G.ix m)/\rdC C (m+3)=G.res m
 dcsP:G.ty m=5->G.At (G.nd m) (G.ix m)
 dcs:G.ty m=5->rdC C m=G.nd m+2/\rdC C (m+1)=G.sa (G.nd m) (G.ix m)/\rdC C (m+2)=G.od m/\rdC C (m+3)=G.nw m/\rdC C (m+4)=G.out m
theorem OffG.len {m:Int} (o:OffG m G G') {a:Int} (h:a≠m):G'.len a=G.len a:=by unfold GS.len;rw[o.ty a h,o.deg a h]
theorem OffG.at_ {m:Int} (o:OffG m G G') {n i:Int} (h:n≠m) (ha:G.At n i):G'.At n i:=⟨by rw[o.ty n h];exact ha.ty,ha.i0,by rw[o.deg n h];exact ha.i1⟩
theorem OffG.back {m:Int} (o:OffG m G G') {n i:Int} (h:n≠m) (ha:G'.At n i):G.At n i:=⟨by rw[<-o.ty n h];exact ha.ty,ha.i0,by rw[<-o.deg n h];exact ha.i1⟩
theorem OffG.sa {m:Int} (o:OffG m G G') {n i:Int} (h:n≠m):G'.sa n i=G.sa n i:=by unfold GS.sa;rw[o.deg n h]
theorem Rep.make (h:Rep C G) {ws:List Int} {m:Int} (hm:m=C.length+1) (hb:(C.length:Int)+ws.length<=16384) (o:OffG m G G') (hl:G'.len m=ws.length) (hn:New (C++ws) G' m):Rep (C++ws) G':=by
 have old:∀a,G'.ty a≠0->a≠m->G.ty a≠0:=fun a t e=>by rw[<-o.ty a e];exact t
 have ap:((C++ws).length:Int)=C.length+ws.length:=by simp
 have hr:∀a j,G.ty a≠0->j<G.len a->rdC (C++ws) (a+j)=rdC C (a+j):=fun a j t hj=>Qgs (by have:=h.top a t;omega);have z:∀a:Int,a=a+0:=fun a=>by omega
 refine ⟨by rw[ap];exact hb,fun a=> ?_,fun a t=> ?_,fun a t=> ?_,fun a b ta tb hab=> ?_,fun a ha=> ?_,fun n hn3=> ?_,fun n hn3=> ?_,fun n hn3=> ?_,fun n i hn3 i0 i1=> ?_,fun n i ha=> ?_,fun r hr4=> ?_,fun r hr4=> ?_,fun a ha=> ?_,fun a ha=> ?_⟩
 ·by_cases e:a=m
  ·rw[e];have:=hn.ty;omega
  ·rw[o.ty a e];exact h.ty a
 ·by_cases e:a=m
  ·omega
  ·exact h.low a (old a t e)
 ·by_cases e:a=m
  ·rw[e,hl,ap];omega
  ·rw[o.len e,ap];have:=h.top a (old a t e);omega
 ·by_cases e:a=m
  ·by_cases e2:b=m
   ·omega
   ·have:=h.used (old b tb e2);omega
  ·by_cases e2:b=m
   ·rw[o.len e];have:=h.top a (old a ta e);omega
   ·rw[o.len e];exact h.dis a b (old a ta e) (old b tb e2) hab
 ·by_cases e:a=m
  ·subst e;exact hn.leaf ha
  ·rw[o.ty a e] at ha
   rw[o.k1 a e,o.v1 a e,z a,hr a 0 (by omega) (by rw[len2 ha];omega),<-z a,hr a 1 (by omega) (by rw[len2 ha];omega)]
   exact h.leaf a ha
 ·by_cases e:n=m
  ·subst e;exact hn.deg hn3
  ·rw[o.ty n e] at hn3
   have hd:=h.deg n hn3
   rw[o.deg n e]
   refine ⟨hd.1, ?_⟩
   rw[z n,hr n 0 (by omega) (by rw[Q3Z hn3];omega),<-z n];exact hd.2
 ·by_cases e:n=m
  ·subst e;exact hn.gate hn3
  ·rw[o.ty n e] at hn3
   have hd:=h.deg n hn3
   rw[o.gate n e,hr n 2 (by omega) (by rw[Q3Z hn3];omega)];exact h.gate n hn3
 ·by_cases e:n=m
  ·subst e;exact hn.sum hn3
  ·rw[o.ty n e] at hn3
   have hd:=h.deg n hn3
   rw[o.sum n e,hr n 4 (by omega) (by rw[Q3Z hn3];omega)];exact h.sum n hn3
 ·by_cases e:n=m
  ·subst e;exact hn.key i hn3 i0 i1
  ·rw[o.ty n e] at hn3
   rw[o.deg n e] at i1
   have hd:=h.deg n hn3
   rw[o.key n e,show n+4+i=n+(4+i) by omega,hr n (4+i) (by omega) (by rw[Q3Z hn3];omega),show n+(4+i)=n+4+i by omega];exact h.key n i hn3 i0 i1
 ·by_cases e:n=m
  ·subst e;exact hn.slot i ha
  ·have ha:=o.back e ha;have h1:=ha.ty;have h2:=ha.i0;have h3:=ha.i1
   rw[o.slot n e,o.sa e,<-h.slot n i ha,show G.sa n i=n+(4+G.deg n+i) by unfold GS.sa;omega]
   exact hr n _ (by omega) (by rw[Q3Z h1];omega)
 ·by_cases e:r=m
  ·subst e;exact hn.rebP hr4
  ·rw[o.ty r e] at hr4
   have:=h.rebP r hr4
   rw[o.nd r e,o.ix r e]
   exact o.at_ (h.neNew hm (by rw[this.ty];decide)) this
 ·by_cases e:r=m
  ·subst e;exact hn.reb hr4
  ·rw[o.ty r e] at hr4
   have hp:=h.rebP r hr4;have hne:=h.neNew hm (a:=G.nd r) (by rw[hp.ty];decide)
   rw[o.nd r e,o.ix r e,o.tgt r e,o.res r e,o.sa hne,z r,hr r 0 (by omega) (by rw[Qd8 hr4];omega),<-z r,hr r 1 (by omega) (by rw[Qd8 hr4];omega),hr r 2 (by omega) (by rw[Qd8 hr4];omega),hr r 3 (by omega) (by rw[Qd8 hr4];omega)]
   exact h.reb r hr4
 ·by_cases e:a=m
  ·subst e;exact hn.dcsP ha
  ·rw[o.ty a e] at ha
   have:=h.dcsP a ha
   rw[o.nd a e,o.ix a e]
   exact o.at_ (h.neNew hm (by rw[this.ty];decide)) this
 ·by_cases e:a=m
  ·subst e;exact hn.dcs ha
  ·rw[o.ty a e] at ha
   have hp:=h.dcsP a ha;have hne:=h.neNew hm (a:=G.nd a) (by rw[hp.ty];decide)
   rw[o.nd a e,o.ix a e,o.od a e,o.nw a e,o.out a e,o.sa hne,z a,hr a 0 (by omega) (by rw[Qd7 ha];omega),<-z a,hr a 1 (by omega) (by rw[Qd7 ha];omega),hr a 2 (by omega) (by rw[Qd7 ha];omega),hr a 3 (by omega) (by rw[Qd7 ha];omega),hr a 4 (by omega) (by rw[Qd7 ha];omega)]
   exact h.dcs a ha
def GS.newE (G:GS) (m a b:Int):GS:={G with ty:=upd G.ty m 1,lo:=upd G.lo m a,hi:=upd G.hi m b}
def GS.newL (G:GS) (m k v:Int):GS:={G with ty:=upd G.ty m 2,k1:=upd G.k1 m k,v1:=upd G.v1 m v}
def GS.newI (G:GS) (m d a b:Int) (ks key slot:Int->Int):GS:={G with ty:=upd G.ty m 3,deg:=upd G.deg m d,lo:=upd G.lo m a,hi:=upd G.hi m b,ks:=upd G.ks m ks,gate:=upd G.gate m false,sum:=upd G.sum m 0,key:=upd G.key m key,slot:=upd G.slot m slot}
def GS.newR (G:GS) (m t n i:Int):GS:={G with ty:=upd G.ty m 4,nd:=upd G.nd m n,ix:=upd G.ix m i,tgt:=upd G.tgt m t,res:=upd G.res m 0}
def GS.newD (G:GS) (u:Nat) (m n i old x:Int):GS:={G with ty:=upd G.ty m 5,nd:=upd G.nd m n,ix:=upd G.ix m i,own:=upd G.own m u,od:=upd G.od m old,nw:=upd G.nw m x,out:=upd G.out m 0,placed:=upd G.placed m false,late:=upd G.late m false}
theorem Qhf {m a b:Int}:OffG m G (G.newE m a b):=⟨fun a e=>Q0z _ _ e,fun _ _=>rfl,fun a e=>Q0z _ _ e,fun a e=>Q0z _ _ e,fun _ _=>rfl,fun _ _=>rfl,fun _ _=>rfl,fun _ _=>rfl,fun _ _=>rfl,fun _ _=>rfl,fun _ _=>rfl,fun _ _=>rfl,fun _ _=>rfl,fun _ _=>rfl,fun _ _=>rfl,fun _ _=>rfl,fun _ _=>rfl,fun _ _=>rfl,fun _ _=>rfl,fun _ _=>rfl,fun _ _=>rfl⟩
theorem Qhe {m k v:Int}:OffG m G (G.newL m k v):=⟨fun a e=>Q0z _ _ e,fun _ _=>rfl,fun _ _=>rfl,fun _ _=>rfl,fun _ _=>rfl,fun _ _=>rfl,fun _ _=>rfl,fun _ _=>rfl,fun a e=>Q0z _ _ e,fun a e=>Q0z _ _ e,fun _ _=>rfl,fun _ _=>rfl,fun _ _=>rfl,fun _ _=>rfl,fun _ _=>rfl,fun _ _=>rfl,fun _ _=>rfl,fun _ _=>rfl,fun _ _=>rfl,fun _ _=>rfl,fun _ _=>rfl⟩
theorem QgV {m d a b:Int} {ks key slot:Int->Int}:OffG m G (G.newI m d a b ks key slot):=⟨fun a e=>Q0z _ _ e,fun a e=>Q0z _ _ e,fun a e=>Q0z _ _ e,fun a e=>Q0z _ _ e,fun a e=>Q0z _ _ e,fun _ _=>rfl,fun _ _=>rfl,fun _ _=>rfl,fun _ _=>rfl,fun _ _=>rfl,fun _ _=>rfl,fun _ _=>rfl,fun _ _=>rfl,fun a e=>Q0z _ _ e,fun a e=>Q0z _ _ e,fun a e=>Q0z _ _ e,fun a e=>Q0z _ _ e,fun _ _=>rfl,fun _ _=>rfl,fun _ _=>rfl,fun _ _=>rfl⟩
theorem offR {m t n i:Int}:OffG m G (G.newR m t n i):=⟨fun a e=>Q0z _ _ e,fun _ _=>rfl,fun _ _=>rfl,fun _ _=>rfl,fun _ _=>rfl,fun a e=>Q0z _ _ e,fun a e=>Q0z _ _ e,fun _ _=>rfl,fun _ _=>rfl,fun _ _=>rfl,fun a e=>Q0z _ _ e,fun _ _=>rfl,fun _ _=>rfl,fun _ _=>rfl,fun _ _=>rfl,fun _ _=>rfl,fun _ _=>rfl,fun a e=>Q0z _ _ e,fun _ _=>rfl,fun _ _=>rfl,fun _ _=>rfl⟩
theorem offD {m n i old x:Int} {u:Nat}:OffG m G (G.newD u m n i old x):=⟨fun a e=>Q0z _ _ e,fun _ _=>rfl,fun _ _=>rfl,fun _ _=>rfl,fun _ _=>rfl,fun a e=>Q0z _ _ e,fun a e=>Q0z _ _ e,fun a e=>Q0z _ _ e,fun _ _=>rfl,fun _ _=>rfl,fun _ _=>rfl,fun a e=>Q0z _ _ e,fun a e=>Q0z _ _ e,fun _ _=>rfl,fun _ _=>rfl,fun _ _=>rfl,fun _ _=>rfl,fun _ _=>rfl,fun a e=>Q0z _ _ e,fun a e=>Q0z _ _ e,fun a e=>Q0z _ _ e⟩
theorem rd0 {C X:List Int} {m:Int} (hm:m=C.length+1) (h:0<X.length):rdC (C++X) m=keyAt X 0:=by
 have:=Qfm (C:=C) h;rw[hm];simpa using this
theorem rdj {C X:List Int} {m j:Int} (hm:m=C.length+1) (h0:0<=j) (h:j<X.length):rdC (C++X) (m+j)=keyAt X j.toNat:=by
 have:=Qfm (C:=C) (X:=X) (j:=j.toNat) (by omega);rw[<-this,hm];congr 1;omega
theorem Rep.mkE (h:Rep C G) {m a b:Int} (hm:m=C.length+1) (hb:(C.length:Int)+1<=16384):Rep (C++[0]) (G.newE m a b):=by
 have t:(G.newE m a b).ty m=1:=Q0g _ _ _;exact h.make hm (by simpa using hb) Qhf (by rw[len1 t];rfl) ⟨by omega,fun t'=>by omega,fun t'=>by omega,fun t'=>by omega,fun t'=>by omega,fun i t'=>by omega,fun i t'=>by have:=t'.ty;omega,fun t'=>by omega,fun t'=>by omega,fun t'=>by omega,fun t'=>by omega⟩
theorem Rep.mkL (h:Rep C G) {m k v:Int} (hm:m=C.length+1) (hb:(C.length:Int)+2<=16384):Rep (C++[k,v]) (G.newL m k v):=by
 have t:(G.newL m k v).ty m=2:=Q0g _ _ _;refine h.make hm (by simpa using hb) Qhe (by rw[len2 t];rfl) ⟨by omega,fun _=>⟨?_, ?_⟩,fun t'=>by omega,fun t'=>by omega,fun t'=>by omega,fun i t'=>by omega,fun i t'=>by have:=t'.ty;omega,fun t'=>by omega,fun t'=>by omega,fun t'=>by omega,fun t'=>by omega⟩
 ·rw[rd0 hm (by simp)];exact (Q0g G.k1 m k).symm
 ·rw[rdj hm (by decide) (by simp)];exact (Q0g G.v1 m v).symm
theorem Rep.mkR (h:Rep C G) {m t n i:Int} (hm:m=C.length+1) (hb:(C.length:Int)+5<=16384) (ha:G.At n i):Rep (C++Q16 (wOf 3 t) (n+2) (G.sa n i)) (G.newR m t n i):=by
 have ty:(G.newR m t n i).ty m=4:=Q0g _ _ _;have hne:n≠m:=h.neNew hm (by rw[ha.ty];decide);have e1:(G.newR m t n i).nd m=n:=Q0g _ _ _;have e2:(G.newR m t n i).ix m=i:=Q0g _ _ _;refine h.make hm (by simpa[Q16] using hb) offR (by rw[Qd8 ty];rfl) ⟨by omega,fun t'=>by omega,fun t'=>by omega,fun t'=>by omega,fun t'=>by omega,fun i t'=>by omega,fun i t'=>by have:=t'.ty;omega,fun _=> ?_,fun _=> ?_,fun t'=>by omega,fun t'=>by omega⟩
 ·rw[e1,e2];exact offR.at_ hne ha
 ·rw[e1,e2,offR.sa hne]
  refine ⟨?_, ?_, ?_, ?_⟩
  ·rw[rd0 hm (by simp[Q16])];show wOf 3 t=wOf 3 (upd G.tgt m t m);rw[Q0g]
  ·rw[rdj hm (by decide) (by simp[Q16])];rfl
  ·rw[rdj hm (by decide) (by simp[Q16])];rfl
  ·rw[rdj hm (by decide) (by simp[Q16])];exact (Q0g G.res m 0).symm
theorem Rep.mkD (h:Rep C G) {u:Nat} {m n i old x:Int} (hm:m=C.length+1) (hb:(C.length:Int)+5<=16384) (ha:G.At n i):Rep (C++Q30 (n+2) (G.sa n i) old x) (G.newD u m n i old x):=by
 have ty:(G.newD u m n i old x).ty m=5:=Q0g _ _ _;have hne:n≠m:=h.neNew hm (by rw[ha.ty];decide);have e1:(G.newD u m n i old x).nd m=n:=Q0g _ _ _;have e2:(G.newD u m n i old x).ix m=i:=Q0g _ _ _;refine h.make hm (by simpa[Q30] using hb) offD (by rw[Qd7 ty];rfl) ⟨by omega,fun t'=>by omega,fun t'=>by omega,fun t'=>by omega,fun t'=>by omega,fun i t'=>by omega,fun i t'=>by have:=t'.ty;omega,fun t'=>by omega,fun t'=>by omega,fun _=> ?_,fun _=> ?_⟩
 ·rw[e1,e2];exact offD.at_ hne ha
 ·rw[e1,e2,offD.sa hne]
  refine ⟨?_, ?_, ?_, ?_, ?_⟩
  ·rw[rd0 hm (by simp[Q30])];rfl
  ·rw[rdj hm (by decide) (by simp[Q30])];rfl
  ·rw[rdj hm (by decide) (by simp[Q30])];exact (Q0g G.od m old).symm
  ·rw[rdj hm (by decide) (by simp[Q30])];exact (Q0g G.nw m x).symm
  ·rw[rdj hm (by decide) (by simp[Q30])];exact (Q0g G.out m 0).symm
theorem Rep.mkI (h:Rep C G) {m a b n:Int} {ks:Int->Int} {q c:List Int} (hm:m=C.length+1) (hq:c.length=q.length+1) (hb:(C.length:Int)+(Q0U n q c).length<=16384):
  Rep (C++Q0U n q c) (G.newI m c.length a b ks (fun i=>keyAt q (i-1).toNat) (fun i=>keyAt c i.toNat)):=by
 have t:(G.newI m c.length a b ks (fun i=>keyAt q (i-1).toNat) (fun i=>keyAt c i.toNat)).ty m=3:=Q0g _ _ _;have ed:(G.newI m c.length a b ks (fun i=>keyAt q (i-1).toNat) (fun i=>keyAt c i.toNat)).deg m=c.length:=Q0g _ _ _;have hwl:((Q0U n q c).length:Int)=4+2*c.length:=by simp[Q0U];omega
 refine h.make hm hb QgV (by rw[Q3Z t,ed,hwl]) ⟨by omega,fun t'=>by omega,fun _=> ?_,fun _=> ?_,fun _=> ?_,fun i _ i0 i1=> ?_,fun i t'=> ?_,fun t'=>by omega,fun t'=>by omega,fun t'=>by omega,fun t'=>by omega⟩
 ·rw[ed]
  refine ⟨by omega, ?_⟩
  rw[rd0 hm (by simp[Q0U])];rfl
 ·rw[rdj hm (by decide) (by rw[hwl];omega)]
  show _=bI (upd G.gate m false m)
  rw[Q0g];rfl
 ·rw[rdj hm (by decide) (by rw[hwl];omega)];exact (Q0g G.sum m 0).symm
 ·rw[ed] at i1
  rw[show m+4+i=m+(4+i) by omega,rdj hm (by omega) (by rw[hwl];omega)]
  show _=upd G.key m _ m i
  rw[Q0g]
  unfold Q0U keyAt
  rw[List.getD_eq_getElem?_getD,List.getD_eq_getElem?_getD,List.append_assoc,List.getElem?_append_right (by simp;omega),List.getElem?_append_left (by simp;omega)]
  congr 2
  simp;omega
 ·have i0:=t'.i0;have i1:=t'.i1
  rw[ed] at i1
  show rdC _ (m+4+_+i)=upd G.slot m _ m i
  rw[ed,Q0g,show m+4+(c.length:Int)+i=m+(4+c.length+i) by omega,rdj hm (by omega) (by rw[hwl];omega)]
  unfold Q0U keyAt
  rw[List.getD_eq_getElem?_getD,List.getD_eq_getElem?_getD,List.append_assoc,List.getElem?_append_right (by simp;omega),List.getElem?_append_right (by simp;omega)]
  congr 2
  simp;omega
end
def GS.cmp (G:GS) (n:Int):Prop:=∀i,0<=i->i<G.deg n->G.slot n i≠0
structure VR (G:GS) (a b w:Int):Prop where
 k0:1<=Q05 w
 k3:Q05 w<=3
 ty:G.ty (wAt w)=Q05 w
 e1:Q05 w=1->G.lo (wAt w)=a/\G.hi (wAt w)=b
 e2:Q05 w=2->a<=G.k1 (wAt w)/\G.k1 (wAt w)<=b
 e3:Q05 w=3->G.lo (wAt w)=a/\G.hi (wAt w)=b/\G.cmp (wAt w)/\wAt w≠1
def VW (G:GS) (n i w:Int):Prop:=VR G (G.ks n i) (G.ks n (i+1)-1) w\/(Q05 w=4/\G.ty (wAt w)=4/\G.nd (wAt w)=n/\G.ix (wAt w)=i)
def SW (G:GS) (n i w:Int):Prop:=w=0\/VW G n i w\/(Q05 w=5/\G.ty (wAt w)=5/\G.nd (wAt w)=n/\G.ix (wAt w)=i/\G.placed (wAt w)=true)
def GS.lw (G:GS) (w:Int):Int:=if Q05 w=5 then (if G.out (wAt w)=1 then G.nw (wAt w) else G.od (wAt w)) else w
def GS.lg (G:GS) (n i:Int):Int:=G.lw (G.slot n i)
structure Settled (G:GS) (n i:Int):Prop where
 gate:G.gate n=true
 ne:G.slot n i≠0
 dec:Q05 (G.slot n i)=5->G.late (wAt (G.slot n i))=true\/G.out (wAt (G.slot n i))≠0
def Q3l (L:Int->List (Int×Int)):Nat->List (Int×Int)
 |0=>[]
 |k+1=>Q3l L k++L k
inductive FrzN (G:GS):Int->List (Int×Int)->Prop
 |mk (n:Int) (Ls:Int->List (Int×Int)) (ty:G.ty n=3) (st:∀i,0<=i->i<G.deg n->Settled G n i) (sm:G.sum n=((Q3l Ls (G.deg n).toNat).length:Int)+1)
   (e1:∀i,0<=i->i<G.deg n->Q05 (G.lg n i)=1->Ls i=[])
   (e2:∀i,0<=i->i<G.deg n->Q05 (G.lg n i)=2->Ls i=[(G.k1 (wAt (G.lg n i)),G.v1 (wAt (G.lg n i)))])
   (e3:∀i,0<=i->i<G.deg n->Q05 (G.lg n i)=3->FrzN G (wAt (G.lg n i)) (Ls i))
   (e4:∀i,0<=i->i<G.deg n->Q05 (G.lg n i)=4->FrzN G (G.tgt (wAt (G.lg n i))) (Ls i)):FrzN G n (Q3l Ls (G.deg n).toNat)
structure FW (G:GS) (w:Int) (L:List (Int×Int)):Prop where
 e1:Q05 w=1->L=[]
 e2:Q05 w=2->L=[(G.k1 (wAt w),G.v1 (wAt w))]
 e3:Q05 w=3->FrzN G (wAt w) L
 e4:Q05 w=4->FrzN G (G.tgt (wAt w)) L
structure Ext (G G':GS):Prop where
 ty:∀a,G.ty a≠0->G'.ty a=G.ty a
 deg:∀a,G.ty a≠0->G'.deg a=G.deg a
 lo:∀a,G.ty a≠0->G'.lo a=G.lo a
 hi:∀a,G.ty a≠0->G'.hi a=G.hi a
 ks:∀a,G.ty a≠0->G'.ks a=G.ks a
 nd:∀a,G.ty a≠0->G'.nd a=G.nd a
 ix:∀a,G.ty a≠0->G'.ix a=G.ix a
 own:∀a,G.ty a≠0->G'.own a=G.own a
 k1:∀a,G.ty a≠0->G'.k1 a=G.k1 a
 v1:∀a,G.ty a≠0->G'.v1 a=G.v1 a
 tgt:∀a,G.ty a≠0->G'.tgt a=G.tgt a
 od:∀a,G.ty a≠0->G'.od a=G.od a
 nw:∀a,G.ty a≠0->G'.nw a=G.nw a
 gate:∀n,G.ty n=3->G.gate n=true->G'.gate n=true
 sum:∀n,G.ty n=3->G.sum n≠0->G'.sum n=G.sum n
 key:∀n i,G.ty n=3->1<=i->i<G.deg n->G.key n i=G.ks n i->G'.key n i=G.ks n i
 slot:∀n i,G.At n i->G.slot n i≠0->G'.slot n i≠0
 res:∀r,G.ty r=4->G.res r≠0->G'.res r=G.res r
 out:∀a,G.ty a=5->G.out a≠0->G'.out a=G.out a
 placed:∀a,G.ty a=5->G.placed a=true->G'.placed a=true
 late:∀a,G.ty a=5->G.placed a=true->G'.late a=G.late a
 set:∀n i,G.At n i->Settled G n i->Settled G' n i/\G'.lg n i=G.lg n i
 mono:∀n i,G.At n i->G'.lg n i=G.lg n i\/wAt (G.lg n i)<wAt (G'.lg n i)
section
variable {G G' G'':GS}
theorem Ext.refl (G:GS):Ext G G:=⟨fun _ _=>rfl,fun _ _=>rfl,fun _ _=>rfl,fun _ _=>rfl,fun _ _=>rfl,fun _ _=>rfl,fun _ _=>rfl,fun _ _=>rfl,fun _ _=>rfl,fun _ _=>rfl,fun _ _=>rfl,fun _ _=>rfl,fun _ _=>rfl,fun _ _ h=>h,fun _ _ _=>rfl,fun _ _ _ _ _ h=>h,fun _ _ _ h=>h,fun _ _ _=>rfl,fun _ _ _=>rfl,fun _ _ h=>h,fun _ _ _=>rfl,fun _ _ _ h=>⟨h,rfl⟩,fun _ _ _=>.inl rfl⟩
theorem Ext.t3 (h:Ext G G') {n:Int} (t:G.ty n=3):G'.ty n=3:=by rw[h.ty n (by omega)];exact t
theorem Ext.t4 (h:Ext G G') {n:Int} (t:G.ty n=4):G'.ty n=4:=by rw[h.ty n (by omega)];exact t
theorem Ext.t5 (h:Ext G G') {n:Int} (t:G.ty n=5):G'.ty n=5:=by rw[h.ty n (by omega)];exact t
theorem Ext.at_ (h:Ext G G') {n i:Int} (a:G.At n i):G'.At n i:=⟨h.t3 a.ty,a.i0,by rw[h.deg n (by rw[a.ty];decide)];exact a.i1⟩
theorem Ext.sa (h:Ext G G') {n:Int} (t:G.ty n=3) (i:Int):G'.sa n i=G.sa n i:=by unfold GS.sa;rw[h.deg n (by omega)]
theorem Ext.trans (h:Ext G G') (k:Ext G' G''):Ext G G'':=by
 have t0:∀a,G.ty a≠0->G'.ty a≠0:=fun a t=>by rw[h.ty a t];exact t
 refine ⟨fun a t=>(k.ty a (t0 a t)).trans (h.ty a t),fun a t=>(k.deg a (t0 a t)).trans (h.deg a t),fun a t=>(k.lo a (t0 a t)).trans (h.lo a t),fun a t=>(k.hi a (t0 a t)).trans (h.hi a t),fun a t=>(k.ks a (t0 a t)).trans (h.ks a t),fun a t=>(k.nd a (t0 a t)).trans (h.nd a t),fun a t=>(k.ix a (t0 a t)).trans (h.ix a t),fun a t=>(k.own a (t0 a t)).trans (h.own a t),fun a t=>(k.k1 a (t0 a t)).trans (h.k1 a t),fun a t=>(k.v1 a (t0 a t)).trans (h.v1 a t),fun a t=>(k.tgt a (t0 a t)).trans (h.tgt a t),fun a t=>(k.od a (t0 a t)).trans (h.od a t),fun a t=>(k.nw a (t0 a t)).trans (h.nw a t), ?_, ?_, ?_, ?_, ?_, ?_, ?_, ?_, ?_, ?_⟩
 ·exact fun n t g=>k.gate n (h.t3 t) (h.gate n t g)
 ·intro n t g;have:=h.sum n t g
  rw[k.sum n (h.t3 t) (by rw[this];exact g),this]
 ·intro n i t i0 i1 e;have hks:=h.ks n (by omega);have hd:=h.deg n (by omega)
  rw[k.key n i (h.t3 t) i0 (by rw[hd];exact i1) (by rw[hks];exact h.key n i t i0 i1 e),hks]
 ·exact fun n i a g=>k.slot n i (h.at_ a) (h.slot n i a g)
 ·intro n t g;have:=h.res n t g
  rw[k.res n (h.t4 t) (by rw[this];exact g),this]
 ·intro n t g;have:=h.out n t g
  rw[k.out n (h.t5 t) (by rw[this];exact g),this]
 ·exact fun n t g=>k.placed n (h.t5 t) (h.placed n t g)
 ·exact fun n t g=>(k.late n (h.t5 t) (h.placed n t g)).trans (h.late n t g)
 ·intro n i a s;obtain ⟨s1,e1⟩:=h.set n i a s;obtain ⟨s2,e2⟩:=k.set n i (h.at_ a) s1;exact ⟨s2,e2.trans e1⟩
 ·intro n i a
  rcases h.mono n i a with e1|e1
  ·rcases k.mono n i (h.at_ a) with e2|e2
   ·exact .inl (e2.trans e1)
   ·rw[e1] at e2;exact .inr e2
  ·rcases k.mono n i (h.at_ a) with e2|e2
   ·rw[e2];exact .inr e1
   ·exact .inr (by omega)
theorem Ext.cmp (h:Ext G G') {n:Int} (t:G.ty n=3) (c:G.cmp n):G'.cmp n:=fun i i0 i1=>by
 rw[h.deg n (by omega)] at i1
 exact h.slot n i ⟨t,i0,i1⟩ (c i i0 i1)
theorem VR.ext {a b w:Int} (v:VR G a b w) (h:Ext G G'):VR G' a b w:=by
 have h0:=v.k0;have t:=v.ty;have tn:G.ty (wAt w)≠0:=by omega
 refine ⟨v.k0,v.k3,by rw[h.ty _ tn];exact t,fun k=> ?_,fun k=> ?_,fun k=> ?_⟩
 ·rw[h.lo _ tn,h.hi _ tn];exact v.e1 k
 ·rw[h.k1 _ tn];exact v.e2 k
 ·rw[h.lo _ tn,h.hi _ tn]
  obtain ⟨e1,e2,e3,e4⟩:=v.e3 k;exact ⟨e1,e2,h.cmp (by omega) e3,e4⟩
theorem VW.ext {n i w:Int} (v:VW G n i w) (h:Ext G G') (t:G.ty n=3):VW G' n i w:=by
 rcases v with v|⟨e1,e2,e3,e4⟩
 ·refine .inl ?_
  rw[h.ks n (by omega)]
  exact v.ext h
 ·exact .inr ⟨e1,h.t4 e2,by rw[h.nd _ (by omega)];exact e3,by rw[h.ix _ (by omega)];exact e4⟩
theorem VW.ne {n i w:Int} (v:VW G n i w):1<=Q05 w/\Q05 w<=4:=by
 rcases v with v|v
 ·have:=v.k0;have:=v.k3;omega
 ·omega
theorem Q1d:Q05 0=0:=by decide
theorem VW.nz {n i w:Int} (v:VW G n i w):w≠0:=fun e=>by
 have:=v.ne
 rw[e,Q1d] at this;omega
theorem VW.ty {n i w:Int} (v:VW G n i w):G.ty (wAt w)=Q05 w:=by
 rcases v with v|v
 ·exact v.ty
 ·rw[v.1];exact v.2.1
theorem SW.ext {n i w:Int} (v:SW G n i w) (h:Ext G G') (t:G.ty n=3):SW G' n i w:=by
 rcases v with v|v|⟨e1,e2,e3,e4,e5⟩
 ·exact .inl v
 ·exact .inr (.inl (v.ext h t))
 ·exact .inr (.inr ⟨e1,h.t5 e2,by rw[h.nd _ (by omega)];exact e3,by rw[h.ix _ (by omega)];exact e4,h.placed _ e2 e5⟩)
theorem GS.lw_of {w:Int} (G:GS) (h:Q05 w≠5):G.lw w=w:=if_neg h
end
theorem Q3V {L L':Int->List (Int×Int)}:∀k:Nat,(∀i:Int,0<=i->i<k->L i=L' i)->Q3l L k=Q3l L' k
 |0,_=>rfl
 |k+1,h=>by
  unfold Q3l
  rw[Q3V k (fun i i0 i1=>h i i0 (by omega)),h k (by omega) (by omega)]
theorem FrzN.ext {G G':GS} (h:Ext G G') (hw:∀n i,G.At n i->Q05 (G.lg n i)=2\/Q05 (G.lg n i)=4->G.ty (wAt (G.lg n i))≠0) {n:Int} {L:List (Int×Int)} (f:FrzN G n L):FrzN G' n L:=by
 induction f with
 |mk n Ls ty st sm e1 e2 e3 e4 ih3 ih4=>
  have tn:G.ty n≠0:=by omega
  have hd:=h.deg n tn;have hlg:∀i,0<=i->i<G.deg n->G'.lg n i=G.lg n i:=fun i i0 i1=>(h.set n i ⟨ty,i0,i1⟩ (st i i0 i1)).2;rw[<-hd];refine FrzN.mk n Ls (h.t3 ty) (fun i i0 i1=> ?_) ?_ (fun i i0 i1=> ?_) (fun i i0 i1 k=> ?_) (fun i i0 i1=> ?_) (fun i i0 i1 k=> ?_)
  ·rw[hd] at i1;exact (h.set n i ⟨ty,i0,i1⟩ (st i i0 i1)).1
  ·rw[hd,h.sum n ty (by omega)];exact sm
  ·rw[hd] at i1;rw[hlg i i0 i1];exact e1 i i0 i1
  ·rw[hd] at i1;rw[hlg i i0 i1] at k|-
   have:=hw n i ⟨ty,i0,i1⟩ (.inl k)
   rw[h.k1 _ this,h.v1 _ this];exact e2 i i0 i1 k
  ·rw[hd] at i1;rw[hlg i i0 i1];exact ih3 i i0 i1
  ·rw[hd] at i1;rw[hlg i i0 i1] at k|-
   rw[h.tgt _ (hw n i ⟨ty,i0,i1⟩ (.inr k))];exact ih4 i i0 i1 k
theorem FrzN.inj {G:GS} {n:Int} {L:List (Int×Int)} (hw:∀n i,G.At n i->Settled G n i->1<=Q05 (G.lg n i)/\Q05 (G.lg n i)<=4) (f:FrzN G n L):∀{L':List (Int×Int)},FrzN G n L'->L=L':=by
 induction f with
 |mk n Ls ty st sm e1 e2 e3 e4 ih3 ih4=>
  intro L' f'
  cases f' with
  |mk _ Ls' ty' st' sm' f1 f2 f3 f4=>
   refine Q3V _ (fun i i0 i1=> ?_);have i1:i<G.deg n:=by omega
   have hk:=hw n i ⟨ty,i0,i1⟩ (st i i0 i1);have:Q05 (G.lg n i)=1\/Q05 (G.lg n i)=2\/Q05 (G.lg n i)=3\/Q05 (G.lg n i)=4:=by omega
   rcases this with k|k|k|k
   ·rw[e1 i i0 i1 k,f1 i i0 i1 k]
   ·rw[e2 i i0 i1 k,f2 i i0 i1 k]
   ·exact ih3 i i0 i1 k (f3 i i0 i1 k)
   ·exact ih4 i i0 i1 k (f4 i i0 i1 k)
theorem FrzN.ty3 {G:GS} {n:Int} {L:List (Int×Int)} (f:FrzN G n L):G.ty n=3:=by cases f;assumption
theorem FrzN.sm {G:GS} {n:Int} {L:List (Int×Int)} (f:FrzN G n L):G.sum n=(L.length:Int)+1:=by cases f;assumption
theorem FrzN.parts {G:GS} {n:Int} {L:List (Int×Int)} (f:FrzN G n L):∃Ls:Int->List (Int×Int),L=Q3l Ls (G.deg n).toNat/\(∀i,0<=i->i<G.deg n->Settled G n i/\FW G (G.lg n i) (Ls i)):=by
 cases f with
 |mk _ Ls ty st sm e1 e2 e3 e4=>exact ⟨Ls,rfl,fun i i0 i1=>⟨st i i0 i1,e1 i i0 i1,e2 i i0 i1,e3 i i0 i1,e4 i i0 i1⟩⟩
structure ResOk (G:GS) (r w:Int) (L:List (Int×Int)):Prop where
 up:r<wAt w
 r0:L.length=0->Q05 w=1/\VR G (G.ks (G.nd r) (G.ix r)) (G.ks (G.nd r) (G.ix r+1)-1) w
 r1:L.length=1->Q05 w=2/\VR G (G.ks (G.nd r) (G.ix r)) (G.ks (G.nd r) (G.ix r+1)-1) w/\G.k1 (wAt w)=Q17 L 0/\G.v1 (wAt w)=Q4b L 0
 r2:2<=L.length->Q05 w=3/\G.ty (wAt w)=3/\G.deg (wAt w)=Q00 L.length/\G.lo (wAt w)=G.ks (G.nd r) (G.ix r)/\G.hi (wAt w)=G.ks (G.nd r) (G.ix r+1)-1/\wAt w≠1/\∀j,1<=j->j<Q00 L.length->G.ks (wAt w) j=Q17 L (Q0R L.length j).toNat
structure InnOk (G:GS) (n:Int):Prop where
 d2:n≠1->2<=G.deg n
 k0:G.ks n 0=G.lo n
 kd:G.ks n (G.deg n)=G.hi n+1
 kk:∀i j,0<=i->i<j->j<=G.deg n->G.ks n i<G.ks n j
 key:∀i,1<=i->i<G.deg n->G.key n i=G.ks n i\/G.slot n i=0
 slot:∀i,0<=i->i<G.deg n->SW G n i (G.slot n i)
 sum:G.sum n≠0->∃L,FrzN G n L
structure RebOk (G:GS) (r:Int):Prop where
 hat:G.At (G.nd r) (G.ix r)
 v:VR G (G.ks (G.nd r) (G.ix r)) (G.ks (G.nd r) (G.ix r+1)-1) (wOf 3 (G.tgt r))
 k:Q05 (wOf 3 (G.tgt r))=3/\wAt (wOf 3 (G.tgt r))=G.tgt r
 res:G.res r≠0->∃L,FrzN G (G.tgt r) L/\ResOk G r (G.res r) L
structure DcsOk (G:GS) (a:Int):Prop where
 hat:G.At (G.nd a) (G.ix a)
 old:VW G (G.nd a) (G.ix a) (G.od a)
 new:VW G (G.nd a) (G.ix a) (G.nw a)
 up:wAt (G.od a)<wAt (G.nw a)
 out:G.out a=0\/G.out a=1\/G.out a=2
 plc:G.out a≠0->G.placed a=true
 gone:G.placed a=true->G.slot (G.nd a) (G.ix a)≠wOf 5 a->G.out a≠0
 late:G.late a=true->G.placed a=true/\G.gate (G.nd a)=true/\G.out a≠1
 o3:Q05 (G.od a)=3->Q05 (G.nw a)=4/\G.tgt (wAt (G.nw a))=wAt (G.od a)
 o4:Q05 (G.od a)=4->G.nw a=G.res (wAt (G.od a))
structure Inv (G:GS):Prop where
 cap:∀a,G.ty a≠0->1<=a/\a+G.len a<=16385/\1<=G.len a
 r1:G.ty 1=3/\G.deg 1=1/\G.lo 1=Q1y/\G.hi 1=Q2M/\G.gate 1=false/\G.cmp 1
 inn:∀n,G.ty n=3->InnOk G n
 reb:∀r,G.ty r=4->RebOk G r
 dcs:∀a,G.ty a=5->DcsOk G a
theorem Q7l {w:Int} (h:1<=Q05 w):wOf (Q05 w) (wAt w)=w:=by
 unfold Q05 at h
 split at h
 ·rename_i hb;have:=Q5G hb;unfold wOf Q05 wAt
  rw[if_pos hb,if_pos hb,if_pos (Q4W this.2.2.1 this.2.2.2.1 this.2.2.2.2.1 this.2.2.2.2.2)]
  omega
 ·omega
theorem Qa6 {k a:Int} (h1:1<=k) (h2:k<=5) (h3:1<=a) (h4:a<=65536):Q05 (wOf k a)=k/\wAt (wOf k a)=a:=by
 have e:wOf k a=a*8+k:=if_pos (Q4W h1 h2 h3 h4);have hm:(a*8+k)%8=k:=by omega
 have hd:(a*8+k)/8=a:=by omega
 have hb:wB (a*8+k)=true:=by
  unfold wB
  rw[hm,hd,Q4W h1 h2 h3 h4,decide_eq_true (show 0<=a*8+k by omega)];rfl
 unfold Q05 wAt
 rw[e,if_pos hb,if_pos hb,hm,hd]
 exact ⟨rfl,rfl⟩
theorem QdV:wAt 0=0:=by decide
section
variable {G G':GS}
theorem Inv.sw (h:Inv G) {n i:Int} (a:G.At n i):SW G n i (G.slot n i):=(h.inn n a.ty).slot i a.i0 a.i1
theorem Inv.lgv (h:Inv G) {n i:Int} (a:G.At n i) (hz:G.slot n i≠0):VW G n i (G.lg n i):=by
 rcases h.sw a with e|v|⟨e1,e2,e3,e4,e5⟩
 ·exact absurd e hz
 ·have:=v.ne;unfold GS.lg
  rw[GS.lw_of _ (by omega)];exact v
 ·have d:=h.dcs _ e2;have o:=d.old;have w:=d.new
  rw[e3,e4] at o w
  unfold GS.lg GS.lw
  rw[if_pos e1]
  split
  ·exact w
  ·exact o
theorem Inv.lg0 (h:Inv G) {n i:Int} (a:G.At n i) (hz:G.slot n i=0):G.lg n i=0:=by
 unfold GS.lg
 rw[hz,GS.lw_of _ (by rw[Q1d];decide)]
theorem Inv.lgty (h:Inv G) {n i:Int} (a:G.At n i) (k:1<=Q05 (G.lg n i)):G.ty (wAt (G.lg n i))=Q05 (G.lg n i):=by
 by_cases hz:G.slot n i=0
 ·rw[h.lg0 a hz,Q1d] at k;omega
 ·exact (h.lgv a hz).ty
theorem Inv.frx (h:Inv G) (x:Ext G G') {n:Int} {L:List (Int×Int)} (f:FrzN G n L):FrzN G' n L:=
 f.ext x (fun n i a k=>by have:=h.lgty a (by omega);omega)
theorem Inv.fri (h:Inv G) {n:Int} {L L':List (Int×Int)} (f:FrzN G n L) (f':FrzN G n L'):L=L':=
 f.inj (fun n i a s=>(h.lgv a s.ne).ne) f'
theorem FW.ext {w:Int} {L:List (Int×Int)} (f:FW G w L) (h:Inv G) (x:Ext G G') (hw:1<=Q05 w->G.ty (wAt w)≠0):FW G' w L:=
 ⟨f.e1,fun k=>by rw[x.k1 _ (hw (by omega)),x.v1 _ (hw (by omega))];exact f.e2 k,fun k=>h.frx x (f.e3 k),fun k=>by rw[x.tgt _ (hw (by omega))];exact h.frx x (f.e4 k)⟩
theorem Ext.at0 (x:Ext G G') {a:Int} (t:G.ty a≠0):G'.ty a≠0:=by rw[x.ty a t];exact t
theorem ResOk.ext {r w:Int} {L:List (Int×Int)} (f:ResOk G r w L) (x:Ext G G') (hr:G.ty r=4) (hn:G.ty (G.nd r)=3):ResOk G' r w L:=by
 have e1:=x.nd r (by omega);have e2:=x.ix r (by omega);have e3:=x.ks (G.nd r) (by omega);refine ⟨f.up,fun k=> ?_,fun k=> ?_,fun k=> ?_⟩
 ·rw[e1,e2,e3];exact ⟨(f.r0 k).1,(f.r0 k).2.ext x⟩
 ·obtain ⟨a,b,c,d⟩:=f.r1 k;have t:G.ty (wAt w)≠0:=by rw[b.ty];omega
  rw[e1,e2,e3,x.k1 _ t,x.v1 _ t];exact ⟨a,b.ext x,c,d⟩
 ·obtain ⟨a,b,c,d,e,f,g⟩:=f.r2 k;have t:G.ty (wAt w)≠0:=by omega
  rw[e1,e2,e3,x.ty _ t,x.deg _ t,x.lo _ t,x.hi _ t,x.ks _ t];exact ⟨a,b,c,d,e,f,g⟩
structure Imm (G G':GS):Prop where
 ty:G'.ty=G.ty
 deg:G'.deg=G.deg
 lo:G'.lo=G.lo
 hi:G'.hi=G.hi
 ks:G'.ks=G.ks
 nd:G'.nd=G.nd
 ix:G'.ix=G.ix
 own:G'.own=G.own
 k1:G'.k1=G.k1
 v1:G'.v1=G.v1
 tgt:G'.tgt=G.tgt
 od:G'.od=G.od
 nw:G'.nw=G.nw
theorem Ext.of (m:Imm G G') (gate:∀n,G.ty n=3->G.gate n=true->G'.gate n=true)
 (sum:∀n,G.ty n=3->G.sum n≠0->G'.sum n=G.sum n)
 (key:∀n i,G.ty n=3->1<=i->i<G.deg n->G.key n i=G.ks n i->G'.key n i=G.ks n i)
 (slot:∀n i,G.At n i->G.slot n i≠0->G'.slot n i≠0)
 (res:∀r,G.ty r=4->G.res r≠0->G'.res r=G.res r)
 (out:∀a,G.ty a=5->G.out a≠0->G'.out a=G.out a)
 (placed:∀a,G.ty a=5->G.placed a=true->G'.placed a=true)
 (late:∀a,G.ty a=5->G.placed a=true->G'.late a=G.late a)
 (set:∀n i,G.At n i->Settled G n i->Settled G' n i/\G'.lg n i=G.lg n i)
 (mono:∀n i,G.At n i->G'.lg n i=G.lg n i\/wAt (G.lg n i)<wAt (G'.lg n i)):Ext G G':=
 ⟨fun _ _=>by rw[m.ty],fun _ _=>by rw[m.deg],fun _ _=>by rw[m.lo],fun _ _=>by rw[m.hi],fun _ _=>by rw[m.ks],fun _ _=>by rw[m.nd],fun _ _=>by rw[m.ix],fun _ _=>by rw[m.own],fun _ _=>by rw[m.k1],fun _ _=>by rw[m.v1],fun _ _=>by rw[m.tgt],fun _ _=>by rw[m.od],fun _ _=>by rw[m.nw],gate,sum,key,slot,res,out,placed,late,set,mono⟩
theorem Imm.at_ (m:Imm G G') {n i:Int}:G'.At n i↔G.At n i:=⟨fun h=>⟨by rw[<-m.ty];exact h.ty,h.i0,by rw[<-m.deg];exact h.i1⟩,fun h=>⟨by rw[m.ty];exact h.ty,h.i0,by rw[m.deg];exact h.i1⟩⟩
theorem Inv.keep (h:Inv G) (x:Ext G G') (m:Imm G G')
 (hkey:∀n i,G.ty n=3->1<=i->i<G.deg n->G'.key n i=G.ks n i\/G'.slot n i=0)
 (hslot:∀n i,G.At n i->SW G' n i (G'.slot n i))
 (hsum:∀n,G.ty n=3->G'.sum n≠0->∃L,FrzN G' n L)
 (hres:∀r,G.ty r=4->G'.res r≠0->∃L,FrzN G' (G.tgt r) L/\ResOk G' r (G'.res r) L)
 (hout:∀a,G.ty a=5->(G'.out a=0\/G'.out a=1\/G'.out a=2)/\(G'.out a≠0->G'.placed a=true)/\(G'.placed a=true->G'.slot (G.nd a) (G.ix a)≠wOf 5 a->G'.out a≠0)/\(G'.late a=true->G'.placed a=true/\G'.gate (G.nd a)=true/\G'.out a≠1))
 (hg:G'.gate 1=false) (hnd:∀a,G.ty a=5->G.ty (G.nd a)=3):Inv G':=by
 obtain ⟨a1,a2,a3,a4,a5,a6⟩:=h.r1;have el:G'.len=G.len:=by funext a;unfold GS.len;rw[m.ty,m.deg]
 refine ⟨by rw[m.ty,el];exact h.cap,⟨by rw[m.ty];exact a1,by rw[m.deg];exact a2,by rw[m.lo];exact a3,by rw[m.hi];exact a4,hg,x.cmp a1 a6⟩,fun n t=> ?_,fun r t=> ?_,fun a t=> ?_⟩
 ·rw[m.ty] at t
  have k:=h.inn n t;refine ⟨by rw[m.deg];exact k.d2,by rw[m.ks,m.lo];exact k.k0,by rw[m.ks,m.deg,m.hi];exact k.kd,by rw[m.ks,m.deg];exact k.kk, ?_, ?_,hsum n t⟩
  ·intro i i0 i1
   rw[m.deg] at i1
   rw[m.ks];exact hkey n i t i0 i1
  ·intro i i0 i1
   rw[m.deg] at i1
   exact hslot n i ⟨t,i0,i1⟩
 ·rw[m.ty] at t
  have k:=h.reb r t;refine ⟨by rw[m.nd,m.ix,m.at_];exact k.hat, ?_,by rw[m.tgt];exact k.k, ?_⟩
  ·rw[m.ks,m.nd,m.ix,m.tgt];exact k.v.ext x
  ·rw[m.tgt];exact hres r t
 ·rw[m.ty] at t
  have k:=h.dcs a t;have hn:=hnd a t;obtain ⟨b1,b2,b3,b4⟩:=hout a t;refine ⟨by rw[m.nd,m.ix,m.at_];exact k.hat, ?_, ?_,by rw[m.od,m.nw];exact k.up,b1,b2,by rw[m.nd,m.ix];exact b3,by rw[m.nd];exact b4,by rw[m.od,m.nw,m.tgt];exact k.o3, ?_⟩
  ·rw[m.nd,m.ix,m.od];exact k.old.ext x hn
  ·rw[m.nd,m.ix,m.nw];exact k.new.ext x hn
  ·rw[m.od,m.nw]
   intro hk;have e:=k.o4 hk
   rw[x.res _ (by rw[k.old.ty];exact hk) (by rw[<-e];exact k.new.nz)];exact e
theorem Inv.hsum (h:Inv G) (x:Ext G G') (e:G'.sum=G.sum):∀n,G.ty n=3->G'.sum n≠0->∃L,FrzN G' n L:=fun n t hz=>by
 rw[e] at hz
 obtain ⟨L,f⟩:=(h.inn n t).sum hz;exact ⟨L,h.frx x f⟩
theorem Inv.hres (h:Inv G) (x:Ext G G') (e:G'.res=G.res) (hrp:∀r,G.ty r=4->G.At (G.nd r) (G.ix r)):∀r,G.ty r=4->G'.res r≠0->∃L,FrzN G' (G.tgt r) L/\ResOk G' r (G'.res r) L:=fun r t hz=>by
 rw[e] at hz|-
 obtain ⟨L,f,g⟩:=(h.reb r t).res hz;exact ⟨L,h.frx x f,g.ext x t (hrp r t).ty⟩
theorem Inv.hout (h:Inv G) (e1:G'.out=G.out) (e2:G'.placed=G.placed) (e3:G'.late=G.late) (e4:G'.slot=G.slot) (e5:∀n,G.gate n=true->G'.gate n=true):
  ∀a,G.ty a=5->(G'.out a=0\/G'.out a=1\/G'.out a=2)/\(G'.out a≠0->G'.placed a=true)/\(G'.placed a=true->G'.slot (G.nd a) (G.ix a)≠wOf 5 a->G'.out a≠0)/\(G'.late a=true->G'.placed a=true/\G'.gate (G.nd a)=true/\G'.out a≠1):=fun a t=>by
 have k:=h.dcs a t
 rw[e1,e2,e3,e4]
 exact ⟨k.out,k.plc,k.gone,fun l=>⟨(k.late l).1,e5 _ (k.late l).2.1,(k.late l).2.2⟩⟩
end
section
variable {C:List Int} {G G':GS}
theorem Rep.hnd (r:Rep C G):∀a,G.ty a=5->G.ty (G.nd a)=3:=fun a t=>(r.dcsP a t).ty
theorem Rep.lt (r:Rep C G) {a:Int} (t:G.ty a≠0):1<=a/\a<=65536:=⟨r.low a t,by have:=r.used t;have:=r.big;omega⟩
theorem Rep.wd (r:Rep C G) {k a:Int} (t:G.ty a≠0) (k0:1<=k) (k1:k<=5):Q05 (wOf k a)=k/\wAt (wOf k a)=a:=Qa6 k0 k1 (r.lt t).1 (r.lt t).2
def GS.place (G:GS) (a:Int):GS:={G with slot:=Q5b G.slot (G.nd a) (G.ix a) (wOf 5 a),placed:=upd G.placed a true,late:=upd G.late a (G.gate (G.nd a))}
theorem QaN (h:Inv G) (r:Rep C G) {a:Int} (t:G.ty a=5) (hp:G.placed a=false) (hs:G.slot (G.nd a) (G.ix a)=G.od a):
  Rep (wrC C (G.sa (G.nd a) (G.ix a)) (wOf 5 a)) (G.place a)/\Inv (G.place a)/\Ext G (G.place a):=by
 have ha:=r.dcsP a t;have d:=h.dcs a t;have o0:G.out a=0:=Classical.byContradiction fun hz=>by have:=d.plc hz;rw[hp] at this;cases this
 obtain ⟨wk,wa⟩:=r.wd (a:=a) (k:=5) (by omega) (by decide) (by decide);have wz:wOf 5 a≠0:=fun e=>by rw[e,Q1d] at wk;omega
 have no:∀n i,G.At n i->Q05 (G.slot n i)=5->wAt (G.slot n i)≠a:=fun n i hn k e=>by
  rcases h.sw hn with e1|v|⟨_,_,_,_,e5⟩
  ·rw[e1,Q1d] at k;omega
  ·have:=v.ne;omega
  ·rw[e,hp] at e5;cases e5
 have ok:=d.old.ne
 have hl:∀n i,G.At n i->(G.place a).lg n i=G.lg n i:=fun n i hn=>by
  by_cases e:n=G.nd a/\i=G.ix a
  ·obtain ⟨rfl,rfl⟩:=e;show GS.lw (G.place a) (Q5b G.slot (G.nd a) (G.ix a) (wOf 5 a) (G.nd a) (G.ix a))=_
   rw[Q1H]
   unfold GS.lg
   rw[hs,G.lw_of (by omega)]
   unfold GS.lw
   rw[if_pos wk,wa]
   show (if G.out a=1 then G.nw a else G.od a)=_
   rw[if_neg (by omega)]
  ·show GS.lw (G.place a) (Q5b G.slot (G.nd a) (G.ix a) (wOf 5 a) n i)=_
   rw[Q1N _ _ e];rfl
 have x:Ext G (G.place a):=by
  refine Ext.of ⟨rfl,rfl,rfl,rfl,rfl,rfl,rfl,rfl,rfl,rfl,rfl,rfl,rfl⟩ (fun _ _ g=>g) (fun _ _ _=>rfl) (fun _ _ _ _ _ e=>e) (fun n i hn hz=> ?_) (fun _ _ _=>rfl) (fun _ _ _=>rfl) (fun b _ hb=> ?_) (fun b _ hb=> ?_) (fun n i hn s=>⟨?_,hl n i hn⟩) (fun n i hn=>.inl (hl n i hn))
  ·show Q5b G.slot (G.nd a) (G.ix a) (wOf 5 a) n i≠0;by_cases e:n=G.nd a/\i=G.ix a
   ·rw[e.1,e.2,Q1H];exact wz
   ·rw[Q1N _ _ e];exact hz
  ·show upd G.placed a true b=true;by_cases e:b=a
   ·rw[e,Q0g]
   ·rw[Q0z _ _ e];exact hb
  ·show upd G.late a _ b=_
   rw[Q0z _ _ (fun e=>by rw[e,hp] at hb;cases hb)]
  ·by_cases e:n=G.nd a/\i=G.ix a
   ·obtain ⟨rfl,rfl⟩:=e;refine ⟨s.gate, ?_,fun _=>.inl ?_⟩
    ·show Q5b G.slot _ _ _ _ _≠0
     rw[Q1H];exact wz
    ·show upd G.late a _ (wAt (Q5b G.slot _ _ _ _ _))=true
     rw[Q1H,wa,Q0g];exact s.gate
   ·have es:(G.place a).slot n i=G.slot n i:=Q1N _ _ e;refine ⟨s.gate,by rw[es];exact s.ne,fun k=> ?_⟩
    rw[es] at k|-
    rcases s.dec k with l|l
    ·left
     show upd G.late a _ _=true
     rw[Q0z _ _ (no n i hn k)];exact l
    ·exact .inr l
 refine ⟨r.setSlot ha,h.keep x ⟨rfl,rfl,rfl,rfl,rfl,rfl,rfl,rfl,rfl,rfl,rfl,rfl,rfl⟩ (fun n i hn i0 i1=> ?_) (fun n i hn=> ?_) (h.hsum x rfl) (h.hres x rfl r.rebP) (fun b hb=> ?_) h.r1.2.2.2.2.1 r.hnd,x⟩
 ·rcases (h.inn n hn).key i i0 i1 with k|k
  ·exact .inl k
  ·by_cases e:n=G.nd a/\i=G.ix a
   ·rw[e.1,e.2,hs] at k;exact absurd k d.old.nz
   ·right
    show Q5b G.slot _ _ _ _ _=0
    rw[Q1N _ _ e];exact k
 ·show SW (G.place a) n i (Q5b G.slot _ _ _ _ _);by_cases e:n=G.nd a/\i=G.ix a
  ·obtain ⟨rfl,rfl⟩:=e
   rw[Q1H]
   exact .inr (.inr ⟨wk,by rw[wa];exact t,by rw[wa];rfl,by rw[wa];rfl,by rw[wa];exact Q0g _ _ _⟩)
  ·rw[Q1N _ _ e]
   exact (h.sw hn).ext x hn.ty
 ·have k:=h.dcs b hb;by_cases e:b=a
  ·subst e;refine ⟨k.out,fun _=>Q0g _ _ _,fun _ hne=> ?_,fun l=>⟨Q0g _ _ _, ?_,by show G.out b≠1;omega⟩⟩
   ·exact absurd (Q1H _ _ _ _) hne
   ·have l:upd G.late b (G.gate (G.nd b)) b=true:=l
    rw[Q0g] at l;exact l
  ·have ep:(G.place a).placed b=G.placed b:=Q0z _ _ e;have el:(G.place a).late b=G.late b:=Q0z _ _ e
   rw[ep,el]
   refine ⟨k.out,k.plc,fun hb1 hne=> ?_,k.late⟩;refine k.gone hb1 (fun e2=> ?_);by_cases e3:G.nd b=G.nd a/\G.ix b=G.ix a
   ·rw[e3.1,e3.2,hs] at e2
    have:=(r.wd (a:=b) (k:=5) (by omega) (by decide) (by decide)).1;rw[<-e2] at this;omega
   ·exact hne (by show Q5b G.slot _ _ _ _ _=_;rw[Q1N _ _ e3];exact e2)
def GS.decid (G:GS) (a v:Int):GS:={G with out:=upd G.out a v}
theorem Q9s (h:Inv G) (r:Rep C G) {a v:Int} (t:G.ty a=5) (hp:G.placed a=true) (h0:G.out a=0) (hv:v=1\/v=2) (hl:v=1->G.late a=false):
  Rep (wrC C (a+4) v) (G.decid a v)/\Inv (G.decid a v)/\Ext G (G.decid a v):=by
 have lwn:∀w,wAt w≠a->(G.decid a v).lw w=G.lw w:=fun w e=>by
  unfold GS.lw;show (if Q05 w=5 then (if upd G.out a v (wAt w)=1 then _ else _) else w)=_
  rw[Q0z _ _ e];rfl
 have lwa:∀w,Q05 w=5->wAt w=a->(G.decid a v).lw w=(if v=1 then G.nw a else G.od a)/\G.lw w=G.od a:=fun w k e=>by
  unfold GS.lw
  rw[if_pos k,if_pos k,e]
  refine ⟨?_,by rw[if_neg (by omega)]⟩;show (if upd G.out a v a=1 then _ else _)=_
  rw[Q0g];rfl
 have x:Ext G (G.decid a v):=by
  refine Ext.of ⟨rfl,rfl,rfl,rfl,rfl,rfl,rfl,rfl,rfl,rfl,rfl,rfl,rfl⟩ (fun _ _ g=>g) (fun _ _ _=>rfl) (fun _ _ _ _ _ e=>e) (fun _ _ _ g=>g) (fun _ _ _=>rfl) (fun b _ hb=> ?_) (fun _ _ g=>g) (fun _ _ _=>rfl) (fun n i hn s=>⟨⟨s.gate,s.ne,fun k=> ?_⟩, ?_⟩) (fun n i hn=> ?_)
  ·exact Q0z _ _ (fun e=>hb (e▸h0))
  ·rcases s.dec k with l|l
   ·exact .inl l
   ·right
    show upd G.out a v _≠0
    rw[Q0z _ _ (fun e=>l (by have e:wAt (G.slot n i)=a:=e;rw[e];exact h0))];exact l
  ·show (G.decid a v).lw (G.slot n i)=G.lw (G.slot n i);by_cases k:Q05 (G.slot n i)=5
   ·by_cases e:wAt (G.slot n i)=a
    ·obtain ⟨e1,e2⟩:=lwa _ k e
     rw[e1,e2,if_neg]
     intro v1;have l:=hl v1
     rcases s.dec k with g|g
     ·rw[e,l] at g;cases g
     ·rw[e] at g;exact g h0
    ·exact lwn _ e
   ·rw[GS.lw_of _ k,GS.lw_of _ k]
  ·show (G.decid a v).lw (G.slot n i)=G.lw (G.slot n i)\/_;by_cases k:Q05 (G.slot n i)=5
   ·by_cases e:wAt (G.slot n i)=a
    ·obtain ⟨e1,e2⟩:=lwa _ k e;by_cases v1:v=1
     ·right
      show wAt (G.lw (G.slot n i))<wAt ((G.decid a v).lw (G.slot n i))
      rw[e1,e2,if_pos v1]
      exact (h.dcs a t).up
     ·left
      rw[e1,e2,if_neg v1]
    ·exact .inl (lwn _ e)
   ·left
    rw[GS.lw_of _ k,GS.lw_of _ k]
 refine ⟨r.setOut t,h.keep x ⟨rfl,rfl,rfl,rfl,rfl,rfl,rfl,rfl,rfl,rfl,rfl,rfl,rfl⟩ (fun n i hn i0 i1=>(h.inn n hn).key i i0 i1) (fun n i hn=>(h.sw hn).ext x hn.ty) (h.hsum x rfl) (h.hres x rfl r.rebP) (fun b hb=> ?_) h.r1.2.2.2.2.1 r.hnd,x⟩;have k:=h.dcs b hb;by_cases e:b=a
 ·subst e;have eo:(G.decid b v).out b=v:=Q0g _ _ _
  rw[eo]
  refine ⟨.inr hv,fun _=>hp,fun _ _=>by omega,fun l=>⟨hp,(k.late l).2.1,fun v1=> ?_⟩⟩;have:=hl v1;have l:G.late b=true:=l
  rw[this] at l;cases l
 ·have eo:(G.decid a v).out b=G.out b:=Q0z _ _ e
  rw[eo]
  exact ⟨k.out,k.plc,k.gone,k.late⟩
def GS.setS (G:GS) (n i v:Int):GS:={G with slot:=Q5b G.slot n i v}
theorem Q8f (h:Inv G) (r:Rep C G) {n i v:Int} (hn:G.At n i) (hv:VW G n i v) (hl:G.slot n i=0\/G.lg n i=v) (hk:1<=i->G.key n i=G.ks n i) (hb:∀b,G.ty b=5->G.slot n i=wOf 5 b->G.out b≠0):
  Rep (wrC C (G.sa n i) v) (G.setS n i v)/\Inv (G.setS n i v)/\Ext G (G.setS n i v):=by
 have hk4:=hv.ne;have es:∀m j,¬(m=n/\j=i)->(G.setS n i v).slot m j=G.slot m j:=fun m j e=>Q1N _ _ e;have e0:(G.setS n i v).slot n i=v:=Q1H _ _ _ _
 have lgs:∀m j,¬(m=n/\j=i)->(G.setS n i v).lg m j=G.lg m j:=fun m j e=>by
  show (G.setS n i v).lw ((G.setS n i v).slot m j)=_
  rw[es m j e];rfl
 have lg0:(G.setS n i v).lg n i=v:=by
  show (G.setS n i v).lw ((G.setS n i v).slot n i)=_
  rw[e0,GS.lw_of _ (by omega)]
 have x:Ext G (G.setS n i v):=by
  refine Ext.of ⟨rfl,rfl,rfl,rfl,rfl,rfl,rfl,rfl,rfl,rfl,rfl,rfl,rfl⟩ (fun _ _ g=>g) (fun _ _ _=>rfl) (fun _ _ _ _ _ e=>e) (fun m j hm hz=> ?_) (fun _ _ _=>rfl) (fun _ _ _=>rfl) (fun _ _ g=>g) (fun _ _ _=>rfl) (fun m j hm s=> ?_) (fun m j hm=> ?_)
  ·by_cases e:m=n/\j=i
   ·rw[e.1,e.2,e0];exact hv.nz
   ·rw[es m j e];exact hz
  ·by_cases e:m=n/\j=i
   ·obtain ⟨rfl,rfl⟩:=e;refine ⟨⟨s.gate,by rw[e0];exact hv.nz,fun k=>by rw[e0] at k;omega⟩, ?_⟩
    rw[lg0]
    rcases hl with z|z
    ·exact absurd z s.ne
    ·exact z.symm
   ·exact ⟨⟨s.gate,by rw[es m j e];exact s.ne,by rw[es m j e];exact s.dec⟩,lgs m j e⟩
  ·by_cases e:m=n/\j=i
   ·obtain ⟨rfl,rfl⟩:=e
    rw[lg0]
    rcases hl with z|z
    ·right
     rw[h.lg0 hn z,QdV]
     have:=r.low (wAt v) (by rw[hv.ty];omega);omega
    ·exact .inl z.symm
   ·exact .inl (lgs m j e)
 refine ⟨r.setSlot hn,h.keep x ⟨rfl,rfl,rfl,rfl,rfl,rfl,rfl,rfl,rfl,rfl,rfl,rfl,rfl⟩ (fun m j hm i0 i1=> ?_) (fun m j hm=> ?_) (h.hsum x rfl) (h.hres x rfl r.rebP) (fun b tb=> ?_) h.r1.2.2.2.2.1 r.hnd,x⟩
 ·by_cases e:m=n/\j=i
  ·obtain ⟨rfl,rfl⟩:=e;exact .inl (hk i0)
  ·rw[es m j e];exact (h.inn m hm).key j i0 i1
 ·by_cases e:m=n/\j=i
  ·rw[e.1,e.2,e0];exact .inr (.inl (hv.ext x hn.ty))
  ·rw[es m j e];exact (h.sw hm).ext x hm.ty
 ·have k:=h.dcs b tb;refine ⟨k.out,k.plc,fun hp hne=> ?_,k.late⟩;by_cases e:G.nd b=n/\G.ix b=i
  ·by_cases e2:G.slot n i=wOf 5 b
   ·exact hb b tb e2
   ·exact k.gone hp (by rw[e.1,e.2];exact e2)
  ·rw[es _ _ e] at hne;exact k.gone hp hne
def GS.shut (G:GS) (n:Int):GS:={G with gate:=upd G.gate n true}
theorem Qcl (h:Inv G) (r:Rep C G) {n:Int} (t:G.ty n=3) (h1:n≠1):Rep (wrC C (n+2) 1) (G.shut n)/\Inv (G.shut n)/\Ext G (G.shut n):=by
 have hg:∀m,G.gate m=true->(G.shut n).gate m=true:=fun m g=>by
  show upd G.gate n true m=true;by_cases e:m=n
  ·rw[e,Q0g]
  ·rw[Q0z _ _ e];exact g
 have x:Ext G (G.shut n):=Ext.of ⟨rfl,rfl,rfl,rfl,rfl,rfl,rfl,rfl,rfl,rfl,rfl,rfl,rfl⟩ (fun m _ g=>hg m g) (fun _ _ _=>rfl) (fun _ _ _ _ _ e=>e) (fun _ _ _ g=>g) (fun _ _ _=>rfl) (fun _ _ _=>rfl) (fun _ _ g=>g) (fun _ _ _=>rfl) (fun m j hm s=>⟨⟨hg m s.gate,s.ne,s.dec⟩,rfl⟩) (fun m j hm=>.inl rfl);exact ⟨r.setGate t,h.keep x ⟨rfl,rfl,rfl,rfl,rfl,rfl,rfl,rfl,rfl,rfl,rfl,rfl,rfl⟩ (fun n i hn i0 i1=>(h.inn n hn).key i i0 i1) (fun n i hn=>(h.sw hn).ext x hn.ty) (h.hsum x rfl) (h.hres x rfl r.rebP) (h.hout rfl rfl rfl rfl hg) ((Q0z _ _ (fun e=>h1 e.symm)).trans h.r1.2.2.2.2.1) r.hnd,x⟩
theorem FW.inj (h:Inv G) {w:Int} {L L':List (Int×Int)} (k0:1<=Q05 w) (k4:Q05 w<=4) (f:FW G w L) (f':FW G w L'):L=L':=by
 have:Q05 w=1\/Q05 w=2\/Q05 w=3\/Q05 w=4:=by omega
 rcases this with k|k|k|k
 ·rw[f.e1 k,f'.e1 k]
 ·rw[f.e2 k,f'.e2 k]
 ·exact h.fri (f.e3 k) (f'.e3 k)
 ·exact h.fri (f.e4 k) (f'.e4 k)
def GS.setM (G:GS) (n v:Int):GS:={G with sum:=upd G.sum n v}
theorem Qel (h:Inv G) (r:Rep C G) {n:Int} (t:G.ty n=3) {Ls:Int->List (Int×Int)} (hs:∀i,0<=i->i<G.deg n->Settled G n i/\FW G (G.lg n i) (Ls i)) {v:Int} (hv:v=((Q3l Ls (G.deg n).toNat).length:Int)+1):
  Rep (wrC C (n+4) v) (G.setM n v)/\Inv (G.setM n v)/\Ext G (G.setM n v)/\FrzN (G.setM n v) n (Q3l Ls (G.deg n).toNat):=by
 have x:Ext G (G.setM n v):=by
  refine Ext.of ⟨rfl,rfl,rfl,rfl,rfl,rfl,rfl,rfl,rfl,rfl,rfl,rfl,rfl⟩ (fun _ _ g=>g) (fun m tm hz=> ?_) (fun _ _ _ _ _ e=>e) (fun _ _ _ g=>g) (fun _ _ _=>rfl) (fun _ _ _=>rfl) (fun _ _ g=>g) (fun _ _ _=>rfl) (fun m j hm s=>⟨⟨s.gate,s.ne,s.dec⟩,rfl⟩) (fun m j hm=>.inl rfl);show upd G.sum n v m=G.sum m;by_cases e:m=n
  ·subst e
   rw[Q0g,hv]
   obtain ⟨L,f⟩:=(h.inn m tm).sum hz;obtain ⟨Ls',e1,e2⟩:=f.parts
   rw[f.sm,e1]
   rw[Q3V (L:=Ls) (L':=Ls') _ (fun i i0 i1=>by
    have hi:i<G.deg m:=by omega
    have hv:=(h.lgv ⟨tm,i0,hi⟩ (hs i i0 hi).1.ne).ne;exact FW.inj h hv.1 hv.2 (hs i i0 hi).2 (e2 i i0 hi).2)]
  ·rw[Q0z _ _ e]
 have F:FrzN (G.setM n v) n (Q3l Ls (G.deg n).toNat):=by
  have hf:∀i,0<=i->i<G.deg n->FW (G.setM n v) (G.lg n i) (Ls i):=fun i i0 i1=>(hs i i0 i1).2.ext h x (fun k=>by have:=h.lgty ⟨t,i0,i1⟩ k;omega);exact FrzN.mk (G:=G.setM n v) n Ls t (fun i i0 i1=>(x.set n i ⟨t,i0,i1⟩ (hs i i0 i1).1).1) (by rw[show (G.setM n v).sum n=v from Q0g _ _ _];exact hv) (fun i i0 i1=>(hf i i0 i1).e1) (fun i i0 i1=>(hf i i0 i1).e2) (fun i i0 i1=>(hf i i0 i1).e3) (fun i i0 i1=>(hf i i0 i1).e4)
 refine ⟨r.setSum t,h.keep x ⟨rfl,rfl,rfl,rfl,rfl,rfl,rfl,rfl,rfl,rfl,rfl,rfl,rfl⟩ (fun n i hn i0 i1=>(h.inn n hn).key i i0 i1) (fun n i hn=>(h.sw hn).ext x hn.ty) (fun m tm hz=> ?_) (h.hres x rfl r.rebP) (h.hout rfl rfl rfl rfl (fun _ g=>g)) h.r1.2.2.2.2.1 r.hnd,x,F⟩;by_cases e:m=n
 ·rw[e];exact ⟨_,F⟩
 ·have hz:upd G.sum n v m≠0:=hz
  rw[Q0z _ _ e] at hz
  obtain ⟨L,f⟩:=(h.inn m tm).sum hz;exact ⟨L,h.frx x f⟩
def GS.setR (G:GS) (r v:Int):GS:={G with res:=upd G.res r v}
theorem Qem (h:Inv G) (rp:Rep C G) {r w:Int} (t:G.ty r=4) (h0:G.res r=0) {L:List (Int×Int)} (f:FrzN G (G.tgt r) L) (ro:ResOk G r w L):
  Rep (wrC C (r+3) w) (G.setR r w)/\Inv (G.setR r w)/\Ext G (G.setR r w):=by
 have x:Ext G (G.setR r w):=by
  refine Ext.of ⟨rfl,rfl,rfl,rfl,rfl,rfl,rfl,rfl,rfl,rfl,rfl,rfl,rfl⟩ (fun _ _ g=>g) (fun _ _ _=>rfl) (fun _ _ _ _ _ e=>e) (fun _ _ _ g=>g) (fun m tm hz=> ?_) (fun _ _ _=>rfl) (fun _ _ g=>g) (fun _ _ _=>rfl) (fun m j hm s=>⟨⟨s.gate,s.ne,s.dec⟩,rfl⟩) (fun m j hm=>.inl rfl);exact Q0z _ _ (fun e=>hz (e▸h0))
 refine ⟨rp.setRes t,h.keep x ⟨rfl,rfl,rfl,rfl,rfl,rfl,rfl,rfl,rfl,rfl,rfl,rfl,rfl⟩ (fun n i hn i0 i1=>(h.inn n hn).key i i0 i1) (fun n i hn=>(h.sw hn).ext x hn.ty) (h.hsum x rfl) (fun m tm hz=> ?_) (h.hout rfl rfl rfl rfl (fun _ g=>g)) h.r1.2.2.2.2.1 rp.hnd,x⟩;by_cases e:m=r
 ·subst e
  rw[show (G.setR m w).res m=w from Q0g _ _ _]
  exact ⟨L,h.frx x f,ro.ext x t (rp.rebP m t).ty⟩
 ·have es:(G.setR r w).res m=G.res m:=Q0z _ _ e
  rw[es] at hz|-
  obtain ⟨L,f,g⟩:=(h.reb m tm).res hz;exact ⟨L,h.frx x f,g.ext x tm (rp.rebP m tm).ty⟩
def GS.setK (G:GS) (n i v:Int):GS:={G with key:=Q5b G.key n i v}
theorem Qen (h:Inv G) (r:Rep C G) {n i:Int} (t:G.ty n=3) (i0:1<=i) (i1:i<G.deg n) {v:Int} (hv:v=G.ks n i):Rep (wrC C (n+4+i) v) (G.setK n i v)/\Inv (G.setK n i v)/\Ext G (G.setK n i v)/\(G.setK n i v).key n i=G.ks n i:=by
 have hk:∀m j,G.key m j=G.ks m j->(G.setK n i v).key m j=G.ks m j:=fun m j g=>by
  show Q5b G.key n i v m j=_;by_cases e:m=n/\j=i
  ·rw[e.1,e.2,Q1H];exact hv
  ·rw[Q1N _ _ e];exact g
 have x:Ext G (G.setK n i v):=Ext.of ⟨rfl,rfl,rfl,rfl,rfl,rfl,rfl,rfl,rfl,rfl,rfl,rfl,rfl⟩ (fun _ _ g=>g) (fun _ _ _=>rfl) (fun m j _ _ _ g=>hk m j g) (fun _ _ _ g=>g) (fun _ _ _=>rfl) (fun _ _ _=>rfl) (fun _ _ g=>g) (fun _ _ _=>rfl) (fun m j hm s=>⟨⟨s.gate,s.ne,s.dec⟩,rfl⟩) (fun m j hm=>.inl rfl);exact ⟨r.setKey t i0 i1,h.keep x ⟨rfl,rfl,rfl,rfl,rfl,rfl,rfl,rfl,rfl,rfl,rfl,rfl,rfl⟩ (fun m j hm j0 j1=>((h.inn m hm).key j j0 j1).imp (hk m j) id) (fun n i hn=>(h.sw hn).ext x hn.ty) (h.hsum x rfl) (h.hres x rfl r.rebP) (h.hout rfl rfl rfl rfl (fun _ g=>g)) h.r1.2.2.2.2.1 r.hnd,x,(Q1H _ _ _ _).trans hv⟩
theorem OffG.ext {m:Int} (o:OffG m G G') (h:Inv G) (hm:G.ty m=0):Ext G G':=by
 have ne:∀a,G.ty a≠0->a≠m:=fun a t e=>t (e▸hm)
 have hl:∀n i,G.At n i->G'.lg n i=G.lg n i:=fun n i hn=>by
  unfold GS.lg
  rw[o.slot n (ne n (by rw[hn.ty];decide))]
  unfold GS.lw;by_cases k:Q05 (G.slot n i)=5
  ·rw[if_pos k,if_pos k]
   rcases h.sw hn with e|v|⟨_,t,_⟩
   ·rw[e,Q1d] at k;omega
   ·have:=v.ne;omega
   ·have:=ne _ (show G.ty (wAt (G.slot n i))≠0 by omega)
    rw[o.out _ this,o.nw _ this,o.od _ this]
  ·rw[if_neg k,if_neg k]
 refine ⟨fun a t=>o.ty a (ne a t),fun a t=>o.deg a (ne a t),fun a t=>o.lo a (ne a t),fun a t=>o.hi a (ne a t),fun a t=>o.ks a (ne a t),fun a t=>o.nd a (ne a t),fun a t=>o.ix a (ne a t),fun a t=>o.own a (ne a t),fun a t=>o.k1 a (ne a t),fun a t=>o.v1 a (ne a t),fun a t=>o.tgt a (ne a t),fun a t=>o.od a (ne a t),fun a t=>o.nw a (ne a t),fun n t g=> ?_,fun n t g=> ?_,fun n i t _ _ g=> ?_,fun n i t g=> ?_,fun n t g=> ?_,fun n t g=> ?_,fun n t g=> ?_,fun n t g=> ?_,fun n i t s=>⟨?_,hl n i t⟩,fun n i t=>.inl (hl n i t)⟩
 ·rw[o.gate n (ne n (by omega))];exact g
 ·rw[o.sum n (ne n (by omega))]
 ·rw[o.key n (ne n (by omega))];exact g
 ·rw[o.slot n (ne n (by rw[t.ty];decide))];exact g
 ·rw[o.res n (ne n (by omega))]
 ·rw[o.out n (ne n (by omega))]
 ·rw[o.placed n (ne n (by omega))];exact g
 ·rw[o.late n (ne n (by omega))]
 ·have en:=ne n (by rw[t.ty];decide);refine ⟨by rw[o.gate n en];exact s.gate,by rw[o.slot n en];exact s.ne,fun k=> ?_⟩
  rw[o.slot n en] at k|-
  rcases h.sw t with e|v|⟨_,tb,_⟩
  ·exact absurd e s.ne
  ·have:=v.ne;omega
  ·have:=ne _ (show G.ty (wAt (G.slot n i))≠0 by omega)
   rw[o.late _ this,o.out _ this];exact s.dec k
theorem Inv.add (h:Inv G) (r:Rep C G) {m:Int} (o:OffG m G G') (hm:G.ty m=0) (hcap:1<=m/\m+G'.len m<=16385/\1<=G'.len m) (h3:G'.ty m=3->InnOk G' m) (h4:G'.ty m=4->RebOk G' m) (h5:G'.ty m=5->DcsOk G' m):Inv G'/\Ext G G':=by
 have x:=o.ext h hm;have ne:∀a,G.ty a≠0->a≠m:=fun a t e=>t (e▸hm);obtain ⟨a1,a2,a3,a4,a5,a6⟩:=h.r1;have n1:=ne 1 (by rw[a1];decide);refine ⟨⟨fun a t=> ?_,⟨by rw[o.ty 1 n1];exact a1,by rw[o.deg 1 n1];exact a2,by rw[o.lo 1 n1];exact a3,by rw[o.hi 1 n1];exact a4,by rw[o.gate 1 n1];exact a5,x.cmp a1 a6⟩,fun n t=> ?_,fun b t=> ?_,fun a t=> ?_⟩,x⟩
 ·by_cases e:a=m
  ·rw[e];exact hcap
  ·rw[o.ty a e] at t
   rw[o.len e];exact h.cap a t
 ·by_cases e:n=m
  ·subst e;exact h3 t
  ·rw[o.ty n e] at t
   have k:=h.inn n t;refine ⟨by rw[o.deg n e];exact k.d2,by rw[o.ks n e,o.lo n e];exact k.k0,by rw[o.ks n e,o.deg n e,o.hi n e];exact k.kd,by rw[o.ks n e,o.deg n e];exact k.kk, ?_, ?_, ?_⟩
   ·rw[o.ks n e,o.deg n e,o.key n e,o.slot n e];exact k.key
   ·intro i i0 i1
    rw[o.deg n e] at i1
    rw[o.slot n e];exact (k.slot i i0 i1).ext x t
   ·rw[o.sum n e]
    intro hz;obtain ⟨L,f⟩:=k.sum hz;exact ⟨L,h.frx x f⟩
 ·by_cases e:b=m
  ·subst e;exact h4 t
  ·rw[o.ty b e] at t
   have k:=h.reb b t;have hp:=(r.rebP b t).ty;refine ⟨by rw[o.nd b e,o.ix b e];exact x.at_ k.hat, ?_,by rw[o.tgt b e];exact k.k, ?_⟩
   ·rw[o.nd b e,o.ix b e,o.tgt b e,o.ks _ (ne _ (by omega))];exact k.v.ext x
   ·rw[o.res b e,o.tgt b e]
    intro hz;obtain ⟨L,f,g⟩:=k.res hz;exact ⟨L,h.frx x f,g.ext x t hp⟩
 ·by_cases e:a=m
  ·subst e;exact h5 t
  ·rw[o.ty a e] at t
   have k:=h.dcs a t;have hp:=(r.dcsP a t).ty;have en:=ne _ (show G.ty (G.nd a)≠0 by omega);have e1:=o.nd a e;have e2:=o.ix a e;have e3:=o.od a e;have e4:=o.nw a e;refine ⟨by rw[e1,e2];exact x.at_ k.hat,by rw[e1,e2,e3];exact k.old.ext x hp,by rw[e1,e2,e4];exact k.new.ext x hp,by rw[e3,e4];exact k.up,by rw[o.out a e];exact k.out,by rw[o.out a e,o.placed a e];exact k.plc, ?_, ?_, ?_, ?_⟩
   ·rw[o.out a e,o.placed a e,e1,e2,o.slot _ en];exact k.gone
   ·rw[o.out a e,o.placed a e,o.late a e,e1,o.gate _ en];exact k.late
   ·rw[e3,e4]
    intro hk;obtain ⟨f1,f2⟩:=k.o3 hk;refine ⟨f1, ?_⟩
    rw[o.tgt _ (ne _ (by rw[k.new.ty];omega))];exact f2
   ·rw[e3,e4]
    intro hk
    rw[o.res _ (ne _ (by rw[k.old.ty];omega))];exact k.o4 hk
end
section
variable {C:List Int} {G G':GS}
theorem Rep.new0 (r:Rep C G) {m:Int} (hm:m=C.length+1):G.ty m=0:=r.fresh (by omega)
theorem Q5I (h:Inv G) (r:Rep C G) {m a b:Int} (hm:m=C.length+1) (hb:(C.length:Int)+1<=16384):Rep (C++[0]) (G.newE m a b)/\Inv (G.newE m a b)/\Ext G (G.newE m a b):=by
 have t:(G.newE m a b).ty m=1:=Q0g _ _ _;exact ⟨r.mkE hm hb,h.add r Qhf (r.new0 hm) (by rw[len1 t];omega) (fun k=>by omega) (fun k=>by omega) (fun k=>by omega)⟩
theorem Q5H (h:Inv G) (r:Rep C G) {m k v:Int} (hm:m=C.length+1) (hb:(C.length:Int)+2<=16384):Rep (C++[k,v]) (G.newL m k v)/\Inv (G.newL m k v)/\Ext G (G.newL m k v):=by
 have t:(G.newL m k v).ty m=2:=Q0g _ _ _;exact ⟨r.mkL hm hb,h.add r Qhe (r.new0 hm) (by rw[len2 t];omega) (fun k=>by omega) (fun k=>by omega) (fun k=>by omega)⟩
theorem Qcm (h:Inv G) (r:Rep C G) {m t n i:Int} (hm:m=C.length+1) (hb:(C.length:Int)+5<=16384) (ha:G.At n i) (t3:G.ty t=3) (v:VR G (G.ks n i) (G.ks n (i+1)-1) (wOf 3 t)):
  Rep (C++Q16 (wOf 3 t) (n+2) (G.sa n i)) (G.newR m t n i)/\Inv (G.newR m t n i)/\Ext G (G.newR m t n i):=by
 have ty:(G.newR m t n i).ty m=4:=Q0g _ _ _;have hne:n≠m:=r.neNew hm (by rw[ha.ty];decide);have e1:(G.newR m t n i).nd m=n:=Q0g _ _ _;have e2:(G.newR m t n i).ix m=i:=Q0g _ _ _;have e3:(G.newR m t n i).tgt m=t:=Q0g _ _ _;have x:=(offR (G:=G) (m:=m) (t:=t) (n:=n) (i:=i)).ext h (r.new0 hm);refine ⟨r.mkR hm hb ha,h.add r offR (r.new0 hm) (by rw[Qd8 ty];omega) (fun k=>by omega) (fun _=>⟨by rw[e1,e2];exact x.at_ ha, ?_, ?_,fun hz=> ?_⟩) (fun k=>by omega)⟩
 ·rw[e1,e2,e3]
  exact v.ext x
 ·rw[e3];exact r.wd (by omega) (by decide) (by decide)
 ·exact absurd (Q0g G.res m 0) hz
theorem Qcn (h:Inv G) (r:Rep C G) {u:Nat} {m n i old w:Int} (hm:m=C.length+1) (hb:(C.length:Int)+5<=16384) (ha:G.At n i) (ho:VW G n i old) (hw:VW G n i w) (hu:wAt old<wAt w)
  (o3:Q05 old=3->Q05 w=4/\G.tgt (wAt w)=wAt old) (o4:Q05 old=4->w=G.res (wAt old)):
  Rep (C++Q30 (n+2) (G.sa n i) old w) (G.newD u m n i old w)/\Inv (G.newD u m n i old w)/\Ext G (G.newD u m n i old w):=by
 have ty:(G.newD u m n i old w).ty m=5:=Q0g _ _ _;have e1:(G.newD u m n i old w).nd m=n:=Q0g _ _ _;have e2:(G.newD u m n i old w).ix m=i:=Q0g _ _ _;have e3:(G.newD u m n i old w).od m=old:=Q0g _ _ _;have e4:(G.newD u m n i old w).nw m=w:=Q0g _ _ _;have e5:(G.newD u m n i old w).out m=0:=Q0g _ _ _;have e6:(G.newD u m n i old w).placed m=false:=Q0g _ _ _;have e7:(G.newD u m n i old w).late m=false:=Q0g _ _ _;have x:=(offD (G:=G) (u:=u) (m:=m) (n:=n) (i:=i) (old:=old) (x:=w)).ext h (r.new0 hm);refine ⟨r.mkD hm hb ha,h.add r offD (r.new0 hm) (by rw[Qd7 ty];omega) (fun k=>by omega) (fun k=>by omega) (fun _=>⟨by rw[e1,e2];exact x.at_ ha, ?_, ?_,by rw[e3,e4];exact hu,.inl e5,fun hz=>absurd e5 hz,(fun hp _=>by rw[e6] at hp;cases hp),(fun hl=>by rw[e7] at hl;cases hl),by rw[e3,e4];exact o3,by rw[e3,e4];exact o4⟩)⟩
 ·rw[e1,e2,e3];exact ho.ext x ha.ty
 ·rw[e1,e2,e4];exact hw.ext x ha.ty
theorem Q4i (h:Inv G) (r:Rep C G) {m a b n:Int} {K:Int->Int} {q c:List Int} (hm:m=C.length+1) (hq:c.length=q.length+1) (hb:(C.length:Int)+(Q0U n q c).length<=16384) (hd:2<=c.length)
  (k0:K 0=a) (kd:K c.length=b+1) (kk:∀i j:Int,0<=i->i<j->j<=c.length->K i<K j)
  (hk:∀i:Int,1<=i->i<c.length->keyAt q (i-1).toNat=K i\/keyAt c i.toNat=0)
  (hc:∀i:Int,0<=i->i<c.length->keyAt c i.toNat=0\/VR G (K i) (K (i+1)-1) (keyAt c i.toNat)):
  Rep (C++Q0U n q c) (G.newI m c.length a b K (fun i=>keyAt q (i-1).toNat) (fun i=>keyAt c i.toNat))/\Inv (G.newI m c.length a b K (fun i=>keyAt q (i-1).toNat) (fun i=>keyAt c i.toNat))/\Ext G (G.newI m c.length a b K (fun i=>keyAt q (i-1).toNat) (fun i=>keyAt c i.toNat)):=by
 have ty:(G.newI m c.length a b K (fun i=>keyAt q (i-1).toNat) (fun i=>keyAt c i.toNat)).ty m=3:=Q0g _ _ _;have x:=(QgV (G:=G) (m:=m) (d:=c.length) (a:=a) (b:=b) (ks:=K) (key:=fun i=>keyAt q (i-1).toNat) (slot:=fun i=>keyAt c i.toNat)).ext h (r.new0 hm);have ed:(G.newI m c.length a b K (fun i=>keyAt q (i-1).toNat) (fun i=>keyAt c i.toNat)).deg m=c.length:=Q0g _ _ _;have ek:(G.newI m c.length a b K (fun i=>keyAt q (i-1).toNat) (fun i=>keyAt c i.toNat)).ks m=K:=Q0g _ _ _;have el:(G.newI m c.length a b K (fun i=>keyAt q (i-1).toNat) (fun i=>keyAt c i.toNat)).lo m=a:=Q0g _ _ _;have eh:(G.newI m c.length a b K (fun i=>keyAt q (i-1).toNat) (fun i=>keyAt c i.toNat)).hi m=b:=Q0g _ _ _;have ey:(G.newI m c.length a b K (fun i=>keyAt q (i-1).toNat) (fun i=>keyAt c i.toNat)).key m=(fun i=>keyAt q (i-1).toNat):=Q0g _ _ _;have es:(G.newI m c.length a b K (fun i=>keyAt q (i-1).toNat) (fun i=>keyAt c i.toNat)).slot m=(fun i=>keyAt c i.toNat):=Q0g _ _ _;refine ⟨r.mkI hm hq hb,h.add r QgV (r.new0 hm) (by rw[Q3Z ty,ed];have:((Q0U n q c).length:Int)=4+2*c.length:=(by simp[Q0U];omega);omega) (fun _=>⟨fun _=>by rw[ed];omega,by rw[ek,el];exact k0,by rw[ek,ed,eh];exact kd,by rw[ek,ed];exact kk, ?_, ?_,fun hz=>absurd (Q0g G.sum m 0) hz⟩) (fun k=>by omega) (fun k=>by omega)⟩
 ·rw[ed,ek,ey,es];exact hk
 ·rw[ed,es]
  intro i i0 i1
  rcases hc i i0 i1 with e|v
  ·exact .inl e
  ·refine .inr (.inl (.inl ?_))
   rw[ek];exact v.ext x
inductive Asc (G:GS):Int->Int->List (Int×Int)->Prop
 |nil (a b:Int):Asc G a b []
 |cons {a b k v c:Int} {L:List (Int×Int)} (ha:a<=k) (hb:k<=b) (t:G.ty c=2) (hk:G.k1 c=k) (hv:G.v1 c=v) (h:Asc G (k+1) b L):Asc G a b ((k,v)::L)
theorem Asc.left {a b a':Int} {L:List (Int×Int)} (h:Asc G a b L) (l:a'<=a):Asc G a' b L:=by
 cases h with
 |nil=>exact .nil _ _
 |cons ha hb t hk hv h=>exact .cons (by omega) hb t hk hv h
theorem Asc.append {a b c:Int} {L L':List (Int×Int)} (h:Asc G a b L) (h':Asc G (b+1) c L') (h1:a<=b+1) (h2:b<=c):Asc G a c (L++L'):=by
 induction h with
 |nil=>exact h'.left h1
 |cons ha hb t hk hv h ih=>exact .cons ha (by omega) t hk hv (ih h' (by omega) h2)
def Qea (G:GS) (a:Int):Nat->Nat
 |0=>0
 |m+1=>Qea G a m+if G.ty ((m:Int)+1)=2/\a<=G.k1 ((m:Int)+1) then 1 else 0
theorem QdI (G:GS) (a:Int):∀m,Qea G a m<=m
 |0=>Nat.le_refl _
 |m+1=>by
  have:=QdI G a m;unfold Qea
  split<;>omega
theorem Q9b {G:GS} {a a':Int} (h:a<=a'):∀m,Qea G a' m<=Qea G a m
 |0=>Nat.le_refl _
 |m+1=>by
  have:=Q9b (G:=G) h m;unfold Qea
  split
  ·rename_i c
   rw[if_pos ⟨c.1,by omega⟩];omega
  ·split<;>omega
theorem QdH {a k c:Int} (t:G.ty c=2) (hk:G.k1 c=k) (ha:a<=k) (c0:1<=c):∀m:Nat,c<=m->Qea G (k+1) m+1<=Qea G a m
 |0,h=>by omega
 |m+1,h=>by
  unfold Qea;by_cases e:c=(m:Int)+1
  ·subst e
   rw[if_neg (by omega),if_pos ⟨t,by omega⟩]
   have:=Q9b (G:=G) (show a<=k+1 by omega) m;omega
  ·have:=QdH t hk ha c0 m (by omega)
   split
   ·rename_i c
    rw[if_pos ⟨c.1,by omega⟩];omega
   ·split<;>omega
theorem Asc.cnt (i:Inv G) {a b:Int} {L:List (Int×Int)} (h:Asc G a b L):L.length<=Qea G a 16384:=by
 induction h with
 |nil=>exact Nat.zero_le _
 |cons ha hb t hk hv h ih=>
  have h1:=i.cap _ (show G.ty _≠0 by rw[t];decide);have:=QdH t hk ha h1.1 16384 (by omega);simp only[List.length_cons];omega
theorem Asc.len (i:Inv G) {a b:Int} {L:List (Int×Int)} (h:Asc G a b L):(L.length:Int)<=16384:=by
 have h1:=h.cnt i;have h2:=QdI G a 16384;omega
structure AscB (a b:Int) (L:List (Int×Int)):Prop where
 lt:∀i j:Nat,i<j->j<L.length->Q17 L i<Q17 L j
 lo:∀i:Nat,i<L.length->a<=Q17 L i
 hi:∀i:Nat,i<L.length->Q17 L i<=b
theorem Asc.keys {a b:Int} {L:List (Int×Int)} (h:Asc G a b L):AscB a b L:=by
 induction h with
 |nil=>exact ⟨fun _ _ _ h=>by simp at h,fun _ h=>by simp at h,fun _ h=>by simp at h⟩
 |@cons a b k v c L ha hb t hk hv h ih=>
  have s:∀i,Q17 ((k,v)::L) (i+1)=Q17 L i:=fun i=>rfl;have z:Q17 ((k,v)::L) 0=k:=rfl;refine ⟨fun i j hij hj=> ?_,fun i hi=> ?_,fun i hi=> ?_⟩
  ·cases j with
   |zero=>omega
   |succ j=>
    rw[s]
    simp only[List.length_cons] at hj
    cases i with
    |zero=>rw[z];have:=ih.lo j (by omega);omega
    |succ i=>rw[s];exact ih.lt i j (by omega) (by omega)
  ·simp only[List.length_cons] at hi
   cases i with
   |zero=>rw[z];exact ha
   |succ i=>rw[s];have:=ih.lo i (by omega);omega
  ·simp only[List.length_cons] at hi
   cases i with
   |zero=>rw[z];exact hb
   |succ i=>rw[s];exact ih.hi i (by omega)
theorem Q7T {K:Int->Int} {Ls:Int->List (Int×Int)}:∀k:Nat,(∀i j:Int,0<=i->i<j->j<=k->K i<K j)->(∀i:Int,0<=i->i<k->Asc G (K i) (K (i+1)-1) (Ls i))->Asc G (K 0) (K k-1) (Q3l Ls k)
 |0,_,_=>.nil _ _
 |k+1,hk,hs=>by
  have h1:=Q7T k (fun i j i0 ij jk=>hk i j i0 ij (by omega)) (fun i i0 i1=>hs i i0 (by omega));have h2:=hs k (by omega) (by omega);have h3:=hk k (k+1) (by omega) (by omega) (by omega)
  have h4:K 0<=K k:=by
   by_cases e:k=0
   ·rw[e];exact Int.le_refl _
   ·have:=hk 0 k (by omega) (by omega) (by omega);omega
  unfold Q3l
  rw[show ((k+1:Nat):Int)=(k:Int)+1 by omega]
  refine h1.append (by rw[show K k-1+1=K k by omega];exact h2) (by omega) (by omega)
theorem Qfk (h:Inv G) {n i w:Int} {L:List (Int×Int)} (v:VW G n i w) (e1:Q05 w=1->L=[]) (e2:Q05 w=2->L=[(G.k1 (wAt w),G.v1 (wAt w))])
  (e3:Q05 w=3->Asc G (G.lo (wAt w)) (G.hi (wAt w)) L) (e4:Q05 w=4->Asc G (G.lo (G.tgt (wAt w))) (G.hi (G.tgt (wAt w))) L):Asc G (G.ks n i) (G.ks n (i+1)-1) L:=by
 rcases v with v|⟨k4,t4,v3,v4⟩
 ·have k0:=v.k0;have k3:=v.k3;have:Q05 w=1\/Q05 w=2\/Q05 w=3:=by omega
  rcases this with k|k|k
  ·rw[e1 k];exact .nil _ _
  ·rw[e2 k]
   exact .cons (v.e2 k).1 (v.e2 k).2 (by rw[v.ty];exact k) rfl rfl (.nil _ _)
  ·have:=e3 k;rw[(v.e3 k).1,(v.e3 k).2.1] at this;exact this
 ·have:=e4 k4;have r:=h.reb _ t4;obtain ⟨a,b,-⟩:=r.v.e3 r.k.1
  rw[v3,v4] at a b
  rw[r.k.2] at a b
  rw[a,b] at this
  exact this
theorem Inv.asc (h:Inv G) {n:Int} {L:List (Int×Int)} (f:FrzN G n L):Asc G (G.lo n) (G.hi n) L:=by
 induction f with
 |mk n Ls ty st sm e1 e2 e3 e4 ih3 ih4=>
  have k:=h.inn n ty;rw[<-k.k0,show G.hi n=G.ks n (G.deg n)-1 by have:=k.kd;omega];by_cases hd:0<=G.deg n
  ·have:=Q7T (G:=G) (K:=G.ks n) (Ls:=Ls) (G.deg n).toNat (fun i j i0 ij jk=>k.kk i j i0 ij (by omega)) (fun i i0 i1=>by
    have i1:i<G.deg n:=by omega
    exact Qfk h (h.lgv ⟨ty,i0,i1⟩ (st i i0 i1).ne) (e1 i i0 i1) (e2 i i0 i1) (ih3 i i0 i1) (ih4 i i0 i1))
   rw[show (((G.deg n).toNat:Nat):Int)=G.deg n by omega] at this
   exact this
  ·rw[show (G.deg n).toNat=0 by omega];exact .nil _ _
theorem Inv.fwasc (h:Inv G) {n i w:Int} {L:List (Int×Int)} (v:VW G n i w) (f:FW G w L):Asc G (G.ks n i) (G.ks n (i+1)-1) L:=
 Qfk h v f.e1 f.e2 (fun k=>h.asc (f.e3 k)) (fun k=>h.asc (f.e4 k))
end
structure Rely (t:Nat) (G G':GS):Prop where
 inv:Inv G'
 ext:Ext G G'
 mine:∀a,G.ty a=5->G.own a=t->G'.placed a=G.placed a
structure Guar (t:Nat) (G G':GS):Prop where
 inv:Inv G'
 ext:Ext G G'
 others:∀a,G.ty a=5->G.own a≠t->G'.placed a=G.placed a
def Safe {α:Type} (M:Int) (t:Nat):Prog α->(α->GS->Prop)->GS->Prop
 |.ret a,Q,G=>∀G',Rely t G G'->Q a G'
 |.ask q k,Q,G=>∀C G1,Rely t G G1->Rep C G1->(C.length:Int)<=M->∃G2,Rep (exQ M q C).2 G2/\Guar t G1 G2/\Safe M t (k (exQ M q C).1) Q G2
 |.chk k,Q,G=>Safe M t (k false) Q G
 |.stuck _,_,_=>True
section
variable {α β:Type} {M:Int} {t:Nat} {G G' G'':GS} {Q Q':α->GS->Prop} {R:β->GS->Prop}
theorem Rely.refl (h:Inv G):Rely t G G:=⟨h,Ext.refl _,fun _ _ _=>rfl⟩
theorem Rely.trans (h:Rely t G G') (k:Rely t G' G''):Rely t G G'':=
 ⟨k.inv,h.ext.trans k.ext,fun a ta o=>(k.mine a (h.ext.t5 ta) (by rw[h.ext.own a (by omega)];exact o)).trans (h.mine a ta o)⟩
theorem Guar.refl (h:Inv G):Guar t G G:=⟨h,Ext.refl _,fun _ _ _=>rfl⟩
theorem Guar.rely (h:Guar t G G') {u:Nat} (ne:u≠t):Rely u G G':=⟨h.inv,h.ext,fun a ta o=>h.others a ta (by rw[o];exact ne)⟩
theorem Guar.of (h:Inv G'/\Ext G G') (e:G'.placed=G.placed):Guar t G G':=⟨h.1,h.2,fun _ _ _=>by rw[e]⟩
theorem Safe.mono (hq:∀a G,Inv G->Q a G->Q' a G):∀{p:Prog α} {G:GS},Safe M t p Q G->Safe M t p Q' G
 |.ret a,G,h=>fun G' hr=>hq a G' hr.inv (h G' hr)
 |.ask q k,G,h=>fun C G1 hr hp hl=>by
  obtain ⟨G2,h1,h2,h3⟩:=h C G1 hr hp hl;exact ⟨G2,h1,h2,Safe.mono hq h3⟩
 |.chk k,G,h=>Safe.mono hq (p:=k false) h
 |.stuck p,G,h=>trivial
theorem Safe.bind:∀{p:Prog α} {f:α->Prog β} {G:GS},Inv G->Safe M t p (fun a G=>Safe M t (f a) R G) G->Safe M t (p.bind f) R G
 |.ret a,f,G,hi,h=>h G (Rely.refl hi)
 |.ask q k,f,G,hi,h=>fun C G1 hr hp hl=>by
  obtain ⟨G2,h1,h2,h3⟩:=h C G1 hr hp hl;exact ⟨G2,h1,h2,Safe.bind (p:=k _) h2.inv h3⟩
 |.chk k,f,G,hi,h=>Safe.bind (p:=k false) hi h
 |.stuck p,f,G,hi,h=>trivial
theorem Safe.read {a:Int} {f:Int->Prog β} (h:∀C G1,Rely t G G1->Rep C G1->Safe M t (f (rdC C a)) R G1):Safe M t ((Q0e a).bind f) R G:=fun C G1 hr hp hl=>by
 refine ⟨G1,hp,Guar.refl hr.inv, ?_⟩;exact h C G1 hr hp
theorem Safe.write {a x:Int} {f:Unit->Prog β} (h:∀C G1,Rely t G G1->Rep C G1->∃G2,Rep (wrC C a x) G2/\Guar t G1 G2/\Safe M t (f ()) R G2):Safe M t ((Q2p a x).bind f) R G:=fun C G1 hr hp hl=>h C G1 hr hp
theorem Safe.add {a d:Int} {f:Int->Prog β} (h:∀C G1,Rely t G G1->Rep C G1->∃G2,Rep (wrC C a (wrap64 (rdC C a+d))) G2/\Guar t G1 G2/\Safe M t (f (rdC C a)) R G2):Safe M t ((Qed a d).bind f) R G:=fun C G1 hr hp hl=>h C G1 hr hp
theorem Safe.cas {a x y:Int} {f:Bool->Prog β} (hn:∀C G1,Rely t G G1->Rep C G1->¬((1<=a/\a<=C.length)/\rdC C a=x)->Safe M t (f false) R G1)
  (hy:∀C G1,Rely t G G1->Rep C G1->1<=a->a<=C.length->rdC C a=x->∃G2,Rep (wrC C a y) G2/\Guar t G1 G2/\Safe M t (f true) R G2):Safe M t ((Q33 a x y).bind f) R G:=fun C G1 hr hp hl=>by
 by_cases c:(1<=a/\a<=C.length)/\rdC C a=x
 ·have e:exQ M ⟨3,a,x,y,[],0⟩ C=(1,wrC C a y):=by
   unfold exQ
   rw[if_neg (by simp),if_neg (by simp),if_pos rfl]
   exact if_pos c
  obtain ⟨G2,h1,h2,h3⟩:=hy C G1 hr hp c.1.1 c.1.2 c.2;refine ⟨G2, ?_,h2, ?_⟩
  ·rw[e];exact h1
  ·rw[e];exact h3
 ·have e:exQ M ⟨3,a,x,y,[],0⟩ C=(0,C):=by
   unfold exQ
   rw[if_neg (by simp),if_neg (by simp),if_pos rfl]
   exact if_neg c
  refine ⟨G1, ?_,Guar.refl hr.inv, ?_⟩
  ·rw[e];exact hp
  ·rw[e];exact hn C G1 hr hp c
theorem Safe.make {ws:List Int} {tag:Int} {f:Int->Prog β} (hM:M<=16384) (hn:∀C G1,Rely t G G1->Rep C G1->Safe M t (f 0) R G1)
  (hy:∀C G1,Rely t G G1->Rep C G1->0<ws.length->(C.length:Int)+ws.length<=16384->∃G2,Rep (C++ws) G2/\Guar t G1 G2/\Safe M t (f ((C.length:Int)+1)) R G2):Safe M t ((Q1G ws tag).bind f) R G:=fun C G1 hr hp hl=>by
 by_cases c:ws.length=0\/M-C.length<ws.length
 ·have e:exQ M ⟨5,0,0,0,ws,tag⟩ C=(0,C):=by
   unfold exQ
   rw[if_neg (by simp),if_neg (by simp),if_neg (by simp),if_neg (by simp),if_pos rfl]
   exact if_pos c
  refine ⟨G1, ?_,Guar.refl hr.inv, ?_⟩
  ·rw[e];exact hp
  ·rw[e];exact hn C G1 hr hp
 ·have e:exQ M ⟨5,0,0,0,ws,tag⟩ C=((C.length:Int)+1,C++ws):=by
   unfold exQ
   rw[if_neg (by simp),if_neg (by simp),if_neg (by simp),if_neg (by simp),if_pos rfl]
   exact if_neg c
  obtain ⟨G2,h1,h2,h3⟩:=hy C G1 hr hp (by omega) (by omega);refine ⟨G2, ?_,h2, ?_⟩
  ·rw[e];exact h1
  ·rw[e];exact h3
theorem Safe.chkOff {p q:Prog α} {f:α->Prog β} (h:Safe M t (q.bind f) R G):Safe M t ((Prog.chk fun off=>if off=true then p else q).bind f) R G:=h
theorem Q02 {γ:Type}:∀(p:Prog α) (f:α->Prog β) (g:β->Prog γ),(p.bind f).bind g=p.bind fun a=>(f a).bind g
 |.ret a,f,g=>rfl
 |.ask q k,f,g=>by show Prog.ask q _=Prog.ask q _;congr 1;funext v;exact Q02 (k v) f g
 |.chk k,f,g=>by show Prog.chk _=Prog.chk _;congr 1;funext v;exact Q02 (k v) f g
 |.stuck p,f,g=>by show Prog.stuck _=Prog.stuck _;congr 1;exact Q02 p f g
end
section
variable {β:Type} {M:Int} {t:Nat} {C:List Int} {G G':GS} {R:β->GS->Prop}
theorem Qam {n i:Int} (n0:0<=n) (n1:n<=1000000) (i0:0<=i) (i1:i<=1000000):Q0j n i=n+4+i:=by
 unfold Q0j Q18
 rw[decide_eq_true n0,decide_eq_true i0,decide_eq_true (show n<=1099511627776 by omega),decide_eq_true (show i<=1099511627776 by omega)]
 exact if_pos ⟨rfl,rfl⟩
theorem Q31 {n d i:Int} (n0:0<=n) (n1:n<=1000000) (d0:0<=d) (d1:d<=1000000) (i0:0<=i) (i1:i<=1000000):Q06 n d i=n+4+d+i:=by
 unfold Q06 Q18
 rw[decide_eq_true n0,decide_eq_true i0,decide_eq_true d0,decide_eq_true (show n<=1099511627776 by omega),decide_eq_true (show i<=1099511627776 by omega),decide_eq_true (show d<=1099511627776 by omega)]
 exact if_pos ⟨rfl,rfl,rfl⟩
theorem Rep.degB (r:Rep C G) {n:Int} (t3:G.ty n=3):1<=n/\n+4+2*G.deg n<=16385/\1<=G.deg n:=by
 have h1:=r.low n (by omega);have h2:=r.top n (by omega);have h3:=(r.deg n t3).1;have h4:=r.big
 rw[Q3Z t3] at h2
 omega
theorem Rep.saB (r:Rep C G) {n i:Int} (a:G.At n i):1<=G.sa n i/\G.sa n i<=C.length:=by
 have:=r.degB a.ty;have h0:=a.i0;have h1:=a.i1;have h2:=r.top n (by rw[a.ty];decide)
 rw[Q3Z a.ty] at h2
 unfold GS.sa;omega
theorem Rep.recB (r:Rep C G) {a j:Int} (ta:G.ty a=4\/G.ty a=5) (j0:0<=j) (j1:j<5):1<=a+j/\a+j<=C.length:=by
 have h1:=r.low a (by omega);have h2:=r.top a (by omega)
 have:G.len a=5:=by
  rcases ta with k|k
  ·exact Qd8 k
  ·exact Qd7 k
 omega
theorem Inv.late_gate (h:Inv G) {a:Int} (ta:G.ty a=5) (g:G.gate (G.nd a)=false):G.late a=false:=by
 cases e:G.late a with
 |false=>rfl
 |true=>have:=((h.dcs a ta).late e).2.1;rw[g] at this;cases this
theorem QdU {b:Bool}:bI b=0↔b=false:=by cases b<;>simp[bI]
theorem Q5M {a:Int} {v:Int} {f:Bool->Prog β} (ta:G.ty a=5) (hp:G.placed a=true) (hv:v=1\/v=2) (hl:v=1->G.late a=false)
  (k:∀b C G',Inv G'->Ext G G'->Rep C G'->G'.out a≠0->Safe M t (f b) R G'):Safe M t ((Q33 (a+4) 0 v).bind f) R G:=by
 refine Safe.cas (fun C G1 hr hp1 hn=> ?_) (fun C G1 hr hp1 _ _ he=> ?_)
 ·have t1:=hr.ext.t5 ta;have ho:=(hp1.dcs a t1).2.2.2.2;refine k false C G1 hr.inv hr.ext hp1 (fun hz=>hn ⟨?_,by rw[ho];exact hz⟩);exact hp1.recB (.inr t1) (by decide) (by decide)
 ·have t1:=hr.ext.t5 ta;have ho:=(hp1.dcs a t1).2.2.2.2
  rw[ho] at he
  have hp2:=hr.ext.placed a ta hp;obtain ⟨s1,s2,s3⟩:=Q9s hr.inv hp1 t1 hp2 he hv (fun e=>by rw[hr.ext.late a ta hp];exact hl e);exact ⟨_,s1,Guar.of ⟨s2,s3⟩ rfl,k true _ _ s2 (hr.ext.trans s3) s1 (by show upd G1.out a v a≠0;rw[Q0g];omega)⟩
theorem Q3r {a v:Int} {f:Bool->Prog β} (ta:G.ty a=5) (ho:(G.out a=1/\v=G.nw a)\/(G.out a=2/\v=G.od a)) (hat:G.At (G.nd a) (G.ix a))
  (k:∀b G',Inv G'->Ext G G'->Safe M t (f b) R G'):Safe M t ((Q33 (G.sa (G.nd a) (G.ix a)) (wOf 5 a) v).bind f) R G:=by
 refine Safe.cas (fun C G1 hr hp1 hn=>k false G1 hr.inv hr.ext) (fun C G1 hr hp1 _ _ he=> ?_);have t1:=hr.ext.t5 ta;have tn:G.ty a≠0:=by omega
 have hat1:=hr.ext.at_ hat;have o0:G.out a≠0:=by omega
 have ho1:=hr.ext.out a ta o0;have d:=hr.inv.dcs a t1;have e1:=hr.ext.nd a tn;have e2:=hr.ext.ix a tn;have wd:=hp1.wd (a:=a) (k:=5) (by omega) (by decide) (by decide);rw[<-hr.ext.sa hat.ty] at he|-
 rw[hp1.slot _ _ hat1] at he
 have hlg:G1.lg (G.nd a) (G.ix a)=v:=by
  unfold GS.lg GS.lw
  rw[he,if_pos wd.1,wd.2,ho1,hr.ext.nw a tn,hr.ext.od a tn]
  rcases ho with ⟨h1,h2⟩|⟨h1,h2⟩
  ·rw[if_pos h1,h2]
  ·rw[if_neg (by omega),h2]
 have hz:G1.slot (G.nd a) (G.ix a)≠0:=by rw[he];intro e;rw[e,Q1d] at wd;omega
 have hv:=hr.inv.lgv hat1 hz
 rw[hlg] at hv
 obtain ⟨s1,s2,s3⟩:=Q8f hr.inv hp1 hat1 hv (.inr hlg) (fun i0=>((hr.inv.inn _ hat1.ty).key _ i0 hat1.i1).resolve_right hz) (fun b tb eb=>by
  have wb:=hp1.wd (a:=b) (k:=5) (by omega) (by decide) (by decide)
  rw[he] at eb
  have:b=a:=by rw[<-wb.2,<-eb,wd.2]
  rw[this,ho1];exact o0)
 exact ⟨_,s1,Guar.of ⟨s2,s3⟩ rfl,k true _ s2 (hr.ext.trans s3)⟩
theorem QcA {a:Int} {f:Unit->Prog β} (ta:G.ty a=5) (hp:G.placed a=true) (k:∀G',Inv G'->Ext G G'->Safe M t (f ()) R G'):Safe M t ((Q6D a).bind f) R G:=by
 unfold Q6D
 rw[Q02]
 refine Safe.read fun C1 G1 r1 p1=> ?_;have t1:=r1.ext.t5 ta;rw[(p1.dcs a t1).1,Q02];refine Safe.read fun C2 G2 r2 p2=> ?_;have x2:=r1.ext.trans r2.ext;have t2:=x2.t5 ta;have n1:=(p1.dcsP a t1).ty;have tn1:G1.ty a≠0:=by omega
 have en:G2.nd a=G1.nd a:=r2.ext.nd a tn1
 rw[p2.gate _ (r2.ext.t3 n1),Q02]
 have hp2:=x2.placed a ta hp;refine Q5M (G:=G2) t2 hp2 ?_ ?_ ?_
 ·split
  ·exact .inl rfl
  ·exact .inr rfl
 ·intro e
  have hg:G2.gate (G1.nd a)=false:=by
   rw[<-QdU];apply Classical.byContradiction;intro hn
   rw[if_neg hn] at e
   omega
  exact r2.inv.late_gate t2 (by rw[en];exact hg)
 ·intro b C3 G3 i3 x3 p3 o3;have x3':=x2.trans x3;have t3:=x3'.t5 ta
  rw[Q02]
  refine Safe.read fun C4 G4 r4 p4=> ?_;have t4:=r4.ext.t5 t3;have o4:=r4.ext.out a t3 o3;rw[(p4.dcs a t4).2.2.2.2,Q02];refine Safe.read fun C5 G5 r5 p5=> ?_;have t5:=r5.ext.t5 t4;have at5:=p5.dcsP a t5;rw[(p5.dcs a t5).2.1];have o5:=r5.ext.out a t4 (by rw[o4];exact o3)
  have tail:∀v (G6:GS),Inv G6->Ext G5 G6->((G5.out a=1/\v=G5.nw a)\/(G5.out a=2/\v=G5.od a))->Safe M t ((Q33 (G5.sa (G5.nd a) (G5.ix a)) (wOf 5 a) v).bind fun _=>f ()) R G6:=fun v G6 i6 x6 hv=>by
   have tn:G5.ty a≠0:=by omega
   have e1:=x6.nd a tn;have e2:=x6.ix a tn;have o6:=x6.out a t5 (by omega);rw[<-x6.sa at5.ty,<-e1,<-e2];refine Q3r (G:=G6) (x6.t5 t5) (by rw[o6,x6.nw a tn,x6.od a tn];exact hv) (by rw[e1,e2];exact x6.at_ at5) (fun b G7 i7 x7=>k G7 i7 ?_);exact (((x3'.trans r4.ext).trans r5.ext).trans x6).trans x7
  have d5:=r5.inv.dcs a t5;by_cases c:G4.out a=1
  ·rw[if_pos c,Q02]
   refine Safe.read fun C6 G6 r6 p6=> ?_;have t6:=r6.ext.t5 t5;rw[(p6.dcs a t6).2.2.2.1,r6.ext.nw a (by omega)];exact tail _ G6 r6.inv r6.ext (.inl ⟨by omega,rfl⟩)
  ·rw[if_neg c,Q02]
   refine Safe.read fun C6 G6 r6 p6=> ?_;have t6:=r6.ext.t5 t5;rw[(p6.dcs a t6).2.2.1,r6.ext.od a (by omega)];refine tail _ G6 r6.inv r6.ext (.inr ⟨?_,rfl⟩);have:=d5.out;omega
theorem Q8r {n i:Int} {f:Int->Prog β} (fu:Nat) (a:G.At n i) (hz:G.slot n i≠0) (hi:Inv G)
  (k:∀w G',Inv G'->Ext G G'->VW G' n i w->(G.gate n=true->Settled G' n i/\G'.lg n i=w)->Safe M t (f w) R G'):Safe M t ((Q4M fu (G.sa n i)).bind f) R G:=by
 have go:∀(fu:Nat) (w:Int) (G1:GS),Inv G1->Ext G G1->(VW G1 n i w\/(Q05 w=5/\G1.ty (wAt w)=5/\G1.placed (wAt w)=true))->(Q05 w≠5->G.gate n=true->Settled G1 n i/\G1.lg n i=w)->Safe M t ((Q3j (G.sa n i) fu w).bind f) R G1:=by
  intro fu
  induction fu with
  |zero=>exact fun w G1 i1 x1 hv hs=>trivial
  |succ fu ih=>
   intro w G1 i1 x1 hv hs;show Safe M t ((if false=false/\Q05 w=5 then (Q6D (wAt w)).bind fun _=>(Q0e (G.sa n i)).bind (Q3j (G.sa n i) fu) else .ret w).bind f) R G1;by_cases c:Q05 w=5
   ·rw[if_pos ⟨rfl,c⟩,Q02]
    obtain ⟨tw,pw⟩:G1.ty (wAt w)=5/\G1.placed (wAt w)=true:=by
     rcases hv with v|v
     ·have:=v.ne;omega
     ·exact v.2
    refine QcA tw pw fun G2 i2 x2=> ?_
    rw[Q02]
    refine Safe.read fun C3 G3 r3 p3=> ?_;have x3:=(x1.trans x2).trans r3.ext;have a3:=x3.at_ a;have z3:=x3.slot n i a hz;rw[<-x3.sa a.ty,p3.slot n i a3,x3.sa a.ty];refine ih _ G3 r3.inv x3 ?_ ?_
    ·rcases r3.inv.sw a3 with e|v|v
     ·exact absurd e z3
     ·exact .inl v
     ·exact .inr ⟨v.1,v.2.1,v.2.2.2.2⟩
    ·intro k5 g;exact ⟨⟨x3.gate n a.ty g,z3,fun k=>absurd k k5⟩,GS.lw_of _ k5⟩
   ·rw[if_neg (fun h=>c h.2)]
    have v1:VW G1 n i w:=hv.resolve_right (fun h=>c h.1);exact k w G1 i1 x1 v1 (hs c)
 unfold Q4M
 rw[Q02]
 refine Safe.read fun C1 G1 r1 p1=> ?_;have a1:=r1.ext.at_ a;have z1:=r1.ext.slot n i a hz;rw[<-r1.ext.sa a.ty,p1.slot n i a1,r1.ext.sa a.ty];refine go fu _ G1 r1.inv r1.ext ?_ ?_
 ·rcases r1.inv.sw a1 with e|v|v
  ·exact absurd e z1
  ·exact .inl v
  ·exact .inr ⟨v.1,v.2.1,v.2.2.2.2⟩
 ·intro k5 g;exact ⟨⟨r1.ext.gate n a.ty g,z1,fun k=>absurd k k5⟩,GS.lw_of _ k5⟩
theorem Q2q {x:Int} (h0:0<=x) (h1:x<=1000000):wrap64 x=x:=by unfold wrap64;omega
theorem Q5N {n i old x tag:Int} {f:Int->Prog β} (hM:M<=16384) (a:G.At n i) (ho:VW G n i old) (hw:VW G n i x) (hu:wAt old<wAt x)
  (o3:Q05 old=3->Q05 x=4/\G.tgt (wAt x)=wAt old) (o4:Q05 old=4->x=G.res (wAt old)) (hi:Inv G)
  (k:∀d G',Inv G'->Ext G G'->Safe M t (f d) R G'):Safe M t ((Q1m tag (n+2) (G.sa n i) old x).bind f) R G:=by
 unfold Q1m
 rw[Q02]
 refine Safe.make hM (fun C1 G1 r1 p1=> ?_) (fun C1 G1 r1 p1 _ hl=> ?_)
 ·show Safe M t ((if (0:Int)<=0 then _ else _:Prog Int).bind f) R G1
  rw[if_pos (by decide)]
  exact k 3 G1 r1.inv r1.ext
 ·have a1:=r1.ext.at_ a;have hx1:G1.ty (wAt x)=Q05 x:=(hw.ext r1.ext a.ty).ty;have hu1:=hw.ty;have hu0:=ho.ty;have ke:=hw.ne;have ke0:=ho.ne
  obtain ⟨s1,s2,s3⟩:=Qcn (G:=G1) (u:=t) (m:=(C1.length:Int)+1) r1.inv p1 rfl (by have:(Q30 (n+2) (G.sa n i) old x).length=5:=rfl;omega) a1 (ho.ext r1.ext a.ty) (hw.ext r1.ext a.ty) hu
   (fun k3=>⟨(o3 k3).1,by rw[r1.ext.tgt _ (by omega)];exact (o3 k3).2⟩) (fun k4=>by
    have e:=o4 k4
    rw[r1.ext.res _ (by rw[hu0];exact k4) (by rw[<-e];exact hw.nz)];exact e)
  rw[<-r1.ext.sa a.ty];generalize hm:(C1.length:Int)+1=m at s1 s2 s3|-;generalize hG2:GS.newD G1 t m n i old x=G2 at s1 s2 s3;have t2:G2.ty m=5:=by rw[<-hG2];exact Q0g _ _ _
  have f1:G2.nd m=n:=by rw[<-hG2];exact Q0g _ _ _
  have f2:G2.ix m=i:=by rw[<-hG2];exact Q0g _ _ _
  have f3:G2.own m=t:=by rw[<-hG2];exact Q0g _ _ _
  have f4:G2.placed m=false:=by rw[<-hG2];exact Q0g _ _ _
  have f5:G2.od m=old:=by rw[<-hG2];exact Q0g _ _ _
  have f6:G2.nw m=x:=by rw[<-hG2];exact Q0g _ _ _
  have m0:G1.ty m=0:=p1.fresh (by omega);have m1:1<=m:=s1.low m (by omega);have m2:m<=16384:=by have:=s1.used (a:=m) (by omega);have:=s1.big;omega
  have pl:∀b,b≠m->G2.placed b=G1.placed b:=fun b e=>by rw[<-hG2];exact Q0z _ _ e
  refine ⟨G2,s1,⟨s2,s3,fun b tb _=>pl b (fun e=>by rw[e,m0] at tb;cases tb)⟩, ?_⟩
  rw[if_neg (by omega),Q02]
  have x2:=r1.ext.trans s3;have a2:=x2.at_ a;have es2:G1.sa n i=G2.sa n i:=(s3.sa a1.ty i).symm
  rw[es2]
  refine Safe.cas (fun C3 G3 r3 p3 hn=> ?_) (fun C3 G3 r3 p3 _ _ he=> ?_)
  ·rw[if_pos rfl]
   exact k 0 G3 r3.inv (x2.trans r3.ext)
  ·have t3:=r3.ext.t5 t2;have tn2:G2.ty m≠0:=by omega
   have a3:=r3.ext.at_ a2;have e1:G3.nd m=n:=by rw[r3.ext.nd m tn2,f1]
   have e2:G3.ix m=i:=by rw[r3.ext.ix m tn2,f2]
   have e5:G3.od m=old:=by rw[r3.ext.od m tn2,f5]
   have e6:G3.nw m=x:=by rw[r3.ext.nw m tn2,f6]
   have e4:G3.placed m=false:=by rw[r3.mine m t2 f3,f4]
   have e3:G3.own m=t:=by rw[r3.ext.own m tn2,f3]
   rw[<-r3.ext.sa a2.ty,p3.slot _ _ a3] at he;obtain ⟨z1,z2,z3⟩:=QaN r3.inv p3 t3 e4 (by rw[e1,e2,e5];exact he)
   rw[e1,e2,r3.ext.sa a2.ty] at z1
   refine ⟨_,z1,⟨z2,z3,fun b tb hb=>Q0z _ _ (fun e=>hb (by rw[e];exact e3))⟩, ?_⟩;have f7:(G3.place m).placed m=true:=Q0g _ _ _;generalize hG4:G3.place m=G4 at z1 z2 z3 f7;have x4:=(x2.trans r3.ext).trans z3;have t4:G4.ty m=5:=z3.t5 t3;have tn3:G3.ty m≠0:=by omega
   rw[if_neg (by decide),Q02]
   refine Safe.read fun C5 G5 r5 p5=> ?_;have x5:=x4.trans r5.ext;have t5:G5.ty m=5:=r5.ext.t5 t4;have hn5:G5.nd m=n:=by rw[r5.ext.nd m (by omega),z3.nd m tn3,e1]
   have hp5:=r5.ext.placed m t4 f7
   rw[p5.gate n (x5.t3 a.ty),Q02,Q2q (by omega) (by omega)]
   refine Q5M (G:=G5) t5 hp5 ?_ ?_ ?_
   ·split
    ·exact .inl rfl
    ·exact .inr rfl
   ·intro e
    have hg:G5.gate n=false:=by
     rw[<-QdU];apply Classical.byContradiction;intro hn
     rw[if_neg hn] at e
     omega
    exact r5.inv.late_gate t5 (by rw[hn5];exact hg)
   ·intro b C6 G6 i6 x6 p6 o6;have x6':=x5.trans x6;have t6:=x6.t5 t5
    rw[Q02]
    refine Safe.read fun C7 G7 r7 p7=> ?_;have x7:=x6'.trans r7.ext;have t7:=r7.ext.t5 t6;have o7:=r7.ext.out m t6 o6;have g1:G7.nd m=n:=by rw[r7.ext.nd m (by omega),x6.nd m (by omega),hn5]
    have g2:G7.ix m=i:=by rw[r7.ext.ix m (by omega),x6.ix m (by omega),r5.ext.ix m (by omega),z3.ix m tn3,e2]
    have g5:G7.od m=old:=by rw[r7.ext.od m (by omega),x6.od m (by omega),r5.ext.od m (by omega),z3.od m tn3,e5]
    have g6:G7.nw m=x:=by rw[r7.ext.nw m (by omega),x6.nw m (by omega),r5.ext.nw m (by omega),z3.nw m tn3,e6]
    have a7:=x7.at_ a;have d7:=(r7.inv.dcs m t7).out;have esa:G2.sa n i=G7.sa (G7.nd m) (G7.ix m):=by rw[g1,g2,<-es2,r1.ext.sa a.ty,x7.sa a.ty]
    rw[(p7.dcs m t7).2.2.2.2,esa];by_cases c:G7.out m=1
    ·rw[if_pos c,Q02]
     exact Q3r t7 (.inl ⟨c,g6.symm⟩) (by rw[g1,g2];exact a7) (fun b G8 i8 x8=>k 1 G8 i8 (x7.trans x8))
    ·rw[if_neg c,Q02]
     exact Q3r t7 (.inr ⟨by omega,g5.symm⟩) (by rw[g1,g2];exact a7) (fun b G8 i8 x8=>k 2 G8 i8 (x7.trans x8))
end
end Go.Proofs.YtblajeildolloaaGreat
