/- Part 4 of what the statement of WalkPlays needs. No condition. -/
import Derived.Test.YtblajeildolloaaGreatWalkPlaysB3
namespace Go.Proofs.YtblajeildolloaaGreat
set_option linter.unusedVariables false
set_option linter.unusedSimpArgs false
open Go.RowKit
set_option maxRecDepth 100000
set_option maxHeartbeats 8000000
theorem Q9R {at_ t n x d:Int} {s:RunS} (h:s.off=true):∀f,(Q2N at_ t n x d f).go s=(true,s)
 |0=>rfl
 |f+1=>by unfold Q2N;rw[Q0B,if_pos h];rfl
theorem Q4Q {f:Nat} {t n x d:Int} {s:RunS} {j:Int} (h:s.off=true):∀m,(Q3k f t n x d m j).go s=(true,s)
 |0=>rfl
 |m+1=>by unfold Q3k;rw[Q0B,if_pos h];rfl
theorem QgG {a x v:Int} {s s':RunS} (hg:(Qed a x).go s=(v,s')) (h:s.off=false) (d:s.Bd):s'.left<s.left:=by
 have:=QeV ⟨4,a,x,0,[],0⟩ Prog.ret h d
 rw[show (Prog.ask ⟨4,a,x,0,[],0⟩ Prog.ret).go s=(v,s') from hg] at this
 exact this
section
variable (F:Nat->Prop) (rb:Nat) (w0:World)
def Qe2 (f:Nat) (at_ t n x d:Int) (vc:Bool) (sc:RunS) (T:List Int) (wr:World):Prop:=∃(fz:Nat) (s:RunS),(s.off=false->s.left<fz)/\(s.off=false->s.left<f)/\s.tape=T/\RAt F rb w0 s wr/\s.Bd/\(Q2N at_ t n x d fz).go s=(vc,sc)
def Q3m (f:Nat) (t n x d:Int) (v:Bool) (s':RunS) (iv:Value) (wr:World):Prop:=∃(J:Int) (m:Nat) (s:RunS),iv=.int .i64 J/\0<=J/\(m:Int)+J=d/\(s.off=false->s.left<f)/\RAt F rb w0 s wr/\s.Bd/\(Q3k f t n x d m J).go s=(v,s')
theorem Q6S (f:Nat) (at_ t n x:Int) (s0 s':RunS) (v:Bool) (w:World) (h:RAt F rb w0 s0 w) (d0:s0.Bd) (hat:i64B at_) (hn:i64B n) (t0:0<=t) (t1:t<=65536) (hf:s0.off=false->s0.left<f) (hg:(Q2u f at_ t n x).go s0=(v,s')):
  Calls Tryz.prog 243 #[.pointer (some ⟨rb,0,none⟩),.int .i64 at_,.int .i64 t,.int .i64 n,.int .i64 x] w (Q5C F rb w0 v s'):=by
 unfold Q2u at hg;have hn0:=hn.lo;have hn1:=hn.hi;have ha0:=hat.lo;have ha1:=hat.hi;have hd0:=Q1q n;have hd1:=Q2l n;have HN:=LH hn;obtain ⟨vc,sc,gc⟩:=Q0k (Q2N at_ t n x (Q00 n) f) s0
 rw[Q01,gc] at hg
 have HG:=LH hg;have H0:=LH h;have HF:=LH hf;have GC:=LH gc;clear hg h hf gc;go_enter Tryz.func243,Tryz.ntmps243;go_wp2_with (fail);with_reducible refine (Q0E n _ hn0 hn1).mono ?_
 rintro e w1 ⟨rfl,rfl⟩;generalize Q00 n=d at HG GC hd0 hd1|-;go_wp2_with (fail)
 go_loopw [] (fun wr=>Qe2 F rb w0 f at_ t n x d vc sc s0.tape wr) (fun wr=>Q65 rb s0.tape.length wr)
 case atStart=>unfold Qe2;exact ⟨f,s0,HF.out,HF.out,rfl,H0.out,d0,GC.out⟩
 case round=>
  clear H0 d0 GC HF;obtain ⟨fz,s1,hfz,hf1,ht1,h1,d1,g1⟩:=hrel;have H1:=LH h1;have GC:=LH g1;have HFZ:=LH hfz;have HF1:=LH hf1;have HT1:=LH ht1;clear h1 g1 hfz hf1 ht1
  cases ho:s1.off with
  |true=>
   have c2:=Q0c H1.out ho;obtain ⟨rfl,rfl⟩:=Prod.mk.inj ((Q9R ho fz).symm.trans GC.out);have hg:=HG.out;clear HG
   rw[if_neg (fun e=>Bool.noConfusion e)] at hg
   have HG:=LH hg;clear hg;clear ho;go_wp2_with (fail)
   go_loopw [13] (fun iv wr=>Q3m F rb w0 f t n x d v s' iv wr) (fun iv _=>(d-intOf iv).toNat)
   case atStart=>unfold Q3m;exact ⟨0,d.toNat,s1,rfl,by omega,by omega,HF1.out,H1.out,d1,HG.out⟩
   case round=>
    clear H1 HG;obtain ⟨J,m,s5,rfl,hJ0,hm,hf5,h5,d5,g5⟩:=hrel;have H5:=LH h5;have HG:=LH g5;have HF5:=LH hf5;clear h5 g5 hf5;by_cases hJ:J<d
    ·obtain ⟨m,rfl⟩:∃k,m=k+1:=⟨m-1,by omega⟩
     cases ho5:s5.off with
     |true=>
      have c5:=Q0c H5.out ho5;obtain ⟨rfl,rfl⟩:=Prod.mk.inj ((Q4Q ho5 (m+1)).symm.trans HG.out);clear ho5;go_wp2_with (fail);go_ret;exact ⟨rfl,H5.out⟩
     |false=>
      have c5:=Q0c H5.out ho5;have hlf5:=HF5.out ho5;unfold Q3k at HG;have hg:=HG.out;clear HG
      rw[Q0B] at hg
      have HG:=LH hg;clear hg;have hg:=HG.out;clear HG
      rw[ho5] at hg
      have HG:=LH hg;clear hg;have hg:=HG.out;clear HG
      rw[if_neg Bool.false_ne_true] at hg
      have HG:=LH hg;clear hg;clear ho5;go_wp2_with (fail);with_reducible refine (Q0F x d J _).mono ?_
      rintro e w6 ⟨rfl,rfl⟩;obtain ⟨v6,s6,g6⟩:=Q0k (Q0e (Q06 x d J)) s5;have HL6:=LH (Q0i g6);have hg:=HG.out;clear HG
      rw[Q01,g6] at hg
      have HG:=LH hg;clear hg;obtain ⟨b6,d6⟩:=Q0b g6 (Q04 (Q0r x d J)) d5;have hb60:=b6.lo;have hb61:=b6.hi;have G6:=LH g6;clear g6;go_wp2_with (fail);with_reducible refine (Q0d F rb w0 s5 s6 v6 (Q06 x d J) _ H5.out d5 G6.out).mono ?_
      rintro e w6 ⟨rfl,h6⟩;have H6:=LH h6;clear h6 H5 G6 c5;have hg:=HG.out;clear HG
      rw[Q0B] at hg
      have HG:=LH hg;clear hg;have hJb:i64B J:=⟨by omega,by omega⟩;have HJB:=LH hJb;clear hJb
      cases ho6:s6.off with
      |true=>
       have c6:=Q0c H6.out ho6;have hg:=HG.out;clear HG
       rw[ho6] at hg
       have HG:=LH hg;clear hg;have hg:=HG.out;clear HG
       rw[if_pos (.inr rfl)] at hg
       have HG:=LH hg;clear hg;clear ho6;by_cases kc:v6=0
       ·have e6:(v6 !=0)=false:=by simpa using kc
        clear kc;go_wp2_with (fail)
        go_roundw
        case rel=>unfold Q3m;exact ⟨J+1,m,s6,by go_num,by omega,by omega,fun _=>by have:=HL6.out;omega,H6.out,d6,HG.out⟩
        case measure=>simp[intOf];omega
       ·have e6:(v6 !=0)=true:=by simpa using kc
        clear kc;go_wp2_with (fail)
        go_roundw
        case rel=>unfold Q3m;exact ⟨J+1,m,s6,by go_num,by omega,by omega,fun _=>by have:=HL6.out;omega,H6.out,d6,HG.out⟩
        case measure=>simp[intOf];omega
      |false=>
       have c6:=Q0c H6.out ho6;have hg:=HG.out;clear HG
       rw[ho6] at hg
       have HG:=LH hg;clear hg;clear ho6;by_cases kc:v6=0
       ·have e6:(v6 !=0)=false:=by simpa using kc
        have hg:=HG.out;clear HG
        rw[if_neg (fun e=>e.elim (fun e=>e kc) Bool.false_ne_true)] at hg
        have HG:=LH hg;clear hg;clear kc;obtain ⟨v7,s7,g7⟩:=Q0k (Q5r f t n x d J) s6;have HL7:=LH (Q0i g7);have hg:=HG.out;clear HG
        rw[Q01,g7] at hg
        have HG:=LH hg;clear hg;obtain ⟨_,d7⟩:=Q0b g7 (Q3O t0 t1) d6;have G7:=LH g7;clear g7;go_wp2_with (fail);with_reducible refine (Q4u F rb w0 f t n x d J s6 s7 v7 _ H6.out d6 HN.out HJB.out t0 t1 (fun _=>by have:=HL6.out;omega) G7.out).mono ?_
        rintro e w7 ⟨rfl,h7⟩;have H7:=LH h7;clear h7 H6 G7 c6
        cases v7 with
        |false=>
         have hg:=HG.out;clear HG
         rw[if_pos rfl] at hg
         have HG:=LH hg;clear hg;obtain ⟨rfl,rfl⟩:=Prod.mk.inj HG.out;go_wp2_with (fail);go_ret;exact ⟨rfl,H7.out⟩
        |true=>
         have hg:=HG.out;clear HG
         rw[if_neg (fun e=>Bool.noConfusion e)] at hg
         have HG:=LH hg;clear hg;go_wp2_with (fail)
         go_roundw
         case rel=>unfold Q3m;exact ⟨J+1,m,s7,by go_num,by omega,by omega,fun _=>by have:=HL6.out;have:=HL7.out;omega,H7.out,d7,HG.out⟩
         case measure=>simp[intOf];omega
       ·have e6:(v6 !=0)=true:=by simpa using kc
        have hg:=HG.out;clear HG
        rw[if_pos (.inl kc)] at hg
        have HG:=LH hg;clear hg;clear kc;go_wp2_with (fail)
        go_roundw
        case rel=>unfold Q3m;exact ⟨J+1,m,s6,by go_num,by omega,by omega,fun _=>by have:=HL6.out;omega,H6.out,d6,HG.out⟩
        case measure=>simp[intOf];omega
    ·have hm0:m=0:=by omega
     subst hm0;obtain ⟨rfl,rfl⟩:=Prod.mk.inj HG.out;go_wp2_with (fail);go_ret;exact ⟨rfl,H5.out⟩
  |false=>
   have c2:=Q0c H1.out ho;have HO:=LH ho;have hlt:=HFZ.out ho;have hlf:=HF1.out ho;obtain ⟨fz,rfl⟩:∃k,fz=k+1:=⟨fz-1,by omega⟩;unfold Q2N at GC;have hg2:=GC.out;clear GC
   rw[Q0B,ho,if_neg Bool.false_ne_true] at hg2
   clear ho;obtain ⟨i2,s2,g2⟩:=Q0k (Qed (wrap64 (at_+4)) 1) s1;have hl2:=QgG g2 HO.out d1;have HT2:=LH (Q0v g2)
   rw[Q01,g2] at hg2
   have GC:=LH hg2;clear hg2;obtain ⟨b2,d2⟩:=Q0b g2 (Q82 (Q0l _) Q10) d1;have G2:=LH g2;have hb20:=b2.lo;have hb21:=b2.hi;have HB2:=LH b2;clear g2 b2;go_wp2_with (fail);with_reducible refine (QaD F rb w0 s1 s2 i2 (wrap64 (at_+4)) 1 _ H1.out d1 G2.out).mono ?_
   rintro e w2 ⟨rfl,h2⟩;have H2:=LH h2;have H1r:=H1;clear h2 H1 G2 c2;by_cases kd:d<=i2
   ·have gg:=GC.out;clear GC
    rw[if_pos kd] at gg
    obtain ⟨rfl,rfl⟩:=Prod.mk.inj gg;have hg:=HG.out;clear HG
    rw[if_neg (fun e=>Bool.noConfusion e)] at hg
    have HG:=LH hg;clear hg;go_wp2_with (fail)
    go_loopw [13] (fun iv wr=>Q3m F rb w0 f t n x d v s' iv wr) (fun iv _=>(d-intOf iv).toNat)
    case atStart=>unfold Q3m;exact ⟨0,d.toNat,s2,rfl,by omega,by omega,fun _=>by omega,H2.out,d2,HG.out⟩
    case round=>
     clear H2 HG;obtain ⟨J,m,s5,rfl,hJ0,hm,hf5,h5,d5,g5⟩:=hrel;have H5:=LH h5;have HG:=LH g5;have HF5:=LH hf5;clear h5 g5 hf5;by_cases hJ:J<d
     ·obtain ⟨m,rfl⟩:∃k,m=k+1:=⟨m-1,by omega⟩
      cases ho5:s5.off with
      |true=>
       have c5:=Q0c H5.out ho5;obtain ⟨rfl,rfl⟩:=Prod.mk.inj ((Q4Q ho5 (m+1)).symm.trans HG.out);clear ho5;go_wp2_with (fail);go_ret;exact ⟨rfl,H5.out⟩
      |false=>
       have c5:=Q0c H5.out ho5;have hlf5:=HF5.out ho5;unfold Q3k at HG;have hg:=HG.out;clear HG
       rw[Q0B] at hg
       have HG:=LH hg;clear hg;have hg:=HG.out;clear HG
       rw[ho5] at hg
       have HG:=LH hg;clear hg;have hg:=HG.out;clear HG
       rw[if_neg Bool.false_ne_true] at hg
       have HG:=LH hg;clear hg;clear ho5;go_wp2_with (fail);with_reducible refine (Q0F x d J _).mono ?_
       rintro e w6 ⟨rfl,rfl⟩;obtain ⟨v6,s6,g6⟩:=Q0k (Q0e (Q06 x d J)) s5;have HL6:=LH (Q0i g6);have hg:=HG.out;clear HG
       rw[Q01,g6] at hg
       have HG:=LH hg;clear hg;obtain ⟨b6,d6⟩:=Q0b g6 (Q04 (Q0r x d J)) d5;have hb60:=b6.lo;have hb61:=b6.hi;have G6:=LH g6;clear g6;go_wp2_with (fail);with_reducible refine (Q0d F rb w0 s5 s6 v6 (Q06 x d J) _ H5.out d5 G6.out).mono ?_
       rintro e w6 ⟨rfl,h6⟩;have H6:=LH h6;clear h6 H5 G6 c5;have hg:=HG.out;clear HG
       rw[Q0B] at hg
       have HG:=LH hg;clear hg;have hJb:i64B J:=⟨by omega,by omega⟩;have HJB:=LH hJb;clear hJb
       cases ho6:s6.off with
       |true=>
        have c6:=Q0c H6.out ho6;have hg:=HG.out;clear HG
        rw[ho6] at hg
        have HG:=LH hg;clear hg;have hg:=HG.out;clear HG
        rw[if_pos (.inr rfl)] at hg
        have HG:=LH hg;clear hg;clear ho6;by_cases kc:v6=0
        ·have e6:(v6 !=0)=false:=by simpa using kc
         clear kc;go_wp2_with (fail)
         go_roundw
         case rel=>unfold Q3m;exact ⟨J+1,m,s6,by go_num,by omega,by omega,fun _=>by have:=HL6.out;omega,H6.out,d6,HG.out⟩
         case measure=>simp[intOf];omega
        ·have e6:(v6 !=0)=true:=by simpa using kc
         clear kc;go_wp2_with (fail)
         go_roundw
         case rel=>unfold Q3m;exact ⟨J+1,m,s6,by go_num,by omega,by omega,fun _=>by have:=HL6.out;omega,H6.out,d6,HG.out⟩
         case measure=>simp[intOf];omega
       |false=>
        have c6:=Q0c H6.out ho6;have hg:=HG.out;clear HG
        rw[ho6] at hg
        have HG:=LH hg;clear hg;clear ho6;by_cases kc:v6=0
        ·have e6:(v6 !=0)=false:=by simpa using kc
         have hg:=HG.out;clear HG
         rw[if_neg (fun e=>e.elim (fun e=>e kc) Bool.false_ne_true)] at hg
         have HG:=LH hg;clear hg;clear kc;obtain ⟨v7,s7,g7⟩:=Q0k (Q5r f t n x d J) s6;have HL7:=LH (Q0i g7);have hg:=HG.out;clear HG
         rw[Q01,g7] at hg
         have HG:=LH hg;clear hg;obtain ⟨_,d7⟩:=Q0b g7 (Q3O t0 t1) d6;have G7:=LH g7;clear g7;go_wp2_with (fail);with_reducible refine (Q4u F rb w0 f t n x d J s6 s7 v7 _ H6.out d6 HN.out HJB.out t0 t1 (fun _=>by have:=HL6.out;omega) G7.out).mono ?_
         rintro e w7 ⟨rfl,h7⟩;have H7:=LH h7;clear h7 H6 G7 c6
         cases v7 with
         |false=>
          have hg:=HG.out;clear HG
          rw[if_pos rfl] at hg
          have HG:=LH hg;clear hg;obtain ⟨rfl,rfl⟩:=Prod.mk.inj HG.out;go_wp2_with (fail);go_ret;exact ⟨rfl,H7.out⟩
         |true=>
          have hg:=HG.out;clear HG
          rw[if_neg (fun e=>Bool.noConfusion e)] at hg
          have HG:=LH hg;clear hg;go_wp2_with (fail)
          go_roundw
          case rel=>unfold Q3m;exact ⟨J+1,m,s7,by go_num,by omega,by omega,fun _=>by have:=HL6.out;have:=HL7.out;omega,H7.out,d7,HG.out⟩
          case measure=>simp[intOf];omega
        ·have e6:(v6 !=0)=true:=by simpa using kc
         have hg:=HG.out;clear HG
         rw[if_pos (.inl kc)] at hg
         have HG:=LH hg;clear hg;clear kc;go_wp2_with (fail)
         go_roundw
         case rel=>unfold Q3m;exact ⟨J+1,m,s6,by go_num,by omega,by omega,fun _=>by have:=HL6.out;omega,H6.out,d6,HG.out⟩
         case measure=>simp[intOf];omega
     ·have hm0:m=0:=by omega
      subst hm0;obtain ⟨rfl,rfl⟩:=Prod.mk.inj HG.out;go_wp2_with (fail);go_ret;exact ⟨rfl,H5.out⟩
   ·have gg:=GC.out;clear GC
    rw[if_neg kd,Q0B] at gg
    have hkd:i2<d:=by omega
    cases ho2:s2.off with
    |true=>
     have c2:=Q0c H2.out ho2
     rw[ho2,if_pos rfl] at gg
     obtain ⟨rfl,rfl⟩:=Prod.mk.inj gg;have hg:=HG.out;clear HG
     rw[if_neg (fun e=>Bool.noConfusion e)] at hg
     have HG:=LH hg;clear hg;clear ho2;go_wp2_with (fail)
     go_loopw [13] (fun iv wr=>Q3m F rb w0 f t n x d v s' iv wr) (fun iv _=>(d-intOf iv).toNat)
     case atStart=>unfold Q3m;exact ⟨0,d.toNat,s2,rfl,by omega,by omega,fun _=>by omega,H2.out,d2,HG.out⟩
     case round=>
      clear H2 HG;obtain ⟨J,m,s5,rfl,hJ0,hm,hf5,h5,d5,g5⟩:=hrel;have H5:=LH h5;have HG:=LH g5;have HF5:=LH hf5;clear h5 g5 hf5;by_cases hJ:J<d
      ·obtain ⟨m,rfl⟩:∃k,m=k+1:=⟨m-1,by omega⟩
       cases ho5:s5.off with
       |true=>
        have c5:=Q0c H5.out ho5;obtain ⟨rfl,rfl⟩:=Prod.mk.inj ((Q4Q ho5 (m+1)).symm.trans HG.out);clear ho5;go_wp2_with (fail);go_ret;exact ⟨rfl,H5.out⟩
       |false=>
        have c5:=Q0c H5.out ho5;have hlf5:=HF5.out ho5;unfold Q3k at HG;have hg:=HG.out;clear HG
        rw[Q0B] at hg
        have HG:=LH hg;clear hg;have hg:=HG.out;clear HG
        rw[ho5] at hg
        have HG:=LH hg;clear hg;have hg:=HG.out;clear HG
        rw[if_neg Bool.false_ne_true] at hg
        have HG:=LH hg;clear hg;clear ho5;go_wp2_with (fail);with_reducible refine (Q0F x d J _).mono ?_
        rintro e w6 ⟨rfl,rfl⟩;obtain ⟨v6,s6,g6⟩:=Q0k (Q0e (Q06 x d J)) s5;have HL6:=LH (Q0i g6);have hg:=HG.out;clear HG
        rw[Q01,g6] at hg
        have HG:=LH hg;clear hg;obtain ⟨b6,d6⟩:=Q0b g6 (Q04 (Q0r x d J)) d5;have hb60:=b6.lo;have hb61:=b6.hi;have G6:=LH g6;clear g6;go_wp2_with (fail);with_reducible refine (Q0d F rb w0 s5 s6 v6 (Q06 x d J) _ H5.out d5 G6.out).mono ?_
        rintro e w6 ⟨rfl,h6⟩;have H6:=LH h6;clear h6 H5 G6 c5;have hg:=HG.out;clear HG
        rw[Q0B] at hg
        have HG:=LH hg;clear hg;have hJb:i64B J:=⟨by omega,by omega⟩;have HJB:=LH hJb;clear hJb
        cases ho6:s6.off with
        |true=>
         have c6:=Q0c H6.out ho6;have hg:=HG.out;clear HG
         rw[ho6] at hg
         have HG:=LH hg;clear hg;have hg:=HG.out;clear HG
         rw[if_pos (.inr rfl)] at hg
         have HG:=LH hg;clear hg;clear ho6;by_cases kc:v6=0
         ·have e6:(v6 !=0)=false:=by simpa using kc
          clear kc;go_wp2_with (fail)
          go_roundw
          case rel=>unfold Q3m;exact ⟨J+1,m,s6,by go_num,by omega,by omega,fun _=>by have:=HL6.out;omega,H6.out,d6,HG.out⟩
          case measure=>simp[intOf];omega
         ·have e6:(v6 !=0)=true:=by simpa using kc
          clear kc;go_wp2_with (fail)
          go_roundw
          case rel=>unfold Q3m;exact ⟨J+1,m,s6,by go_num,by omega,by omega,fun _=>by have:=HL6.out;omega,H6.out,d6,HG.out⟩
          case measure=>simp[intOf];omega
        |false=>
         have c6:=Q0c H6.out ho6;have hg:=HG.out;clear HG
         rw[ho6] at hg
         have HG:=LH hg;clear hg;clear ho6;by_cases kc:v6=0
         ·have e6:(v6 !=0)=false:=by simpa using kc
          have hg:=HG.out;clear HG
          rw[if_neg (fun e=>e.elim (fun e=>e kc) Bool.false_ne_true)] at hg
          have HG:=LH hg;clear hg;clear kc;obtain ⟨v7,s7,g7⟩:=Q0k (Q5r f t n x d J) s6;have HL7:=LH (Q0i g7);have hg:=HG.out;clear HG
          rw[Q01,g7] at hg
          have HG:=LH hg;clear hg;obtain ⟨_,d7⟩:=Q0b g7 (Q3O t0 t1) d6;have G7:=LH g7;clear g7;go_wp2_with (fail);with_reducible refine (Q4u F rb w0 f t n x d J s6 s7 v7 _ H6.out d6 HN.out HJB.out t0 t1 (fun _=>by have:=HL6.out;omega) G7.out).mono ?_
          rintro e w7 ⟨rfl,h7⟩;have H7:=LH h7;clear h7 H6 G7 c6
          cases v7 with
          |false=>
           have hg:=HG.out;clear HG
           rw[if_pos rfl] at hg
           have HG:=LH hg;clear hg;obtain ⟨rfl,rfl⟩:=Prod.mk.inj HG.out;go_wp2_with (fail);go_ret;exact ⟨rfl,H7.out⟩
          |true=>
           have hg:=HG.out;clear HG
           rw[if_neg (fun e=>Bool.noConfusion e)] at hg
           have HG:=LH hg;clear hg;go_wp2_with (fail)
           go_roundw
           case rel=>unfold Q3m;exact ⟨J+1,m,s7,by go_num,by omega,by omega,fun _=>by have:=HL6.out;have:=HL7.out;omega,H7.out,d7,HG.out⟩
           case measure=>simp[intOf];omega
         ·have e6:(v6 !=0)=true:=by simpa using kc
          have hg:=HG.out;clear HG
          rw[if_pos (.inl kc)] at hg
          have HG:=LH hg;clear hg;clear kc;go_wp2_with (fail)
          go_roundw
          case rel=>unfold Q3m;exact ⟨J+1,m,s6,by go_num,by omega,by omega,fun _=>by have:=HL6.out;omega,H6.out,d6,HG.out⟩
          case measure=>simp[intOf];omega
      ·have hm0:m=0:=by omega
       subst hm0;obtain ⟨rfl,rfl⟩:=Prod.mk.inj HG.out;go_wp2_with (fail);go_ret;exact ⟨rfl,H5.out⟩
    |false=>
     have c2:=Q0c H2.out ho2
     rw[ho2,if_neg Bool.false_ne_true] at gg
     clear ho2;obtain ⟨v3,s3,g3⟩:=Q0k (Q5r fz t n x d i2) s2;have HL3:=LH (Q0i g3);have HT3:=LH (Q0v g3)
     rw[Q01,g3] at gg
     have GC:=LH gg;clear gg;obtain ⟨_,d3⟩:=Q0b g3 (Q3O t0 t1) d2;have G3:=LH g3;clear g3;go_wp2_with (fail);with_reducible refine (Q4u F rb w0 fz t n x d i2 s2 s3 v3 _ H2.out d2 HN.out HB2.out t0 t1 (fun _=>by omega) G3.out).mono ?_
     rintro e w3 ⟨rfl,h3⟩;have H3:=LH h3;clear h3 H2 G3 c2
     cases v3 with
     |false=>
      have gg:=GC.out
      rw[if_pos rfl] at gg
      obtain ⟨rfl,rfl⟩:=Prod.mk.inj gg;have hg:=HG.out;clear HG
      rw[if_pos rfl] at hg
      have HG:=LH hg;clear hg;obtain ⟨rfl,rfl⟩:=Prod.mk.inj HG.out;go_wp2_with (fail);go_ret;exact ⟨rfl,H3.out⟩
     |true=>
      have gg:=GC.out;clear GC
      rw[if_neg (fun e=>Bool.noConfusion e)] at gg
      have GC:=LH gg;clear gg;go_wp2_with (fail)
      go_roundw
      case rel=>unfold Qe2;exact ⟨fz,s3,fun _=>by have:=HL3.out;omega,fun _=>by have:=HL3.out;omega,by rw[HT3.out,HT2.out,HT1.out],H3.out,d3,GC.out⟩
      case measure=>
       have e3:=Q0u H3.out;have e1:=Q0u H1r.out
       rw[HT3.out,HT2.out,HT1.out] at e3
       rw[HT1.out] at e1
       have:=HL3.out;omega
end
theorem Q0X {α:Type} {p:Prog α} {s s':RunS} {v:α} (h:p.go s=(v,s')) (ho:s.off=true):s'.off=true:=by rw[Q7r h ho];exact ho
section
variable (F:Nat->Prop) (rb:Nat) (w0:World)
theorem Q6O (f:Nat) (at_:Int) (s0 s':RunS) (v:Bool) (w:World) (h:RAt F rb w0 s0 w) (d0:s0.Bd) (hat:i64B at_) (hf:s0.off=false->s0.left<f) (hg:(Q2A f at_).go s0=(v,s')):
  Calls Tryz.prog 206 #[.pointer (some ⟨rb,0,none⟩),.int .i64 at_] w (Q5C F rb w0 v s'):=by
 unfold Q2A at hg;have ha0:=hat.lo;have ha1:=hat.hi
 have hfl:s0.left<f+1:=by
  cases ho:s0.off with
  |true=>unfold RunS.left;rw[ho];simp
  |false=>have:=hf ho;omega
 have hfo:∀s:RunS,s.left<=s0.left->(s0.off=true->s.off=true)->s.off=false->s.left<f:=fun s h1 h2 h3=>by
  cases ho:s0.off with
  |true=>rw[h2 ho] at h3;cases h3
  |false=>have:=hf ho;omega
 have HFO:=LH hfo;have HAT:=LH hat;have HG:=LH hg;have H0:=LH h;clear hg h;clear hf hfl hfo hat;have HL0:Hid (s0.left<=s0.left):=LH (Nat.le_refl _);have HO0:Hid (s0.off=true->s0.off=true):=LH id;go_enter Tryz.func206,Tryz.ntmps206;obtain ⟨v1,s1,g1⟩:=Q0k (Q0e at_) s0;have HL1:=LH (Nat.le_trans (Q0i g1) HL0.out);have HO1:=LH (fun e:s0.off=true=>Q0X g1 (HO0.out e));have hg:=HG.out;clear HG
 rw[Q01,g1] at hg
 have HG:=LH hg;clear hg;obtain ⟨b1,d1⟩:=Q0b g1 (Q04 HAT.out) d0;have G1:=LH g1;clear g1;go_wp2_with (fail);with_reducible refine (Q0d F rb w0 s0 s1 v1 at_ _ H0.out d0 G1.out).mono ?_
 rintro e w1 ⟨rfl,h1⟩;have H1:=LH h1;clear h1 H0 G1;obtain ⟨t0,t1⟩:=Q0D v1;go_wp2_with (fail);with_reducible refine (Q0x v1 _ b1.lo b1.hi).mono ?_
 rintro e w2 ⟨rfl,rfl⟩;obtain ⟨v2,s2,g2⟩:=Q0k (Q2v f (wAt v1)) s1;have HL2:=LH (Nat.le_trans (Q0i g2) HL1.out);have HO2:=LH (fun e:s0.off=true=>Q0X g2 (HO1.out e));have hg:=HG.out;clear HG
 rw[Q01,g2] at hg
 have HG:=LH hg;clear hg;obtain ⟨b2,d2⟩:=Q0b g2 (Q3P f _ t0 t1) d1;have G2:=LH g2;clear g2;go_wp2_with (fail);with_reducible refine ((Qd0 F rb w0 f).use s1 s2 v2 (wAt v1) _ H1.out d1 (HFO.out _ HL1.out HO1.out) t0 t1 G2.out).mono ?_
 rintro e w2 ⟨rfl,h2⟩;have H2:=LH h2;clear h2 H1 G2;generalize wAt v1=t at HG t0 t1|-;have hn0:=b2.lo;have hn1:=b2.hi;have HN:=LH b2;clear b2 b1;go_wp2_with (fail);obtain ⟨v3,s3,g3⟩:=Q0k (Q0e (wrap64 (at_+3))) s2;have HL3:=LH (Nat.le_trans (Q0i g3) HL2.out);have HO3:=LH (fun e:s0.off=true=>Q0X g3 (HO2.out e));have hg:=HG.out;clear HG
 rw[Q01,g3] at hg
 have HG:=LH hg;clear hg;obtain ⟨b3,d3⟩:=Q0b g3 (Q04 (Q0l _)) d2;have G3:=LH g3;clear g3;go_wp2_with (fail);with_reducible refine (Q0d F rb w0 s2 s3 v3 (wrap64 (at_+3)) _ H2.out d2 G3.out).mono ?_
 rintro e w3 ⟨rfl,h3⟩;have H3:=LH h3;clear h3 H2 G3;have hg:=HG.out;clear HG
 rw[Q0B] at hg
 have HG:=LH hg;clear hg
 cases ho3:s3.off with
 |true=>
  have c3:=Q0c H3.out ho3;have hg:=HG.out;clear HG
  rw[ho3] at hg
  have HG:=LH hg;clear hg;have hg:=HG.out;clear HG
  rw[if_pos rfl] at hg
  have HG:=LH hg;clear hg;clear ho3;obtain ⟨rfl,rfl⟩:=Prod.mk.inj HG.out;go_wp2_with (fail);go_ret;exact ⟨rfl,H3.out⟩
 |false=>
  have c3:=Q0c H3.out ho3;have hg:=HG.out;clear HG
  rw[ho3] at hg
  have HG:=LH hg;clear hg;have hg:=HG.out;clear HG
  rw[if_neg Bool.false_ne_true] at hg
  have HG:=LH hg;clear hg;clear ho3;have hb30:=b3.lo;have hb31:=b3.hi;have HB3:=LH b3;clear b3;by_cases kz:v3=0
  ·have e3:(v3==0)=true:=by simpa using kz
   have hg:=HG.out;clear HG
   rw[Q01,if_pos kz] at hg
   clear kz;obtain ⟨⟨r1,r2⟩,s4,g4⟩:=Q0k (Qe6 f t v2) s3;have HL4:=LH (Nat.le_trans (Q0i g4) HL3.out);have HO4:=LH (fun e:s0.off=true=>Q0X g4 (HO3.out e));obtain ⟨b4,d4⟩:=Q0b g4 (Qch t0 t1 HN.out) d3;have hbr:i64B r1:=b4;have HBR:=LH hbr
   rw[Q01,g4] at hg
   have HG:=LH hg;have G4:=LH g4;clear g4 hg b4 hbr;go_wp2_with (fail);with_reducible refine (Qei F rb w0 f t v2 s3 s4 (r1,r2) _ H3.out d3 HN.out t0 t1 (HFO.out _ HL3.out HO3.out) G4.out).mono ?_
   rintro e w4 ⟨rfl,h4⟩;have H4:=LH h4;clear h4 H3 G4 c3
   cases r2 with
   |false=>
    have hg:=HG.out;clear HG;have hg:(Prog.ret false).go s4=(v,s'):=hg;have HG:=LH hg;clear hg;obtain ⟨rfl,rfl⟩:=Prod.mk.inj HG.out;go_wp2_with (fail);go_ret;exact ⟨rfl,H4.out⟩
   |true=>
    have hg:=HG.out;clear HG;obtain ⟨v5,s5,g5⟩:=Q0k (Q33 (wrap64 (at_+3)) 0 r1) s4;obtain ⟨v6,s6,g6⟩:=Q0k (Q0e (wrap64 (at_+3))) s5
    have eX:(if (true=false) then Prog.ret ((0:Int),false) else (Q33 (wrap64 (at_+3)) 0 r1).bind fun _=>(Q0e (wrap64 (at_+3))).bind fun w'=>.ret (w',true)).go s4=((v6,true),s6):=by
     rw[if_neg (fun e=>Bool.noConfusion e),Q01,g5,Q01,g6];rfl
    rw[eX] at hg
    have hg:(((if 2<=v2 then Q2u f at_ t v2 (wAt v6) else .ret true).bind fun ok=>if ok=false then .ret false else
     (Q0e (wrap64 (at_+1))).bind fun g=>(Q0e (wrap64 (at_+2))).bind fun s=>(Q1m 0 g s (wOf 4 at_) v6).bind fun o=>.ret (o !=3))).go s6=(v,s'):=hg
    have HG:=LH hg;have HL6:=LH (Nat.le_trans (Q0i g6) (Nat.le_trans (Q0i g5) HL4.out));have HO6:=LH (fun e:s0.off=true=>Q0X g6 (Q0X g5 (HO4.out e)));obtain ⟨b5,d5⟩:=Q0b g5 (Q1j (Q0l _) Q0f HBR.out) d4;obtain ⟨b6,d6⟩:=Q0b g6 (Q04 (Q0l _)) d5;have G5:=LH g5;have G6:=LH g6;clear g5 g6 hg eX;go_wp2_with (fail);with_reducible refine (Q1g F rb w0 s4 s5 v5 (wrap64 (at_+3)) 0 r1 _ H4.out d4 G5.out).mono ?_
    rintro e w5 ⟨rfl,h5⟩;have H5:=LH h5;clear h5 H4 G5;go_wp2_with (fail);with_reducible refine (Q0d F rb w0 s5 s6 v6 (wrap64 (at_+3)) _ H5.out d5 G6.out).mono ?_
    rintro e w6 ⟨rfl,h6⟩;have H6:=LH h6;clear h6 H5 G6;by_cases k2:2<=v2
    ·have hg:=HG.out;clear HG
     rw[Q01,if_pos k2] at hg
     obtain ⟨vp,sp,gp⟩:=Q0k (Q2u f at_ t v2 (wAt v6)) s6
     rw[gp] at hg
     have HG:=LH hg;obtain ⟨_,dp⟩:=Q0b gp (Q5Z t0 t1) d6;have GP:=LH gp;clear hg gp;go_wp2_with (fail);with_reducible refine (Q0x v6 _ b6.lo b6.hi).mono ?_
     rintro e wz ⟨rfl,rfl⟩;go_wp2_with (fail);with_reducible refine (Q6S F rb w0 f at_ t v2 (wAt v6) s6 sp vp _ H6.out d6 HAT.out HN.out t0 t1 (HFO.out _ HL6.out HO6.out) GP.out).mono ?_
     rintro e wp ⟨rfl,hp⟩;have HP:=LH hp;clear hp H6 GP
     cases vp with
     |false=>
      have hg:=HG.out;clear HG
      rw[if_pos rfl] at hg
      have HG:=LH hg;clear hg;obtain ⟨rfl,rfl⟩:=Prod.mk.inj HG.out;go_wp2_with (fail);go_ret;exact ⟨rfl,HP.out⟩
     |true=>
      have hg:=HG.out;clear HG
      rw[if_neg (fun e=>Bool.noConfusion e)] at hg
      have HG:=LH hg;clear hg;obtain ⟨v8,s8,g8⟩:=Q0k (Q0e (wrap64 (at_+1))) sp;obtain ⟨b8,d8⟩:=Q0b g8 (Q04 (Q0l _)) dp;obtain ⟨v9,s9,g9⟩:=Q0k (Q0e (wrap64 (at_+2))) s8;obtain ⟨b9,d9⟩:=Q0b g9 (Q04 (Q0l _)) d8;obtain ⟨vd,sd,gd⟩:=Q0k (Q1m 0 v8 v9 (wOf 4 at_) v6) s9;have hg:=HG.out;clear HG
      rw[Q01,g8,Q01,g9,Q01,gd] at hg
      have HG:=LH hg;obtain ⟨bd,dd⟩:=Q0b gd (Q1p b8 b9 (Q0M _ _) b6) d9;have G8:=LH g8;have G9:=LH g9;have GD:=LH gd;have hvd0:=bd.1;have hvd1:=bd.2;clear hg g8 g9 gd;go_wp2_with (fail);with_reducible refine (Q0d F rb w0 sp s8 v8 (wrap64 (at_+1)) _ HP.out dp G8.out).mono ?_
      rintro e w8 ⟨rfl,h8⟩;have H8:=LH h8;clear h8 HP G8;go_wp2_with (fail);with_reducible refine (Q0d F rb w0 s8 s9 v9 (wrap64 (at_+2)) _ H8.out d8 G9.out).mono ?_
      rintro e w9 ⟨rfl,h9⟩;have H9:=LH h9;clear h9 H8 G9;go_wp2_with (fail);with_reducible refine (Q0I 4 at_ _).mono ?_
      rintro e wz ⟨rfl,rfl⟩;go_wp2_with (fail);with_reducible refine (Q1t F rb w0 s9 sd vd 0 v8 v9 (wOf 4 at_) v6 _ H9.out d9 GD.out b8 b9 (Q0M _ _) b6).mono ?_
      rintro e wd ⟨rfl,hd⟩;have HD:=LH hd;clear hd H9 GD;obtain ⟨rfl,rfl⟩:=Prod.mk.inj HG.out;go_wp2_with (fail);go_ret;exact ⟨rfl,HD.out⟩
    ·have hg:=HG.out;clear HG
     rw[Q01,if_neg k2] at hg
     have hg:((Q0e (wrap64 (at_+1))).bind fun g=>(Q0e (wrap64 (at_+2))).bind fun s=>(Q1m 0 g s (wOf 4 at_) v6).bind fun o=>.ret (o !=3)).go s6=(v,s'):=hg;have HG:=LH hg;clear hg;obtain ⟨v8,s8,g8⟩:=Q0k (Q0e (wrap64 (at_+1))) s6;obtain ⟨b8,d8⟩:=Q0b g8 (Q04 (Q0l _)) d6;obtain ⟨v9,s9,g9⟩:=Q0k (Q0e (wrap64 (at_+2))) s8;obtain ⟨b9,d9⟩:=Q0b g9 (Q04 (Q0l _)) d8;obtain ⟨vd,sd,gd⟩:=Q0k (Q1m 0 v8 v9 (wOf 4 at_) v6) s9;have hg:=HG.out;clear HG
     rw[Q01,g8,Q01,g9,Q01,gd] at hg
     have HG:=LH hg;obtain ⟨bd,dd⟩:=Q0b gd (Q1p b8 b9 (Q0M _ _) b6) d9;have G8:=LH g8;have G9:=LH g9;have GD:=LH gd;have hvd0:=bd.1;have hvd1:=bd.2;clear hg g8 g9 gd;go_wp2_with (fail);with_reducible refine (Q0d F rb w0 s6 s8 v8 (wrap64 (at_+1)) _ H6.out d6 G8.out).mono ?_
     rintro e w8 ⟨rfl,h8⟩;have H8:=LH h8;clear h8 H6 G8;go_wp2_with (fail);with_reducible refine (Q0d F rb w0 s8 s9 v9 (wrap64 (at_+2)) _ H8.out d8 G9.out).mono ?_
     rintro e w9 ⟨rfl,h9⟩;have H9:=LH h9;clear h9 H8 G9;go_wp2_with (fail);with_reducible refine (Q0I 4 at_ _).mono ?_
     rintro e wz ⟨rfl,rfl⟩;go_wp2_with (fail);with_reducible refine (Q1t F rb w0 s9 sd vd 0 v8 v9 (wOf 4 at_) v6 _ H9.out d9 GD.out b8 b9 (Q0M _ _) b6).mono ?_
     rintro e wd ⟨rfl,hd⟩;have HD:=LH hd;clear hd H9 GD;obtain ⟨rfl,rfl⟩:=Prod.mk.inj HG.out;go_wp2_with (fail);go_ret;exact ⟨rfl,HD.out⟩
  ·have e3:(v3==0)=false:=by simpa using kz
   have hg:=HG.out;clear HG
   rw[Q01,if_neg kz] at hg
   clear kz
   have hg:(((if 2<=v2 then Q2u f at_ t v2 (wAt v3) else .ret true).bind fun ok=>if ok=false then .ret false else
    (Q0e (wrap64 (at_+1))).bind fun g=>(Q0e (wrap64 (at_+2))).bind fun s=>(Q1m 0 g s (wOf 4 at_) v3).bind fun o=>.ret (o !=3))).go s3=(v,s'):=hg
   have HG:=LH hg;have b3:=HB3.out;clear hg HB3;by_cases k2:2<=v2
   ·have hg:=HG.out;clear HG
    rw[Q01,if_pos k2] at hg
    obtain ⟨vp,sp,gp⟩:=Q0k (Q2u f at_ t v2 (wAt v3)) s3
    rw[gp] at hg
    have HG:=LH hg;obtain ⟨_,dp⟩:=Q0b gp (Q5Z t0 t1) d3;have GP:=LH gp;clear hg gp;go_wp2_with (fail);with_reducible refine (Q0x v3 _ b3.lo b3.hi).mono ?_
    rintro e wz ⟨rfl,rfl⟩;go_wp2_with (fail);with_reducible refine (Q6S F rb w0 f at_ t v2 (wAt v3) s3 sp vp _ H3.out d3 HAT.out HN.out t0 t1 (HFO.out _ HL3.out HO3.out) GP.out).mono ?_
    rintro e wp ⟨rfl,hp⟩;have HP:=LH hp;clear hp H3 GP
    cases vp with
    |false=>
     have hg:=HG.out;clear HG
     rw[if_pos rfl] at hg
     have HG:=LH hg;clear hg;obtain ⟨rfl,rfl⟩:=Prod.mk.inj HG.out;go_wp2_with (fail);go_ret;exact ⟨rfl,HP.out⟩
    |true=>
     have hg:=HG.out;clear HG
     rw[if_neg (fun e=>Bool.noConfusion e)] at hg
     have HG:=LH hg;clear hg;obtain ⟨v8,s8,g8⟩:=Q0k (Q0e (wrap64 (at_+1))) sp;obtain ⟨b8,d8⟩:=Q0b g8 (Q04 (Q0l _)) dp;obtain ⟨v9,s9,g9⟩:=Q0k (Q0e (wrap64 (at_+2))) s8;obtain ⟨b9,d9⟩:=Q0b g9 (Q04 (Q0l _)) d8;obtain ⟨vd,sd,gd⟩:=Q0k (Q1m 0 v8 v9 (wOf 4 at_) v3) s9;have hg:=HG.out;clear HG
     rw[Q01,g8,Q01,g9,Q01,gd] at hg
     have HG:=LH hg;obtain ⟨bd,dd⟩:=Q0b gd (Q1p b8 b9 (Q0M _ _) b3) d9;have G8:=LH g8;have G9:=LH g9;have GD:=LH gd;have hvd0:=bd.1;have hvd1:=bd.2;clear hg g8 g9 gd;go_wp2_with (fail);with_reducible refine (Q0d F rb w0 sp s8 v8 (wrap64 (at_+1)) _ HP.out dp G8.out).mono ?_
     rintro e w8 ⟨rfl,h8⟩;have H8:=LH h8;clear h8 HP G8;go_wp2_with (fail);with_reducible refine (Q0d F rb w0 s8 s9 v9 (wrap64 (at_+2)) _ H8.out d8 G9.out).mono ?_
     rintro e w9 ⟨rfl,h9⟩;have H9:=LH h9;clear h9 H8 G9;go_wp2_with (fail);with_reducible refine (Q0I 4 at_ _).mono ?_
     rintro e wz ⟨rfl,rfl⟩;go_wp2_with (fail);with_reducible refine (Q1t F rb w0 s9 sd vd 0 v8 v9 (wOf 4 at_) v3 _ H9.out d9 GD.out b8 b9 (Q0M _ _) b3).mono ?_
     rintro e wd ⟨rfl,hd⟩;have HD:=LH hd;clear hd H9 GD;obtain ⟨rfl,rfl⟩:=Prod.mk.inj HG.out;go_wp2_with (fail);go_ret;exact ⟨rfl,HD.out⟩
   ·have hg:=HG.out;clear HG
    rw[Q01,if_neg k2] at hg
    have hg:((Q0e (wrap64 (at_+1))).bind fun g=>(Q0e (wrap64 (at_+2))).bind fun s=>(Q1m 0 g s (wOf 4 at_) v3).bind fun o=>.ret (o !=3)).go s3=(v,s'):=hg;have HG:=LH hg;clear hg;obtain ⟨v8,s8,g8⟩:=Q0k (Q0e (wrap64 (at_+1))) s3;obtain ⟨b8,d8⟩:=Q0b g8 (Q04 (Q0l _)) d3;obtain ⟨v9,s9,g9⟩:=Q0k (Q0e (wrap64 (at_+2))) s8;obtain ⟨b9,d9⟩:=Q0b g9 (Q04 (Q0l _)) d8;obtain ⟨vd,sd,gd⟩:=Q0k (Q1m 0 v8 v9 (wOf 4 at_) v3) s9;have hg:=HG.out;clear HG
    rw[Q01,g8,Q01,g9,Q01,gd] at hg
    have HG:=LH hg;obtain ⟨bd,dd⟩:=Q0b gd (Q1p b8 b9 (Q0M _ _) b3) d9;have G8:=LH g8;have G9:=LH g9;have GD:=LH gd;have hvd0:=bd.1;have hvd1:=bd.2;clear hg g8 g9 gd;go_wp2_with (fail);with_reducible refine (Q0d F rb w0 s3 s8 v8 (wrap64 (at_+1)) _ H3.out d3 G8.out).mono ?_
    rintro e w8 ⟨rfl,h8⟩;have H8:=LH h8;clear h8 H3 G8;go_wp2_with (fail);with_reducible refine (Q0d F rb w0 s8 s9 v9 (wrap64 (at_+2)) _ H8.out d8 G9.out).mono ?_
    rintro e w9 ⟨rfl,h9⟩;have H9:=LH h9;clear h9 H8 G9;go_wp2_with (fail);with_reducible refine (Q0I 4 at_ _).mono ?_
    rintro e wz ⟨rfl,rfl⟩;go_wp2_with (fail);with_reducible refine (Q1t F rb w0 s9 sd vd 0 v8 v9 (wOf 4 at_) v3 _ H9.out d9 GD.out b8 b9 (Q0M _ _) b3).mono ?_
    rintro e wd ⟨rfl,hd⟩;have HD:=LH hd;clear hd H9 GD;obtain ⟨rfl,rfl⟩:=Prod.mk.inj HG.out;go_wp2_with (fail);go_ret;exact ⟨rfl,HD.out⟩
end
structure RB (F:Nat->Prop) (rb:Nat) (w0:World) (s:RunS) (eb:Nat) (t:TypeId) (cs:Array Value) (w:World):Prop where
 run:RAt F rb w0 s w
 blk:Blk w eb t cs
 ne:t≠145
section
variable {F:Nat->Prop} {rb eb:Nat} {w0 w w':World} {s s':RunS} {t:TypeId} {cs:Array Value}
theorem RB.here (h:RB F rb w0 s eb t cs w):RAt (fun y=>F y\/w0.heap.size<=y) rb w s w:=h.run.here
theorem RB.run_ (h:RB F rb w0 s eb t cs w) (h':RAt (fun y=>F y\/w0.heap.size<=y) rb w s' w'):RB F rb w0 s' eb t cs w':=⟨h.run.step h',h.run.keepB h'.2 h.blk h.ne,h.ne⟩
theorem RB.below (h:RB F rb w0 s eb t cs w) (hb:Below w.heap.size w w'):RB F rb w0 s eb t cs w':=⟨h.run.below hb,h.blk.below hb h.blk.lt,h.ne⟩
theorem RB.drew (h:RB F rb w0 s eb t cs w):RB F rb w0 s eb t cs w.drew:=h.below (Q08 (Drawn.of w 1) _)
theorem RB.new (h:RAt F rb w0 s w) (t:TypeId) (cs:Array Value) (ht:t≠145):RB F rb w0 s w.heap.size t cs (w.alloc (.cells cs t)):=⟨h.below ((Below.refl _ _).alloc (Nat.le_refl _) _),Blk.new w t cs,ht⟩
theorem RB.fresh (h:RB F rb w0 s eb t cs w):w0.heap.size<=w.heap.size:=h.run.2.size
end
section
variable (F:Nat->Prop) (rb:Nat) (w0:World)
theorem Qb1 (f:Nat) (e:Entry) (s0 s':RunS) (v:Bool) (w:World) (h:RAt F rb w0 s0 w) (d0:s0.Bd) (he:e.B) (hf:s0.off=false->s0.left<f) (hg:(Q4j f e).go s0=(v,s')):
  Calls Tryz.prog 207 #[.pointer (some ⟨rb,0,none⟩),.agg #[.int .i64 e.node,.int .i64 e.slot,.int .i64 e.word]] w (Q5C F rb w0 v s'):=by
 obtain ⟨nd,sl,wd⟩:=e;obtain ⟨b0,b1,b2⟩:=he;have b0:i64B nd:=b0;have b1:i64B sl:=b1;have b2:i64B wd:=b2;have n0:=b0.lo;have n1:=b0.hi
 have hg:((Q1G (Q16 wd (wrap64 (nd+2)) sl) 0).bind fun a=>if a<=0 then .ret false else
  (Q1m 0 (wrap64 (nd+2)) sl wd (wOf 4 a)).bind fun o=>if o=1 then Q2A f a else if o=3 then .ret false else .ret true).go s0=(v,s'):=hg
 obtain ⟨v1,s1,g1⟩:=Q0k (Q1G (Q16 wd (wrap64 (nd+2)) sl) 0) s0
 rw[Q01,g1] at hg
 have HL1:=LH (Q0i g1);have HO1:=LH (fun e:s0.off=true=>Q0X g1 e)
 obtain ⟨bv1,d1⟩:=Q0b g1 (Q19 (by
  intro y hy;simp[Q16] at hy
  rcases hy with rfl|rfl|rfl|rfl|rfl<;>first|exact b2|exact b1|exact Q0l _|exact Q0f) (by simp[Q16])) d0
 have v10:=bv1.lo;have v11:=bv1.hi;have G1:=LH g1;have HG:=LH hg;have H0:=LH (RB.new h 46 #[.int .i64 nd,.int .i64 sl,.int .i64 wd] (by decide));have c0:(w.alloc (.cells #[.int .i64 nd,.int .i64 sl,.int .i64 wd] 46)).cell? ⟨w.heap.size,0,none⟩=some (.int .i64 nd):=H0.out.blk.cell 0;have c1:(w.alloc (.cells #[.int .i64 nd,.int .i64 sl,.int .i64 wd] 46)).cell? ⟨w.heap.size,1,none⟩=some (.int .i64 sl):=H0.out.blk.cell 1;have c2:(w.alloc (.cells #[.int .i64 nd,.int .i64 sl,.int .i64 wd] 46)).cell? ⟨w.heap.size,2,none⟩=some (.int .i64 wd):=H0.out.blk.cell 2;have HF:=LH hf;have HBV:=LH bv1;clear g1 hg h hf bv1;go_enter Tryz.func207,Tryz.ntmps207;go_wp2_with (fail);generalize w.alloc (.cells #[.int .i64 nd,.int .i64 sl,.int .i64 wd] 46)=w1 at H0 c0 c1 c2|-;generalize w.heap.size=eb at H0 c0 c1 c2|-;go_wp2_with (fail);with_reducible refine (Q7w wd (wrap64 (nd+2)) sl _).mono ?_
 rintro e wa ⟨qv,rfl,hq,hqb⟩;have HQ:=LH (Q0Z hq (Nat.zero_le _));have HN:=LH (fun g (hg:qv.ownBlock=some g)=>(hq.lt g hg).1);have HR:=LH (H0.out.here.below hqb);clear hq hqb c0 c1 c2;go_wp2_with (fail);with_reducible refine (Q1x _ rb _ s0 s1 v1 (Q16 wd (wrap64 (nd+2)) sl) 0 qv _ HR.out d0 HQ.out HN.out G1.out).mono ?_
 rintro e w2 ⟨rfl,h2⟩;have H2:=LH (H0.out.run_ h2);clear h2 H0 HR HQ HN G1;by_cases k1:v1<=0
 ·have e1:decide (0<v1)=false:=decide_eq_false (by omega);have hg:=HG.out;clear HG
  rw[if_pos k1] at hg
  have HG:=LH hg;clear hg;obtain ⟨rfl,rfl⟩:=Prod.mk.inj HG.out
  rw[e1]
  clear e1 k1;go_wp2_with (fail);go_ret;exact ⟨rfl,H2.out.run⟩
 ·have e1:decide (0<v1)=true:=decide_eq_true (by omega);have hg:=HG.out;clear HG
  rw[if_neg k1] at hg
  have HG:=LH hg;clear hg
  rw[e1]
  clear e1;obtain ⟨vd,s3,g3⟩:=Q0k (Q1m 0 (wrap64 (nd+2)) sl wd (wOf 4 v1)) s1;have HL3:=LH (Q0i g3);have HO3:=LH (fun e:s1.off=true=>Q0X g3 e);have hg:=HG.out;clear HG
  rw[Q01,g3] at hg
  have HG:=LH hg;obtain ⟨bd,d3⟩:=Q0b g3 (Q1p (Q0l _) b1 b2 (Q0M _ _)) d1;have G3:=LH g3;have hvd0:=bd.1;have hvd1:=bd.2;clear hg g3;have HD:=LH H2.out.drew;have K0:Hid (w2.drew.cell? ⟨eb,0,none⟩=some (.int .i64 nd)/\w2.drew.cell? ⟨eb,1,none⟩=some (.int .i64 sl)/\w2.drew.cell? ⟨eb,2,none⟩=some (.int .i64 wd)):=LH ⟨HD.out.blk.cell 0,HD.out.blk.cell 1,HD.out.blk.cell 2⟩;have t0:w2.drew.cell? ⟨eb,0,none⟩=some (.int .i64 nd):=K0.out.1;have t1:w2.drew.cell? ⟨eb,1,none⟩=some (.int .i64 sl):=K0.out.2.1;have t2:w2.drew.cell? ⟨eb,2,none⟩=some (.int .i64 wd):=K0.out.2.2
  have hfo:s3.off=false->s3.left<f:=fun h=>by
   cases ho:s0.off with
   |true=>rw[HO3.out (HO1.out ho)] at h;cases h
   |false=>have:=HF.out ho;have:=HL1.out;have:=HL3.out;omega
  have ewr:IntKind.i64.wrap (nd+2)=wrap64 (nd+2):=by rw[IntKind.wrap_i64];unfold wrap64;omega
  have G3w:=LH (show (Q1m 0 (IntKind.i64.wrap (nd+2)) sl wd (wOf 4 v1)).go s1=(vd,s3) by rw[ewr];exact G3.out);have BW:=LH (show i64B (IntKind.i64.wrap (nd+2)) by rw[ewr];exact Q0l _);clear ewr G3;have HFO:=LH hfo;have B1:=LH b1;have B2:=LH b2;clear hfo b1 b2;go_wp2_with (fail)
  go_region_held3 (fun w'=>w'.cell? ⟨eb,0,none⟩=some (.int .i64 nd)/\w'.cell? ⟨eb,1,none⟩=some (.int .i64 sl)/\w'.cell? ⟨eb,2,none⟩=some (.int .i64 wd)) (first|go_keep|exact K0.out|exact K1.out) (first|(go_at_call 228;(with_reducible refine (Q0I 4 v1 _).mono ?_);rintro e w5 ⟨rfl,rfl⟩)|(go_at_call 197;(with_reducible refine (Q1t _ rb _ s1 s3 vd 0 (IntKind.i64.wrap (nd+2)) sl wd (wOf 4 v1) _ HD.out.here d1 G3w.out BW.out B1.out B2.out (Q0M _ _)).mono ?_);rintro e w6 ⟨rfl,h6⟩;have H6:=LH (HD.out.run_ h6);have K1:Hid (w6.cell? ⟨eb,0,none⟩=some (.int .i64 nd)/\w6.cell? ⟨eb,1,none⟩=some (.int .i64 sl)/\w6.cell? ⟨eb,2,none⟩=some (.int .i64 wd)):=LH ⟨H6.out.blk.cell 0,H6.out.blk.cell 1,H6.out.blk.cell 2⟩;clear h6))
  all_goals
   by_cases ko:vd=1
   ·have eo:(vd==1)=true:=by simpa using ko
    have hg:=HG.out;clear HG
    rw[if_pos ko] at hg
    have HG:=LH hg;clear hg;clear ko;go_wp2_with (fail);with_reducible refine (Q6O F rb w0 f v1 s3 s' v _ H6.out.run d3 HBV.out HFO.out HG.out).mono ?_
    rintro e w7 ⟨rfl,h7⟩;have H7:=LH h7;clear h7;go_wp2_with (fail);go_ret;exact ⟨rfl,H7.out⟩
   ·have eo:(vd==1)=false:=by simpa using ko
    have hg:=HG.out;clear HG
    rw[if_neg ko] at hg
    have HG:=LH hg;clear hg;clear ko;by_cases k3:vd=3
    ·have e3:(vd==3)=true:=by simpa using k3
     have hg:=HG.out;clear HG
     rw[if_pos k3] at hg
     have HG:=LH hg;clear hg;clear k3;obtain ⟨rfl,rfl⟩:=Prod.mk.inj HG.out;go_wp2_with (fail);go_ret;exact ⟨rfl,H6.out.run⟩
    ·have e3:(vd==3)=false:=by simpa using k3
     have hg:=HG.out;clear HG
     rw[if_neg k3] at hg
     have HG:=LH hg;clear hg;clear k3;obtain ⟨rfl,rfl⟩:=Prod.mk.inj HG.out;go_wp2_with (fail);go_ret;exact ⟨rfl,H6.out.run⟩
end
def Q3D:List Entry->List Value
 |[]=>[]
 |e::l=>.int .i64 e.node::.int .i64 e.slot::.int .i64 e.word::Q3D l
instance:Inhabited Entry:=⟨⟨0,0,0⟩⟩
def ent (l:List Entry) (i:Nat):Entry:=l.getD i ⟨0,0,0⟩
theorem Q9e:∀(l:List Entry) (i:Nat),i<l.length->(Q3D l)[i*3]? =some (.int .i64 (ent l i).node)/\(Q3D l)[i*3+1]? =some (.int .i64 (ent l i).slot)/\(Q3D l)[i*3+1+1]? =some (.int .i64 (ent l i).word)
 |[],i,h=>absurd h (by simp)
 |e::l,0,h=>⟨rfl,rfl,rfl⟩
 |e::l,i+1,h=>by
  have:=Q9e l i (by simpa using h)
  rw[show (i+1)*3=i*3+3 by omega]
  exact this
theorem Q4C:∀a b:List Entry,Q3D (a++b)=Q3D a++Q3D b
 |[],b=>rfl
 |e::a,b=>by show _::_::_::Q3D (a++b)=_;rw[Q4C a b];rfl
def Q3I (w:World) (B:Nat) (A:Option Addr) (l:List Entry):Prop:=Reads w B 3 A l.length (Q3D l)
theorem Reads.chg_ {F:Nat->Prop} {w w':World} {B size n:Nat} {A:Option Addr} {xs:List Value} (h:Reads w B size A n xs) (m:Chg F w w') (hB:B<=w.heap.size) (hA:∀ad,A=some ad->¬F ad.block):Reads w' B size A n xs:=
 ⟨h.1,fun hn=>by
  obtain ⟨ad,e,hb,hc⟩:=h.2 hn;refine ⟨ad,e,hb,fun j u hu=>(World.cell?_of_block (m.block _ (by rw[Q0O];omega) (by rw[Q0O];exact hA ad e))).trans (hc j u hu)⟩⟩
theorem Qdt {w:World} {B:Nat} {A:Option Addr} {l:List Entry} (h:Q3I w B A l) {i:Nat} (hi:i<l.length):∃ad,A=some ad/\ad.block<B/\w.cell? (ad.add (i*3))=some (.int .i64 (ent l i).node)/\w.cell? {block:=(ad.add (i*3)).block,off:=(ad.add (i*3)).off+1}=some (.int .i64 (ent l i).slot)/\w.cell? {block:=(ad.add (i*3)).block,off:=(ad.add (i*3)).off+2}=some (.int .i64 (ent l i).word):=by
 obtain ⟨ad,e,hb,hc⟩:=h.2 (by omega);obtain ⟨c0,c1,c2⟩:=Q9e l i hi;have k0:=hc _ _ c0;have k1:=hc _ _ c1;have k2:=hc _ _ c2
 rw[show i*3+1+1=i*3+2 by omega,<-Addr.add_add] at k2
 rw[<-Addr.add_add] at k1;exact ⟨ad,e,hb,k0,k1,k2⟩
theorem Qdu {l:List Entry} {i:Nat} (hi:i<l.length):ent l i∈l:=by
 unfold ent;rw[List.getD_eq_getElem?_getD,List.getElem?_eq_getElem hi];exact List.getElem_mem hi
theorem Qf0 {l:List Entry} {i:Nat} (hi:i<l.length):l.drop i=ent l i::l.drop (i+1):=by
 rw[List.drop_eq_getElem_cons hi]
 unfold ent;rw[List.getD_eq_getElem?_getD,List.getElem?_eq_getElem hi];rfl
theorem Q9q {f:Nat} {s:RunS} (h:s.off=true):∀(l:List Entry) (fo:Option Entry),(Q0J f l fo).go s=((),s)
 |[],fo=>by unfold Q0J;rw[Q0B,if_pos h];rfl
 |e::l,fo=>by unfold Q0J;rw[Q0B,if_pos h];rfl
section
variable (F:Nat->Prop) (rb:Nat) (w0:World)
def QfE (l:List Entry) (k:Int) (fo:Option Entry):Prop:=(k=-1/\fo=none)\/∃n:Nat,k=n/\n<l.length/\fo=some (ent l n)
def Q9j (f:Nat) (l:List Entry) (A:Option Addr) (s':RunS) (fv iv:Value) (wr:World):Prop:=∃(j:Nat) (k:Int) (fo:Option Entry) (s:RunS),fv=.int .i64 k/\iv=.int .i64 j/\j<=l.length/\QfE l k fo/\(s.off=false->s.left<f)/\RAt F rb w0 s wr/\s.Bd/\Q3I wr wr.heap.size A l/\(Q0J f (l.drop j) fo).go s=((),s')
theorem Q2R (f:Nat) (l:List Entry) (A:Option Addr) (c:Nat) (s0 s':RunS) (w:World) (h:RAt F rb w0 s0 w) (d0:s0.Bd) (hb:∀e∈l,e.B) (hq:Q3I w w.heap.size A l) (hA:∀ad,A=some ad->ad.block≠rb) (hl:l.length<=2000000000) (hf:s0.off=false->s0.left<f) (hg:(Q0J f l none).go s0=((),s')):
  Calls Tryz.prog 208 #[.pointer (some ⟨rb,0,none⟩),.slice A l.length c] w fun e w'=>e=.returned (.tuple #[])/\RAt F rb w0 s' w':=by
 have HG:=LH hg;have H0:=LH h;have HLB:=LH hb;have HQ:=LH hq;have HA:=LH hA;have HF:=LH hf;clear hg h hb hq hA hf;go_enter Tryz.func208,Tryz.ntmps208;go_wp2_with (fail)
 go_loopw [4,5] (fun fv iv wr=>Q9j F rb w0 f l A s' fv iv wr) (fun _ iv _=>l.length-(intOf iv).toNat)
 case atStart=>unfold Q9j;exact ⟨0,-1,none,s0,rfl,rfl,by omega,.inl ⟨rfl,rfl⟩,HF.out,H0.out,d0,HQ.out,HG.out⟩
 case round=>
  obtain ⟨j,k,fo,s1,rfl,rfl,j1,hfi,hf1,h1,d1,hq1,hg1⟩:=hrel;clear H0 HG d0 HQ HF;have H1:=LH h1;have HQ1:=LH hq1;have HF1:=LH hf1;have HFI:=LH hfi;clear h1 hq1 hf1 hfi;by_cases hlt:j<l.length
  ·have hlt':(j:Int)<(l.length:Int):=by omega
   rw[Qf0 hlt] at hg1
   have HG:=LH hg1;clear hg1
   cases ho:s1.off with
   |true=>
    have c2:=Q0c H1.out ho;obtain ⟨-,rfl⟩:=Prod.mk.inj ((Q9q ho _ _).symm.trans HG.out);clear ho;by_cases hk:0<=k
    ·go_wp2_with (fail)
     go_end0
     exact ⟨rfl,H1.out⟩
    ·go_wp2_with (fail)
     go_end0
     exact ⟨rfl,H1.out⟩
   |false=>
    have c2:=Q0c H1.out ho;have HO:=LH ho;have hlf:=HF1.out ho;unfold Q0J at HG;have hg:=HG.out;clear HG
    rw[Q0B] at hg
    have HG:=LH hg;clear hg;have hg:=HG.out;clear HG
    rw[ho] at hg
    have HG:=LH hg;clear hg;have hg:=HG.out;clear HG
    rw[if_neg Bool.false_ne_true] at hg
    have HG:=LH hg;clear hg;clear ho;obtain ⟨ad,rfl,hab,k0,k1,k2⟩:=Qdt HQ1.out hlt;have be:=HLB.out _ (Qdu hlt);have bw0:=be.word.lo;have bw1:=be.word.hi;obtain ⟨wa0,wa1⟩:=Q0D (ent l j).word;clear k0 k1 be;generalize hwd:(ent l j).word=wd at HG k2 bw0 bw1 wa0 wa1|-;clear hwd;go_wp2_with (fail);with_reducible refine (Q0x wd _ bw0 bw1).mono ?_
    rintro e w2 ⟨rfl,rfl⟩;clear k2;obtain ⟨v3,s3,g3⟩:=Q0k (Qed (wAt wd+3) 1) s1;have HL3:=LH (Q0i g3);obtain ⟨b3,d3⟩:=Q0b g3 (Q82 (Q2I wa0 wa1 (by decide) (by decide)) Q10) d1;obtain ⟨v4,s4,g4⟩:=Q0k (Q0e (wAt wd+1)) s3;have HL4:=LH (Q0i g4);obtain ⟨b4,d4⟩:=Q0b g4 (Q04 (Q2I wa0 wa1 (by decide) (by decide))) d3;have hg:=HG.out;clear HG
    rw[Q01,g3,Q01,g4] at hg
    have HG:=LH hg;have G3:=LH g3;have G4:=LH g4;have hb30:=b3.lo;have hb31:=b3.hi;have hb40:=b4.lo;have hb41:=b4.hi;have hz:=HA.out ad rfl;clear hg g3 g4;go_wp2_with (fail);with_reducible refine (QaD _ rb _ s1 s3 v3 (wAt wd+3) 1 _ H1.out.here d1 G3.out).mono ?_
    rintro e w3 ⟨rfl,h3⟩;have HQ3:=LH ((HQ1.out.chg_ h3.2 (Nat.le_refl _) HA.out).more h3.2.size);have H3:=LH (H1.out.step h3);clear h3 H1 HQ1 G3;go_wp2_with (fail);with_reducible refine (Q0d _ rb _ s3 s4 v4 (wAt wd+1) _ H3.out.here d3 G4.out).mono ?_
    rintro e w4 ⟨rfl,h4⟩;have HQ4:Hid (Q3I w4 w4.heap.size (some ad) l):=LH ((HQ3.out.chg_ h4.2 (Nat.le_refl _) HA.out).more h4.2.size);have H4:=LH (H3.out.step h4);clear h4 H3 HQ3 G4
    rcases HFI.out with ⟨rfl,rfl⟩|⟨n,rfl,hn,rfl⟩
    ·go_wp2_with (fail);with_reducible refine (Q8y v4 _ hb40 hb41).mono ?_
     rintro e w5 ⟨rfl,rfl⟩;by_cases kl:Q5m v4<=wrap64 (v3+1)
     ·have hg:=HG.out;clear HG
      rw[if_pos ⟨rfl,kl⟩] at hg
      have HG:=LH hg;clear hg;have hfn:QfE l j (some (ent l j)):=.inr ⟨j,rfl,hlt,rfl⟩;go_wp2_with (fail)
      go_roundw
      case rel=>unfold Q9j;exact ⟨j+1,(j:Int),some (ent l j),s4,rfl,by go_num,by omega,hfn,fun _=>by have:=HL3.out;have:=HL4.out;omega,H4.out,d4,HQ4.out,HG.out⟩
      case measure=>simp[intOf];omega
     ·have hg:=HG.out;clear HG
      rw[if_neg (fun e=>kl e.2)] at hg
      have HG:=LH hg;clear hg;have kl2:wrap64 (v3+1)<Q5m v4:=by omega
      go_wp2_with (fail)
      go_roundw
      case rel=>unfold Q9j;exact ⟨j+1,-1,none,s4,rfl,by go_num,by omega,.inl ⟨rfl,rfl⟩,fun _=>by have:=HL3.out;have:=HL4.out;omega,H4.out,d4,HQ4.out,HG.out⟩
      case measure=>simp[intOf];omega
    ·have hg:=HG.out;clear HG
     rw[if_neg (fun e=>Bool.noConfusion e.1)] at hg
     have HG:=LH hg;clear hg;have hn0:¬(n:Int)<0:=by omega
     go_wp2_with (fail)
     go_roundw
     case rel=>unfold Q9j;exact ⟨j+1,(n:Int),some (ent l n),s4,rfl,by go_num,by omega,.inr ⟨n,rfl,hn,rfl⟩,fun _=>by have:=HL3.out;have:=HL4.out;omega,H4.out,d4,HQ4.out,HG.out⟩
     case measure=>simp[intOf];omega
  ·have e:j=l.length:=by omega
   subst e
   rw[List.drop_length] at hg1
   have HG:=LH hg1;clear hg1;unfold Q0J at HG;have hg:=HG.out;clear HG
   rw[Q0B] at hg
   have HG:=LH hg;clear hg
   cases ho:s1.off with
   |true=>
    have c2:=Q0c H1.out ho;have hg:=HG.out;clear HG
    rw[ho] at hg
    have HG:=LH hg;clear hg;have hg:=HG.out;clear HG
    rw[if_pos rfl] at hg
    have HG:=LH hg;clear hg;clear ho;obtain ⟨-,rfl⟩:=Prod.mk.inj HG.out;by_cases hk:0<=k
    ·go_wp2_with (fail)
     go_end0
     exact ⟨rfl,H1.out⟩
    ·go_wp2_with (fail)
     go_end0
     exact ⟨rfl,H1.out⟩
   |false=>
    have c2:=Q0c H1.out ho;have hlf:=HF1.out ho;have hg:=HG.out;clear HG
    rw[ho] at hg
    have HG:=LH hg;clear hg;have hg:=HG.out;clear HG
    rw[if_neg Bool.false_ne_true] at hg
    have HG:=LH hg;clear hg;clear ho
    rcases HFI.out with ⟨rfl,rfl⟩|⟨n,rfl,hn,rfl⟩
    ·obtain ⟨-,rfl⟩:=Prod.mk.inj HG.out;go_wp2_with (fail)
     go_end0
     exact ⟨rfl,H1.out⟩
    ·have hn0:0<=(n:Int):=by omega
     have hnl:(n:Int)<(l.length:Int):=by omega
     obtain ⟨ad,rfl,hab,k0,k1,k2⟩:=Qdt HQ1.out hn;have BE:=LH (HLB.out _ (Qdu hn));generalize ent l n=e at HG k0 k1 k2 BE|-;obtain ⟨vb,s3,g3⟩:=Q0k (Q4j f e) s1;have hg:=HG.out;clear HG;have hg:((Q4j f e).bind fun _=>Prog.ret ()).go s1=((),s'):=hg
     rw[Q01,g3] at hg
     have G3:=LH g3;obtain ⟨-,rfl⟩:=Prod.mk.inj hg;clear hg g3;go_wp2_with (fail);with_reducible refine (Qb1 F rb w0 f e s1 s3 vb _ H1.out d1 BE.out (fun _=>hlf) G3.out).mono ?_
     rintro e w3 ⟨rfl,h3⟩;have H3:=LH h3;clear h3;go_wp2_with (fail)
     go_end0
     exact ⟨rfl,H3.out⟩
end
theorem Q70 (n:Int) (A1 A2:Option Addr) (N1 N2 c1 c2:Nat) (q c:List Int) (w:World) (h1:N1=q.length) (h2:N2=c.length) (hq:IntsAt w w.heap.size A1 q) (hc:IntsAt w w.heap.size A2 c) (hl1:q.length<=1000) (hl2:c.length<=1000):
  Calls Tryz.prog 241 #[.int .i64 n,.slice A1 N1 c1,.slice A2 N2 c2] w (Q86 (Q12 n q c) w):=by
 subst h1;subst h2;exact Q2w n A1 A2 c1 c2 q c w hq hc hl1 hl2
theorem Qhh (w:World) (a:Int):IntsAt (w.alloc (.cells #[.int .i64 a] 2)) (w.alloc (.cells #[.int .i64 a] 2)).heap.size (some ⟨w.heap.size,0,none⟩) [a]:=(Q2a w 2 [a]).more (by simp)
theorem Qhg (w:World) (a b:Int):IntsAt (w.alloc (.cells #[.int .i64 a,.int .i64 b] 2)) (w.alloc (.cells #[.int .i64 a,.int .i64 b] 2)).heap.size (some ⟨w.heap.size,0,none⟩) [a,b]:=(Q2a w 2 [a,b]).more (by simp)
section
variable (F:Nat->Prop) (rb:Nat) (w0:World)
attribute [local go_sem] Q4X
theorem Q2j (o:Op) (wd q:Int) (leaf there:Bool) (s0 s':RunS) (v:Int×Bool) (w:World) (h:RAt F rb w0 s0 w) (d0:s0.Bd) (ho:o.B) (hk:i64B o.kind) (hw:i64B wd) (hq:i64B q) (hg:(Q1w o wd q leaf there).go s0=(v,s')):
  Calls Tryz.prog 272 #[.pointer (some ⟨rb,0,none⟩),.agg #[.int .i64 o.kind,.int .i64 o.key,.int .i64 o.val],.int .i64 wd,.int .i64 q,.bool leaf,.bool there] w (Q84 F rb w0 v s'):=by
 obtain ⟨kind,key,val⟩:=o;obtain ⟨bk,bv⟩:=ho;have bk:i64B key:=bk;have bv:i64B val:=bv
 have hg:(if kind=3 then (Q1G [0] 0).bind fun a=>.ret (wOf 1 a,decide (0<a)) else
  (Q1G [key,val] 0).bind fun a=>if ¬0<a\/leaf=false\/there=true then .ret (wOf 2 a,decide (0<a)) else
  (Q1G (Q12 2 [if q<key then key else q] (if key<q then [wOf 2 a,wd] else [wd,wOf 2 a])) 0).bind fun b=>.ret (wOf 3 b,decide (0<b))).go s0=(v,s'):=hg
 have H0:=LH (RB.new h 48 #[.int .i64 kind,.int .i64 key,.int .i64 val] (by decide));have c0:(w.alloc (.cells #[.int .i64 kind,.int .i64 key,.int .i64 val] 48)).cell? ⟨w.heap.size,0,none⟩=some (.int .i64 kind):=H0.out.blk.cell 0;have c1:(w.alloc (.cells #[.int .i64 kind,.int .i64 key,.int .i64 val] 48)).cell? ⟨w.heap.size,1,none⟩=some (.int .i64 key):=H0.out.blk.cell 1;have c2:(w.alloc (.cells #[.int .i64 kind,.int .i64 key,.int .i64 val] 48)).cell? ⟨w.heap.size,2,none⟩=some (.int .i64 val):=H0.out.blk.cell 2;by_cases k3:kind=3
 ·have e3:(kind==3)=true:=by simpa using k3
  rw[if_pos k3] at hg
  clear k3;obtain ⟨v1,s1,g1⟩:=Q0k (Q1G [0] 0) s0
  rw[Q01,g1] at hg
  have HG:=LH hg;obtain ⟨b1,d1⟩:=Q0b g1 (Q19 (Q60 Q0f) (by decide)) d0;have b10:=b1.lo;have b11:=b1.hi;have G1:=LH g1;clear g1 hg h;go_enter Tryz.func272,Tryz.ntmps272;go_wp2_with (fail);generalize w.alloc (.cells #[.int .i64 kind,.int .i64 key,.int .i64 val] 48)=w1 at H0 c0 c1 c2|-;generalize w.heap.size=eb at H0 c0 c1 c2|-;go_wp2_with (fail);with_reducible refine (Q3c _).mono ?_
  rintro e wa ⟨qv,rfl,hq,hqb⟩;have HQ:=LH (Q0Z hq (Nat.zero_le _));have HN:=LH (fun g (hg:qv.ownBlock=some g)=>Nat.le_trans H0.out.fresh (hq.lt g hg).1);have H0a:=LH (H0.out.run.below hqb);clear hq hqb H0;go_wp2_with (fail);with_reducible refine (Q1x F rb w0 s0 s1 v1 [0] 0 qv _ H0a.out d0 HQ.out HN.out G1.out).mono ?_
  rintro e w2 ⟨rfl,h2⟩;have H2:=LH h2;clear h2 H0a HQ HN G1;go_wp2_with (fail);with_reducible refine (Q0I 1 v1 _).mono ?_
  rintro e w3 ⟨rfl,rfl⟩;obtain ⟨rfl,rfl⟩:=Prod.mk.inj HG.out;go_wp2_with (fail)
  go_ret2
  exact ⟨rfl,H2.out⟩
 ·have e3:(kind==3)=false:=by simpa using k3
  rw[if_neg k3] at hg
  clear k3;obtain ⟨v1,s1,g1⟩:=Q0k (Q1G [key,val] 0) s0
  rw[Q01,g1] at hg
  have HG:=LH hg;obtain ⟨b1,d1⟩:=Q0b g1 (Q19 (Q5c bk bv) (by simp)) d0;have b10:=b1.lo;have b11:=b1.hi;have G1:=LH g1;have bk0:=bk.lo;have bk1:=bk.hi;have bq0:=hq.lo;have bq1:=hq.hi;clear g1 hg h;go_enter Tryz.func272,Tryz.ntmps272;go_wp2_with (fail);generalize w.alloc (.cells #[.int .i64 kind,.int .i64 key,.int .i64 val] 48)=w1 at H0 c0 c1 c2|-;generalize w.heap.size=eb at H0 c0 c1 c2|-;go_wp2_with (fail);with_reducible refine (Q4Z key val _).mono ?_
  rintro e wa ⟨qv,rfl,hq,hqb⟩;have HQ:=LH (Q0Z hq (Nat.zero_le _));have HN:=LH (fun g (hg:qv.ownBlock=some g)=>(hq.lt g hg).1);have HR:=LH (H0.out.here.below hqb);clear hq hqb c0 c1 c2;go_wp2_with (fail);with_reducible refine (Q1x _ rb _ s0 s1 v1 [key,val] 0 qv _ HR.out d0 HQ.out HN.out G1.out).mono ?_
  rintro e w2 ⟨rfl,h2⟩;have H2:=LH (H0.out.run_ h2);clear h2 H0 HR HQ HN G1;go_wp2_with (fail);with_reducible refine (Q0I 2 v1 _).mono ?_
  rintro e w3 ⟨rfl,rfl⟩;by_cases kp:0<v1
  ·have ep:decide (0<v1)=true:=decide_eq_true kp
   rw[ep]
   cases leaf with
   |false=>
    have hg:=HG.out;clear HG
    rw[if_pos (.inr (.inl rfl))] at hg
    have HG:=LH hg;clear hg;have hg:=HG.out;clear HG
    rw[ep] at hg
    have HG:=LH hg;clear hg;clear ep;obtain ⟨rfl,rfl⟩:=Prod.mk.inj HG.out;go_wp2_with (fail)
    go_ret2
    exact ⟨rfl,H2.out.run⟩
   |true=>
    cases there with
    |true=>
     have hg:=HG.out;clear HG
     rw[if_pos (.inr (.inr rfl))] at hg
     have HG:=LH hg;clear hg;have hg:=HG.out;clear HG
     rw[ep] at hg
     have HG:=LH hg;clear hg;clear ep;obtain ⟨rfl,rfl⟩:=Prod.mk.inj HG.out;go_wp2_with (fail)
     go_ret2
     exact ⟨rfl,H2.out.run⟩
    |false=>
     have hg:=HG.out;clear HG
     rw[if_neg (show ¬(v1<=0\/true=false\/false=true) from fun e=>e.elim (fun e=>by omega) (fun e=>e.elim (fun e=>Bool.noConfusion e) (fun e=>Bool.noConfusion e)))] at hg
     have HG:=LH hg;clear hg;clear ep;have c1:w2.cell? ⟨eb,1,none⟩=some (.int .i64 key):=H2.out.blk.cell 1;have HM:Hid (i64B (if q<key then key else q)):=LH (Q7Y bk hq);by_cases kq:key<q
     ·have hbA:=(Below.refl w2.heap.size w2).alloc (Nat.le_refl _) (.cells #[.int .i64 wd,.int .i64 (wOf 2 v1)] 2);have HA:=LH (H2.out.below hbA);have hbB:=(Below.refl (w2.alloc (.cells #[.int .i64 wd,.int .i64 (wOf 2 v1)] 2)).heap.size (w2.alloc (.cells #[.int .i64 wd,.int .i64 (wOf 2 v1)] 2))).alloc (Nat.le_refl _) (.cells #[.int .i64 (wOf 2 v1),.int .i64 wd] 2);have HB:=LH (HA.out.below hbB);have cA:(w2.alloc (.cells #[.int .i64 wd,.int .i64 (wOf 2 v1)] 2)).cell? ⟨eb,1,none⟩=some (.int .i64 key):=HA.out.blk.cell 1;have cB:((w2.alloc (.cells #[.int .i64 wd,.int .i64 (wOf 2 v1)] 2)).alloc (.cells #[.int .i64 (wOf 2 v1),.int .i64 wd] 2)).cell? ⟨eb,1,none⟩=some (.int .i64 key):=HB.out.blk.cell 1;have eV:(w2.alloc (.cells #[.int .i64 wd,.int .i64 (wOf 2 v1)] 2)).heap.size=w2.heap.size+1:=by simp
      have HI1:=LH (by have t:=Qhg (w2.alloc (.cells #[.int .i64 wd,.int .i64 (wOf 2 v1)] 2)) (wOf 2 v1) wd;rw[eV] at t;exact t);clear eV;have hg:=HG.out;clear HG
      rw[if_pos kq] at hg
      generalize hmm:(if q<key then key else q)=mm at hg HM;have hbC:=(Below.refl ((w2.alloc (.cells #[.int .i64 wd,.int .i64 (wOf 2 v1)] 2)).alloc (.cells #[.int .i64 (wOf 2 v1),.int .i64 wd] 2)).heap.size ((w2.alloc (.cells #[.int .i64 wd,.int .i64 (wOf 2 v1)] 2)).alloc (.cells #[.int .i64 (wOf 2 v1),.int .i64 wd] 2))).alloc (Nat.le_refl _) (.cells #[.int .i64 mm] 2);have HC:=LH (HB.out.below hbC);have eW:((w2.alloc (.cells #[.int .i64 wd,.int .i64 (wOf 2 v1)] 2)).alloc (.cells #[.int .i64 (wOf 2 v1),.int .i64 wd] 2)).heap.size=w2.heap.size+1+1:=by simp
      have HI2:=LH (by have t:=Qhh ((w2.alloc (.cells #[.int .i64 wd,.int .i64 (wOf 2 v1)] 2)).alloc (.cells #[.int .i64 (wOf 2 v1),.int .i64 wd] 2)) mm;rw[eW] at t;exact t);clear eW;have HI3:=LH ((HI1.out.below hbC).more hbC.size);obtain ⟨v5,s5,g5⟩:=Q0k (Q1G (Q12 2 [mm] [wOf 2 v1,wd]) 0) s1
      rw[Q01,g5] at hg
      have HG:=LH hg;have hiw:=Q1S (n:=2) (q:=[mm]) (c:=[wOf 2 v1,wd]) (fun _=>Q36) (Q60 HM.out) (Q5c (Q0M _ _) hw) (by simp);obtain ⟨b5,d5⟩:=Q0b g5 (Q19 hiw.1 hiw.2) d1;have b50:=b5.lo;have b51:=b5.hi;have G5:=LH g5;have HMM:=LH hmm;clear hg g5 hiw hmm hbA hbC hbB HI1;have hmx:Builtin.max2 (.int .i64 q) (.int .i64 key)=pure (.int .i64 mm):=by rw[Q39,HMM.out]
      go_wp2_with (fail);with_reducible refine (Q70 2 _ _ 1 2 1 2 [mm] [wOf 2 v1,wd] _ rfl rfl HI2.out HI3.out (by simp) (by simp)).mono ?_
      rintro e w6 ⟨qv6,rfl,hq6,hqb6⟩;have HQ6:=LH (Q0Z hq6 (Nat.zero_le _));have HN6:=LH (fun g (hg:qv6.ownBlock=some g)=>Nat.le_trans HC.out.fresh (hq6.lt g hg).1);have H6:=LH (HC.out.run.below hqb6);clear hq6 hqb6 HC HI2 HI3;go_wp2_with (fail);with_reducible refine (Q1x F rb w0 s1 s5 v5 (Q12 2 [mm] [wOf 2 v1,wd]) 0 qv6 _ H6.out d1 HQ6.out HN6.out G5.out).mono ?_
      rintro e w7 ⟨rfl,h7⟩;have H7:=LH h7;clear h7 H6 HQ6 HN6 G5;go_wp2_with (fail);with_reducible refine (Q0I 3 v5 _).mono ?_
      rintro e w8 ⟨rfl,rfl⟩;obtain ⟨rfl,rfl⟩:=Prod.mk.inj HG.out;go_wp2_with (fail)
      go_ret2
      exact ⟨rfl,H7.out⟩
     ·have kq2:q<=key:=by omega
      have hbA:=(Below.refl w2.heap.size w2).alloc (Nat.le_refl _) (.cells #[.int .i64 wd,.int .i64 (wOf 2 v1)] 2);have HA:=LH (H2.out.below hbA);have cA:(w2.alloc (.cells #[.int .i64 wd,.int .i64 (wOf 2 v1)] 2)).cell? ⟨eb,1,none⟩=some (.int .i64 key):=HA.out.blk.cell 1;have HI1:=LH (Qhg w2 wd (wOf 2 v1));have hg:=HG.out;clear HG
      rw[if_neg kq] at hg
      generalize hmm:(if q<key then key else q)=mm at hg HM;have hbC:=(Below.refl (w2.alloc (.cells #[.int .i64 wd,.int .i64 (wOf 2 v1)] 2)).heap.size (w2.alloc (.cells #[.int .i64 wd,.int .i64 (wOf 2 v1)] 2))).alloc (Nat.le_refl _) (.cells #[.int .i64 mm] 2);have HC:=LH (HA.out.below hbC);have eW:(w2.alloc (.cells #[.int .i64 wd,.int .i64 (wOf 2 v1)] 2)).heap.size=w2.heap.size+1:=by simp
      have HI2:=LH (by have t:=Qhh (w2.alloc (.cells #[.int .i64 wd,.int .i64 (wOf 2 v1)] 2)) mm;rw[eW] at t;exact t);clear eW;have HI3:=LH ((HI1.out.below hbC).more hbC.size);obtain ⟨v5,s5,g5⟩:=Q0k (Q1G (Q12 2 [mm] [wd,wOf 2 v1]) 0) s1
      rw[Q01,g5] at hg
      have HG:=LH hg;have hiw:=Q1S (n:=2) (q:=[mm]) (c:=[wd,wOf 2 v1]) (fun _=>Q36) (Q60 HM.out) (Q5c hw (Q0M _ _)) (by simp);obtain ⟨b5,d5⟩:=Q0b g5 (Q19 hiw.1 hiw.2) d1;have b50:=b5.lo;have b51:=b5.hi;have G5:=LH g5;have HMM:=LH hmm;clear hg g5 hiw hmm hbA hbC HI1;have hmx:Builtin.max2 (.int .i64 q) (.int .i64 key)=pure (.int .i64 mm):=by rw[Q39,HMM.out]
      go_wp2_with (fail);with_reducible refine (Q70 2 _ _ 1 2 1 2 [mm] [wd,wOf 2 v1] _ rfl rfl HI2.out HI3.out (by simp) (by simp)).mono ?_
      rintro e w6 ⟨qv6,rfl,hq6,hqb6⟩;have HQ6:=LH (Q0Z hq6 (Nat.zero_le _));have HN6:=LH (fun g (hg:qv6.ownBlock=some g)=>Nat.le_trans HC.out.fresh (hq6.lt g hg).1);have H6:=LH (HC.out.run.below hqb6);clear hq6 hqb6 HC HI2 HI3;go_wp2_with (fail);with_reducible refine (Q1x F rb w0 s1 s5 v5 (Q12 2 [mm] [wd,wOf 2 v1]) 0 qv6 _ H6.out d1 HQ6.out HN6.out G5.out).mono ?_
      rintro e w7 ⟨rfl,h7⟩;have H7:=LH h7;clear h7 H6 HQ6 HN6 G5;go_wp2_with (fail);with_reducible refine (Q0I 3 v5 _).mono ?_
      rintro e w8 ⟨rfl,rfl⟩;obtain ⟨rfl,rfl⟩:=Prod.mk.inj HG.out;go_wp2_with (fail)
      go_ret2
      exact ⟨rfl,H7.out⟩
  ·have ep:decide (0<v1)=false:=decide_eq_false kp
   rw[ep]
   have hg:=HG.out;clear HG
   rw[if_pos (.inl (by omega))] at hg
   have HG:=LH hg;clear hg;have hg:=HG.out;clear HG
   rw[ep] at hg
   have HG:=LH hg;clear hg;clear ep;obtain ⟨rfl,rfl⟩:=Prod.mk.inj HG.out;go_wp2_with (fail)
   go_ret2
   exact ⟨rfl,H2.out.run⟩
end
def Q0W (r:Res):Array Value:=#[.int .i64 r.why,.bool r.found,.int .i64 r.key,.int .i64 r.val,.int .i64 r.n,.slice none 0 0]
def opC (o:Op):Array Value:=#[.int .i64 o.kind,.int .i64 o.key,.int .i64 o.val]
structure RL (F:Nat->Prop) (rb:Nat) (w0:World) (s:RunS) (kb:Nat) (o:Op) (ib:Nat) (r:Res) (ob:Nat) (r2:Res) (w:World):Prop where
 run:RAt F rb w0 s w
 kbk:Blk w kb 48 (opC o)
 ibk:Blk w ib 54 (Q0W r)
 obk:Blk w ob 54 (Q0W r2)
 ni:w0.heap.size<=ib
 no:w0.heap.size<=ob
 ne:ib≠ob
section
variable {F:Nat->Prop} {rb kb ib ob:Nat} {w0 w w':World} {s s':RunS} {o:Op} {r r2:Res}
theorem RL.here (h:RL F rb w0 s kb o ib r ob r2 w):RAt (fun y=>F y\/w0.heap.size<=y) rb w s w:=h.run.here
theorem RL.run_ (h:RL F rb w0 s kb o ib r ob r2 w) (h':RAt (fun y=>F y\/w0.heap.size<=y) rb w s' w'):RL F rb w0 s' kb o ib r ob r2 w':=
 ⟨h.run.step h',h.run.keepB h'.2 h.kbk (by decide),h.run.keepB h'.2 h.ibk (by decide),h.run.keepB h'.2 h.obk (by decide),h.ni,h.no,h.ne⟩
theorem RL.below (h:RL F rb w0 s kb o ib r ob r2 w) (hb:Below w.heap.size w w'):RL F rb w0 s kb o ib r ob r2 w':=
 ⟨h.run.below hb,h.kbk.below hb h.kbk.lt,h.ibk.below hb h.ibk.lt,h.obk.below hb h.obk.lt,h.ni,h.no,h.ne⟩
theorem RL.new (h:RAt F rb w0 s w) (o:Op):RL F rb w0 s w.heap.size o (w.heap.size+1+1) Res.none (w.heap.size+1) Res.none (((w.alloc (.cells (opC o) 48)).alloc (.cells (Q0W Res.none) 54)).alloc (.cells (Q0W Res.none) 54)):=by
 have hb1:=(Below.refl w.heap.size w).alloc (Nat.le_refl _) (.cells (opC o) 48);have e1:(w.alloc (.cells (opC o) 48)).heap.size=w.heap.size+1:=by simp
 have hb2:=(Below.refl (w.alloc (.cells (opC o) 48)).heap.size (w.alloc (.cells (opC o) 48))).alloc (Nat.le_refl _) (.cells (Q0W Res.none) 54);have e2:((w.alloc (.cells (opC o) 48)).alloc (.cells (Q0W Res.none) 54)).heap.size=w.heap.size+1+1:=by simp
 have hb3:=(Below.refl ((w.alloc (.cells (opC o) 48)).alloc (.cells (Q0W Res.none) 54)).heap.size ((w.alloc (.cells (opC o) 48)).alloc (.cells (Q0W Res.none) 54))).alloc (Nat.le_refl _) (.cells (Q0W Res.none) 54);have k1:=Blk.new w 48 (opC o);have k2:=Blk.new (w.alloc (.cells (opC o) 48)) 54 (Q0W Res.none);have k3:=Blk.new ((w.alloc (.cells (opC o) 48)).alloc (.cells (Q0W Res.none) 54)) 54 (Q0W Res.none)
 rw[e1] at k2
 rw[e2] at k3
 have hz:=h.2.size;exact ⟨((h.below hb1).below hb2).below hb3,(k1.below hb2 k1.lt).below hb3 (by rw[e2];omega),k3,k2.below hb3 (by rw[e2];omega),by omega,by omega,by omega⟩
end
section
variable {F:Nat->Prop} {rb kb ib ob:Nat} {w0 w w':World} {s s':RunS} {o:Op} {r r2:Res} {a:Int}
theorem RL.setR (h:RL F rb w0 s kb o ib r ob r2 w) (a:Int):RL F rb w0 s kb o ib r ob r2 (w.setCell ⟨rb,8,none⟩ (.int .i64 a))/\(∃x,w.cell? ⟨rb,8,none⟩=some (.int .i64 x))/\w.frozen? ⟨rb,8,none⟩=false:=by
 obtain ⟨h1,h2,h3⟩:=h.run.setRec a;have hc:=Chg.set1 w rb 8 (.int .i64 a);obtain ⟨⟨tv,wv,rec,laid,hq⟩,_⟩:=h.run;exact ⟨⟨h1,hc.blk h.kbk (fun e=>h.kbk.ne_ hq.blk (by decide) e),hc.blk h.ibk (fun e=>h.ibk.ne_ hq.blk (by decide) e),hc.blk h.obk (fun e=>h.obk.ne_ hq.blk (by decide) e),h.ni,h.no,h.ne⟩,h2,h3⟩
theorem RAt.setLaid (h:RAt F rb w0 s w) (a:Int):RAt F rb w0 s (w.setCell ⟨rb,9,none⟩ (.int .i64 a))/\(∃r,w.cell? ⟨rb,9,none⟩=some (.int .i64 r))/\w.frozen? ⟨rb,9,none⟩=false:=by
 obtain ⟨⟨tv,wv,rec,laid,hp⟩,hc⟩:=h;have hc2:=Chg.of_mv (F:=fun x=>x=rb) (Mv.set1 w rb 9 (.int .i64 a)) rfl;exact ⟨⟨⟨tv,wv,rec,a,hp.fb,hp.blk.set_ 9 _,hc2.own hp.tape (Q0t hp.tape hp.blk (by decide)),hc2.own hp.ws (Q0t hp.ws hp.blk (by decide)),hp.ft,hp.fw⟩,hc.trans hc2⟩,⟨laid,hp.blk.cell 9⟩,hp.blk.frozen 9⟩
theorem RL.laid (h:RL F rb w0 s kb o ib r ob r2 w) (a:Int):RL F rb w0 s kb o ib r ob r2 (w.setCell ⟨rb,9,none⟩ (.int .i64 a))/\(∃x,w.cell? ⟨rb,9,none⟩=some (.int .i64 x))/\w.frozen? ⟨rb,9,none⟩=false:=by
 obtain ⟨h1,h2,h3⟩:=h.run.setLaid a;have hc:=Chg.set1 w rb 9 (.int .i64 a);obtain ⟨⟨tv,wv,rec,laid,hq⟩,_⟩:=h.run;exact ⟨⟨h1,hc.blk h.kbk (fun e=>h.kbk.ne_ hq.blk (by decide) e),hc.blk h.ibk (fun e=>h.ibk.ne_ hq.blk (by decide) e),hc.blk h.obk (fun e=>h.obk.ne_ hq.blk (by decide) e),h.ni,h.no,h.ne⟩,h2,h3⟩
theorem RL.rec8 (h:RL F rb w0 s kb o ib r ob r2 w):∃x,w.cell? ⟨rb,8,none⟩=some (.int .i64 x):=by
 obtain ⟨⟨tv,wv,rec,laid,hq⟩,_⟩:=h.run;exact ⟨rec,hq.blk.cell 8⟩
theorem RL.cells (h:RL F rb w0 s kb o ib r ob r2 w):w.cell? ⟨kb,0,none⟩=some (.int .i64 o.kind)/\w.cell? ⟨kb,1,none⟩=some (.int .i64 o.key)/\w.cell? ⟨kb,2,none⟩=some (.int .i64 o.val)/\w.cell? ⟨ib,1,none⟩=some (.bool r.found):=⟨h.kbk.cell 0,h.kbk.cell 1,h.kbk.cell 2,h.ibk.cell 1⟩
theorem Qeb (w:World) (b:Nat) (a0 a1 a2 a3 a4 a5:Value):Chg (fun x=>x=b) w ((((((w.setCell ⟨b,0,none⟩ a0).setCell ⟨b,1,none⟩ a1).setCell ⟨b,2,none⟩ a2).setCell ⟨b,3,none⟩ a3).setCell ⟨b,4,none⟩ a4).setCell ⟨b,5,none⟩ a5):=(((((Chg.set1 w b 0 _).trans (Chg.set1 _ b 1 _)).trans (Chg.set1 _ b 2 _)).trans (Chg.set1 _ b 3 _)).trans (Chg.set1 _ b 4 _)).trans (Chg.set1 _ b 5 _)
theorem Qh1 {w:World} {b:Nat} {t:TypeId} {r:Res} (h:Blk w b t (Q0W r)) (r':Res):Blk ((((((w.setCell ⟨b,0,none⟩ (.int .i64 r'.why)).setCell ⟨b,1,none⟩ (.bool r'.found)).setCell ⟨b,2,none⟩ (.int .i64 r'.key)).setCell ⟨b,3,none⟩ (.int .i64 r'.val)).setCell ⟨b,4,none⟩ (.int .i64 r'.n)).setCell ⟨b,5,none⟩ (.slice none 0 0)) b t (Q0W r'):=(((((h.set_ 0 _).set_ 1 _).set_ 2 _).set_ 3 _).set_ 4 _).set_ 5 _
theorem RL.setI6 (h:RL F rb w0 s kb o ib r ob r2 w) (r':Res):RL F rb w0 s kb o ib r' ob r2 ((((((w.setCell ⟨ib,0,none⟩ (.int .i64 r'.why)).setCell ⟨ib,1,none⟩ (.bool r'.found)).setCell ⟨ib,2,none⟩ (.int .i64 r'.key)).setCell ⟨ib,3,none⟩ (.int .i64 r'.val)).setCell ⟨ib,4,none⟩ (.int .i64 r'.n)).setCell ⟨ib,5,none⟩ (.slice none 0 0)):=
 ⟨h.run.keepT (Qeb _ _ _ _ _ _ _ _) (fun x hx=>hx▸⟨h.ni,_,_,h.ibk,by decide,by decide⟩),(Qeb _ _ _ _ _ _ _ _).blk h.kbk (fun e=>h.kbk.ne_ h.ibk (by decide) e),Qh1 h.ibk r',(Qeb _ _ _ _ _ _ _ _).blk h.obk (fun e=>h.ne e.symm),h.ni,h.no,h.ne⟩
theorem RL.setO6 (h:RL F rb w0 s kb o ib r ob r2 w) (r':Res):RL F rb w0 s kb o ib r ob r' ((((((w.setCell ⟨ob,0,none⟩ (.int .i64 r'.why)).setCell ⟨ob,1,none⟩ (.bool r'.found)).setCell ⟨ob,2,none⟩ (.int .i64 r'.key)).setCell ⟨ob,3,none⟩ (.int .i64 r'.val)).setCell ⟨ob,4,none⟩ (.int .i64 r'.n)).setCell ⟨ob,5,none⟩ (.slice none 0 0)):=
 ⟨h.run.keepT (Qeb _ _ _ _ _ _ _ _) (fun x hx=>hx▸⟨h.no,_,_,h.obk,by decide,by decide⟩),(Qeb _ _ _ _ _ _ _ _).blk h.kbk (fun e=>h.kbk.ne_ h.obk (by decide) e),(Qeb _ _ _ _ _ _ _ _).blk h.ibk h.ne,Qh1 h.obk r',h.ni,h.no,h.ne⟩
theorem RL.ic (h:RL F rb w0 s kb o ib r ob r2 w):w.cell? ⟨ib,0,none⟩=some (.int .i64 r.why)/\w.cell? ⟨ib,1,none⟩=some (.bool r.found)/\w.cell? ⟨ib,2,none⟩=some (.int .i64 r.key)/\w.cell? ⟨ib,3,none⟩=some (.int .i64 r.val)/\w.cell? ⟨ib,4,none⟩=some (.int .i64 r.n)/\w.cell? ⟨ib,5,none⟩=some (.slice none 0 0):=⟨h.ibk.cell 0,h.ibk.cell 1,h.ibk.cell 2,h.ibk.cell 3,h.ibk.cell 4,h.ibk.cell 5⟩
theorem RL.oc (h:RL F rb w0 s kb o ib r ob r2 w):w.cell? ⟨ob,0,none⟩=some (.int .i64 r2.why)/\w.frozen? ⟨ob,0,none⟩=false/\w.cell? ⟨ob,1,none⟩=some (.bool r2.found)/\w.frozen? ⟨ob,1,none⟩=false/\w.cell? ⟨ob,2,none⟩=some (.int .i64 r2.key)/\w.frozen? ⟨ob,2,none⟩=false/\w.cell? ⟨ob,3,none⟩=some (.int .i64 r2.val)/\w.frozen? ⟨ob,3,none⟩=false/\w.cell? ⟨ob,4,none⟩=some (.int .i64 r2.n)/\w.frozen? ⟨ob,4,none⟩=false/\w.cell? ⟨ob,5,none⟩=some (.slice none 0 0)/\w.frozen? ⟨ob,5,none⟩=false:=⟨h.obk.cell 0,h.obk.frozen 0,h.obk.cell 1,h.obk.frozen 1,h.obk.cell 2,h.obk.frozen 2,h.obk.cell 3,h.obk.frozen 3,h.obk.cell 4,h.obk.frozen 4,h.obk.cell 5,h.obk.frozen 5⟩
end
theorem Q0a {fn:Func} {p q:Tmp} {ty:TypeId} {P:Program} (h:fn.results=#[.cell p ty,.tmp q]) (tmps:Array Value) (w:World) (g:Nat) (t:TypeId) (cs:Array Value) (fr:Nat×Nat) (u:Value)
  (hp:tmps.getD p undef=.pointer (some ⟨g,0,none⟩)) (hq:tmps.getD q undef=u) (hg:w.heap[g]? =some (.cells cs t fr))
  {fs:Array Field} (hu:P.underlying ty=some (.struct fs)) (hi:(P.info? ty).map (·.size)=some cs.size):
  (results fn tmps).run P w=.ok (.tuple #[.agg cs,u]) w:=by
 have hp':tmps[p]?.getD undef=.pointer (some ⟨g,0,none⟩):=by simpa using hp
 have hq':tmps[q]?.getD undef=u:=by simpa using hq
 simp[results,h,hp',hq',asAddr,run_loadVar_row w g t ty cs fr (.struct fs) hg hu rfl hi]
section
variable (F:Nat->Prop) (rb:Nat)
theorem Q1b (w:World):Calls Tryz.prog 265 #[] w fun e w'=>e=.returned (.agg (Q0W (Res.err 8)))/\Below w.heap.size w w':=by
 go_enter Tryz.func265,Tryz.ntmps265;go_wp2_with (fail);refine bodyPost_ret (v:=.agg (Q0W (Res.err 8))) (results_cell_row rfl _ _ w.heap.size 54 _ (0,0) _ rfl (Blk.new w _ _) Tryz.underlying54 rfl (by kernel_rfl)) rfl ?_;exact ⟨rfl,(Below.refl _ _).alloc (Nat.le_refl _) _⟩
def Q68 (f:Nat) (o:Op) (n s w:Int) (path:List Entry) (q:Int) (leaf:Bool) (r:Res):Prog (Res×Bool):=
 .chk fun off=>if off=true\/(o.kind=1/\r.found=true)\/(o.kind=3/\r.found=false) then .ret (r,true) else
 (Q1w o w q leaf r.found).bind fun x=>if x.2=false then .ret (Res.err 8,true) else
 (Q1m 1 (wrap64 (n+2)) s w x.1).bind fun d=>if d=3 then .ret (Res.err 8,true) else
 (if d=1/\(o.kind≠2\/r.found=false) then Q0J f path none else .ret ()).bind fun _=>.ret (r,decide (d=1))
section
variable {f:Nat} {o:Op} {n s_ w q:Int} {path:List Entry} {leaf:Bool} {r:Res} {s:RunS}
theorem Q4e (h:s.off=true):(Q68 f o n s_ w path q leaf r).go s=((r,true),s):=by
 show (Prog.chk _).go s=_
 rw[Q0B,if_pos (.inl h)];rfl
theorem Q3w (hs:(o.kind=1/\r.found=true)\/(o.kind=3/\r.found=false)):(Q68 f o n s_ w path q leaf r).go s=((r,true),s):=by
 show (Prog.chk _).go s=_
 rw[Q0B,if_pos (.inr hs)];rfl
theorem Q2h (h:s.off=false) (hs:¬((o.kind=1/\r.found=true)\/(o.kind=3/\r.found=false))):(Q68 f o n s_ w path q leaf r).go s=((Q1w o w q leaf r.found).bind fun x=>if x.2=false then .ret (Res.err 8,true) else
 (Q1m 1 (wrap64 (n+2)) s_ w x.1).bind fun d=>if d=3 then .ret (Res.err 8,true) else
 (if d=1/\(o.kind≠2\/r.found=false) then Q0J f path none else .ret ()).bind fun _=>.ret (r,decide (d=1))).go s:=by
 show (Prog.chk _).go s=_
 rw[Q0B,if_neg (fun e=>e.elim (fun e=>by rw[h] at e;exact Bool.false_ne_true e) hs)]
end
def Q2E (wd key:Int):Prog (Int×Res):=
 if Q05 wd=2 then (Q0e (wAt wd)).bind fun q=>if q=key then (Q0e (wAt wd+1)).bind fun v=>.ret (q,Res.mk 0 true q v 0 []) else .ret (q,Res.none) else .ret (0,Res.none)
theorem Q9I {f:Nat} {o:Op} {n s w:Int} {path:List Entry} {s0 s1 s':RunS} {v:Res×Bool} {q:Int} {r:Res} (h:(Qe9 f o n s w path).go s0=(v,s')) (he:(Q2E w o.key).go s0=((q,r),s1)):(Q68 f o n s w path q (decide (Q05 w=2)) r).go s1=(v,s'):=by
 have h:((Q2E w o.key).bind fun r=>Q68 f o n s w path r.1 (decide (Q05 w=2)) r.2).go s0=(v,s'):=h
 rw[Q01,he] at h
 exact h
def QaH (w0:World) (v:Res×Bool) (s':RunS) (e:Ending) (w':World):Prop:=e=.returned (.tuple #[.agg (Q0W v.1),.bool v.2])/\RAt F rb w0 s' w'
theorem QeG (f:Nat) (o:Op) (n s_ wd:Int) (l:List Entry) (A:Option Addr) (c:Nat) (s0 s':RunS) (v:Res×Bool) (w:World) (h:RunP F rb s0 w) (d0:s0.Bd) (ho:o.B) (hk3:o.kind=1\/o.kind=2\/o.kind=3) (hn:i64B n) (hs:i64B s_) (hw:i64B wd) (hb:∀e∈l,e.B) (hq:Q3I w w.heap.size A l) (hA:∀ad,A=some ad->ad.block≠rb) (hl:l.length<=2000000000) (hf:s0.off=false->s0.left<f) (hg:(Qe9 f o n s_ wd l).go s0=(v,s')):
  Calls Tryz.prog 266 #[.pointer (some ⟨rb,0,none⟩),.agg #[.int .i64 o.kind,.int .i64 o.key,.int .i64 o.val],.int .i64 n,.int .i64 s_,.int .i64 wd,.slice A l.length c] w (QaH F rb w v s'):=by
 have hH:=RL.new (RAt.refl h) o;have hw0:=hw.lo;have hw1:=hw.hi;have hky0:=ho.key.lo;have hky1:=ho.key.hi;have hn0:=hn.lo;have hn1:=hn.hi;obtain ⟨wa0,wa1⟩:=Q0D wd;have HG:=LH hg;have HO:=LH ho;have HN:=LH hn;have HS:=LH hs;have HW:=LH hw;have HLB:=LH hb;have HQ:=LH hq;have HA:=LH hA;clear hg ho hn hs hw hb hq hA;clear h
 have hfl:∀s:RunS,s.left<=s0.left->(s0.off=true->s.off=true)->s.off=false->s.left<f:=fun s h1 h2 h3=>by
  cases ho:s0.off with
  |true=>rw[h2 ho] at h3;cases h3
  |false=>have:=hf ho;omega
 have HFO:=LH hfl;clear hf hfl;obtain ⟨okind,okey,oval⟩:=o;have hk3:okind=1\/okind=2\/okind=3:=hk3;go_enter Tryz.func266,Tryz.ntmps266;go_wp2_with (fail);with_reducible refine (Q0A wd _ hw0 hw1).mono ?_
 rintro e w1 ⟨rfl,rfl⟩;have hH:RL F rb w s0 w.heap.size ⟨okind,okey,oval⟩ (w.heap.size+1+1) Res.none (w.heap.size+1) Res.none (((w.alloc (.cells #[.int .i64 okind,.int .i64 okey,.int .i64 oval] 48)).alloc (.cells rZ 54)).alloc (.cells rZ 54)):=hH;generalize (((w.alloc (.cells #[.int .i64 okind,.int .i64 okey,.int .i64 oval] 48)).alloc (.cells rZ 54)).alloc (.cells rZ 54))=W at hH|-;generalize w.heap.size+1+1=ib at hH|-;generalize w.heap.size+1=ob at hH|-;obtain ⟨kb,hkb⟩:∃kb,w.heap.size=kb:=⟨_,rfl⟩
 rw[hkb] at hH|-
 have H0:=LH hH;clear hH hkb;by_cases k2:Q05 wd=2
 ·have e2:(Q05 wd==2)=true:=by simpa using k2
  have HDK:=LH (show decide (Q05 wd=2)=true from decide_eq_true k2);have HK2:=LH k2;clear k2;go_wp2_with (fail);with_reducible refine (Q0x wd _ hw0 hw1).mono ?_
  rintro e w1 ⟨rfl,rfl⟩;obtain ⟨v1,s1,g1⟩:=Q0k (Q0e (wAt wd)) s0;have HL1:=LH (Q0i g1);have HO1:=LH (fun e:s0.off=true=>Q0X g1 e);obtain ⟨b1,d1⟩:=Q0b g1 (Q04 (Q0H wd)) d0;have G1:=LH g1;have G1b:=LH g1;have BV1:=LH b1;have hv10:=b1.lo;have hv11:=b1.hi;clear g1 b1;go_wp2_with (fail);with_reducible refine (Q0d _ rb _ s0 s1 v1 (wAt wd) _ H0.out.here d0 G1.out).mono ?_
  rintro e w2 ⟨rfl,h2⟩;have H2:=LH (H0.out.run_ h2);clear h2 H0 G1;obtain ⟨c0,c1,c2,c3⟩:=H2.out.cells;have c1:w2.cell? ⟨kb,1,none⟩=some (.int .i64 okey):=c1;clear c0 c2 c3;by_cases kq:v1=okey
  ·have eq:(v1==okey)=true:=by simpa using kq
   have HKQ:=LH kq;clear kq;go_wp2_with (fail);with_reducible refine (Q0x wd _ hw0 hw1).mono ?_
   rintro e w3 ⟨rfl,rfl⟩;obtain ⟨v3,s3,g3⟩:=Q0k (Q0e (wAt wd+1)) s1;have HL3:=LH (Nat.le_trans (Q0i g3) HL1.out);have HO3:=LH (fun e:s0.off=true=>Q0X g3 (HO1.out e));obtain ⟨b3,d3⟩:=Q0b g3 (Q04 Q3J) d1;have eE:(Q2E wd okey).go s0=((v1,Res.mk 0 true v1 v3 0 []),s3):=by unfold Q2E;rw[if_pos HK2.out,Q01,G1b.out,if_pos HKQ.out,Q01,g3];rfl
   have HE:=LH eE;have G3:=LH g3;clear g3 c1 eE;go_wp2_with (fail);with_reducible refine (Q0d _ rb _ s1 s3 v3 (wAt wd+1) _ H2.out.here d1 G3.out).mono ?_
   rintro e w4 ⟨rfl,h4⟩;have H4:=LH (H2.out.run_ h4);clear h4 H2 G3;have hg:=Q9I HG.out HE.out;clear HG
   rw[HDK.out] at hg
   have HG:=LH hg;clear hg;obtain ⟨z0,z1,z2,z3,z4,z5⟩:=H4.out.ic;have zf0:=H4.out.ibk.frozen 0;have zf1:=H4.out.ibk.frozen 1;have zf2:=H4.out.ibk.frozen 2;have zf3:=H4.out.ibk.frozen 3;have zf4:=H4.out.ibk.frozen 4;have zf5:=H4.out.ibk.frozen 5;have HW5:Hid (RL F rb w s3 kb ⟨okind,okey,oval⟩ ib (Res.mk 0 true v1 v3 0 []) ob Res.none ((((((w4.setCell ⟨ib,0,none⟩ (.int .i64 0)).setCell ⟨ib,1,none⟩ (.bool true)).setCell ⟨ib,2,none⟩ (.int .i64 v1)).setCell ⟨ib,3,none⟩ (.int .i64 v3)).setCell ⟨ib,4,none⟩ (.int .i64 0)).setCell ⟨ib,5,none⟩ (.slice none 0 0))):=LH (H4.out.setI6 (Res.mk 0 true v1 v3 0 []));go_upto_region 8 with fail;generalize ((((((w4.setCell ⟨ib,0,none⟩ (.int .i64 0)).setCell ⟨ib,1,none⟩ (.bool true)).setCell ⟨ib,2,none⟩ (.int .i64 v1)).setCell ⟨ib,3,none⟩ (.int .i64 v3)).setCell ⟨ib,4,none⟩ (.int .i64 0)).setCell ⟨ib,5,none⟩ (.slice none 0 0))=w5 at HW5|-;have H5:=HW5;clear HW5 H4 z0 z1 z2 z3 z4 z5 zf0 zf1 zf2 zf3 zf4 zf5
   cases hoff:s3.off with
   |true=>
    have HOF:=LH hoff;obtain ⟨rfl,rfl⟩:=Prod.mk.inj ((Q4e hoff).symm.trans HG.out);clear hoff;have cof:=Q0c H5.out.run HOF.out;have k0:w5.cell? ⟨kb,0,none⟩=some (.int .i64 okind):=H5.out.cells.1;have k1:w5.cell? ⟨kb,1,none⟩=some (.int .i64 okey):=H5.out.cells.2.1;have k2:w5.cell? ⟨kb,2,none⟩=some (.int .i64 oval):=H5.out.cells.2.2.1;have k3:w5.cell? ⟨ib,1,none⟩=some (.bool true):=H5.out.cells.2.2.2;obtain ⟨i0,i1,i2,i3,i4,i5⟩:=H5.out.ic;obtain ⟨o0,of0,o1,of1,o2,of2,o3,of3,o4,of4,o5,of5⟩:=H5.out.oc;go_wp2_with (fail);refine bodyPost_ret (v:=.tuple #[.agg (Q0W (Res.mk 0 true v1 v3 0 [])),.bool true]) (Q0a rfl _ _ ob 54 (Q0W (Res.mk 0 true v1 v3 0 [])) (0,0) _ rfl rfl (H5.out.setO6 (Res.mk 0 true v1 v3 0 [])).obk Tryz.underlying54 (by kernel_rfl)) rfl ?_;exact ⟨rfl,(H5.out.setO6 (Res.mk 0 true v1 v3 0 [])).run⟩
   |false=>
    have HOF:=LH hoff;clear hoff
    rcases hk3 with rfl|rfl|rfl
    ·have cof:=Q0c H5.out.run HOF.out;have k0:w5.cell? ⟨kb,0,none⟩=some (.int .i64 1):=H5.out.cells.1;have k1:w5.cell? ⟨kb,1,none⟩=some (.int .i64 okey):=H5.out.cells.2.1;have k2:w5.cell? ⟨kb,2,none⟩=some (.int .i64 oval):=H5.out.cells.2.2.1;have k3:w5.cell? ⟨ib,1,none⟩=some (.bool true):=H5.out.cells.2.2.2;obtain ⟨rfl,rfl⟩:=Prod.mk.inj ((Q3w (.inl ⟨rfl,rfl⟩)).symm.trans HG.out);obtain ⟨i0,i1,i2,i3,i4,i5⟩:=H5.out.ic;obtain ⟨o0,of0,o1,of1,o2,of2,o3,of3,o4,of4,o5,of5⟩:=H5.out.oc;go_wp2_with (fail);refine bodyPost_ret (v:=.tuple #[.agg (Q0W (Res.mk 0 true v1 v3 0 [])),.bool true]) (Q0a rfl _ _ ob 54 (Q0W (Res.mk 0 true v1 v3 0 [])) (0,0) _ rfl rfl (H5.out.setO6 (Res.mk 0 true v1 v3 0 [])).obk Tryz.underlying54 (by kernel_rfl)) rfl ?_;exact ⟨rfl,(H5.out.setO6 (Res.mk 0 true v1 v3 0 [])).run⟩
    ·have cof:=Q0c H5.out.run HOF.out;have k0:w5.cell? ⟨kb,0,none⟩=some (.int .i64 2):=H5.out.cells.1;have k1:w5.cell? ⟨kb,1,none⟩=some (.int .i64 okey):=H5.out.cells.2.1;have k2:w5.cell? ⟨kb,2,none⟩=some (.int .i64 oval):=H5.out.cells.2.2.1;have k3:w5.cell? ⟨ib,1,none⟩=some (.bool true):=H5.out.cells.2.2.2;have hgo:=(Q2h HOF.out (show ¬(((2:Int)=1/\true=true)\/((2:Int)=3/\true=false)) by decide)).symm.trans HG.out;clear HG;have HG:=LH hgo;clear hgo;have hg:=HG.out;clear HG;obtain ⟨⟨x1,x2⟩,s4,g4⟩:=Q0k (Q1w ⟨2,okey,oval⟩ wd v1 true true) s3
     have hg:((Q1w ⟨2,okey,oval⟩ wd v1 true true).bind fun x=>if x.2=false then .ret (Res.err 8,true) else
      (Q1m 1 (wrap64 (n+2)) s_ wd x.1).bind fun d=>if d=3 then .ret (Res.err 8,true) else
      (if d=1/\((2:Int)≠2\/true=false) then Q0J f l none else .ret ()).bind fun _=>.ret ((Res.mk 0 true v1 v3 0 []),decide (d=1))).go s3=(v,s'):=hg
     rw[Q01,g4] at hg
     have HG:=LH hg;have HL4:=LH (Nat.le_trans (Q0i g4) HL3.out);have HO4:=LH (fun e:s0.off=true=>Q0X g4 (HO3.out e));obtain ⟨bx1,d4⟩:=Q0b g4 (Q1Z HO.out HW.out BV1.out) d3;have BX1:Hid (i64B x1):=LH bx1;have G4:=LH g4;clear g4 hg bx1;go_wp2_with (fail);with_reducible refine (Q2j _ rb _ ⟨2,okey,oval⟩ wd v1 true true s3 s4 (x1,x2) _ H5.out.here d3 HO.out Q36 HW.out BV1.out G4.out).mono ?_
     rintro e w4 ⟨rfl,h4⟩;have H4:=LH (H5.out.run_ h4);clear h4 H5 G4 k0 k1 k2 k3 cof
     cases x2 with
     |false=>
      have hg:=HG.out;clear HG
      rw[if_pos rfl] at hg
      have HG:=LH hg;clear hg;obtain ⟨rfl,rfl⟩:=Prod.mk.inj HG.out;go_wp2_with (fail);with_reducible refine (Q1b _).mono ?_
      rintro e wn ⟨rfl,hbn⟩;have HNM:=LH (H4.out.below hbn);clear hbn H4;obtain ⟨o0,of0,o1,of1,o2,of2,o3,of3,o4,of4,o5,of5⟩:=HNM.out.oc;unfold Q0W;go_wp2_with (fail);refine bodyPost_ret (v:=.tuple #[.agg (Q0W (Res.err 8)),.bool true]) (Q0a rfl _ _ ob 54 (Q0W (Res.err 8)) (0,0) _ rfl rfl (HNM.out.setO6 (Res.err 8)).obk Tryz.underlying54 (by kernel_rfl)) rfl ?_;exact ⟨rfl,(HNM.out.setO6 (Res.err 8)).run⟩
     |true=>
      have hg:=HG.out;clear HG
      rw[if_neg (fun e=>Bool.noConfusion e)] at hg
      have HG:=LH hg;clear hg;obtain ⟨hr,⟨x8,c8⟩,f8⟩:=H4.out.setR 0;have H5:=LH hr;clear hr H4;obtain ⟨vd,s5,g5⟩:=Q0k (Q1m 1 (wrap64 (n+2)) s_ wd x1) s4;have HL5:=LH (Nat.le_trans (Q0i g5) HL4.out);have HO5:=LH (fun e:s0.off=true=>Q0X g5 (HO4.out e));obtain ⟨bd,d5⟩:=Q0b g5 (Q1p (Q0l _) HS.out HW.out BX1.out) d4;have hvd0:=bd.1;have hvd1:=bd.2;have hg:=HG.out;clear HG
      rw[Q01,g5] at hg
      have HG:=LH hg;have G5:=LH g5;clear g5 hg bd;go_wp2_with (fail);generalize w4.setCell ⟨rb,8,none⟩ (.int .i64 0)=w5 at H5|-;clear c8 f8 x8;with_reducible refine (Q1t _ rb _ s4 s5 vd 1 (wrap64 (n+2)) s_ wd x1 _ H5.out.here d4 G5.out (Q0l _) HS.out HW.out BX1.out).mono ?_
      rintro e w6 ⟨rfl,h6⟩;have H6:=LH (H5.out.run_ h6);clear h6 H5 G5;obtain ⟨rc,c8⟩:=H6.out.rec8
      rcases Decidable.em (0<rc) with krc|krc
      all_goals first
       |(have krc:0<rc:=krc
         obtain ⟨hl9,⟨y,c9⟩,f9⟩:=H6.out.laid rc;have H7:=LH hl9;clear hl9;go_upto_region 17 with fail;generalize w6.setCell ⟨rb,9,none⟩ (.int .i64 rc)=w7 at H7|-;clear c8 c9 f9 H6 krc)
       |(obtain ⟨w7,hw7⟩:∃w7,w6=w7:=⟨_,rfl⟩
         subst hw7;have H7:=H6;clear H6;go_upto_region 17 with fail;clear c8 krc)
      all_goals
       by_cases k3d:vd=3
       ·have e3d:(vd==3)=true:=by simpa using k3d
        have hg:=HG.out;clear HG
        rw[if_pos k3d] at hg
        have HG:=LH hg;clear hg;clear k3d;obtain ⟨rfl,rfl⟩:=Prod.mk.inj HG.out;go_wp2_with (fail);with_reducible refine (Q1b _).mono ?_
        rintro e wn ⟨rfl,hbn⟩;have HNM:=LH (H7.out.below hbn);clear hbn H7;obtain ⟨o0,of0,o1,of1,o2,of2,o3,of3,o4,of4,o5,of5⟩:=HNM.out.oc;unfold Q0W;go_wp2_with (fail);refine bodyPost_ret (v:=.tuple #[.agg (Q0W (Res.err 8)),.bool true]) (Q0a rfl _ _ ob 54 (Q0W (Res.err 8)) (0,0) _ rfl rfl (HNM.out.setO6 (Res.err 8)).obk Tryz.underlying54 (by kernel_rfl)) rfl ?_;exact ⟨rfl,(HNM.out.setO6 (Res.err 8)).run⟩
       ·have e3d:(vd==3)=false:=by simpa using k3d
        have hg:=HG.out;clear HG
        rw[if_neg k3d] at hg
        have HG:=LH hg;clear hg;clear k3d;obtain ⟨q0,-,-,q3⟩:=H7.out.cells;have q0:World.cell? _ ⟨kb,0,none⟩=some (.int .i64 2):=q0;have q3:World.cell? _ ⟨ib,1,none⟩=some (.bool true):=q3;by_cases k1d:vd=1
        ·have e1d:(vd==1)=true:=by simpa using k1d
         have hg:=HG.out;clear HG
         rw[Q01,if_neg (fun e=>e.2.elim (fun e=>e rfl) (fun e=>Bool.noConfusion e))] at hg
         have HG:=LH (show (Prog.ret ((Res.mk 0 true v1 v3 0 []),decide (vd=1))).go s5=(v,s') from hg);have HED:=LH (show decide (vd=1)=true from decide_eq_true k1d);clear hg k1d;have hg:=HG.out;clear HG
         rw[HED.out] at hg
         have HG:=LH hg;clear hg;obtain ⟨rfl,rfl⟩:=Prod.mk.inj HG.out;obtain ⟨i0,i1,i2,i3,i4,i5⟩:=H7.out.ic;obtain ⟨o0,of0,o1,of1,o2,of2,o3,of3,o4,of4,o5,of5⟩:=H7.out.oc;go_wp2_with (fail);refine bodyPost_ret (v:=.tuple #[.agg (Q0W (Res.mk 0 true v1 v3 0 [])),.bool true]) (Q0a rfl _ _ ob 54 (Q0W (Res.mk 0 true v1 v3 0 [])) (0,0) _ rfl rfl (H7.out.setO6 (Res.mk 0 true v1 v3 0 [])).obk Tryz.underlying54 (by kernel_rfl)) rfl ?_;exact ⟨rfl,(H7.out.setO6 (Res.mk 0 true v1 v3 0 [])).run⟩
        ·have e1d:(vd==1)=false:=by simpa using k1d
         have hg:=HG.out;clear HG
         rw[Q01,if_neg (fun e=>k1d e.1)] at hg
         have HG:=LH (show (Prog.ret ((Res.mk 0 true v1 v3 0 []),decide (vd=1))).go s5=(v,s') from hg);have HED:=LH (show decide (vd=1)=false from decide_eq_false k1d);clear hg k1d;have hg:=HG.out;clear HG
         rw[HED.out] at hg
         have HG:=LH hg;clear hg;obtain ⟨rfl,rfl⟩:=Prod.mk.inj HG.out;obtain ⟨i0,i1,i2,i3,i4,i5⟩:=H7.out.ic;obtain ⟨o0,of0,o1,of1,o2,of2,o3,of3,o4,of4,o5,of5⟩:=H7.out.oc;go_wp2_with (fail);refine bodyPost_ret (v:=.tuple #[.agg (Q0W (Res.mk 0 true v1 v3 0 [])),.bool false]) (Q0a rfl _ _ ob 54 (Q0W (Res.mk 0 true v1 v3 0 [])) (0,0) _ rfl rfl (H7.out.setO6 (Res.mk 0 true v1 v3 0 [])).obk Tryz.underlying54 (by kernel_rfl)) rfl ?_;exact ⟨rfl,(H7.out.setO6 (Res.mk 0 true v1 v3 0 [])).run⟩
    ·have cof:=Q0c H5.out.run HOF.out;have k0:w5.cell? ⟨kb,0,none⟩=some (.int .i64 3):=H5.out.cells.1;have k1:w5.cell? ⟨kb,1,none⟩=some (.int .i64 okey):=H5.out.cells.2.1;have k2:w5.cell? ⟨kb,2,none⟩=some (.int .i64 oval):=H5.out.cells.2.2.1;have k3:w5.cell? ⟨ib,1,none⟩=some (.bool true):=H5.out.cells.2.2.2;have hgo:=(Q2h HOF.out (show ¬(((3:Int)=1/\true=true)\/((3:Int)=3/\true=false)) by decide)).symm.trans HG.out;clear HG;have HG:=LH hgo;clear hgo;have hg:=HG.out;clear HG;obtain ⟨⟨x1,x2⟩,s4,g4⟩:=Q0k (Q1w ⟨3,okey,oval⟩ wd v1 true true) s3
     have hg:((Q1w ⟨3,okey,oval⟩ wd v1 true true).bind fun x=>if x.2=false then .ret (Res.err 8,true) else
      (Q1m 1 (wrap64 (n+2)) s_ wd x.1).bind fun d=>if d=3 then .ret (Res.err 8,true) else
      (if d=1/\((3:Int)≠2\/true=false) then Q0J f l none else .ret ()).bind fun _=>.ret ((Res.mk 0 true v1 v3 0 []),decide (d=1))).go s3=(v,s'):=hg
     rw[Q01,g4] at hg
     have HG:=LH hg;have HL4:=LH (Nat.le_trans (Q0i g4) HL3.out);have HO4:=LH (fun e:s0.off=true=>Q0X g4 (HO3.out e));obtain ⟨bx1,d4⟩:=Q0b g4 (Q1Z HO.out HW.out BV1.out) d3;have BX1:Hid (i64B x1):=LH bx1;have G4:=LH g4;clear g4 hg bx1;go_wp2_with (fail);with_reducible refine (Q2j _ rb _ ⟨3,okey,oval⟩ wd v1 true true s3 s4 (x1,x2) _ H5.out.here d3 HO.out (show i64B (3:Int) by unfold i64B;omega) HW.out BV1.out G4.out).mono ?_
     rintro e w4 ⟨rfl,h4⟩;have H4:=LH (H5.out.run_ h4);clear h4 H5 G4 k0 k1 k2 k3 cof
     cases x2 with
     |false=>
      have hg:=HG.out;clear HG
      rw[if_pos rfl] at hg
      have HG:=LH hg;clear hg;obtain ⟨rfl,rfl⟩:=Prod.mk.inj HG.out;go_wp2_with (fail);with_reducible refine (Q1b _).mono ?_
      rintro e wn ⟨rfl,hbn⟩;have HNM:=LH (H4.out.below hbn);clear hbn H4;obtain ⟨o0,of0,o1,of1,o2,of2,o3,of3,o4,of4,o5,of5⟩:=HNM.out.oc;unfold Q0W;go_wp2_with (fail);refine bodyPost_ret (v:=.tuple #[.agg (Q0W (Res.err 8)),.bool true]) (Q0a rfl _ _ ob 54 (Q0W (Res.err 8)) (0,0) _ rfl rfl (HNM.out.setO6 (Res.err 8)).obk Tryz.underlying54 (by kernel_rfl)) rfl ?_;exact ⟨rfl,(HNM.out.setO6 (Res.err 8)).run⟩
     |true=>
      have hg:=HG.out;clear HG
      rw[if_neg (fun e=>Bool.noConfusion e)] at hg
      have HG:=LH hg;clear hg;obtain ⟨hr,⟨x8,c8⟩,f8⟩:=H4.out.setR 0;have H5:=LH hr;clear hr H4;obtain ⟨vd,s5,g5⟩:=Q0k (Q1m 1 (wrap64 (n+2)) s_ wd x1) s4;have HL5:=LH (Nat.le_trans (Q0i g5) HL4.out);have HO5:=LH (fun e:s0.off=true=>Q0X g5 (HO4.out e));obtain ⟨bd,d5⟩:=Q0b g5 (Q1p (Q0l _) HS.out HW.out BX1.out) d4;have hvd0:=bd.1;have hvd1:=bd.2;have hg:=HG.out;clear HG
      rw[Q01,g5] at hg
      have HG:=LH hg;have G5:=LH g5;clear g5 hg bd;go_wp2_with (fail);generalize w4.setCell ⟨rb,8,none⟩ (.int .i64 0)=w5 at H5|-;clear c8 f8 x8;with_reducible refine (Q1t _ rb _ s4 s5 vd 1 (wrap64 (n+2)) s_ wd x1 _ H5.out.here d4 G5.out (Q0l _) HS.out HW.out BX1.out).mono ?_
      rintro e w6 ⟨rfl,h6⟩;have H6:=LH (H5.out.run_ h6);clear h6 H5 G5;obtain ⟨rc,c8⟩:=H6.out.rec8
      rcases Decidable.em (0<rc) with krc|krc
      all_goals first
       |(have krc:0<rc:=krc
         obtain ⟨hl9,⟨y,c9⟩,f9⟩:=H6.out.laid rc;have H7:=LH hl9;clear hl9;go_upto_region 17 with fail;generalize w6.setCell ⟨rb,9,none⟩ (.int .i64 rc)=w7 at H7|-;clear c8 c9 f9 H6 krc)
       |(obtain ⟨w7,hw7⟩:∃w7,w6=w7:=⟨_,rfl⟩
         subst hw7;have H7:=H6;clear H6;go_upto_region 17 with fail;clear c8 krc)
      all_goals
       by_cases k3d:vd=3
       ·have e3d:(vd==3)=true:=by simpa using k3d
        have hg:=HG.out;clear HG
        rw[if_pos k3d] at hg
        have HG:=LH hg;clear hg;clear k3d;obtain ⟨rfl,rfl⟩:=Prod.mk.inj HG.out;go_wp2_with (fail);with_reducible refine (Q1b _).mono ?_
        rintro e wn ⟨rfl,hbn⟩;have HNM:=LH (H7.out.below hbn);clear hbn H7;obtain ⟨o0,of0,o1,of1,o2,of2,o3,of3,o4,of4,o5,of5⟩:=HNM.out.oc;unfold Q0W;go_wp2_with (fail);refine bodyPost_ret (v:=.tuple #[.agg (Q0W (Res.err 8)),.bool true]) (Q0a rfl _ _ ob 54 (Q0W (Res.err 8)) (0,0) _ rfl rfl (HNM.out.setO6 (Res.err 8)).obk Tryz.underlying54 (by kernel_rfl)) rfl ?_;exact ⟨rfl,(HNM.out.setO6 (Res.err 8)).run⟩
       ·have e3d:(vd==3)=false:=by simpa using k3d
        have hg:=HG.out;clear HG
        rw[if_neg k3d] at hg
        have HG:=LH hg;clear hg;clear k3d;obtain ⟨q0,-,-,q3⟩:=H7.out.cells;have q0:World.cell? _ ⟨kb,0,none⟩=some (.int .i64 3):=q0;have q3:World.cell? _ ⟨ib,1,none⟩=some (.bool true):=q3;by_cases k1d:vd=1
        ·have e1d:(vd==1)=true:=by simpa using k1d
         obtain ⟨u8,s8,g8⟩:=Q0k (Q0J f l none) s5;have hg:=HG.out;clear HG
         rw[Q01,if_pos ⟨k1d,(.inl (by decide))⟩,g8] at hg
         have HG:=LH hg;have HED:=LH (show decide (vd=1)=true from decide_eq_true k1d);have G8:=LH (show (Q0J f l none).go s5=((),s8) from g8);clear hg g8 k1d;have HQ7:=LH (show Q3I _ _ A l from (HQ.out.chg_ H7.out.run.2 (Nat.le_refl _) HA.out).more H7.out.run.2.size);go_wp2_with (fail);with_reducible refine (Q2R _ rb _ f l A c s5 s8 _ H7.out.here d5 HLB.out HQ7.out HA.out hl (HFO.out _ HL5.out HO5.out) G8.out).mono ?_
         rintro e w8 ⟨rfl,h8⟩;have H8:=LH (H7.out.run_ h8);clear h8 H7 G8;have hg:=HG.out;clear HG
         rw[HED.out] at hg
         have HG:=LH hg;clear hg;obtain ⟨rfl,rfl⟩:=Prod.mk.inj HG.out;obtain ⟨i0,i1,i2,i3,i4,i5⟩:=H8.out.ic;obtain ⟨o0,of0,o1,of1,o2,of2,o3,of3,o4,of4,o5,of5⟩:=H8.out.oc;go_wp2_with (fail);refine bodyPost_ret (v:=.tuple #[.agg (Q0W (Res.mk 0 true v1 v3 0 [])),.bool true]) (Q0a rfl _ _ ob 54 (Q0W (Res.mk 0 true v1 v3 0 [])) (0,0) _ rfl rfl (H8.out.setO6 (Res.mk 0 true v1 v3 0 [])).obk Tryz.underlying54 (by kernel_rfl)) rfl ?_;exact ⟨rfl,(H8.out.setO6 (Res.mk 0 true v1 v3 0 [])).run⟩
        ·have e1d:(vd==1)=false:=by simpa using k1d
         have hg:=HG.out;clear HG
         rw[Q01,if_neg (fun e=>k1d e.1)] at hg
         have HG:=LH (show (Prog.ret ((Res.mk 0 true v1 v3 0 []),decide (vd=1))).go s5=(v,s') from hg);have HED:=LH (show decide (vd=1)=false from decide_eq_false k1d);clear hg k1d;have hg:=HG.out;clear HG
         rw[HED.out] at hg
         have HG:=LH hg;clear hg;obtain ⟨rfl,rfl⟩:=Prod.mk.inj HG.out;obtain ⟨i0,i1,i2,i3,i4,i5⟩:=H7.out.ic;obtain ⟨o0,of0,o1,of1,o2,of2,o3,of3,o4,of4,o5,of5⟩:=H7.out.oc;go_wp2_with (fail);refine bodyPost_ret (v:=.tuple #[.agg (Q0W (Res.mk 0 true v1 v3 0 [])),.bool false]) (Q0a rfl _ _ ob 54 (Q0W (Res.mk 0 true v1 v3 0 [])) (0,0) _ rfl rfl (H7.out.setO6 (Res.mk 0 true v1 v3 0 [])).obk Tryz.underlying54 (by kernel_rfl)) rfl ?_;exact ⟨rfl,(H7.out.setO6 (Res.mk 0 true v1 v3 0 [])).run⟩
  ·have eq:(v1==okey)=false:=by simpa using kq
   have HE:=LH (show (Q2E wd okey).go s0=((v1,Res.none),s1) by unfold Q2E;rw[if_pos HK2.out,Q01,G1b.out,if_neg kq];rfl);clear kq c1;have hg:=Q9I HG.out HE.out;clear HG
   rw[HDK.out] at hg
   have HG:=LH hg;clear hg
   cases hoff:s1.off with
   |true=>
    have HOF:=LH hoff;obtain ⟨rfl,rfl⟩:=Prod.mk.inj ((Q4e hoff).symm.trans HG.out);clear hoff;have cof:=Q0c H2.out.run HOF.out;have k0:w2.cell? ⟨kb,0,none⟩=some (.int .i64 okind):=H2.out.cells.1;have k1:w2.cell? ⟨kb,1,none⟩=some (.int .i64 okey):=H2.out.cells.2.1;have k2:w2.cell? ⟨kb,2,none⟩=some (.int .i64 oval):=H2.out.cells.2.2.1;have k3:w2.cell? ⟨ib,1,none⟩=some (.bool false):=H2.out.cells.2.2.2;obtain ⟨i0,i1,i2,i3,i4,i5⟩:=H2.out.ic;obtain ⟨o0,of0,o1,of1,o2,of2,o3,of3,o4,of4,o5,of5⟩:=H2.out.oc;go_wp2_with (fail);refine bodyPost_ret (v:=.tuple #[.agg (Q0W Res.none),.bool true]) (Q0a rfl _ _ ob 54 (Q0W Res.none) (0,0) _ rfl rfl (H2.out.setO6 Res.none).obk Tryz.underlying54 (by kernel_rfl)) rfl ?_;exact ⟨rfl,(H2.out.setO6 Res.none).run⟩
   |false=>
    have HOF:=LH hoff;clear hoff
    rcases hk3 with rfl|rfl|rfl
    ·have cof:=Q0c H2.out.run HOF.out;have k0:w2.cell? ⟨kb,0,none⟩=some (.int .i64 1):=H2.out.cells.1;have k1:w2.cell? ⟨kb,1,none⟩=some (.int .i64 okey):=H2.out.cells.2.1;have k2:w2.cell? ⟨kb,2,none⟩=some (.int .i64 oval):=H2.out.cells.2.2.1;have k3:w2.cell? ⟨ib,1,none⟩=some (.bool false):=H2.out.cells.2.2.2;have hgo:=(Q2h HOF.out (show ¬(((1:Int)=1/\false=true)\/((1:Int)=3/\false=false)) by decide)).symm.trans HG.out;clear HG;have HG:=LH hgo;clear hgo;have hg:=HG.out;clear HG;obtain ⟨⟨x1,x2⟩,s4,g4⟩:=Q0k (Q1w ⟨1,okey,oval⟩ wd v1 true false) s1
     have hg:((Q1w ⟨1,okey,oval⟩ wd v1 true false).bind fun x=>if x.2=false then .ret (Res.err 8,true) else
      (Q1m 1 (wrap64 (n+2)) s_ wd x.1).bind fun d=>if d=3 then .ret (Res.err 8,true) else
      (if d=1/\((1:Int)≠2\/false=false) then Q0J f l none else .ret ()).bind fun _=>.ret (Res.none,decide (d=1))).go s1=(v,s'):=hg
     rw[Q01,g4] at hg
     have HG:=LH hg;have HL4:=LH (Nat.le_trans (Q0i g4) HL1.out);have HO4:=LH (fun e:s0.off=true=>Q0X g4 (HO1.out e));obtain ⟨bx1,d4⟩:=Q0b g4 (Q1Z HO.out HW.out BV1.out) d1;have BX1:Hid (i64B x1):=LH bx1;have G4:=LH g4;clear g4 hg bx1;go_wp2_with (fail);with_reducible refine (Q2j _ rb _ ⟨1,okey,oval⟩ wd v1 true false s1 s4 (x1,x2) _ H2.out.here d1 HO.out Q10 HW.out BV1.out G4.out).mono ?_
     rintro e w4 ⟨rfl,h4⟩;have H4:=LH (H2.out.run_ h4);clear h4 H2 G4 k0 k1 k2 k3 cof
     cases x2 with
     |false=>
      have hg:=HG.out;clear HG
      rw[if_pos rfl] at hg
      have HG:=LH hg;clear hg;obtain ⟨rfl,rfl⟩:=Prod.mk.inj HG.out;go_wp2_with (fail);with_reducible refine (Q1b _).mono ?_
      rintro e wn ⟨rfl,hbn⟩;have HNM:=LH (H4.out.below hbn);clear hbn H4;obtain ⟨o0,of0,o1,of1,o2,of2,o3,of3,o4,of4,o5,of5⟩:=HNM.out.oc;unfold Q0W;go_wp2_with (fail);refine bodyPost_ret (v:=.tuple #[.agg (Q0W (Res.err 8)),.bool true]) (Q0a rfl _ _ ob 54 (Q0W (Res.err 8)) (0,0) _ rfl rfl (HNM.out.setO6 (Res.err 8)).obk Tryz.underlying54 (by kernel_rfl)) rfl ?_;exact ⟨rfl,(HNM.out.setO6 (Res.err 8)).run⟩
     |true=>
      have hg:=HG.out;clear HG
      rw[if_neg (fun e=>Bool.noConfusion e)] at hg
      have HG:=LH hg;clear hg;obtain ⟨hr,⟨x8,c8⟩,f8⟩:=H4.out.setR 0;have H5:=LH hr;clear hr H4;obtain ⟨vd,s5,g5⟩:=Q0k (Q1m 1 (wrap64 (n+2)) s_ wd x1) s4;have HL5:=LH (Nat.le_trans (Q0i g5) HL4.out);have HO5:=LH (fun e:s0.off=true=>Q0X g5 (HO4.out e));obtain ⟨bd,d5⟩:=Q0b g5 (Q1p (Q0l _) HS.out HW.out BX1.out) d4;have hvd0:=bd.1;have hvd1:=bd.2;have hg:=HG.out;clear HG
      rw[Q01,g5] at hg
      have HG:=LH hg;have G5:=LH g5;clear g5 hg bd;go_wp2_with (fail);generalize w4.setCell ⟨rb,8,none⟩ (.int .i64 0)=w5 at H5|-;clear c8 f8 x8;with_reducible refine (Q1t _ rb _ s4 s5 vd 1 (wrap64 (n+2)) s_ wd x1 _ H5.out.here d4 G5.out (Q0l _) HS.out HW.out BX1.out).mono ?_
      rintro e w6 ⟨rfl,h6⟩;have H6:=LH (H5.out.run_ h6);clear h6 H5 G5;obtain ⟨rc,c8⟩:=H6.out.rec8
      rcases Decidable.em (0<rc) with krc|krc
      all_goals first
       |(have krc:0<rc:=krc
         obtain ⟨hl9,⟨y,c9⟩,f9⟩:=H6.out.laid rc;have H7:=LH hl9;clear hl9;go_upto_region 17 with fail;generalize w6.setCell ⟨rb,9,none⟩ (.int .i64 rc)=w7 at H7|-;clear c8 c9 f9 H6 krc)
       |(obtain ⟨w7,hw7⟩:∃w7,w6=w7:=⟨_,rfl⟩
         subst hw7;have H7:=H6;clear H6;go_upto_region 17 with fail;clear c8 krc)
      all_goals
       by_cases k3d:vd=3
       ·have e3d:(vd==3)=true:=by simpa using k3d
        have hg:=HG.out;clear HG
        rw[if_pos k3d] at hg
        have HG:=LH hg;clear hg;clear k3d;obtain ⟨rfl,rfl⟩:=Prod.mk.inj HG.out;go_wp2_with (fail);with_reducible refine (Q1b _).mono ?_
        rintro e wn ⟨rfl,hbn⟩;have HNM:=LH (H7.out.below hbn);clear hbn H7;obtain ⟨o0,of0,o1,of1,o2,of2,o3,of3,o4,of4,o5,of5⟩:=HNM.out.oc;unfold Q0W;go_wp2_with (fail);refine bodyPost_ret (v:=.tuple #[.agg (Q0W (Res.err 8)),.bool true]) (Q0a rfl _ _ ob 54 (Q0W (Res.err 8)) (0,0) _ rfl rfl (HNM.out.setO6 (Res.err 8)).obk Tryz.underlying54 (by kernel_rfl)) rfl ?_;exact ⟨rfl,(HNM.out.setO6 (Res.err 8)).run⟩
       ·have e3d:(vd==3)=false:=by simpa using k3d
        have hg:=HG.out;clear HG
        rw[if_neg k3d] at hg
        have HG:=LH hg;clear hg;clear k3d;obtain ⟨q0,-,-,q3⟩:=H7.out.cells;have q0:World.cell? _ ⟨kb,0,none⟩=some (.int .i64 1):=q0;have q3:World.cell? _ ⟨ib,1,none⟩=some (.bool false):=q3;by_cases k1d:vd=1
        ·have e1d:(vd==1)=true:=by simpa using k1d
         obtain ⟨u8,s8,g8⟩:=Q0k (Q0J f l none) s5;have hg:=HG.out;clear HG
         rw[Q01,if_pos ⟨k1d,(.inl (by decide))⟩,g8] at hg
         have HG:=LH hg;have HED:=LH (show decide (vd=1)=true from decide_eq_true k1d);have G8:=LH (show (Q0J f l none).go s5=((),s8) from g8);clear hg g8 k1d;have HQ7:=LH (show Q3I _ _ A l from (HQ.out.chg_ H7.out.run.2 (Nat.le_refl _) HA.out).more H7.out.run.2.size);go_wp2_with (fail);with_reducible refine (Q2R _ rb _ f l A c s5 s8 _ H7.out.here d5 HLB.out HQ7.out HA.out hl (HFO.out _ HL5.out HO5.out) G8.out).mono ?_
         rintro e w8 ⟨rfl,h8⟩;have H8:=LH (H7.out.run_ h8);clear h8 H7 G8;have hg:=HG.out;clear HG
         rw[HED.out] at hg
         have HG:=LH hg;clear hg;obtain ⟨rfl,rfl⟩:=Prod.mk.inj HG.out;obtain ⟨i0,i1,i2,i3,i4,i5⟩:=H8.out.ic;obtain ⟨o0,of0,o1,of1,o2,of2,o3,of3,o4,of4,o5,of5⟩:=H8.out.oc;go_wp2_with (fail);refine bodyPost_ret (v:=.tuple #[.agg (Q0W Res.none),.bool true]) (Q0a rfl _ _ ob 54 (Q0W Res.none) (0,0) _ rfl rfl (H8.out.setO6 Res.none).obk Tryz.underlying54 (by kernel_rfl)) rfl ?_;exact ⟨rfl,(H8.out.setO6 Res.none).run⟩
        ·have e1d:(vd==1)=false:=by simpa using k1d
         have hg:=HG.out;clear HG
         rw[Q01,if_neg (fun e=>k1d e.1)] at hg
         have HG:=LH (show (Prog.ret (Res.none,decide (vd=1))).go s5=(v,s') from hg);have HED:=LH (show decide (vd=1)=false from decide_eq_false k1d);clear hg k1d;have hg:=HG.out;clear HG
         rw[HED.out] at hg
         have HG:=LH hg;clear hg;obtain ⟨rfl,rfl⟩:=Prod.mk.inj HG.out;obtain ⟨i0,i1,i2,i3,i4,i5⟩:=H7.out.ic;obtain ⟨o0,of0,o1,of1,o2,of2,o3,of3,o4,of4,o5,of5⟩:=H7.out.oc;go_wp2_with (fail);refine bodyPost_ret (v:=.tuple #[.agg (Q0W Res.none),.bool false]) (Q0a rfl _ _ ob 54 (Q0W Res.none) (0,0) _ rfl rfl (H7.out.setO6 Res.none).obk Tryz.underlying54 (by kernel_rfl)) rfl ?_;exact ⟨rfl,(H7.out.setO6 Res.none).run⟩
    ·have cof:=Q0c H2.out.run HOF.out;have k0:w2.cell? ⟨kb,0,none⟩=some (.int .i64 2):=H2.out.cells.1;have k1:w2.cell? ⟨kb,1,none⟩=some (.int .i64 okey):=H2.out.cells.2.1;have k2:w2.cell? ⟨kb,2,none⟩=some (.int .i64 oval):=H2.out.cells.2.2.1;have k3:w2.cell? ⟨ib,1,none⟩=some (.bool false):=H2.out.cells.2.2.2;have hgo:=(Q2h HOF.out (show ¬(((2:Int)=1/\false=true)\/((2:Int)=3/\false=false)) by decide)).symm.trans HG.out;clear HG;have HG:=LH hgo;clear hgo;have hg:=HG.out;clear HG;obtain ⟨⟨x1,x2⟩,s4,g4⟩:=Q0k (Q1w ⟨2,okey,oval⟩ wd v1 true false) s1
     have hg:((Q1w ⟨2,okey,oval⟩ wd v1 true false).bind fun x=>if x.2=false then .ret (Res.err 8,true) else
      (Q1m 1 (wrap64 (n+2)) s_ wd x.1).bind fun d=>if d=3 then .ret (Res.err 8,true) else
      (if d=1/\((2:Int)≠2\/false=false) then Q0J f l none else .ret ()).bind fun _=>.ret (Res.none,decide (d=1))).go s1=(v,s'):=hg
     rw[Q01,g4] at hg
     have HG:=LH hg;have HL4:=LH (Nat.le_trans (Q0i g4) HL1.out);have HO4:=LH (fun e:s0.off=true=>Q0X g4 (HO1.out e));obtain ⟨bx1,d4⟩:=Q0b g4 (Q1Z HO.out HW.out BV1.out) d1;have BX1:Hid (i64B x1):=LH bx1;have G4:=LH g4;clear g4 hg bx1;go_wp2_with (fail);with_reducible refine (Q2j _ rb _ ⟨2,okey,oval⟩ wd v1 true false s1 s4 (x1,x2) _ H2.out.here d1 HO.out Q36 HW.out BV1.out G4.out).mono ?_
     rintro e w4 ⟨rfl,h4⟩;have H4:=LH (H2.out.run_ h4);clear h4 H2 G4 k0 k1 k2 k3 cof
     cases x2 with
     |false=>
      have hg:=HG.out;clear HG
      rw[if_pos rfl] at hg
      have HG:=LH hg;clear hg;obtain ⟨rfl,rfl⟩:=Prod.mk.inj HG.out;go_wp2_with (fail);with_reducible refine (Q1b _).mono ?_
      rintro e wn ⟨rfl,hbn⟩;have HNM:=LH (H4.out.below hbn);clear hbn H4;obtain ⟨o0,of0,o1,of1,o2,of2,o3,of3,o4,of4,o5,of5⟩:=HNM.out.oc;unfold Q0W;go_wp2_with (fail);refine bodyPost_ret (v:=.tuple #[.agg (Q0W (Res.err 8)),.bool true]) (Q0a rfl _ _ ob 54 (Q0W (Res.err 8)) (0,0) _ rfl rfl (HNM.out.setO6 (Res.err 8)).obk Tryz.underlying54 (by kernel_rfl)) rfl ?_;exact ⟨rfl,(HNM.out.setO6 (Res.err 8)).run⟩
     |true=>
      have hg:=HG.out;clear HG
      rw[if_neg (fun e=>Bool.noConfusion e)] at hg
      have HG:=LH hg;clear hg;obtain ⟨hr,⟨x8,c8⟩,f8⟩:=H4.out.setR 0;have H5:=LH hr;clear hr H4;obtain ⟨vd,s5,g5⟩:=Q0k (Q1m 1 (wrap64 (n+2)) s_ wd x1) s4;have HL5:=LH (Nat.le_trans (Q0i g5) HL4.out);have HO5:=LH (fun e:s0.off=true=>Q0X g5 (HO4.out e));obtain ⟨bd,d5⟩:=Q0b g5 (Q1p (Q0l _) HS.out HW.out BX1.out) d4;have hvd0:=bd.1;have hvd1:=bd.2;have hg:=HG.out;clear HG
      rw[Q01,g5] at hg
      have HG:=LH hg;have G5:=LH g5;clear g5 hg bd;go_wp2_with (fail);generalize w4.setCell ⟨rb,8,none⟩ (.int .i64 0)=w5 at H5|-;clear c8 f8 x8;with_reducible refine (Q1t _ rb _ s4 s5 vd 1 (wrap64 (n+2)) s_ wd x1 _ H5.out.here d4 G5.out (Q0l _) HS.out HW.out BX1.out).mono ?_
      rintro e w6 ⟨rfl,h6⟩;have H6:=LH (H5.out.run_ h6);clear h6 H5 G5;obtain ⟨rc,c8⟩:=H6.out.rec8
      rcases Decidable.em (0<rc) with krc|krc
      all_goals first
       |(have krc:0<rc:=krc
         obtain ⟨hl9,⟨y,c9⟩,f9⟩:=H6.out.laid rc;have H7:=LH hl9;clear hl9;go_upto_region 17 with fail;generalize w6.setCell ⟨rb,9,none⟩ (.int .i64 rc)=w7 at H7|-;clear c8 c9 f9 H6 krc)
       |(obtain ⟨w7,hw7⟩:∃w7,w6=w7:=⟨_,rfl⟩
         subst hw7;have H7:=H6;clear H6;go_upto_region 17 with fail;clear c8 krc)
      all_goals
       by_cases k3d:vd=3
       ·have e3d:(vd==3)=true:=by simpa using k3d
        have hg:=HG.out;clear HG
        rw[if_pos k3d] at hg
        have HG:=LH hg;clear hg;clear k3d;obtain ⟨rfl,rfl⟩:=Prod.mk.inj HG.out;go_wp2_with (fail);with_reducible refine (Q1b _).mono ?_
        rintro e wn ⟨rfl,hbn⟩;have HNM:=LH (H7.out.below hbn);clear hbn H7;obtain ⟨o0,of0,o1,of1,o2,of2,o3,of3,o4,of4,o5,of5⟩:=HNM.out.oc;unfold Q0W;go_wp2_with (fail);refine bodyPost_ret (v:=.tuple #[.agg (Q0W (Res.err 8)),.bool true]) (Q0a rfl _ _ ob 54 (Q0W (Res.err 8)) (0,0) _ rfl rfl (HNM.out.setO6 (Res.err 8)).obk Tryz.underlying54 (by kernel_rfl)) rfl ?_;exact ⟨rfl,(HNM.out.setO6 (Res.err 8)).run⟩
       ·have e3d:(vd==3)=false:=by simpa using k3d
        have hg:=HG.out;clear HG
        rw[if_neg k3d] at hg
        have HG:=LH hg;clear hg;clear k3d;obtain ⟨q0,-,-,q3⟩:=H7.out.cells;have q0:World.cell? _ ⟨kb,0,none⟩=some (.int .i64 2):=q0;have q3:World.cell? _ ⟨ib,1,none⟩=some (.bool false):=q3;by_cases k1d:vd=1
        ·have e1d:(vd==1)=true:=by simpa using k1d
         obtain ⟨u8,s8,g8⟩:=Q0k (Q0J f l none) s5;have hg:=HG.out;clear HG
         rw[Q01,if_pos ⟨k1d,(.inr (by simp))⟩,g8] at hg
         have HG:=LH hg;have HED:=LH (show decide (vd=1)=true from decide_eq_true k1d);have G8:=LH (show (Q0J f l none).go s5=((),s8) from g8);clear hg g8 k1d;have HQ7:=LH (show Q3I _ _ A l from (HQ.out.chg_ H7.out.run.2 (Nat.le_refl _) HA.out).more H7.out.run.2.size);go_wp2_with (fail);with_reducible refine (Q2R _ rb _ f l A c s5 s8 _ H7.out.here d5 HLB.out HQ7.out HA.out hl (HFO.out _ HL5.out HO5.out) G8.out).mono ?_
         rintro e w8 ⟨rfl,h8⟩;have H8:=LH (H7.out.run_ h8);clear h8 H7 G8;have hg:=HG.out;clear HG
         rw[HED.out] at hg
         have HG:=LH hg;clear hg;obtain ⟨rfl,rfl⟩:=Prod.mk.inj HG.out;obtain ⟨i0,i1,i2,i3,i4,i5⟩:=H8.out.ic;obtain ⟨o0,of0,o1,of1,o2,of2,o3,of3,o4,of4,o5,of5⟩:=H8.out.oc;go_wp2_with (fail);refine bodyPost_ret (v:=.tuple #[.agg (Q0W Res.none),.bool true]) (Q0a rfl _ _ ob 54 (Q0W Res.none) (0,0) _ rfl rfl (H8.out.setO6 Res.none).obk Tryz.underlying54 (by kernel_rfl)) rfl ?_;exact ⟨rfl,(H8.out.setO6 Res.none).run⟩
        ·have e1d:(vd==1)=false:=by simpa using k1d
         have hg:=HG.out;clear HG
         rw[Q01,if_neg (fun e=>k1d e.1)] at hg
         have HG:=LH (show (Prog.ret (Res.none,decide (vd=1))).go s5=(v,s') from hg);have HED:=LH (show decide (vd=1)=false from decide_eq_false k1d);clear hg k1d;have hg:=HG.out;clear HG
         rw[HED.out] at hg
         have HG:=LH hg;clear hg;obtain ⟨rfl,rfl⟩:=Prod.mk.inj HG.out;obtain ⟨i0,i1,i2,i3,i4,i5⟩:=H7.out.ic;obtain ⟨o0,of0,o1,of1,o2,of2,o3,of3,o4,of4,o5,of5⟩:=H7.out.oc;go_wp2_with (fail);refine bodyPost_ret (v:=.tuple #[.agg (Q0W Res.none),.bool false]) (Q0a rfl _ _ ob 54 (Q0W Res.none) (0,0) _ rfl rfl (H7.out.setO6 Res.none).obk Tryz.underlying54 (by kernel_rfl)) rfl ?_;exact ⟨rfl,(H7.out.setO6 Res.none).run⟩
    ·have cof:=Q0c H2.out.run HOF.out;have k0:w2.cell? ⟨kb,0,none⟩=some (.int .i64 3):=H2.out.cells.1;have k1:w2.cell? ⟨kb,1,none⟩=some (.int .i64 okey):=H2.out.cells.2.1;have k2:w2.cell? ⟨kb,2,none⟩=some (.int .i64 oval):=H2.out.cells.2.2.1;have k3:w2.cell? ⟨ib,1,none⟩=some (.bool false):=H2.out.cells.2.2.2;obtain ⟨rfl,rfl⟩:=Prod.mk.inj ((Q3w (.inr ⟨rfl,rfl⟩)).symm.trans HG.out);obtain ⟨i0,i1,i2,i3,i4,i5⟩:=H2.out.ic;obtain ⟨o0,of0,o1,of1,o2,of2,o3,of3,o4,of4,o5,of5⟩:=H2.out.oc;go_wp2_with (fail);refine bodyPost_ret (v:=.tuple #[.agg (Q0W Res.none),.bool true]) (Q0a rfl _ _ ob 54 (Q0W Res.none) (0,0) _ rfl rfl (H2.out.setO6 Res.none).obk Tryz.underlying54 (by kernel_rfl)) rfl ?_;exact ⟨rfl,(H2.out.setO6 Res.none).run⟩
 ·have e2:(Q05 wd==2)=false:=by simpa using k2
  have HDK:=LH (show decide (Q05 wd=2)=false from decide_eq_false k2);have HE:=LH (show (Q2E wd okey).go s0=((0,Res.none),s0) by unfold Q2E;rw[if_neg k2];rfl);clear k2;have HL0:Hid (s0.left<=s0.left):=LH (Nat.le_refl _);have HO0:Hid (s0.off=true->s0.off=true):=LH id;have BV0:Hid (i64B 0):=LH Q0f;have hg:=Q9I HG.out HE.out;clear HG
  rw[HDK.out] at hg
  have HG:=LH hg;clear hg
  cases hoff:s0.off with
  |true=>
   have HOF:=LH hoff;obtain ⟨rfl,rfl⟩:=Prod.mk.inj ((Q4e hoff).symm.trans HG.out);clear hoff;have cof:=Q0c H0.out.run HOF.out;have k0:W.cell? ⟨kb,0,none⟩=some (.int .i64 okind):=H0.out.cells.1;have k1:W.cell? ⟨kb,1,none⟩=some (.int .i64 okey):=H0.out.cells.2.1;have k2:W.cell? ⟨kb,2,none⟩=some (.int .i64 oval):=H0.out.cells.2.2.1;have k3:W.cell? ⟨ib,1,none⟩=some (.bool false):=H0.out.cells.2.2.2;obtain ⟨i0,i1,i2,i3,i4,i5⟩:=H0.out.ic;obtain ⟨o0,of0,o1,of1,o2,of2,o3,of3,o4,of4,o5,of5⟩:=H0.out.oc;go_wp2_with (fail);refine bodyPost_ret (v:=.tuple #[.agg (Q0W Res.none),.bool true]) (Q0a rfl _ _ ob 54 (Q0W Res.none) (0,0) _ rfl rfl (H0.out.setO6 Res.none).obk Tryz.underlying54 (by kernel_rfl)) rfl ?_;exact ⟨rfl,(H0.out.setO6 Res.none).run⟩
  |false=>
   have HOF:=LH hoff;clear hoff
   rcases hk3 with rfl|rfl|rfl
   ·have cof:=Q0c H0.out.run HOF.out;have k0:W.cell? ⟨kb,0,none⟩=some (.int .i64 1):=H0.out.cells.1;have k1:W.cell? ⟨kb,1,none⟩=some (.int .i64 okey):=H0.out.cells.2.1;have k2:W.cell? ⟨kb,2,none⟩=some (.int .i64 oval):=H0.out.cells.2.2.1;have k3:W.cell? ⟨ib,1,none⟩=some (.bool false):=H0.out.cells.2.2.2;have hgo:=(Q2h HOF.out (show ¬(((1:Int)=1/\false=true)\/((1:Int)=3/\false=false)) by decide)).symm.trans HG.out;clear HG;have HG:=LH hgo;clear hgo;have hg:=HG.out;clear HG;obtain ⟨⟨x1,x2⟩,s4,g4⟩:=Q0k (Q1w ⟨1,okey,oval⟩ wd 0 false false) s0
    have hg:((Q1w ⟨1,okey,oval⟩ wd 0 false false).bind fun x=>if x.2=false then .ret (Res.err 8,true) else
     (Q1m 1 (wrap64 (n+2)) s_ wd x.1).bind fun d=>if d=3 then .ret (Res.err 8,true) else
     (if d=1/\((1:Int)≠2\/false=false) then Q0J f l none else .ret ()).bind fun _=>.ret (Res.none,decide (d=1))).go s0=(v,s'):=hg
    rw[Q01,g4] at hg
    have HG:=LH hg;have HL4:=LH (Nat.le_trans (Q0i g4) HL0.out);have HO4:=LH (fun e:s0.off=true=>Q0X g4 (HO0.out e));obtain ⟨bx1,d4⟩:=Q0b g4 (Q1Z HO.out HW.out BV0.out) d0;have BX1:Hid (i64B x1):=LH bx1;have G4:=LH g4;clear g4 hg bx1;go_wp2_with (fail);with_reducible refine (Q2j _ rb _ ⟨1,okey,oval⟩ wd 0 false false s0 s4 (x1,x2) _ H0.out.here d0 HO.out Q10 HW.out BV0.out G4.out).mono ?_
    rintro e w4 ⟨rfl,h4⟩;have H4:=LH (H0.out.run_ h4);clear h4 H0 G4 k0 k1 k2 k3 cof
    cases x2 with
    |false=>
     have hg:=HG.out;clear HG
     rw[if_pos rfl] at hg
     have HG:=LH hg;clear hg;obtain ⟨rfl,rfl⟩:=Prod.mk.inj HG.out;go_wp2_with (fail);with_reducible refine (Q1b _).mono ?_
     rintro e wn ⟨rfl,hbn⟩;have HNM:=LH (H4.out.below hbn);clear hbn H4;obtain ⟨o0,of0,o1,of1,o2,of2,o3,of3,o4,of4,o5,of5⟩:=HNM.out.oc;unfold Q0W;go_wp2_with (fail);refine bodyPost_ret (v:=.tuple #[.agg (Q0W (Res.err 8)),.bool true]) (Q0a rfl _ _ ob 54 (Q0W (Res.err 8)) (0,0) _ rfl rfl (HNM.out.setO6 (Res.err 8)).obk Tryz.underlying54 (by kernel_rfl)) rfl ?_;exact ⟨rfl,(HNM.out.setO6 (Res.err 8)).run⟩
    |true=>
     have hg:=HG.out;clear HG
     rw[if_neg (fun e=>Bool.noConfusion e)] at hg
     have HG:=LH hg;clear hg;obtain ⟨hr,⟨x8,c8⟩,f8⟩:=H4.out.setR 0;have H5:=LH hr;clear hr H4;obtain ⟨vd,s5,g5⟩:=Q0k (Q1m 1 (wrap64 (n+2)) s_ wd x1) s4;have HL5:=LH (Nat.le_trans (Q0i g5) HL4.out);have HO5:=LH (fun e:s0.off=true=>Q0X g5 (HO4.out e));obtain ⟨bd,d5⟩:=Q0b g5 (Q1p (Q0l _) HS.out HW.out BX1.out) d4;have hvd0:=bd.1;have hvd1:=bd.2;have hg:=HG.out;clear HG
     rw[Q01,g5] at hg
     have HG:=LH hg;have G5:=LH g5;clear g5 hg bd;go_wp2_with (fail);generalize w4.setCell ⟨rb,8,none⟩ (.int .i64 0)=w5 at H5|-;clear c8 f8 x8;with_reducible refine (Q1t _ rb _ s4 s5 vd 1 (wrap64 (n+2)) s_ wd x1 _ H5.out.here d4 G5.out (Q0l _) HS.out HW.out BX1.out).mono ?_
     rintro e w6 ⟨rfl,h6⟩;have H6:=LH (H5.out.run_ h6);clear h6 H5 G5;obtain ⟨rc,c8⟩:=H6.out.rec8
     rcases Decidable.em (0<rc) with krc|krc
     all_goals first
      |(have krc:0<rc:=krc
        obtain ⟨hl9,⟨y,c9⟩,f9⟩:=H6.out.laid rc;have H7:=LH hl9;clear hl9;go_upto_region 17 with fail;generalize w6.setCell ⟨rb,9,none⟩ (.int .i64 rc)=w7 at H7|-;clear c8 c9 f9 H6 krc)
      |(obtain ⟨w7,hw7⟩:∃w7,w6=w7:=⟨_,rfl⟩
        subst hw7;have H7:=H6;clear H6;go_upto_region 17 with fail;clear c8 krc)
     all_goals
      by_cases k3d:vd=3
      ·have e3d:(vd==3)=true:=by simpa using k3d
       have hg:=HG.out;clear HG
       rw[if_pos k3d] at hg
       have HG:=LH hg;clear hg;clear k3d;obtain ⟨rfl,rfl⟩:=Prod.mk.inj HG.out;go_wp2_with (fail);with_reducible refine (Q1b _).mono ?_
       rintro e wn ⟨rfl,hbn⟩;have HNM:=LH (H7.out.below hbn);clear hbn H7;obtain ⟨o0,of0,o1,of1,o2,of2,o3,of3,o4,of4,o5,of5⟩:=HNM.out.oc;unfold Q0W;go_wp2_with (fail);refine bodyPost_ret (v:=.tuple #[.agg (Q0W (Res.err 8)),.bool true]) (Q0a rfl _ _ ob 54 (Q0W (Res.err 8)) (0,0) _ rfl rfl (HNM.out.setO6 (Res.err 8)).obk Tryz.underlying54 (by kernel_rfl)) rfl ?_;exact ⟨rfl,(HNM.out.setO6 (Res.err 8)).run⟩
      ·have e3d:(vd==3)=false:=by simpa using k3d
       have hg:=HG.out;clear HG
       rw[if_neg k3d] at hg
       have HG:=LH hg;clear hg;clear k3d;obtain ⟨q0,-,-,q3⟩:=H7.out.cells;have q0:World.cell? _ ⟨kb,0,none⟩=some (.int .i64 1):=q0;have q3:World.cell? _ ⟨ib,1,none⟩=some (.bool false):=q3;by_cases k1d:vd=1
       ·have e1d:(vd==1)=true:=by simpa using k1d
        obtain ⟨u8,s8,g8⟩:=Q0k (Q0J f l none) s5;have hg:=HG.out;clear HG
        rw[Q01,if_pos ⟨k1d,(.inl (by decide))⟩,g8] at hg
        have HG:=LH hg;have HED:=LH (show decide (vd=1)=true from decide_eq_true k1d);have G8:=LH (show (Q0J f l none).go s5=((),s8) from g8);clear hg g8 k1d;have HQ7:=LH (show Q3I _ _ A l from (HQ.out.chg_ H7.out.run.2 (Nat.le_refl _) HA.out).more H7.out.run.2.size);go_wp2_with (fail);with_reducible refine (Q2R _ rb _ f l A c s5 s8 _ H7.out.here d5 HLB.out HQ7.out HA.out hl (HFO.out _ HL5.out HO5.out) G8.out).mono ?_
        rintro e w8 ⟨rfl,h8⟩;have H8:=LH (H7.out.run_ h8);clear h8 H7 G8;have hg:=HG.out;clear HG
        rw[HED.out] at hg
        have HG:=LH hg;clear hg;obtain ⟨rfl,rfl⟩:=Prod.mk.inj HG.out;obtain ⟨i0,i1,i2,i3,i4,i5⟩:=H8.out.ic;obtain ⟨o0,of0,o1,of1,o2,of2,o3,of3,o4,of4,o5,of5⟩:=H8.out.oc;go_wp2_with (fail);refine bodyPost_ret (v:=.tuple #[.agg (Q0W Res.none),.bool true]) (Q0a rfl _ _ ob 54 (Q0W Res.none) (0,0) _ rfl rfl (H8.out.setO6 Res.none).obk Tryz.underlying54 (by kernel_rfl)) rfl ?_;exact ⟨rfl,(H8.out.setO6 Res.none).run⟩
       ·have e1d:(vd==1)=false:=by simpa using k1d
        have hg:=HG.out;clear HG
        rw[Q01,if_neg (fun e=>k1d e.1)] at hg
        have HG:=LH (show (Prog.ret (Res.none,decide (vd=1))).go s5=(v,s') from hg);have HED:=LH (show decide (vd=1)=false from decide_eq_false k1d);clear hg k1d;have hg:=HG.out;clear HG
        rw[HED.out] at hg
        have HG:=LH hg;clear hg;obtain ⟨rfl,rfl⟩:=Prod.mk.inj HG.out;obtain ⟨i0,i1,i2,i3,i4,i5⟩:=H7.out.ic;obtain ⟨o0,of0,o1,of1,o2,of2,o3,of3,o4,of4,o5,of5⟩:=H7.out.oc;go_wp2_with (fail);refine bodyPost_ret (v:=.tuple #[.agg (Q0W Res.none),.bool false]) (Q0a rfl _ _ ob 54 (Q0W Res.none) (0,0) _ rfl rfl (H7.out.setO6 Res.none).obk Tryz.underlying54 (by kernel_rfl)) rfl ?_;exact ⟨rfl,(H7.out.setO6 Res.none).run⟩
   ·have cof:=Q0c H0.out.run HOF.out;have k0:W.cell? ⟨kb,0,none⟩=some (.int .i64 2):=H0.out.cells.1;have k1:W.cell? ⟨kb,1,none⟩=some (.int .i64 okey):=H0.out.cells.2.1;have k2:W.cell? ⟨kb,2,none⟩=some (.int .i64 oval):=H0.out.cells.2.2.1;have k3:W.cell? ⟨ib,1,none⟩=some (.bool false):=H0.out.cells.2.2.2;have hgo:=(Q2h HOF.out (show ¬(((2:Int)=1/\false=true)\/((2:Int)=3/\false=false)) by decide)).symm.trans HG.out;clear HG;have HG:=LH hgo;clear hgo;have hg:=HG.out;clear HG;obtain ⟨⟨x1,x2⟩,s4,g4⟩:=Q0k (Q1w ⟨2,okey,oval⟩ wd 0 false false) s0
    have hg:((Q1w ⟨2,okey,oval⟩ wd 0 false false).bind fun x=>if x.2=false then .ret (Res.err 8,true) else
     (Q1m 1 (wrap64 (n+2)) s_ wd x.1).bind fun d=>if d=3 then .ret (Res.err 8,true) else
     (if d=1/\((2:Int)≠2\/false=false) then Q0J f l none else .ret ()).bind fun _=>.ret (Res.none,decide (d=1))).go s0=(v,s'):=hg
    rw[Q01,g4] at hg
    have HG:=LH hg;have HL4:=LH (Nat.le_trans (Q0i g4) HL0.out);have HO4:=LH (fun e:s0.off=true=>Q0X g4 (HO0.out e));obtain ⟨bx1,d4⟩:=Q0b g4 (Q1Z HO.out HW.out BV0.out) d0;have BX1:Hid (i64B x1):=LH bx1;have G4:=LH g4;clear g4 hg bx1;go_wp2_with (fail);with_reducible refine (Q2j _ rb _ ⟨2,okey,oval⟩ wd 0 false false s0 s4 (x1,x2) _ H0.out.here d0 HO.out Q36 HW.out BV0.out G4.out).mono ?_
    rintro e w4 ⟨rfl,h4⟩;have H4:=LH (H0.out.run_ h4);clear h4 H0 G4 k0 k1 k2 k3 cof
    cases x2 with
    |false=>
     have hg:=HG.out;clear HG
     rw[if_pos rfl] at hg
     have HG:=LH hg;clear hg;obtain ⟨rfl,rfl⟩:=Prod.mk.inj HG.out;go_wp2_with (fail);with_reducible refine (Q1b _).mono ?_
     rintro e wn ⟨rfl,hbn⟩;have HNM:=LH (H4.out.below hbn);clear hbn H4;obtain ⟨o0,of0,o1,of1,o2,of2,o3,of3,o4,of4,o5,of5⟩:=HNM.out.oc;unfold Q0W;go_wp2_with (fail);refine bodyPost_ret (v:=.tuple #[.agg (Q0W (Res.err 8)),.bool true]) (Q0a rfl _ _ ob 54 (Q0W (Res.err 8)) (0,0) _ rfl rfl (HNM.out.setO6 (Res.err 8)).obk Tryz.underlying54 (by kernel_rfl)) rfl ?_;exact ⟨rfl,(HNM.out.setO6 (Res.err 8)).run⟩
    |true=>
     have hg:=HG.out;clear HG
     rw[if_neg (fun e=>Bool.noConfusion e)] at hg
     have HG:=LH hg;clear hg;obtain ⟨hr,⟨x8,c8⟩,f8⟩:=H4.out.setR 0;have H5:=LH hr;clear hr H4;obtain ⟨vd,s5,g5⟩:=Q0k (Q1m 1 (wrap64 (n+2)) s_ wd x1) s4;have HL5:=LH (Nat.le_trans (Q0i g5) HL4.out);have HO5:=LH (fun e:s0.off=true=>Q0X g5 (HO4.out e));obtain ⟨bd,d5⟩:=Q0b g5 (Q1p (Q0l _) HS.out HW.out BX1.out) d4;have hvd0:=bd.1;have hvd1:=bd.2;have hg:=HG.out;clear HG
     rw[Q01,g5] at hg
     have HG:=LH hg;have G5:=LH g5;clear g5 hg bd;go_wp2_with (fail);generalize w4.setCell ⟨rb,8,none⟩ (.int .i64 0)=w5 at H5|-;clear c8 f8 x8;with_reducible refine (Q1t _ rb _ s4 s5 vd 1 (wrap64 (n+2)) s_ wd x1 _ H5.out.here d4 G5.out (Q0l _) HS.out HW.out BX1.out).mono ?_
     rintro e w6 ⟨rfl,h6⟩;have H6:=LH (H5.out.run_ h6);clear h6 H5 G5;obtain ⟨rc,c8⟩:=H6.out.rec8
     rcases Decidable.em (0<rc) with krc|krc
     all_goals first
      |(have krc:0<rc:=krc
        obtain ⟨hl9,⟨y,c9⟩,f9⟩:=H6.out.laid rc;have H7:=LH hl9;clear hl9;go_upto_region 17 with fail;generalize w6.setCell ⟨rb,9,none⟩ (.int .i64 rc)=w7 at H7|-;clear c8 c9 f9 H6 krc)
      |(obtain ⟨w7,hw7⟩:∃w7,w6=w7:=⟨_,rfl⟩
        subst hw7;have H7:=H6;clear H6;go_upto_region 17 with fail;clear c8 krc)
     all_goals
      by_cases k3d:vd=3
      ·have e3d:(vd==3)=true:=by simpa using k3d
       have hg:=HG.out;clear HG
       rw[if_pos k3d] at hg
       have HG:=LH hg;clear hg;clear k3d;obtain ⟨rfl,rfl⟩:=Prod.mk.inj HG.out;go_wp2_with (fail);with_reducible refine (Q1b _).mono ?_
       rintro e wn ⟨rfl,hbn⟩;have HNM:=LH (H7.out.below hbn);clear hbn H7;obtain ⟨o0,of0,o1,of1,o2,of2,o3,of3,o4,of4,o5,of5⟩:=HNM.out.oc;unfold Q0W;go_wp2_with (fail);refine bodyPost_ret (v:=.tuple #[.agg (Q0W (Res.err 8)),.bool true]) (Q0a rfl _ _ ob 54 (Q0W (Res.err 8)) (0,0) _ rfl rfl (HNM.out.setO6 (Res.err 8)).obk Tryz.underlying54 (by kernel_rfl)) rfl ?_;exact ⟨rfl,(HNM.out.setO6 (Res.err 8)).run⟩
      ·have e3d:(vd==3)=false:=by simpa using k3d
       have hg:=HG.out;clear HG
       rw[if_neg k3d] at hg
       have HG:=LH hg;clear hg;clear k3d;obtain ⟨q0,-,-,q3⟩:=H7.out.cells;have q0:World.cell? _ ⟨kb,0,none⟩=some (.int .i64 2):=q0;have q3:World.cell? _ ⟨ib,1,none⟩=some (.bool false):=q3;by_cases k1d:vd=1
       ·have e1d:(vd==1)=true:=by simpa using k1d
        obtain ⟨u8,s8,g8⟩:=Q0k (Q0J f l none) s5;have hg:=HG.out;clear HG
        rw[Q01,if_pos ⟨k1d,(.inr (by simp))⟩,g8] at hg
        have HG:=LH hg;have HED:=LH (show decide (vd=1)=true from decide_eq_true k1d);have G8:=LH (show (Q0J f l none).go s5=((),s8) from g8);clear hg g8 k1d;have HQ7:=LH (show Q3I _ _ A l from (HQ.out.chg_ H7.out.run.2 (Nat.le_refl _) HA.out).more H7.out.run.2.size);go_wp2_with (fail);with_reducible refine (Q2R _ rb _ f l A c s5 s8 _ H7.out.here d5 HLB.out HQ7.out HA.out hl (HFO.out _ HL5.out HO5.out) G8.out).mono ?_
        rintro e w8 ⟨rfl,h8⟩;have H8:=LH (H7.out.run_ h8);clear h8 H7 G8;have hg:=HG.out;clear HG
        rw[HED.out] at hg
        have HG:=LH hg;clear hg;obtain ⟨rfl,rfl⟩:=Prod.mk.inj HG.out;obtain ⟨i0,i1,i2,i3,i4,i5⟩:=H8.out.ic;obtain ⟨o0,of0,o1,of1,o2,of2,o3,of3,o4,of4,o5,of5⟩:=H8.out.oc;go_wp2_with (fail);refine bodyPost_ret (v:=.tuple #[.agg (Q0W Res.none),.bool true]) (Q0a rfl _ _ ob 54 (Q0W Res.none) (0,0) _ rfl rfl (H8.out.setO6 Res.none).obk Tryz.underlying54 (by kernel_rfl)) rfl ?_;exact ⟨rfl,(H8.out.setO6 Res.none).run⟩
       ·have e1d:(vd==1)=false:=by simpa using k1d
        have hg:=HG.out;clear HG
        rw[Q01,if_neg (fun e=>k1d e.1)] at hg
        have HG:=LH (show (Prog.ret (Res.none,decide (vd=1))).go s5=(v,s') from hg);have HED:=LH (show decide (vd=1)=false from decide_eq_false k1d);clear hg k1d;have hg:=HG.out;clear HG
        rw[HED.out] at hg
        have HG:=LH hg;clear hg;obtain ⟨rfl,rfl⟩:=Prod.mk.inj HG.out;obtain ⟨i0,i1,i2,i3,i4,i5⟩:=H7.out.ic;obtain ⟨o0,of0,o1,of1,o2,of2,o3,of3,o4,of4,o5,of5⟩:=H7.out.oc;go_wp2_with (fail);refine bodyPost_ret (v:=.tuple #[.agg (Q0W Res.none),.bool false]) (Q0a rfl _ _ ob 54 (Q0W Res.none) (0,0) _ rfl rfl (H7.out.setO6 Res.none).obk Tryz.underlying54 (by kernel_rfl)) rfl ?_;exact ⟨rfl,(H7.out.setO6 Res.none).run⟩
   ·have cof:=Q0c H0.out.run HOF.out;have k0:W.cell? ⟨kb,0,none⟩=some (.int .i64 3):=H0.out.cells.1;have k1:W.cell? ⟨kb,1,none⟩=some (.int .i64 okey):=H0.out.cells.2.1;have k2:W.cell? ⟨kb,2,none⟩=some (.int .i64 oval):=H0.out.cells.2.2.1;have k3:W.cell? ⟨ib,1,none⟩=some (.bool false):=H0.out.cells.2.2.2;obtain ⟨rfl,rfl⟩:=Prod.mk.inj ((Q3w (.inr ⟨rfl,rfl⟩)).symm.trans HG.out);obtain ⟨i0,i1,i2,i3,i4,i5⟩:=H0.out.ic;obtain ⟨o0,of0,o1,of1,o2,of2,o3,of3,o4,of4,o5,of5⟩:=H0.out.oc;go_wp2_with (fail);refine bodyPost_ret (v:=.tuple #[.agg (Q0W Res.none),.bool true]) (Q0a rfl _ _ ob 54 (Q0W Res.none) (0,0) _ rfl rfl (H0.out.setO6 Res.none).obk Tryz.underlying54 (by kernel_rfl)) rfl ?_;exact ⟨rfl,(H0.out.setO6 Res.none).run⟩
end
structure RT (F:Nat->Prop) (rb:Nat) (w0:World) (s:RunS) (kb:Nat) (o:Op) (ob:Nat) (r:Res) (pv:Value) (path:List Entry) (w:World):Prop where
 run:RAt F rb w0 s w
 kbk:Blk w kb 48 (opC o)
 obk:Blk w ob 54 (Q0W r)
 no:w0.heap.size<=ob
 own:w.ownsRow w0.heap.size 46 3 pv path.length (Q3D path)
 len:path.length+s.left<=2000000000
section
variable {F:Nat->Prop} {rb kb ob:Nat} {w0 w w' wd w5:World} {s s':RunS} {o:Op} {r:Res} {pv v':Value} {path:List Entry} {e:Entry}
theorem RT.here (h:RT F rb w0 s kb o ob r pv path w):RAt (fun y=>F y\/w0.heap.size<=y) rb w s w:=h.run.here
theorem RT.run_ (h:RT F rb w0 s kb o ob r pv path w) (h':RAt (fun y=>F y\/w0.heap.size<=y) rb w s' w') (hl:s'.left<=s.left):RT F rb w0 s' kb o ob r pv path w':=
 ⟨h.run.step h',h.run.keepB h'.2 h.kbk (by decide),h.run.keepB h'.2 h.obk (by decide),h.no,h.run.keepO h'.2 h.own (by decide),by have:=h.len;omega⟩
theorem RT.below (h:RT F rb w0 s kb o ob r pv path w) (hb:Below w.heap.size w w'):RT F rb w0 s kb o ob r pv path w':=
 ⟨h.run.below hb,h.kbk.below hb h.kbk.lt,h.obk.below hb h.obk.lt,h.no,Q0n h.own hb,h.len⟩
theorem RT.setO6 (h:RT F rb w0 s kb o ob r pv path w) (r':Res):RT F rb w0 s kb o ob r' pv path ((((((w.setCell ⟨ob,0,none⟩ (.int .i64 r'.why)).setCell ⟨ob,1,none⟩ (.bool r'.found)).setCell ⟨ob,2,none⟩ (.int .i64 r'.key)).setCell ⟨ob,3,none⟩ (.int .i64 r'.val)).setCell ⟨ob,4,none⟩ (.int .i64 r'.n)).setCell ⟨ob,5,none⟩ (.slice none 0 0)):=
 ⟨h.run.keepT (Qeb _ _ _ _ _ _ _ _) (fun x hx=>hx▸⟨h.no,_,_,h.obk,by decide,by decide⟩),(Qeb _ _ _ _ _ _ _ _).blk h.kbk (fun e=>h.kbk.ne_ h.obk (by decide) e),Qh1 h.obk r',h.no,(Qeb _ _ _ _ _ _ _ _).own h.own (Q0t h.own h.obk (by decide)),h.len⟩
theorem RT.app (h:RT F rb w0 s kb o ob r pv path w) (hb:Below w.heap.size w wd) (hO:w5.ownsRow w0.heap.size 46 3 v' (path.length+1) (Q3D path++[.int .i64 e.node,.int .i64 e.slot,.int .i64 e.word])) (hg:wd.grownBy w5 pv.ownBlock) (hl:path.length+1+s.left<=2000000000):RT F rb w0 s kb o ob r v' (path++[e]) w5:=by
 have hc:Chg (fun y=>pv.ownBlock=some y) w w5:=(Chg.of_below hb).trans (Chg.of_grown hg);refine ⟨h.run.keepT hc (fun y hy=> ?_),hc.blk h.kbk (fun e=>Q0o h.own h.kbk (by decide) e),hc.blk h.obk (fun e=>Q0o h.own h.obk (by decide) e),h.no, ?_,by simpa using hl⟩
 ·obtain ⟨cs,hb⟩:=Q1r h.own hy;exact ⟨(h.own.lt y hy).1,_,cs,hb,by decide,by decide⟩
 ·rw[Q4C,List.length_append];exact hO
theorem RT.cells (h:RT F rb w0 s kb o ob r pv path w):w.cell? ⟨kb,0,none⟩=some (.int .i64 o.kind)/\w.cell? ⟨kb,1,none⟩=some (.int .i64 o.key)/\w.cell? ⟨kb,2,none⟩=some (.int .i64 o.val):=⟨h.kbk.cell 0,h.kbk.cell 1,h.kbk.cell 2⟩
theorem RT.new (h:RAt F rb w0 s w) (o:Op) (hl:s.left<=2000000000):RT F rb w0 s w.heap.size o (w.heap.size+1) Res.none (.slice none 0 0) [] ((w.alloc (.cells (opC o) 48)).alloc (.cells (Q0W Res.none) 54)):=by
 have hb1:=(Below.refl w.heap.size w).alloc (Nat.le_refl _) (.cells (opC o) 48);have e1:(w.alloc (.cells (opC o) 48)).heap.size=w.heap.size+1:=by simp
 have hb2:=(Below.refl (w.alloc (.cells (opC o) 48)).heap.size (w.alloc (.cells (opC o) 48))).alloc (Nat.le_refl _) (.cells (Q0W Res.none) 54);have k1:=Blk.new w 48 (opC o);have k2:=Blk.new (w.alloc (.cells (opC o) 48)) 54 (Q0W Res.none)
 rw[e1] at k2
 have hz:=h.2.size;exact ⟨(h.below hb1).below hb2,k1.below hb2 k1.lt,k2,by omega,World.ownsRow_nil _ _ _ _,by simpa using hl⟩
theorem RT.pth (h:RT F rb w0 s kb o ob r pv path w):∃A c,pv=.slice A path.length c/\Q3I w w.heap.size A path/\(∀ad,A=some ad->ad.block≠rb)/\path.length<=2000000000:=by
 have hl:=h.len;have ho:=h.own;obtain ⟨⟨tv,wv,rec,laid,hq⟩,hc⟩:=h.run
 rcases ho.2 with ⟨rfl,h0⟩|⟨g,cap,cur,rfl,_,hg,hle,_⟩
 ·have:path=[]:=List.eq_nil_of_length_eq_zero h0;subst this;exact ⟨none,0,rfl,Reads.none_,fun ad ha=>(by cases ha),by omega⟩
 ·exact ⟨_,cap,rfl,Reads.of_own ho,fun ad ha=>by injection ha with ha;subst ha;exact fun e=>Q0o ho hq.blk (by decide) (by rw[<-e];rfl),by omega⟩
end
theorem Qby:(Tryz.prog.info? 46).map (fun i=>(i.zero,i.size,i.bytes))=some (some (.agg #[.int .i64 0,.int .i64 0,.int .i64 0]),3,24):=by kernel_rfl
theorem Q9V (w:World) (t:TypeId) (a b c:Value):∀j u,[a,b,c][j]? =some u->(w.alloc (.cells #[a,b,c] t)).cell? ((⟨w.heap.size,0,none⟩:Addr).add j)=some u:=fun j u hu=>by
 have e:(⟨w.heap.size,0,none⟩:Addr).add j=⟨w.heap.size,j,none⟩:=by unfold Addr.add;split<;>simp_all
 rw[e,(Blk.new w t #[a,b,c]).cell j]
 simpa using hu
theorem QaB {n k v:Int} {s s':RunS} (hg:(Q24 n k).go s=(v,s')) (h:s.off=false) (d:s.Bd):s'.left<s.left:=by have:=Q9c n k h d;rw[hg] at this;exact this
theorem Q80 {f:Nat} {o:Op} {n:Int} {path:List Entry} {s:RunS} (h:s.off=true):∀m,(Q13 f o m n path).go s=((Res.none,true),s)
 |0=>rfl
 |m+1=>by unfold Q13;rw[Q0B,if_pos h];rfl
section
variable (F:Nat->Prop) (rb:Nat)
def Qh9 (w0:World) (kb ob f:Nat) (o:Op) (v:Res×Bool) (s':RunS) (T:List Int) (nv pv:Value) (wr:World):Prop:=∃(n:Int) (path:List Entry) (m:Nat) (s:RunS),nv=.int .i64 n/\i64B n/\(s.off=false->s.left<m)/\(s.off=false->s.left<f)/\s.tape=T/\RT F rb w0 s kb o ob Res.none pv path wr/\s.Bd/\(∀e∈path,e.B)/\(Q13 f o m n path).go s=(v,s')
theorem Q9h (f m:Nat) (o:Op) (s0 s':RunS) (v:Res×Bool) (w:World) (h:RunP F rb s0 w) (d0:s0.Bd) (ho:o.B) (hk3:o.kind=1\/o.kind=2\/o.kind=3) (hm:s0.off=false->s0.left<m) (hf:s0.off=false->s0.left<f) (hg:(Q13 f o m 1 []).go s0=(v,s')):
  Calls Tryz.prog 247 #[.pointer (some ⟨rb,0,none⟩),.agg #[.int .i64 o.kind,.int .i64 o.key,.int .i64 o.val]] w (QaH F rb w v s'):=by
 obtain ⟨i0,hi0,hz0,hz1,hz2⟩:=info_parts Qby;have hH:=RT.new (RAt.refl h) o (by have:=Q4d d0;omega);have hky0:=ho.key.lo;have hky1:=ho.key.hi;have HG:=LH hg;have HO:=LH ho;have HM:=LH hm;have HF:=LH hf;have HK3:=LH hk3;clear hg ho hm hf hk3;clear h;obtain ⟨okind,okey,oval⟩:=o;have hky0:-9223372036854775808<=okey:=hky0;have hky1:okey<=9223372036854775807:=hky1;have HKB:Hid (i64B okey):=LH HO.out.key;go_enter Tryz.func247,Tryz.ntmps247;go_upto_region 3 with fail;have hH:RT F rb w s0 w.heap.size ⟨okind,okey,oval⟩ (w.heap.size+1) Res.none (.slice none 0 0) [] ((w.alloc (.cells #[.int .i64 okind,.int .i64 okey,.int .i64 oval] 48)).alloc (.cells rZ 54)):=hH;generalize (w.alloc (.cells #[.int .i64 okind,.int .i64 okey,.int .i64 oval] 48)).alloc (.cells rZ 54)=W at hH|-;generalize w.heap.size+1=ob at hH|-;obtain ⟨kb,hkb⟩:∃kb,w.heap.size=kb:=⟨_,rfl⟩
 rw[hkb] at hH|-
 have H0:=LH hH;clear hH hkb
 go_loopw [6,7] (fun nv pv wr=>Qh9 F rb w kb ob f ⟨okind,okey,oval⟩ v s' s0.tape nv pv wr) (fun _ _ wr=>Q65 rb s0.tape.length wr)
 case atStart=>unfold Qh9;exact ⟨1,[],m,s0,rfl,Q10,HM.out,HF.out,rfl,H0.out,d0,fun e he=>(by cases he),HG.out⟩
 case round=>
  clear HG H0 d0 HM HF;obtain ⟨n,path,m1,s1,rfl,hn,hm1,hf1,ht1,h1,d1,hp1,g1⟩:=hrel;have H1:=LH h1;have H1r:=LH h1.run;have HG:=LH g1;have HM1:=LH hm1;have HF1:=LH hf1;have HT1:=LH ht1;have HP1:=LH hp1;have HN:=LH hn;have hlen:=h1.len;obtain ⟨A,c,rfl,hq1,hA1,hl1⟩:=h1.pth;have HQ1:=LH hq1;have HA1:=LH hA1;clear hq1 hA1;clear h1 g1 hm1 hf1 ht1 hp1 hn
  cases hoff:s1.off with
  |true=>
   have cof:=Q0c H1.out.run hoff;obtain ⟨rfl,rfl⟩:=Prod.mk.inj ((Q80 hoff m1).symm.trans HG.out);clear hoff;have o0:wr.cell? ⟨ob,0,none⟩=some (.int .i64 0):=H1.out.obk.cell 0;have of0:=H1.out.obk.frozen 0;have o1:wr.cell? ⟨ob,1,none⟩=some (.bool false):=H1.out.obk.cell 1;have of1:=H1.out.obk.frozen 1;have o2:wr.cell? ⟨ob,2,none⟩=some (.int .i64 0):=H1.out.obk.cell 2;have of2:=H1.out.obk.frozen 2;have o3:wr.cell? ⟨ob,3,none⟩=some (.int .i64 0):=H1.out.obk.cell 3;have of3:=H1.out.obk.frozen 3;have o4:wr.cell? ⟨ob,4,none⟩=some (.int .i64 0):=H1.out.obk.cell 4;have of4:=H1.out.obk.frozen 4;have o5:wr.cell? ⟨ob,5,none⟩=some (.slice none 0 0):=H1.out.obk.cell 5;have of5:=H1.out.obk.frozen 5;go_wp2_with (fail);refine bodyPost_ret (v:=.tuple #[.agg (Q0W Res.none),.bool true]) (Q0a rfl _ _ ob 54 (Q0W Res.none) (0,0) _ rfl rfl (H1.out.setO6 Res.none).obk Tryz.underlying54 (by kernel_rfl)) rfl ?_;exact ⟨rfl,(H1.out.setO6 Res.none).run⟩
  |false=>
   have cof:=Q0c H1.out.run hoff;have HOF:=LH hoff;have hltm:=HM1.out hoff;have hltf:=HF1.out hoff;obtain ⟨m1,rfl⟩:∃k,m1=k+1:=⟨m1-1,by omega⟩;have hg:=HG.out;clear HG;unfold Q13 at hg
   rw[Q0B,hoff,if_neg Bool.false_ne_true] at hg
   clear hoff;obtain ⟨v2,s2,g2⟩:=Q0k (Q24 n okey) s1;have hl2:=QaB g2 HOF.out d1;have HT2:=LH (Q0v g2);obtain ⟨b2,d2⟩:=Q0b g2 (Q3C HN.out) d1;obtain ⟨v3,s3,g3⟩:=Q0k (Q4M m1 v2) s2;have HL3:=LH (Q0i g3);have HT3:=LH (Q0v g3);obtain ⟨b3,d3⟩:=Q0b g3 (Q4l b2 m1) d2
   have hg:((Q24 n okey).bind fun s=>(Q4M m1 s).bind fun w=>
    if Q05 w=4 then (Q2A f (wAt w)).bind fun ok=>if ok=false then .ret (Res.err 8,true) else .ret (Res.none,false)
    else if Q05 w=3 then Q13 f ⟨okind,okey,oval⟩ m1 (wAt w) (path++[⟨n,s,w⟩])
    else Qe9 f ⟨okind,okey,oval⟩ n s w path).go s1=(v,s'):=hg
   rw[Q01,g2,Q01,g3] at hg
   have HG:=LH hg;have G2:=LH g2;have G3:=LH g3;have HB2:=LH b2;have HB3:=LH b3;have hb30:=b3.lo;have hb31:=b3.hi;clear hg g2 g3 b2 b3;have k1:wr.cell? ⟨kb,1,none⟩=some (.int .i64 okey):=H1.out.cells.2.1;go_wp2_with (fail);with_reducible refine (Q7b _ rb _ s1 s2 v2 n okey _ H1.out.here d1 G2.out HN.out HKB.out).mono ?_
   rintro e w2 ⟨rfl,h2⟩;have H2:=LH (H1.out.run_ h2 (Nat.le_of_lt hl2));clear h2 H1 G2 k1 cof HQ1;go_wp2_with (fail);with_reducible refine (Q8n _ rb _ s2 s3 v3 m1 v2 _ H2.out.here d2 G3.out HB2.out (by omega)).mono ?_
   rintro e w3 ⟨rfl,h3⟩;have H3:=LH (H2.out.run_ h3 HL3.out);clear h3 H2 G3;go_wp2_with (fail);with_reducible refine (Q0A v3 _ hb30 hb31).mono ?_
   rintro e w4 ⟨rfl,rfl⟩;obtain ⟨wa0,wa1⟩:=Q0D v3;have hg:=HG.out;clear HG;by_cases k4:Q05 v3=4
   ·have e4:(Q05 v3==4)=true:=by simpa using k4
    rw[if_pos k4] at hg
    clear k4;obtain ⟨v5,s5,g5⟩:=Q0k (Q2A f (wAt v3)) s3;have HL5:=LH (Q0i g5)
    rw[Q01,g5] at hg
    have HG:=LH hg;obtain ⟨_,d5⟩:=Q0b g5 (Q4r (Q0H v3)) d3;have G5:=LH g5;clear hg g5;go_wp2_with (fail);with_reducible refine (Q0x v3 _ hb30 hb31).mono ?_
    rintro e w5 ⟨rfl,rfl⟩;go_wp2_with (fail);with_reducible refine (Q6O _ rb _ f (wAt v3) s3 s5 v5 _ H3.out.here d3 (Q0H v3) (fun _=>by have:=HL3.out;omega) G5.out).mono ?_
    rintro e w5 ⟨rfl,h5⟩;have H5:=LH (H3.out.run_ h5 HL5.out);clear h5 H3 G5
    cases v5 with
    |false=>
     have hg:=HG.out;clear HG
     rw[if_pos rfl] at hg
     have HG:=LH hg;clear hg;obtain ⟨rfl,rfl⟩:=Prod.mk.inj HG.out;go_wp2_with (fail);with_reducible refine (Q1b _).mono ?_
     rintro e w6 ⟨rfl,hb6⟩;have H6:=LH (H5.out.below hb6);clear hb6 H5;have o0:w6.cell? ⟨ob,0,none⟩=some (.int .i64 0):=H6.out.obk.cell 0;have of0:=H6.out.obk.frozen 0;have o1:w6.cell? ⟨ob,1,none⟩=some (.bool false):=H6.out.obk.cell 1;have of1:=H6.out.obk.frozen 1;have o2:w6.cell? ⟨ob,2,none⟩=some (.int .i64 0):=H6.out.obk.cell 2;have of2:=H6.out.obk.frozen 2;have o3:w6.cell? ⟨ob,3,none⟩=some (.int .i64 0):=H6.out.obk.cell 3;have of3:=H6.out.obk.frozen 3;have o4:w6.cell? ⟨ob,4,none⟩=some (.int .i64 0):=H6.out.obk.cell 4;have of4:=H6.out.obk.frozen 4;have o5:w6.cell? ⟨ob,5,none⟩=some (.slice none 0 0):=H6.out.obk.cell 5;have of5:=H6.out.obk.frozen 5;unfold Q0W;go_wp2_with (fail);refine bodyPost_ret (v:=.tuple #[.agg (Q0W (Res.err 8)),.bool true]) (Q0a rfl _ _ ob 54 (Q0W (Res.err 8)) (0,0) _ rfl rfl (H6.out.setO6 (Res.err 8)).obk Tryz.underlying54 (by kernel_rfl)) rfl ?_;exact ⟨rfl,(H6.out.setO6 (Res.err 8)).run⟩
    |true=>
     have hg:=HG.out;clear HG
     rw[if_neg (fun e=>Bool.noConfusion e)] at hg
     have HG:=LH hg;clear hg;obtain ⟨rfl,rfl⟩:=Prod.mk.inj HG.out;have o0:w5.cell? ⟨ob,0,none⟩=some (.int .i64 0):=H5.out.obk.cell 0;have of0:=H5.out.obk.frozen 0;have o1:w5.cell? ⟨ob,1,none⟩=some (.bool false):=H5.out.obk.cell 1;have of1:=H5.out.obk.frozen 1;have o2:w5.cell? ⟨ob,2,none⟩=some (.int .i64 0):=H5.out.obk.cell 2;have of2:=H5.out.obk.frozen 2;have o3:w5.cell? ⟨ob,3,none⟩=some (.int .i64 0):=H5.out.obk.cell 3;have of3:=H5.out.obk.frozen 3;have o4:w5.cell? ⟨ob,4,none⟩=some (.int .i64 0):=H5.out.obk.cell 4;have of4:=H5.out.obk.frozen 4;have o5:w5.cell? ⟨ob,5,none⟩=some (.slice none 0 0):=H5.out.obk.cell 5;have of5:=H5.out.obk.frozen 5;go_wp2_with (fail);refine bodyPost_ret (v:=.tuple #[.agg (Q0W Res.none),.bool false]) (Q0a rfl _ _ ob 54 (Q0W Res.none) (0,0) _ rfl rfl (H5.out.setO6 Res.none).obk Tryz.underlying54 (by kernel_rfl)) rfl ?_;exact ⟨rfl,(H5.out.setO6 Res.none).run⟩
   ·have e4:(Q05 v3==4)=false:=by simpa using k4
    rw[if_neg k4] at hg
    clear k4;by_cases k3:Q05 v3=3
    ·have e3:(Q05 v3==3)=true:=by simpa using k3
     rw[if_pos k3] at hg
     have HG:=LH hg;clear hg k3;have hsl:path.length+1+s3.left<=2000000000:=by have:=HL3.out;omega
     have hsz:=H3.out.run.2.size;have hb1:=(Below.refl w3.heap.size w3).alloc (Nat.le_refl _) (.cells #[.int .i64 n,.int .i64 v2,.int .i64 v3] 46);have hzz:w.heap.size<=(w3.alloc (.cells #[.int .i64 n,.int .i64 v2,.int .i64 v3] 46)).heap.size:=by have:=hb1.size;omega
     have HN6:=LH (Q9V w3 46 (.int .i64 n) (.int .i64 v2) (.int .i64 v3));have HOA:=LH (Q0n H3.out.own hb1);have HB1:=LH hb1;clear hb1;go_wp2_with (first|(at_builtin;refine wpList_append_own _ rfl _ _ 44 rfl w.heap.size 46 i0 (.agg #[.int .i64 0,.int .i64 0,.int .i64 0]) 3 24 Tryz.underlying44 hi0 hz0 hz1 hz2 rfl (by decide) _ _ _ rfl HOA.out ⟨w3.heap.size,0,none⟩ 1 1 [.int .i64 n,.int .i64 v2,.int .i64 v3] rfl rfl HN6.out (by simp[Value.oneCell']) (by unfold maxLen;omega) (by omega) hzz ?_;intro v' w8 hO5 hg5 _;have H8:=LH (H3.out.app (e:=⟨n,v2,v3⟩) HB1.out hO5 hg5 hsl);clear hO5 hg5));with_reducible refine (Q0x v3 _ hb30 hb31).mono ?_
     rintro e w9 ⟨rfl,rfl⟩;go_wp2_with (fail)
     go_roundw
     case rel=>unfold Qh9;exact ⟨wAt v3,path++[⟨n,v2,v3⟩],m1,s3,rfl,Q0H v3,fun _=>by have:=HL3.out;omega,fun _=>by have:=HL3.out;omega,by rw[HT3.out,HT2.out,HT1.out],H8.out,d3,fun e he=>(List.mem_append.1 he).elim (HP1.out e) (fun he=>by rw[List.mem_singleton] at he;rw[he];exact ⟨HN.out,HB2.out,HB3.out⟩),HG.out⟩
     case measure=>
      have e8:=Q0u H8.out.run;have e1:=Q0u H1r.out
      rw[HT3.out,HT2.out,HT1.out] at e8
      rw[HT1.out] at e1
      have:=HL3.out;omega
    ·have e3:(Q05 v3==3)=false:=by simpa using k3
     rw[if_neg k3] at hg
     have HG:=LH hg;clear hg k3;obtain ⟨k0,k1,k2⟩:=H3.out.cells;have k0:w3.cell? ⟨kb,0,none⟩=some (.int .i64 okind):=k0;have k1:w3.cell? ⟨kb,1,none⟩=some (.int .i64 okey):=k1;have k2:w3.cell? ⟨kb,2,none⟩=some (.int .i64 oval):=k2;obtain ⟨A3,c3,hpe,hq3,hA3,_⟩:=H3.out.pth;obtain ⟨rfl,rfl⟩:A3=A/\c3=c:=by injection hpe with a b c;exact ⟨a.symm,c.symm⟩
     have HQ3:=LH hq3;clear hq3 hpe hA3;go_wp2_with (fail);with_reducible refine (QeG _ rb f ⟨okind,okey,oval⟩ n v2 v3 path A3 c3 s3 s' v _ H3.out.run.runp d3 HO.out HK3.out HN.out HB2.out HB3.out HP1.out HQ3.out HA1.out hl1 (fun _=>by have:=HL3.out;omega) HG.out).mono ?_
     rintro e w5 ⟨rfl,h5⟩;have H5:=LH (H3.out.run_ h5 (Q0i HG.out));clear h5 H3 HQ3 k0 k1 k2;obtain ⟨⟨a0,a1,a2,a3,a4,a5⟩,vb⟩:=v;unfold Q0W;have o0:w5.cell? ⟨ob,0,none⟩=some (.int .i64 0):=H5.out.obk.cell 0;have of0:=H5.out.obk.frozen 0;have o1:w5.cell? ⟨ob,1,none⟩=some (.bool false):=H5.out.obk.cell 1;have of1:=H5.out.obk.frozen 1;have o2:w5.cell? ⟨ob,2,none⟩=some (.int .i64 0):=H5.out.obk.cell 2;have of2:=H5.out.obk.frozen 2;have o3:w5.cell? ⟨ob,3,none⟩=some (.int .i64 0):=H5.out.obk.cell 3;have of3:=H5.out.obk.frozen 3;have o4:w5.cell? ⟨ob,4,none⟩=some (.int .i64 0):=H5.out.obk.cell 4;have of4:=H5.out.obk.frozen 4;have o5:w5.cell? ⟨ob,5,none⟩=some (.slice none 0 0):=H5.out.obk.cell 5;have of5:=H5.out.obk.frozen 5;go_wp2_with (fail);refine bodyPost_ret (v:=.tuple #[.agg (Q0W ⟨a0,a1,a2,a3,a4,a5⟩),.bool vb]) (Q0a rfl _ _ ob 54 (Q0W ⟨a0,a1,a2,a3,a4,a5⟩) (0,0) _ rfl rfl (H5.out.setO6 ⟨a0,a1,a2,a3,a4,a5⟩).obk Tryz.underlying54 (by kernel_rfl)) rfl ?_;exact ⟨rfl,(H5.out.setO6 ⟨a0,a1,a2,a3,a4,a5⟩).run⟩
theorem Q9U {o:Op} {s:RunS} (h:s.off=true):∀f,(Q1K o f).go s=(Res.none,s)
 |0=>rfl
 |f+1=>by unfold Q1K;rw[Q0B,if_pos h];rfl
theorem QbW {f m:Nat} {o:Op} {n:Int} {path:List Entry} {v:Res×Bool} {s s':RunS} (hg:(Q13 f o (m+1) n path).go s=(v,s')) (h:s.off=false) (d:s.Bd):s'.left<s.left:=by
 unfold Q13 at hg
 rw[Q0B,h,if_neg Bool.false_ne_true,Q01] at hg
 obtain ⟨v2,s2,g2⟩:=Q0k (Q24 n o.key) s
 rw[g2] at hg
 have h1:=QaB g2 h d;have h2:s'.left<=s2.left:=Q0i hg;omega
def Qfh (w0:World) (v:Res) (s':RunS) (e:Ending) (w':World):Prop:=e=.returned (.agg (Q0W v))/\RAt F rb w0 s' w'
def Qh8 (w0:World) (kb ob:Nat) (o:Op) (v:Res) (s':RunS) (T:List Int) (wr:World):Prop:=∃(fz:Nat) (s:RunS),(s.off=false->s.left+1<fz)/\s.tape=T/\RT F rb w0 s kb o ob Res.none (.slice none 0 0) [] wr/\s.Bd/\(Q1K o fz).go s=(v,s')
theorem Q9T (f:Nat) (o:Op) (s0 s':RunS) (v:Res) (w:World) (h:RunP F rb s0 w) (d0:s0.Bd) (ho:o.B) (hk3:o.kind=1\/o.kind=2\/o.kind=3) (hf:s0.off=false->s0.left+1<f) (hg:(Q1K o f).go s0=(v,s')):
  Calls Tryz.prog 209 #[.pointer (some ⟨rb,0,none⟩),.agg #[.int .i64 o.kind,.int .i64 o.key,.int .i64 o.val]] w (Qfh F rb w v s'):=by
 have hH:=RT.new (RAt.refl h) o (by have:=Q4d d0;omega);have HG:=LH hg;have HO:=LH ho;have HF:=LH hf;have HK3:=LH hk3;clear hg ho hf hk3;clear h;obtain ⟨okind,okey,oval⟩:=o;go_enter Tryz.func209,Tryz.ntmps209;go_upto_region 1 with fail;have hH:RT F rb w s0 w.heap.size ⟨okind,okey,oval⟩ (w.heap.size+1) Res.none (.slice none 0 0) [] ((w.alloc (.cells #[.int .i64 okind,.int .i64 okey,.int .i64 oval] 48)).alloc (.cells rZ 54)):=hH;generalize (w.alloc (.cells #[.int .i64 okind,.int .i64 okey,.int .i64 oval] 48)).alloc (.cells rZ 54)=W at hH|-;generalize w.heap.size+1=ob at hH|-;obtain ⟨kb,hkb⟩:∃kb,w.heap.size=kb:=⟨_,rfl⟩
 rw[hkb] at hH|-
 have H0:=LH hH;clear hH hkb
 go_loopw [] (fun wr=>Qh8 F rb w kb ob ⟨okind,okey,oval⟩ v s' s0.tape wr) (fun wr=>Q65 rb s0.tape.length wr)
 case atStart=>unfold Qh8;exact ⟨f,s0,HF.out,rfl,H0.out,d0,HG.out⟩
 case round=>
  clear HG H0 d0 HF;obtain ⟨fz,s1,hf1,ht1,h1,d1,g1⟩:=hrel;have H1:=LH h1;have H1r:=LH h1.run;have HG:=LH g1;have HF1:=LH hf1;have HT1:=LH ht1;clear h1 g1 hf1 ht1
  cases hoff:s1.off with
  |true=>
   have cof:=Q0c H1.out.run hoff;obtain ⟨rfl,rfl⟩:=Prod.mk.inj ((Q9U hoff fz).symm.trans HG.out);clear hoff;have o0:wr.cell? ⟨ob,0,none⟩=some (.int .i64 0):=H1.out.obk.cell 0;have of0:=H1.out.obk.frozen 0;have o1:wr.cell? ⟨ob,1,none⟩=some (.bool false):=H1.out.obk.cell 1;have of1:=H1.out.obk.frozen 1;have o2:wr.cell? ⟨ob,2,none⟩=some (.int .i64 0):=H1.out.obk.cell 2;have of2:=H1.out.obk.frozen 2;have o3:wr.cell? ⟨ob,3,none⟩=some (.int .i64 0):=H1.out.obk.cell 3;have of3:=H1.out.obk.frozen 3;have o4:wr.cell? ⟨ob,4,none⟩=some (.int .i64 0):=H1.out.obk.cell 4;have of4:=H1.out.obk.frozen 4;have o5:wr.cell? ⟨ob,5,none⟩=some (.slice none 0 0):=H1.out.obk.cell 5;have of5:=H1.out.obk.frozen 5;go_wp2_with (fail);refine bodyPost_ret (v:=.agg (Q0W Res.none)) (results_cell_row rfl _ _ ob 54 (Q0W Res.none) (0,0) _ rfl (H1.out.setO6 Res.none).obk Tryz.underlying54 rfl (by kernel_rfl)) rfl ?_;exact ⟨rfl,(H1.out.setO6 Res.none).run⟩
  |false=>
   have cof:=Q0c H1.out.run hoff;have HOF:=LH hoff;have hlf:=HF1.out hoff;obtain ⟨fz,rfl⟩:∃k,fz=k+1+1:=⟨fz-2,by omega⟩;have hg:=HG.out;clear HG;unfold Q1K at hg
   rw[Q0B,hoff,if_neg Bool.false_ne_true] at hg
   clear hoff;obtain ⟨⟨⟨a0,a1,a2,a3,a4,a5⟩,vb⟩,s2,g2⟩:=Q0k (Q13 (fz+1) ⟨okind,okey,oval⟩ (fz+1) 1 []) s1;have hl2:=QbW g2 HOF.out d1;have HT2:=LH (Q0v g2);obtain ⟨_,d2⟩:=Q0b g2 (Q3F HO.out (fz+1) 1 [] Q10 (fun e he=>(by cases he))) d1
   rw[Q01,g2] at hg
   have HG:=LH hg;have G2:=LH g2;clear hg g2;obtain ⟨k0,k1,k2⟩:=H1.out.cells;have k0:wr.cell? ⟨kb,0,none⟩=some (.int .i64 okind):=k0;have k1:wr.cell? ⟨kb,1,none⟩=some (.int .i64 okey):=k1;have k2:wr.cell? ⟨kb,2,none⟩=some (.int .i64 oval):=k2;go_wp2_with (fail);with_reducible refine (Q9h _ rb (fz+1) (fz+1) ⟨okind,okey,oval⟩ s1 s2 (⟨a0,a1,a2,a3,a4,a5⟩,vb) _ H1.out.run.runp d1 HO.out HK3.out (fun _=>by omega) (fun _=>by omega) G2.out).mono ?_
   rintro e w2 ⟨rfl,h2⟩;have H2:=LH (H1.out.run_ h2 (Nat.le_of_lt hl2));clear h2 H1 G2 k0 k1 k2 cof;unfold Q0W;have hbR:=(Below.refl w2.heap.size w2).alloc (Nat.le_refl _) (.cells #[.int .i64 a0,.bool a1,.int .i64 a2,.int .i64 a3,.int .i64 a4,.slice none 0 0] 54);have H3:=LH (H2.out.below hbR);clear hbR
   cases vb with
   |true=>
    have hg:=HG.out;clear HG
    rw[if_pos rfl] at hg
    have HG:=LH hg;clear hg;obtain ⟨rfl,rfl⟩:=Prod.mk.inj HG.out;have hnb:=Blk.new w2 54 #[.int .i64 a0,.bool a1,.int .i64 a2,.int .i64 a3,.int .i64 a4,.slice none 0 0];have n0:(w2.alloc (.cells #[.int .i64 a0,.bool a1,.int .i64 a2,.int .i64 a3,.int .i64 a4,.slice none 0 0] 54)).cell? ⟨w2.heap.size,0,none⟩=some (.int .i64 a0):=hnb.cell 0;have n1:(w2.alloc (.cells #[.int .i64 a0,.bool a1,.int .i64 a2,.int .i64 a3,.int .i64 a4,.slice none 0 0] 54)).cell? ⟨w2.heap.size,1,none⟩=some (.bool a1):=hnb.cell 1;have n2:(w2.alloc (.cells #[.int .i64 a0,.bool a1,.int .i64 a2,.int .i64 a3,.int .i64 a4,.slice none 0 0] 54)).cell? ⟨w2.heap.size,2,none⟩=some (.int .i64 a2):=hnb.cell 2;have n3:(w2.alloc (.cells #[.int .i64 a0,.bool a1,.int .i64 a2,.int .i64 a3,.int .i64 a4,.slice none 0 0] 54)).cell? ⟨w2.heap.size,3,none⟩=some (.int .i64 a3):=hnb.cell 3;have n4:(w2.alloc (.cells #[.int .i64 a0,.bool a1,.int .i64 a2,.int .i64 a3,.int .i64 a4,.slice none 0 0] 54)).cell? ⟨w2.heap.size,4,none⟩=some (.int .i64 a4):=hnb.cell 4;have n5:(w2.alloc (.cells #[.int .i64 a0,.bool a1,.int .i64 a2,.int .i64 a3,.int .i64 a4,.slice none 0 0] 54)).cell? ⟨w2.heap.size,5,none⟩=some (.slice none 0 0):=hnb.cell 5;clear hnb;have o0:(w2.alloc (.cells #[.int .i64 a0,.bool a1,.int .i64 a2,.int .i64 a3,.int .i64 a4,.slice none 0 0] 54)).cell? ⟨ob,0,none⟩=some (.int .i64 0):=H3.out.obk.cell 0;have of0:=H3.out.obk.frozen 0;have o1:(w2.alloc (.cells #[.int .i64 a0,.bool a1,.int .i64 a2,.int .i64 a3,.int .i64 a4,.slice none 0 0] 54)).cell? ⟨ob,1,none⟩=some (.bool false):=H3.out.obk.cell 1;have of1:=H3.out.obk.frozen 1;have o2:(w2.alloc (.cells #[.int .i64 a0,.bool a1,.int .i64 a2,.int .i64 a3,.int .i64 a4,.slice none 0 0] 54)).cell? ⟨ob,2,none⟩=some (.int .i64 0):=H3.out.obk.cell 2;have of2:=H3.out.obk.frozen 2;have o3:(w2.alloc (.cells #[.int .i64 a0,.bool a1,.int .i64 a2,.int .i64 a3,.int .i64 a4,.slice none 0 0] 54)).cell? ⟨ob,3,none⟩=some (.int .i64 0):=H3.out.obk.cell 3;have of3:=H3.out.obk.frozen 3;have o4:(w2.alloc (.cells #[.int .i64 a0,.bool a1,.int .i64 a2,.int .i64 a3,.int .i64 a4,.slice none 0 0] 54)).cell? ⟨ob,4,none⟩=some (.int .i64 0):=H3.out.obk.cell 4;have of4:=H3.out.obk.frozen 4;have o5:(w2.alloc (.cells #[.int .i64 a0,.bool a1,.int .i64 a2,.int .i64 a3,.int .i64 a4,.slice none 0 0] 54)).cell? ⟨ob,5,none⟩=some (.slice none 0 0):=H3.out.obk.cell 5;have of5:=H3.out.obk.frozen 5;go_wp2_with (fail);refine bodyPost_ret (v:=.agg (Q0W ⟨a0,a1,a2,a3,a4,a5⟩)) (results_cell_row rfl _ _ ob 54 (Q0W ⟨a0,a1,a2,a3,a4,a5⟩) (0,0) _ rfl (H3.out.setO6 ⟨a0,a1,a2,a3,a4,a5⟩).obk Tryz.underlying54 rfl (by kernel_rfl)) rfl ?_;exact ⟨rfl,(H3.out.setO6 ⟨a0,a1,a2,a3,a4,a5⟩).run⟩
   |false=>
    have hg:=HG.out;clear HG
    rw[if_neg (fun e=>Bool.noConfusion e)] at hg
    have HG:=LH hg;clear hg;go_wp2_with (fail)
    go_roundw
    case rel=>unfold Qh8;exact ⟨fz+1,s2,fun _=>by omega,by rw[HT2.out,HT1.out],H3.out,d2,HG.out⟩
    case measure=>
     have e3:=Q0u H3.out.run;have e1:=Q0u H1r.out
     rw[HT2.out,HT1.out] at e3
     rw[HT1.out] at e1
     omega
end
def Qcc (x:WQ) (pv sv:Value):Array Value:=#[.int .i64 x.lo,.int .i64 x.hi,.bool x.back,.int .i64 x.most,.bool x.values,pv,sv]
def Q7j (o:Op) (w:World) (e:Ending) (w':World):Prop:=∃wb,e=.returned (.pointer (some ⟨wb,0,none⟩))/\w.heap.size<=wb/\Blk w' wb 43 (Qcc (Q3G o) (.slice none 0 0) (.slice none 0 0))/\Below w.heap.size w w'
theorem Q34 (o:Op) (w:World) (cs:Array Value) (h:cs=Qcc (Q3G o) (.slice none 0 0) (.slice none 0 0)):Q7j o w (.returned (.pointer (some ⟨w.heap.size+1,0,none⟩))) ((w.alloc (.cells #[.int .i64 o.kind,.int .i64 o.key,.int .i64 o.val] 48)).alloc (.cells cs 43)):=by
 subst h;have e1:(w.alloc (.cells #[.int .i64 o.kind,.int .i64 o.key,.int .i64 o.val] 48)).heap.size=w.heap.size+1:=by simp
 have hb1:=(Below.refl w.heap.size w).alloc (Nat.le_refl _) (.cells #[.int .i64 o.kind,.int .i64 o.key,.int .i64 o.val] 48);have hb2:=hb1.alloc hb1.size (.cells (Qcc (Q3G o) (.slice none 0 0) (.slice none 0 0)) 43);have k:=Blk.new (w.alloc (.cells #[.int .i64 o.kind,.int .i64 o.key,.int .i64 o.val] 48)) 43 (Qcc (Q3G o) (.slice none 0 0) (.slice none 0 0))
 rw[e1] at k
 exact ⟨w.heap.size+1,rfl,by omega,k,hb2⟩
theorem QbX (o:Op) (w:World):Calls Tryz.prog 248 #[.agg #[.int .i64 o.kind,.int .i64 o.key,.int .i64 o.val]] w (Q7j o w):=by
 obtain ⟨kind,key,val⟩:=o;by_cases k5:kind=5
 ·subst k5;go_enter Tryz.func248,Tryz.ntmps248;go_wp2_with (fail);go_ret;exact Q34 ⟨5,key,val⟩ w _ rfl
 ·have e5:(kind==5)=false:=by simpa using k5
  by_cases k6:kind=6
  ·subst k6;go_enter Tryz.func248,Tryz.ntmps248;go_wp2_with (fail);go_ret;exact Q34 ⟨6,key,val⟩ w _ rfl
  ·have e6:(kind==6)=false:=by simpa using k6
   by_cases k8:kind=8
   ·subst k8;go_enter Tryz.func248,Tryz.ntmps248;go_wp2_with (fail);go_ret;exact Q34 ⟨8,key,val⟩ w _ rfl
   ·have e8:(kind==8)=false:=by simpa using k8
    by_cases k9:kind=9
    ·subst k9;go_enter Tryz.func248,Tryz.ntmps248;go_wp2_with (fail);go_ret;exact Q34 ⟨9,key,val⟩ w _ rfl
    ·have e9:(kind==9)=false:=by simpa using k9
     by_cases k10:kind=10
     ·subst k10;go_enter Tryz.func248,Tryz.ntmps248;go_wp2_with (fail);go_ret;exact Q34 ⟨10,key,val⟩ w _ rfl
     ·have e10:(kind==10)=false:=by simpa using k10
      have hk:Q3G ⟨kind,key,val⟩=⟨Q1y,Q2M,false,1,true⟩:=by unfold Q3G;rw[if_neg k5,if_neg k6,if_neg k8,if_neg (fun e=>e.elim k9 k10)]
      have HK:=LH hk;clear hk k5 k6 k8 k9 k10;go_enter Tryz.func248,Tryz.ntmps248;go_wp2_with (fail);go_ret;exact Q34 ⟨kind,key,val⟩ w _ (by rw[HK.out];rfl)
def Qf9 (o:Op) (L:List (Int×Int)) (pv:Value) (w:World) (e:Ending) (w':World):Prop:=∃lv,e=.returned (Qaa (o.answer L) lv)/\(lv=pv/\(o.answer L).list=L\/lv=.slice none 0 0/\(o.answer L).list=[])/\Below w.heap.size w w'
theorem Q2z (w:World) (ks cs:Array Value):Blk ((w.alloc (.cells ks 48)).alloc (.cells cs 54)) (w.heap.size+1) 54 cs/\Below w.heap.size w ((w.alloc (.cells ks 48)).alloc (.cells cs 54)):=by
 have e1:(w.alloc (.cells ks 48)).heap.size=w.heap.size+1:=by simp
 have hb1:=(Below.refl w.heap.size w).alloc (Nat.le_refl _) (.cells ks 48);have hb2:=hb1.alloc hb1.size (.cells cs 54);have k:=Blk.new (w.alloc (.cells ks 48)) 54 cs
 rw[e1] at k
 exact ⟨k,hb2⟩
theorem Qci (o:Op) (A:Option Addr) (c:Nat) (L:List (Int×Int)) (w:World) (hq:PairsAt w w.heap.size A L) (hl:L.length<=2000000000):Calls Tryz.prog 249 #[.agg #[.int .i64 o.kind,.int .i64 o.key,.int .i64 o.val],.slice A L.length c] w (Qf9 o L (.slice A L.length c) w):=by
 obtain ⟨kind,key,val⟩:=o;by_cases k9:kind=9
 ·subst k9;go_enter Tryz.func249,Tryz.ntmps249;go_wp2_with (fail);refine bodyPost_ret (v:=Qaa ⟨0,false,0,0,0,[]⟩ (.slice A L.length c)) (results_cell_row rfl _ _ (w.heap.size+1) 54 _ (0,0) _ rfl (Q2z w _ _).1 Tryz.underlying54 rfl (by kernel_rfl)) rfl ?_;exact ⟨_,rfl,.inl ⟨rfl,rfl⟩,(Q2z w _ _).2⟩
 ·have e9:(kind==9)=false:=by simpa using k9
  by_cases k10:kind=10
  ·subst k10;go_enter Tryz.func249,Tryz.ntmps249;go_wp2_with (fail);refine bodyPost_ret (v:=Qaa ⟨0,false,0,0,L.length,[]⟩ (.slice none 0 0)) (results_cell_row rfl _ _ (w.heap.size+1) 54 _ (0,0) _ rfl (Q2z w _ _).1 Tryz.underlying54 rfl (by kernel_rfl)) rfl ?_;exact ⟨_,rfl,.inr ⟨rfl,rfl⟩,(Q2z w _ _).2⟩
  ·have e10:(kind==10)=false:=by simpa using k10
   rcases L with _|⟨p,L⟩
   ·have HK:=LH (show Op.answer ⟨kind,key,val⟩ []=Res.none by unfold Op.answer;rw[if_neg k9,if_neg k10]);clear k9 k10;go_enter Tryz.func249,Tryz.ntmps249;go_wp2_with (fail);refine bodyPost_ret (v:=Qaa Res.none (.slice none 0 0)) (results_cell_row rfl _ _ (w.heap.size+1) 54 _ (0,0) _ rfl (Q2z w _ _).1 Tryz.underlying54 rfl (by kernel_rfl)) rfl ?_;exact ⟨_,by rw[HK.out],.inr ⟨rfl,by rw[HK.out];rfl⟩,(Q2z w _ _).2⟩
   ·have HK:=LH (show Op.answer ⟨kind,key,val⟩ (p::L)=⟨0,true,p.1,p.2,0,[]⟩ by unfold Op.answer;rw[if_neg k9,if_neg k10]);clear k9 k10;have hb:=((Below.refl w.heap.size w).alloc (Nat.le_refl _) (.cells #[.int .i64 kind,.int .i64 key,.int .i64 val] 48)).alloc (by simp) (.cells rZ 54);have hq2:PairsAt _ w.heap.size A (p::L):=Reads.below hq hb;obtain ⟨ad,rfl,hab,_⟩:=PairsAt.both hq2 (by simp);obtain ⟨k1,k2⟩:=Q2C hq2 (i:=0) (by simp)
    rw[show 0*2=0 from rfl,Q35] at k1 k2
    have hll:((p::L).length:Int)=(L.length:Int)+1:=by simp
    have e0:(((p::L).length:Int)==0)=false:=beq_false_of_ne (by omega);have h0:(0:Int)<((p::L).length:Int):=by omega
    have k1:((w.alloc (.cells #[.int .i64 kind,.int .i64 key,.int .i64 val] 48)).alloc (.cells rZ 54)).cell? ad=some (.int .i64 p.1):=k1;have k2:((w.alloc (.cells #[.int .i64 kind,.int .i64 key,.int .i64 val] 48)).alloc (.cells rZ 54)).cell? {block:=ad.block,off:=ad.off+1}=some (.int .i64 p.2):=k2;clear hq hq2 hb hll;generalize hN:(p::L).length=N at*;go_enter Tryz.func249,Tryz.ntmps249;go_wp2_with (fail);refine bodyPost_ret (v:=Qaa ⟨0,true,p.1,p.2,0,[]⟩ (.slice none 0 0)) (results_cell_row rfl _ _ (w.heap.size+1) 54 _ (0,0) _ rfl (Q2z w _ _).1 Tryz.underlying54 rfl (by kernel_rfl)) rfl ?_;exact ⟨_,by rw[HK.out],.inr ⟨rfl,by rw[HK.out]⟩,(Q2z w _ _).2⟩
theorem Q8w {f:Nat} {o:Op} {s:RunS} (h:s.off=true):∀b,(Q27 f o b).go s=(Res.err 9,s)
 |0=>rfl
 |b+1=>by unfold Q27;rw[Q0B,if_pos h];rfl
theorem Qf7 {o:Op} (h:o.B):(Q3G o).B:=by
 have h0:i64B Q1y:=by unfold i64B Q1y;omega
 have h1:i64B Q2M:=by unfold i64B Q2M;omega
 unfold Q3G
 split
 ·exact ⟨h0,h.key,Q10⟩
 ·split
  ·exact ⟨h.key,h1,Q10⟩
  ·split
   ·exact ⟨h0,h1,Q10⟩
   ·split
    ·exact ⟨h.key,h.val,Q0f⟩
    ·exact ⟨h0,h1,Q10⟩
section
variable {F:Nat->Prop} {rb wb kb ob:Nat} {w0 w w' w1 w2:World} {s s':RunS} {x:WQ} {st:WAcc} {pv sv:Value} {o:Op} {r:Res}
theorem RW.new (h:RAt F rb w0 s w) (hb:Below w.heap.size w w') (hw:w.heap.size<=wb) (hk:Blk w' wb 43 (Qcc x (.slice none 0 0) (.slice none 0 0))) (hl:s.left<=2000000000):RW (fun y=>F y\/w0.heap.size<=y) rb w s wb x ⟨[],[]⟩ w':=
 ⟨.slice none 0 0,.slice none 0 0,h.here.below hb,hw,hk,World.ownsRow_nil _ _ _ _,World.ownsRow_nil _ _ _ _,by simpa using hl,by simpa using hl⟩
theorem RW.rows (h:RW F rb w0 s wb x st w):∃A c A2 c2,w.cell? ⟨wb,5,none⟩=some (.slice A st.pairs.length c)/\w.cell? ⟨wb,6,none⟩=some (.slice A2 st.spots.length c2)/\PairsAt w w.heap.size A st.pairs/\PairsAt w w.heap.size A2 st.spots/\(∀ad,A=some ad->ad.block≠rb)/\(∀ad,A2=some ad->ad.block≠rb)/\w.ownsRow w0.heap.size 52 2 (.slice A st.pairs.length c) st.pairs.length (Q0p st.pairs)/\st.pairs.length<=2000000000/\st.spots.length<=2000000000:=by
 obtain ⟨pv,sv,hq⟩:=h;have hp:=hq.prs;have hs:=hq.sps;have hlp:=hq.lp;have hls:=hq.ls;obtain ⟨⟨tv,wv,rec,laid,hr⟩,_⟩:=hq.run
 have gen:∀{e:TypeId} {v:Value} {L:List (Int×Int)},e≠145->w.ownsRow w0.heap.size e 2 v L.length (Q0p L)->∃A c,v=.slice A L.length c/\PairsAt w w.heap.size A L/\∀ad,A=some ad->ad.block≠rb:=fun {e v L} hne ho=>by
  rcases ho.2 with ⟨rfl,h0⟩|⟨g,cap,cur,rfl,_⟩
  ·have:L=[]:=List.eq_nil_of_length_eq_zero h0;subst this;exact ⟨none,0,rfl,Reads.none_,fun ad ha=>(by cases ha)⟩
  ·exact ⟨_,cap,rfl,Reads.of_own ho,fun ad ha=>by injection ha with ha;subst ha;exact fun e=>Q0o ho hr.blk hne (by rw[<-e];rfl)⟩
 obtain ⟨A,c,rfl,g1,g2⟩:=gen (by decide) hp;obtain ⟨A2,c2,rfl,g3,g4⟩:=gen (by decide) hs;exact ⟨A,c,A2,c2,hq.blk.cell 5,hq.blk.cell 6,g1,g3,g2,g4,hp,by omega,by omega⟩
end
section
variable (F:Nat->Prop) (rb:Nat)
def QaF (w0:World) (v:Res) (s':RunS) (e:Ending) (w':World):Prop:=∃lv,e=.returned (Qaa v lv)/\w'.ownsRow w0.heap.size 52 2 lv v.list.length (Q0p v.list)/\RAt F rb w0 s' w'
def Qh6 (w0:World) (kb ob f:Nat) (o:Op) (budget:Int) (v:Res) (s':RunS) (iv:Value) (wr:World):Prop:=∃(i:Int) (b:Nat) (s:RunS),iv=.int .i64 i/\0<=i/\i+b=budget/\s.left<f/\RT F rb w0 s kb o ob Res.none (.slice none 0 0) [] wr/\s.Bd/\(Q27 f o b).go s=(v,s')
theorem Qbf (f:Nat) (o:Op) (budget:Int) (s0 s':RunS) (v:Res) (w:World) (h:RunP F rb s0 w) (d0:s0.Bd) (ho:o.B) (hb0:1<=budget) (hb1:budget<=64) (hf:s0.left<f) (hg:(Q5k f o budget).go s0=(v,s')):
  Calls Tryz.prog 210 #[.pointer (some ⟨rb,0,none⟩),.agg #[.int .i64 o.kind,.int .i64 o.key,.int .i64 o.val],.int .i64 budget] w (QaF F rb w v s'):=by
 have hH:=RT.new (RAt.refl h) o (by have:=Q4d d0;omega);have HG:=LH hg;have HO:=LH ho;clear hg ho;clear h;obtain ⟨okind,okey,oval⟩:=o;have HKB:Hid (i64B okey):=LH HO.out.key;go_enter Tryz.func210,Tryz.ntmps210;go_upto_region 1 with fail;have hH:RT F rb w s0 w.heap.size ⟨okind,okey,oval⟩ (w.heap.size+1) Res.none (.slice none 0 0) [] ((w.alloc (.cells #[.int .i64 okind,.int .i64 okey,.int .i64 oval] 48)).alloc (.cells rZ 54)):=hH;generalize (w.alloc (.cells #[.int .i64 okind,.int .i64 okey,.int .i64 oval] 48)).alloc (.cells rZ 54)=W at hH|-;generalize w.heap.size+1=ob at hH|-;obtain ⟨kb,hkb⟩:∃kb,w.heap.size=kb:=⟨_,rfl⟩
 rw[hkb] at hH|-
 have H0:=LH hH;clear hH hkb;have k0:W.cell? ⟨kb,0,none⟩=some (.int .i64 okind):=H0.out.cells.1;have k1:W.cell? ⟨kb,1,none⟩=some (.int .i64 okey):=H0.out.cells.2.1;unfold Q5k at HG;have hg:=HG.out;clear HG;by_cases k4:okind=4
 ·have e4:(okind==4)=true:=by simpa using k4
  rw[if_pos (show (⟨okind,okey,oval⟩:Op).kind=4 from k4)] at hg
  clear k4;obtain ⟨⟨v1,v2⟩,s1,g1⟩:=Q0k (Q4m okey f 1) s0;have hl1:=Q0i g1;have hg:((Q4m okey f 1).bind fun r=>if r.2=true then .ret ⟨0,true,okey,r.1,0,[]⟩ else .ret Res.none).go s0=(v,s'):=hg
  rw[Q01,g1] at hg
  have HG:=LH hg;have G1:=LH g1;clear hg g1;go_wp2_with (fail);with_reducible refine (Qcx _ rb _ s0 s1 (v1,v2) f okey _ H0.out.here d0 G1.out HKB.out hf).mono ?_
  rintro e w1 ⟨rfl,h1⟩;have H1:=LH (H0.out.run_ h1 hl1);clear h1 H0 G1 k0 k1;have k1:w1.cell? ⟨kb,1,none⟩=some (.int .i64 okey):=H1.out.cells.2.1
  cases v2 with
  |true=>
   have hg:=HG.out;clear HG
   rw[if_pos rfl] at hg
   have HG:=LH hg;clear hg;obtain ⟨rfl,rfl⟩:=Prod.mk.inj HG.out;have o0:w1.cell? ⟨ob,0,none⟩=some (.int .i64 0):=H1.out.obk.cell 0;have of0:=H1.out.obk.frozen 0;have o1:w1.cell? ⟨ob,1,none⟩=some (.bool false):=H1.out.obk.cell 1;have of1:=H1.out.obk.frozen 1;have o2:w1.cell? ⟨ob,2,none⟩=some (.int .i64 0):=H1.out.obk.cell 2;have of2:=H1.out.obk.frozen 2;have o3:w1.cell? ⟨ob,3,none⟩=some (.int .i64 0):=H1.out.obk.cell 3;have of3:=H1.out.obk.frozen 3;have o4:w1.cell? ⟨ob,4,none⟩=some (.int .i64 0):=H1.out.obk.cell 4;have of4:=H1.out.obk.frozen 4;have o5:w1.cell? ⟨ob,5,none⟩=some (.slice none 0 0):=H1.out.obk.cell 5;have of5:=H1.out.obk.frozen 5;go_wp2_with (fail);refine bodyPost_ret (v:=Qaa ⟨0,true,okey,v1,0,[]⟩ (.slice none 0 0)) (results_cell_row rfl _ _ ob 54 (Q0W ⟨0,true,okey,v1,0,[]⟩) (0,0) _ rfl (H1.out.setO6 ⟨0,true,okey,v1,0,[]⟩).obk Tryz.underlying54 rfl (by kernel_rfl)) rfl ?_;exact ⟨_,rfl,World.ownsRow_nil _ _ _ _,(H1.out.setO6 ⟨0,true,okey,v1,0,[]⟩).run⟩
  |false=>
   have hg:=HG.out;clear HG
   rw[if_neg (fun e=>Bool.noConfusion e)] at hg
   have HG:=LH hg;clear hg;obtain ⟨rfl,rfl⟩:=Prod.mk.inj HG.out;have o0:w1.cell? ⟨ob,0,none⟩=some (.int .i64 0):=H1.out.obk.cell 0;have of0:=H1.out.obk.frozen 0;have o1:w1.cell? ⟨ob,1,none⟩=some (.bool false):=H1.out.obk.cell 1;have of1:=H1.out.obk.frozen 1;have o2:w1.cell? ⟨ob,2,none⟩=some (.int .i64 0):=H1.out.obk.cell 2;have of2:=H1.out.obk.frozen 2;have o3:w1.cell? ⟨ob,3,none⟩=some (.int .i64 0):=H1.out.obk.cell 3;have of3:=H1.out.obk.frozen 3;have o4:w1.cell? ⟨ob,4,none⟩=some (.int .i64 0):=H1.out.obk.cell 4;have of4:=H1.out.obk.frozen 4;have o5:w1.cell? ⟨ob,5,none⟩=some (.slice none 0 0):=H1.out.obk.cell 5;have of5:=H1.out.obk.frozen 5;go_wp2_with (fail);refine bodyPost_ret (v:=Qaa Res.none (.slice none 0 0)) (results_cell_row rfl _ _ ob 54 (Q0W Res.none) (0,0) _ rfl (H1.out.setO6 Res.none).obk Tryz.underlying54 rfl (by kernel_rfl)) rfl ?_;exact ⟨_,rfl,World.ownsRow_nil _ _ _ _,(H1.out.setO6 Res.none).run⟩
 ·have e4:(okind==4)=false:=by simpa using k4
  rw[if_neg (show ¬(⟨okind,okey,oval⟩:Op).kind=4 from k4)] at hg
  clear k4;have HG:=LH hg;clear hg;go_wp2_with (fail);clear k0 k1
  go_loopw [9] (fun iv wr=>Qh6 F rb w kb ob f ⟨okind,okey,oval⟩ budget v s' iv wr) (fun iv _=>(budget-intOf iv).toNat)
  case atStart=>unfold Qh6;exact ⟨0,budget.toNat,s0,rfl,by omega,by omega,hf,H0.out,d0,HG.out⟩
  case round=>
   clear H0 HG d0 hf;obtain ⟨i,b,s1,rfl,hi0,hib,hf1,h1,d1,g1⟩:=hrel;have H1:=LH h1;have HG:=LH g1;have hll:=Q4d d1;have H1z:=LH h1.run.2.size;clear h1 g1;by_cases hlt:i<budget
   ·obtain ⟨b,rfl⟩:∃k,b=k+1:=⟨b-1,by omega⟩
    cases hoff:s1.off with
    |true=>
     have cof:=Q0c H1.out.run hoff;obtain ⟨rfl,rfl⟩:=Prod.mk.inj ((Q8w hoff (b+1)).symm.trans HG.out);clear hoff;have o0:wr.cell? ⟨ob,0,none⟩=some (.int .i64 0):=H1.out.obk.cell 0;have of0:=H1.out.obk.frozen 0;have o1:wr.cell? ⟨ob,1,none⟩=some (.bool false):=H1.out.obk.cell 1;have of1:=H1.out.obk.frozen 1;have o2:wr.cell? ⟨ob,2,none⟩=some (.int .i64 0):=H1.out.obk.cell 2;have of2:=H1.out.obk.frozen 2;have o3:wr.cell? ⟨ob,3,none⟩=some (.int .i64 0):=H1.out.obk.cell 3;have of3:=H1.out.obk.frozen 3;have o4:wr.cell? ⟨ob,4,none⟩=some (.int .i64 0):=H1.out.obk.cell 4;have of4:=H1.out.obk.frozen 4;have o5:wr.cell? ⟨ob,5,none⟩=some (.slice none 0 0):=H1.out.obk.cell 5;have of5:=H1.out.obk.frozen 5;go_wp2_with (fail);refine bodyPost_ret (v:=Qaa (Res.err 9) (.slice none 0 0)) (results_cell_row rfl _ _ ob 54 (Q0W (Res.err 9)) (0,0) _ rfl (H1.out.setO6 (Res.err 9)).obk Tryz.underlying54 rfl (by kernel_rfl)) rfl ?_;exact ⟨_,rfl,World.ownsRow_nil _ _ _ _,(H1.out.setO6 (Res.err 9)).run⟩
    |false=>
     have cof:=Q0c H1.out.run hoff;have hg:=HG.out;clear HG;unfold Q27 at hg
     rw[Q0B,hoff,if_neg Bool.false_ne_true] at hg
     clear hoff;obtain ⟨⟨st,bb⟩,s2,g2⟩:=Q0k (Q0q (Q3G ⟨okind,okey,oval⟩) f 1 ⟨[],[]⟩) s1;have hl2:=Q0i g2;obtain ⟨bs,d2⟩:=Q0b g2 (Q2s f 1 ⟨[],[]⟩ (by decide) (by decide) ⟨LB.nil,LB.nil⟩) d1
     rw[Q01,g2,Q0B] at hg
     have HG:=LH hg;have G2:=LH g2;have HBS:Hid (st.B):=LH bs;clear hg g2 bs;have k0:wr.cell? ⟨kb,0,none⟩=some (.int .i64 okind):=H1.out.cells.1;have k1:wr.cell? ⟨kb,1,none⟩=some (.int .i64 okey):=H1.out.cells.2.1;have k2:wr.cell? ⟨kb,2,none⟩=some (.int .i64 oval):=H1.out.cells.2.2;go_wp2_with (fail);with_reducible refine (QbX ⟨okind,okey,oval⟩ _).mono ?_
     rintro e w2 ⟨wb,rfl,hwb,hwk,hbw⟩;have HW:=LH (RW.new H1.out.run hbw hwb hwk (by omega));clear hwk hbw k0 k1 k2 cof;go_wp2_with (fail);with_reducible refine ((Q5d _ rb wb _ (Q3G ⟨okind,okey,oval⟩) (Qf7 HO.out) f).use ⟨[],[]⟩ st bb s1 s2 1 _ HW.out d1 (fun _=>hf1) (by decide) (by decide) ⟨LB.nil,LB.nil⟩ G2.out).mono ?_
     rintro e w3 ⟨rfl,h3⟩;have HW3:=LH h3;have H3:=LH (H1.out.run_ h3.run hl2);clear h3 H1 HW G2
     cases hoff2:s2.off with
     |true=>
      have cof:=Q0c H3.out.run hoff2;have hg:=HG.out;clear HG
      rw[hoff2] at hg
      have HG:=LH hg;clear hg;have hg:=HG.out;clear HG
      rw[if_pos rfl] at hg
      have HG:=LH hg;clear hg;clear hoff2;obtain ⟨rfl,rfl⟩:=Prod.mk.inj HG.out;have o0:w3.cell? ⟨ob,0,none⟩=some (.int .i64 0):=H3.out.obk.cell 0;have of0:=H3.out.obk.frozen 0;have o1:w3.cell? ⟨ob,1,none⟩=some (.bool false):=H3.out.obk.cell 1;have of1:=H3.out.obk.frozen 1;have o2:w3.cell? ⟨ob,2,none⟩=some (.int .i64 0):=H3.out.obk.cell 2;have of2:=H3.out.obk.frozen 2;have o3:w3.cell? ⟨ob,3,none⟩=some (.int .i64 0):=H3.out.obk.cell 3;have of3:=H3.out.obk.frozen 3;have o4:w3.cell? ⟨ob,4,none⟩=some (.int .i64 0):=H3.out.obk.cell 4;have of4:=H3.out.obk.frozen 4;have o5:w3.cell? ⟨ob,5,none⟩=some (.slice none 0 0):=H3.out.obk.cell 5;have of5:=H3.out.obk.frozen 5;go_wp2_with (fail);refine bodyPost_ret (v:=Qaa (Res.err 9) (.slice none 0 0)) (results_cell_row rfl _ _ ob 54 (Q0W (Res.err 9)) (0,0) _ rfl (H3.out.setO6 (Res.err 9)).obk Tryz.underlying54 rfl (by kernel_rfl)) rfl ?_;exact ⟨_,rfl,World.ownsRow_nil _ _ _ _,(H3.out.setO6 (Res.err 9)).run⟩
     |false=>
      have cof:=Q0c H3.out.run hoff2;have hg:=HG.out;clear HG
      rw[hoff2] at hg
      have HG:=LH hg;clear hg;have hg:=HG.out;clear HG
      rw[if_neg Bool.false_ne_true] at hg
      have HG:=LH hg;clear hg;clear hoff2;obtain ⟨A,c,A2,c2,c5,c6,hq,hq2,hA,hA2,hown,hlp,hls⟩:=HW3.out.rows;obtain ⟨vb,s4,g4⟩:=Q0k (Q46 st.spots) s2;have hl4:=Q0i g4;obtain ⟨_,d4⟩:=Q0b g4 (Q6u _ HBS.out.spots) d2;have hg:=HG.out;clear HG
      rw[Q01,g4] at hg
      have HG:=LH hg;have G4:=LH g4;have HQ:=LH hq;have HQ2:=LH hq2;have HA:=LH hA;have HA2:=LH hA2;have HOWN:=LH hown;clear hq hq2 hA hA2 hown;clear hg g4;go_wp2_with (fail);with_reducible refine (Qc0 _ rb _ s2 s4 vb st.spots A2 c2 _ H3.out.here d2 G4.out HBS.out.spots HQ2.out HA2.out hls).mono ?_
      rintro e w4 ⟨rfl,h4⟩;have HQ4:=LH (show PairsAt w4 w4.heap.size A st.pairs from (PairsAt.chg HQ.out h4.2 (Nat.le_refl _) HA.out).more h4.2.size);have HOW4:=LH (H3.out.run.keepO h4.2 HOWN.out (by decide));obtain ⟨pvv,svv,hrw⟩:=HW3.out;have HWB4:=LH (hrw.run.keepB h4.2 hrw.blk (by decide));have c54:w4.cell? ⟨wb,5,none⟩=some (.slice A st.pairs.length c):=(HWB4.out.cell 5).trans ((hrw.blk.cell 5).symm.trans c5);have H4:=LH (H3.out.run_ h4 hl4);clear h4 H3 G4 HQ HQ2 HOWN hrw c5 c6 cof HW3
      cases vb with
      |false=>
       have hg:=HG.out;clear HG
       rw[if_neg (fun e=>Bool.noConfusion e)] at hg
       have HG:=LH hg;clear hg;go_wp2_with (fail)
       go_roundw
       case rel=>unfold Qh6;exact ⟨i+1,b,s4,by go_num,by omega,by omega,by omega,H4.out,d4,HG.out⟩
       case measure=>simp[intOf];omega
      |true=>
       have hg:=HG.out;clear HG
       rw[if_pos rfl] at hg
       have HG:=LH hg;clear hg;obtain ⟨rfl,rfl⟩:=Prod.mk.inj HG.out;have HD:=LH (H4.out.below (Q08 (Drawn.of w4 1) _));have HQd:Hid (PairsAt w4.drew w4.drew.heap.size A st.pairs):=LH (HQ4.out.below (Q08 (Drawn.of w4 1) _));have HOWd:=LH (Q0n HOW4.out (Q08 (Drawn.of w4 1) _));have HWBd:=LH (HWB4.out.below (Q08 (Drawn.of w4 1) w4.heap.size) HWB4.out.lt);have t0:w4.drew.cell? ⟨kb,0,none⟩=some (.int .i64 okind):=HD.out.cells.1;have t1:w4.drew.cell? ⟨kb,1,none⟩=some (.int .i64 okey):=HD.out.cells.2.1;have t2:w4.drew.cell? ⟨kb,2,none⟩=some (.int .i64 oval):=HD.out.cells.2.2;have t5:w4.drew.cell? ⟨wb,5,none⟩=some (.slice A st.pairs.length c):=c54;have hwr:w.heap.size<=wr.heap.size:=H1z.out;obtain ⟨R,hR⟩:∃R,Op.answer ⟨okind,okey,oval⟩ st.pairs=R:=⟨_,rfl⟩;have HRE:=LH hR;clear hR H4 HQ4 HOW4 HWB4 c54;go_upto_region 13 with fail
       go_still_tail 5,(by kernel_rfl)
       change wpList _ _ _ _ _ w4.drew;go_wp2_with (fail);with_reducible refine (Qci ⟨okind,okey,oval⟩ A c st.pairs _ HQd.out hlp).mono ?_
       rintro e w8 ⟨lv,rfl,hlv,hb8⟩
       rw[HRE.out] at hlv|-
       obtain ⟨r0,r1,r2,r3,r4,r5⟩:=R
       obtain ⟨A8,n8,c8,hl8⟩:∃A8 n8 c8,lv=.slice A8 n8 c8:=by
        rcases hlv with ⟨e,_⟩|⟨e,_⟩<;>exact ⟨_,_,_,e⟩
       have H8:=LH (HD.out.below hb8);have HOW8:=LH (Q0n HOWd.out hb8);subst hl8;have HLV:=LH hlv;have p0:w8.cell? ⟨ob,0,none⟩=some (.int .i64 0):=H8.out.obk.cell 0;have pf0:=H8.out.obk.frozen 0;have p1:w8.cell? ⟨ob,1,none⟩=some (.bool false):=H8.out.obk.cell 1;have pf1:=H8.out.obk.frozen 1;have p2:w8.cell? ⟨ob,2,none⟩=some (.int .i64 0):=H8.out.obk.cell 2;have pf2:=H8.out.obk.frozen 2;have p3:w8.cell? ⟨ob,3,none⟩=some (.int .i64 0):=H8.out.obk.cell 3;have pf3:=H8.out.obk.frozen 3;have p4:w8.cell? ⟨ob,4,none⟩=some (.int .i64 0):=H8.out.obk.cell 4;have pf4:=H8.out.obk.frozen 4;have p5:w8.cell? ⟨ob,5,none⟩=some (.slice none 0 0):=H8.out.obk.cell 5;have pf5:=H8.out.obk.frozen 5;clear hb8 hlv t0 t1 t2 t5;unfold Qaa;go_wp2_with (fail);have hB8:=(((((H8.out.obk.set_ 0 (.int .i64 r0)).set_ 1 (.bool r1)).set_ 2 (.int .i64 r2)).set_ 3 (.int .i64 r3)).set_ 4 (.int .i64 r4)).set_ 5 (.slice A8 n8 c8);refine bodyPost_ret (v:=Qaa ⟨r0,r1,r2,r3,r4,r5⟩ (.slice A8 n8 c8)) (results_cell_row rfl _ _ ob 54 _ (0,0) _ rfl hB8 Tryz.underlying54 rfl (by kernel_rfl)) rfl ?_;have hC8:=Qeb w8 ob (.int .i64 r0) (.bool r1) (.int .i64 r2) (.int .i64 r3) (.int .i64 r4) (.slice A8 n8 c8);unfold QaF
       rw[HRE.out]
       refine ⟨_,rfl, ?_,H8.out.run.keepT hC8 (fun x hx=>hx▸⟨H8.out.no,_,_,H8.out.obk,by decide,by decide⟩)⟩
       rcases HLV.out with ⟨e,el⟩|⟨e,el⟩
       ·injection e with ea en ec;have el:r5=st.pairs:=el;subst ea en ec
        rw[el]
        exact Q0Z (hC8.own HOW8.out (Q0t HOW8.out H8.out.obk (by decide))) hwr
       ·injection e with ea en ec;have el:r5=[]:=el;subst ea en ec
        rw[el]
        exact World.ownsRow_nil _ _ _ _
   ·have hb0':b=0:=by omega
    subst hb0';obtain ⟨rfl,rfl⟩:=Prod.mk.inj HG.out;have o0:wr.cell? ⟨ob,0,none⟩=some (.int .i64 0):=H1.out.obk.cell 0;have of0:=H1.out.obk.frozen 0;have o1:wr.cell? ⟨ob,1,none⟩=some (.bool false):=H1.out.obk.cell 1;have of1:=H1.out.obk.frozen 1;have o2:wr.cell? ⟨ob,2,none⟩=some (.int .i64 0):=H1.out.obk.cell 2;have of2:=H1.out.obk.frozen 2;have o3:wr.cell? ⟨ob,3,none⟩=some (.int .i64 0):=H1.out.obk.cell 3;have of3:=H1.out.obk.frozen 3;have o4:wr.cell? ⟨ob,4,none⟩=some (.int .i64 0):=H1.out.obk.cell 4;have of4:=H1.out.obk.frozen 4;have o5:wr.cell? ⟨ob,5,none⟩=some (.slice none 0 0):=H1.out.obk.cell 5;have of5:=H1.out.obk.frozen 5;go_wp2_with (fail);refine bodyPost_ret (v:=Qaa (Res.err 9) (.slice none 0 0)) (results_cell_row rfl _ _ ob 54 (Q0W (Res.err 9)) (0,0) _ rfl (H1.out.setO6 (Res.err 9)).obk Tryz.underlying54 rfl (by kernel_rfl)) rfl ?_;exact ⟨_,rfl,World.ownsRow_nil _ _ _ _,(H1.out.setO6 (Res.err 9)).run⟩
end
section
theorem QbC (F Fr:Nat->Prop) (fb rb:Nat) (x:FX) (N:Nat) (T:List Int) (done:Bool) (o o':FOut) (s s':RunS) (w:World) (h:FrP F fb x T done o w) (hr:RunP Fr rb s w) (d0:s.Bd) (hp:x.proc=24) (ho:x.op.B) (hk3:x.op.kind=1\/x.op.kind=2\/x.op.kind=3) (hf:s.left<N) (hg:(x.tree N).go s=(o',s')):
  Calls Tryz.prog 155 #[.pointer (some ⟨fb,0,none⟩),.pointer (some ⟨rb,0,none⟩)] w (Qa3 Fr rb o' s' w):=by
 obtain ⟨xv,tv,pv,sv,lv,rec,laid,h⟩:=h;obtain ⟨xA,xc,rfl⟩:=Q03 h.spots.1;have hg:((Q1K x.op (N+1)).bind fun r=>Prog.ret {FOut.zero with res:=r}).go s=(o',s'):=by unfold FX.tree at hg;rw[if_neg (by omega),if_neg (by omega),if_neg (by omega),if_neg (by omega),if_pos hp] at hg;exact hg
 obtain ⟨v1,s1,g1⟩:=Q0k (Q1K x.op (N+1)) s
 rw[Q01,g1] at hg
 obtain ⟨rfl,rfl⟩:=Prod.mk.inj hg;have hnil:=(Q0b g1 (Q6m ho (N+1)) d0).1;have hrlt:=hr.lt;have hflt:=h.blk.lt;obtain ⟨AR,hAR⟩:∃AR:List Value,AR=[.int .i64 x.a,.int .i64 x.b,.int .i64 0,.int .i64 x.p,.int .i64 0,.int .i64 x.w.lo,.int .i64 x.w.hi,.bool x.w.back,.int .i64 x.w.most,.bool x.w.values,.slice none 0 0,.slice none 0 0,.slice xA x.spots.length xc,.slice none 0 0,.slice none 0 0,.int .i64 0,.int .i64 0,.int .i64 0,.int .i64 x.op.kind,.int .i64 x.op.key,.int .i64 x.op.val]:=⟨_,rfl⟩;have har1:AR.toArray[1]? =some (.int .i64 x.b):=by rw[hAR];rfl
 have har18:AR.toArray[18]? =some (.int .i64 x.op.kind):=by rw[hAR];rfl
 have har19:AR.toArray[19]? =some (.int .i64 x.op.key):=by rw[hAR];rfl
 have har20:AR.toArray[20]? =some (.int .i64 x.op.val):=by rw[hAR];rfl
 have harl:AR.length=21:=by rw[hAR];rfl
 have haro:AR.toArray.all (·.oneCell')=true:=by rw[hAR];simp[Value.oneCell']
 have CP:Hid (∀w',Below w.heap.size w w'->w'.cell? ⟨fb,0,none⟩=some (.int .i64 24)):=LH (fun w' hb=>by rw[<-hp];exact (h.blk.below hb h.blk.lt).cell 0);have hz1:(w.alloc (.cells oZ 56)).heap.size=w.heap.size+1:=by simp
 have hz1b:(f1 w).heap.size=w.heap.size+1+1:=by simp
 have hz2:(f2 w AR).heap.size=w.heap.size+1+1:=by simp
 have hz3:(f4 w AR).heap.size=w.heap.size+3:=by simp
 have b1:Below w.heap.size w (w.alloc (.cells oZ 56)):=(Below.refl w.heap.size w).alloc (Nat.le_refl _) _;have b1b:Below w.heap.size w (f1 w):=b1.alloc b1.size _;have b2:Below w.heap.size w (f2 w AR):=b1b.trans ((Chg.setRow _ _ _).below (fun y hy=>by omega) (by omega));have b2b:Below w.heap.size w (f3 w AR):=b2.alloc b2.size _;have b3:Below w.heap.size w (f4 w AR):=b2b.trans ((Chg.setRow _ _ _).below (fun y hy=>by omega) b2b.size)
 have t5b:Blk (f1 w) (w.heap.size+1) 50 aZ:=by
  have:=Blk.new (w.alloc (.cells oZ 56)) 50 aZ
  rw[hz1] at this
  exact this
 have t5c:Blk (f2 w AR) (w.heap.size+1) 50 AR.toArray:=t5b.setRow _
 have t6b:Blk (f3 w AR) (w.heap.size+1+1) 56 oZ:=by
  have:=Blk.new (f2 w AR) 56 oZ
  rw[hz2] at this
  exact this
 have t6:Blk (f4 w AR) (w.heap.size+1+1) 56 oZ:=t6b.setRow _;have t5:Blk (f4 w AR) (w.heap.size+1) 50 AR.toArray:=(Chg.setRow (f3 w AR) (w.heap.size+1+1) oZ).blk (t5c.below ((Below.refl (f2 w AR).heap.size (f2 w AR)).alloc (Nat.le_refl _) (.cells oZ 56)) t5c.lt) (by omega)
 have t4:Blk (f4 w AR) w.heap.size 56 oZ:=by
  have h1:=Blk.new w 56 oZ;have h2:=h1.below ((Below.refl (w.alloc (.cells oZ 56)).heap.size (w.alloc (.cells oZ 56))).alloc (Nat.le_refl _) (.cells aZ 50)) h1.lt;have h3:=(Chg.setRow (f1 w) (w.heap.size+1) AR.toArray).blk h2 (by omega);have h4:=h3.below ((Below.refl (f2 w AR).heap.size (f2 w AR)).alloc (Nat.le_refl _) (.cells oZ 56)) h3.lt;exact (Chg.setRow (f3 w AR) (w.heap.size+1+1) oZ).blk h4 (by omega)
 have hra:(w.alloc (.cells oZ 56)).rangeAt fb 1 AR:=fun j u hu=>by
  rw[hAR] at hu
  have:=(h.blk.below (b1.mono (Nat.le_refl _)) h.blk.lt).cell (1+j)
  rw[this]
  have e:(1+j)=j+1:=by omega
  rw[e]
  have hj:j<21:=by
   rcases Nat.lt_or_ge j 21 with g|g
   ·exact g
   ·rw[List.getElem?_eq_none (by simpa using g)] at hu;cases hu
  match j,hj,hu with
  |0,_,hu=>exact hu
  |1,_,hu=>exact hu
  |2,_,hu=>exact hu
  |3,_,hu=>exact hu
  |4,_,hu=>exact hu
  |5,_,hu=>exact hu
  |6,_,hu=>exact hu
  |7,_,hu=>exact hu
  |8,_,hu=>exact hu
  |9,_,hu=>exact hu
  |10,_,hu=>exact hu
  |11,_,hu=>exact hu
  |12,_,hu=>exact hu
  |13,_,hu=>exact hu
  |14,_,hu=>exact hu
  |15,_,hu=>exact hu
  |16,_,hu=>exact hu
  |17,_,hu=>exact hu
  |18,_,hu=>exact hu
  |19,_,hu=>exact hu
  |20,_,hu=>exact hu
 have RA:=LH hra;have HF:=LH hf;have HIA:Hid ((Tryz.prog.info? 50).map (·.size)=some AR.length):=LH (by rw[harl];kernel_rfl);have HIB:Hid ((Tryz.prog.info? 50).map (·.size)=some AR.toArray.size):=LH (by rw[List.size_toArray,harl];kernel_rfl);have HIC:Hid ((aZ:Array Value).size=AR.toArray.size):=LH (by show 21=AR.toArray.size;rw[List.size_toArray,harl]);have HID:=LH haro;have a1:(f4 w AR).cell? ⟨w.heap.size+1,1,none⟩=some (.int .i64 x.b):=(t5.cell 1).trans har1;have a18:(f4 w AR).cell? ⟨w.heap.size+1,18,none⟩=some (.int .i64 x.op.kind):=(t5.cell 18).trans har18;have a19:(f4 w AR).cell? ⟨w.heap.size+1,19,none⟩=some (.int .i64 x.op.key):=(t5.cell 19).trans har19;have a20:(f4 w AR).cell? ⟨w.heap.size+1,20,none⟩=some (.int .i64 x.op.val):=(t5.cell 20).trans har20;clear har1 har18 har19 har20 harl haro hAR;have HT5:=LH t5b;have HT6:=LH t6b;clear hra t5b t5c t6b b1 b1b b2 b2b hz1 hz1b hz2;have c03:(f4 w AR).cell? ⟨fb,0,none⟩=some (.int .i64 24):=CP.out _ b3;have HR:=LH (hr.below b3);have HB3:=LH b3;have HZ3:=LH hz3;have H:=LH h;have G1:=LH g1;have T4:=LH t4;have T5:=LH t5;have T6:=LH t6;clear t4 t5 t6;clear hr b3 hz3 h g1 hg hf hp;have HOB:=LH ho;have HK3:=LH hk3;have hk1:¬x.op.kind<1:=by omega
 have hk2:¬3<x.op.kind:=by omega
 clear ho hk3;go_enter Tryz.func155,Tryz.ntmps155;go_wp2_with (first|((with_reducible refine (show wpList _ _ _ ((Oper.mk (some 10) (.load _ _) _ _ _ _)::_) _ _ from ?_));refine wpList_load_mid rfl 50 (.tmp 9) rfl fb 1 rfl AR _ RA.out Tryz.underlying50 rfl (HIA.out) ?_)|((with_reducible refine (show wpList _ _ _ ((Oper.mk none (.store _ (.tmp 5) _) _ _ _ _)::_) _ _ from ?_));refine wpList_store_row rfl 50 (.tmp 5) (.tmp 10) rfl (w.heap.size+1) AR.toArray rfl rfl _ _ HT5.out (HIB.out) HIC.out HID.out ?_)|((with_reducible refine (show wpList _ _ _ ((Oper.mk none (.store _ (.tmp 6) _) _ _ _ _)::_) _ _ from ?_));refine wpList_store_row rfl 56 (.tmp 6) (.tmp 11) rfl (w.heap.size+1+1) oZ rfl rfl _ _ HT6.out (by kernel_rfl) rfl (by simp[Value.oneCell']) ?_));rw[show (f3 w AR).setRow (w.heap.size+1+1) oZ=f4 w AR from rfl];generalize (f4 w AR)=w3 at HR HB3 HZ3 T4 T5 T6 c03 a1 a18 a19 a20|-;clear HT5 HT6 RA HIA HIB HIC HID;with_reducible refine (Q9T Fr rb (N+1) x.op s s1 v1 w3 HR.out d0 HOB.out HK3.out (fun _=>by have:=HF.out;omega) G1.out).mono ?_
 rintro e w4 ⟨rfl,h4⟩;have hl:v1.list=[]:=hnil;have H4:=LH h4;have hne4:¬(w.heap.size=rb):=by omega
 have hne6:¬(w.heap.size+1+1=rb):=by omega
 have T44:=LH (h4.2.blk T4.out hne4);have T66:=LH (h4.2.blk T6.out hne6);clear h4 HR T4 T5 T6 a1 a18 a19 a20 c03;have q7:w4.cell? ⟨w.heap.size+1+1,7,none⟩=some (.int .i64 0):=T66.out.cell 7;have r7:=T66.out.frozen 7;have q8:w4.cell? ⟨w.heap.size+1+1,8,none⟩=some (.bool false):=T66.out.cell 8;have r8:=T66.out.frozen 8;have q9:w4.cell? ⟨w.heap.size+1+1,9,none⟩=some (.int .i64 0):=T66.out.cell 9;have r9:=T66.out.frozen 9;have q10:w4.cell? ⟨w.heap.size+1+1,10,none⟩=some (.int .i64 0):=T66.out.cell 10;have r10:=T66.out.frozen 10;have q11:w4.cell? ⟨w.heap.size+1+1,11,none⟩=some (.int .i64 0):=T66.out.cell 11;have r11:=T66.out.frozen 11;have q12:w4.cell? ⟨w.heap.size+1+1,12,none⟩=some (.slice none 0 0):=T66.out.cell 12;have r12:=T66.out.frozen 12;have t6b:=(((((T66.out.set_ 7 (.int .i64 v1.why)).set_ 8 (.bool v1.found)).set_ 9 (.int .i64 v1.key)).set_ 10 (.int .i64 v1.val)).set_ 11 (.int .i64 v1.n)).set_ 12 (.slice none 0 0);have hc5:Chg (fun y=>y=w.heap.size+1+1) w4 ((((((w4.setCell ⟨w.heap.size+1+1,7,none⟩ (.int .i64 v1.why)).setCell ⟨w.heap.size+1+1,8,none⟩ (.bool v1.found)).setCell ⟨w.heap.size+1+1,9,none⟩ (.int .i64 v1.key)).setCell ⟨w.heap.size+1+1,10,none⟩ (.int .i64 v1.val)).setCell ⟨w.heap.size+1+1,11,none⟩ (.int .i64 v1.n)).setCell ⟨w.heap.size+1+1,12,none⟩ (.slice none 0 0)):=(((((Chg.set1 w4 (w.heap.size+1+1) 7 (.int .i64 v1.why)).trans (Chg.set1 _ (w.heap.size+1+1) 8 (.bool v1.found))).trans (Chg.set1 _ (w.heap.size+1+1) 9 (.int .i64 v1.key))).trans (Chg.set1 _ (w.heap.size+1+1) 10 (.int .i64 v1.val))).trans (Chg.set1 _ (w.heap.size+1+1) 11 (.int .i64 v1.n))).trans (Chg.set1 _ (w.heap.size+1+1) 12 (.slice none 0 0));have hn46:¬w.heap.size=w.heap.size+1+1:=by omega
 have t4b:=hc5.blk T44.out hn46;have HC5:=LH hc5;have T4B:=LH t4b;have T6B:=LH t6b;clear t6b t4b hc5;unfold Q0W;go_upto_region 20 with fail;go_wp2_with (first|((with_reducible refine (show wpList _ _ _ ((Oper.mk (some 86) (.load _ _) _ _ _ _)::_) _ _ from ?_));refine wpList_load_row rfl 56 (.tmp 6) rfl (w.heap.size+1+1) rfl _ _ (0,0) _ T6B.out Tryz.underlying56 rfl (by kernel_rfl) ?_)|((with_reducible refine (show wpList _ _ _ ((Oper.mk none (.store _ (.tmp 4) _) _ _ _ _)::_) _ _ from ?_));refine wpList_store_row rfl 56 (.tmp 4) (.tmp 86) rfl w.heap.size #[.int .i64 0,.bool false,.int .i64 0,.int .i64 0,.int .i64 0,.slice none 0 0,.slice none 0 0,.int .i64 v1.why,.bool v1.found,.int .i64 v1.key,.int .i64 v1.val,.int .i64 v1.n,.slice none 0 0] rfl rfl _ _ T4B.out (by kernel_rfl) rfl (by simp[Value.oneCell']) ?_));refine bodyPost_ret (v:=.agg #[.int .i64 0,.bool false,.int .i64 0,.int .i64 0,.int .i64 0,.slice none 0 0,.slice none 0 0,.int .i64 v1.why,.bool v1.found,.int .i64 v1.key,.int .i64 v1.val,.int .i64 v1.n,.slice none 0 0]) (results_cell_row rfl _ _ w.heap.size _ _ (0,0) _ rfl (T4B.out.setRow _) Tryz.underlying56 rfl (by kernel_rfl)) rfl ?_;have hc6:Chg (fun y=>y=w.heap.size) ((((((w4.setCell ⟨w.heap.size+1+1,7,none⟩ (.int .i64 v1.why)).setCell ⟨w.heap.size+1+1,8,none⟩ (.bool v1.found)).setCell ⟨w.heap.size+1+1,9,none⟩ (.int .i64 v1.key)).setCell ⟨w.heap.size+1+1,10,none⟩ (.int .i64 v1.val)).setCell ⟨w.heap.size+1+1,11,none⟩ (.int .i64 v1.n)).setCell ⟨w.heap.size+1+1,12,none⟩ (.slice none 0 0)) (((((((w4.setCell ⟨w.heap.size+1+1,7,none⟩ (.int .i64 v1.why)).setCell ⟨w.heap.size+1+1,8,none⟩ (.bool v1.found)).setCell ⟨w.heap.size+1+1,9,none⟩ (.int .i64 v1.key)).setCell ⟨w.heap.size+1+1,10,none⟩ (.int .i64 v1.val)).setCell ⟨w.heap.size+1+1,11,none⟩ (.int .i64 v1.n)).setCell ⟨w.heap.size+1+1,12,none⟩ (.slice none 0 0)).setRow w.heap.size #[.int .i64 0,.bool false,.int .i64 0,.int .i64 0,.int .i64 0,.slice none 0 0,.slice none 0 0,.int .i64 v1.why,.bool v1.found,.int .i64 v1.key,.int .i64 v1.val,.int .i64 v1.n,.slice none 0 0]):=Chg.setRow _ _ _;have hcc:Chg (fun y=>y=w.heap.size\/y=w.heap.size+1+1) w4 (((((((w4.setCell ⟨w.heap.size+1+1,7,none⟩ (.int .i64 v1.why)).setCell ⟨w.heap.size+1+1,8,none⟩ (.bool v1.found)).setCell ⟨w.heap.size+1+1,9,none⟩ (.int .i64 v1.key)).setCell ⟨w.heap.size+1+1,10,none⟩ (.int .i64 v1.val)).setCell ⟨w.heap.size+1+1,11,none⟩ (.int .i64 v1.n)).setCell ⟨w.heap.size+1+1,12,none⟩ (.slice none 0 0)).setRow w.heap.size #[.int .i64 0,.bool false,.int .i64 0,.int .i64 0,.int .i64 0,.slice none 0 0,.slice none 0 0,.int .i64 v1.why,.bool v1.found,.int .i64 v1.key,.int .i64 v1.val,.int .i64 v1.n,.slice none 0 0]):=(HC5.out.mono (fun y hy=>.inr hy)).trans (hc6.mono (fun y hy=>.inl hy));have hz3:=HZ3.out;refine ⟨.slice none 0 0,.slice none 0 0,.slice none 0 0,rfl,⟨PrP.nil',PrP.nil',by rw[show ({FOut.zero with res:=v1}:FOut).res.list=[] from hl];exact PrP.nil'⟩, ?_, ?_⟩
 ·refine (H4.out.1.keep hcc (fun y hy=> ?_)).mono (fun y hy=>hy.imp id (fun h=>by omega))
  rcases hy with rfl|rfl
  ·exact ⟨_,_,T44.out,by decide,by decide⟩
  ·exact ⟨_,_,T66.out,by decide,by decide⟩
 ·exact ((Chg.of_below HB3.out).trans H4.out.2).grow hcc (fun y hy=>by rcases hy with rfl|rfl<;>exact .inr (by omega))
end
section
theorem QbB (F Fr:Nat->Prop) (fb rb:Nat) (x:FX) (N:Nat) (T:List Int) (done:Bool) (o o':FOut) (s s':RunS) (w:World) (h:FrP F fb x T done o w) (hr:RunP Fr rb s w) (d0:s.Bd) (hp:x.proc=25) (ho:x.op.B) (hk4:4<=x.op.kind) (hk10:x.op.kind<=10) (hb1:1<=x.b) (hb64:x.b<=64) (hf:s.left<N) (hg:(x.tree N).go s=(o',s')):
  Calls Tryz.prog 155 #[.pointer (some ⟨fb,0,none⟩),.pointer (some ⟨rb,0,none⟩)] w (Qa3 Fr rb o' s' w):=by
 obtain ⟨xv,tv,pv,sv,lv,rec,laid,h⟩:=h;obtain ⟨xA,xc,rfl⟩:=Q03 h.spots.1;have hg:((Q5k N x.op x.b).bind fun r=>Prog.ret {FOut.zero with res:=r}).go s=(o',s'):=by unfold FX.tree at hg;rw[if_neg (by omega),if_neg (by omega),if_neg (by omega),if_neg (by omega),if_neg (by omega),if_neg (by omega),if_neg (by omega)] at hg;exact hg
 obtain ⟨v1,s1,g1⟩:=Q0k (Q5k N x.op x.b) s
 rw[Q01,g1] at hg
 obtain ⟨rfl,rfl⟩:=Prod.mk.inj hg;have hrlt:=hr.lt;have hflt:=h.blk.lt;obtain ⟨AR,hAR⟩:∃AR:List Value,AR=[.int .i64 x.a,.int .i64 x.b,.int .i64 0,.int .i64 x.p,.int .i64 0,.int .i64 x.w.lo,.int .i64 x.w.hi,.bool x.w.back,.int .i64 x.w.most,.bool x.w.values,.slice none 0 0,.slice none 0 0,.slice xA x.spots.length xc,.slice none 0 0,.slice none 0 0,.int .i64 0,.int .i64 0,.int .i64 0,.int .i64 x.op.kind,.int .i64 x.op.key,.int .i64 x.op.val]:=⟨_,rfl⟩;have har1:AR.toArray[1]? =some (.int .i64 x.b):=by rw[hAR];rfl
 have har18:AR.toArray[18]? =some (.int .i64 x.op.kind):=by rw[hAR];rfl
 have har19:AR.toArray[19]? =some (.int .i64 x.op.key):=by rw[hAR];rfl
 have har20:AR.toArray[20]? =some (.int .i64 x.op.val):=by rw[hAR];rfl
 have harl:AR.length=21:=by rw[hAR];rfl
 have haro:AR.toArray.all (·.oneCell')=true:=by rw[hAR];simp[Value.oneCell']
 have CP:Hid (∀w',Below w.heap.size w w'->w'.cell? ⟨fb,0,none⟩=some (.int .i64 25)):=LH (fun w' hb=>by rw[<-hp];exact (h.blk.below hb h.blk.lt).cell 0);have hz1:(w.alloc (.cells oZ 56)).heap.size=w.heap.size+1:=by simp
 have hz1b:(f1 w).heap.size=w.heap.size+1+1:=by simp
 have hz2:(f2 w AR).heap.size=w.heap.size+1+1:=by simp
 have hz3:(f4 w AR).heap.size=w.heap.size+3:=by simp
 have b1:Below w.heap.size w (w.alloc (.cells oZ 56)):=(Below.refl w.heap.size w).alloc (Nat.le_refl _) _;have b1b:Below w.heap.size w (f1 w):=b1.alloc b1.size _;have b2:Below w.heap.size w (f2 w AR):=b1b.trans ((Chg.setRow _ _ _).below (fun y hy=>by omega) (by omega));have b2b:Below w.heap.size w (f3 w AR):=b2.alloc b2.size _;have b3:Below w.heap.size w (f4 w AR):=b2b.trans ((Chg.setRow _ _ _).below (fun y hy=>by omega) b2b.size)
 have t5b:Blk (f1 w) (w.heap.size+1) 50 aZ:=by
  have:=Blk.new (w.alloc (.cells oZ 56)) 50 aZ
  rw[hz1] at this
  exact this
 have t5c:Blk (f2 w AR) (w.heap.size+1) 50 AR.toArray:=t5b.setRow _
 have t6b:Blk (f3 w AR) (w.heap.size+1+1) 56 oZ:=by
  have:=Blk.new (f2 w AR) 56 oZ
  rw[hz2] at this
  exact this
 have t6:Blk (f4 w AR) (w.heap.size+1+1) 56 oZ:=t6b.setRow _;have t5:Blk (f4 w AR) (w.heap.size+1) 50 AR.toArray:=(Chg.setRow (f3 w AR) (w.heap.size+1+1) oZ).blk (t5c.below ((Below.refl (f2 w AR).heap.size (f2 w AR)).alloc (Nat.le_refl _) (.cells oZ 56)) t5c.lt) (by omega)
 have t4:Blk (f4 w AR) w.heap.size 56 oZ:=by
  have h1:=Blk.new w 56 oZ;have h2:=h1.below ((Below.refl (w.alloc (.cells oZ 56)).heap.size (w.alloc (.cells oZ 56))).alloc (Nat.le_refl _) (.cells aZ 50)) h1.lt;have h3:=(Chg.setRow (f1 w) (w.heap.size+1) AR.toArray).blk h2 (by omega);have h4:=h3.below ((Below.refl (f2 w AR).heap.size (f2 w AR)).alloc (Nat.le_refl _) (.cells oZ 56)) h3.lt;exact (Chg.setRow (f3 w AR) (w.heap.size+1+1) oZ).blk h4 (by omega)
 have hra:(w.alloc (.cells oZ 56)).rangeAt fb 1 AR:=fun j u hu=>by
  rw[hAR] at hu
  have:=(h.blk.below (b1.mono (Nat.le_refl _)) h.blk.lt).cell (1+j)
  rw[this]
  have e:(1+j)=j+1:=by omega
  rw[e]
  have hj:j<21:=by
   rcases Nat.lt_or_ge j 21 with g|g
   ·exact g
   ·rw[List.getElem?_eq_none (by simpa using g)] at hu;cases hu
  match j,hj,hu with
  |0,_,hu=>exact hu
  |1,_,hu=>exact hu
  |2,_,hu=>exact hu
  |3,_,hu=>exact hu
  |4,_,hu=>exact hu
  |5,_,hu=>exact hu
  |6,_,hu=>exact hu
  |7,_,hu=>exact hu
  |8,_,hu=>exact hu
  |9,_,hu=>exact hu
  |10,_,hu=>exact hu
  |11,_,hu=>exact hu
  |12,_,hu=>exact hu
  |13,_,hu=>exact hu
  |14,_,hu=>exact hu
  |15,_,hu=>exact hu
  |16,_,hu=>exact hu
  |17,_,hu=>exact hu
  |18,_,hu=>exact hu
  |19,_,hu=>exact hu
  |20,_,hu=>exact hu
 have RA:=LH hra;have HF:=LH hf;have HIA:Hid ((Tryz.prog.info? 50).map (·.size)=some AR.length):=LH (by rw[harl];kernel_rfl);have HIB:Hid ((Tryz.prog.info? 50).map (·.size)=some AR.toArray.size):=LH (by rw[List.size_toArray,harl];kernel_rfl);have HIC:Hid ((aZ:Array Value).size=AR.toArray.size):=LH (by show 21=AR.toArray.size;rw[List.size_toArray,harl]);have HID:=LH haro;have a1:(f4 w AR).cell? ⟨w.heap.size+1,1,none⟩=some (.int .i64 x.b):=(t5.cell 1).trans har1;have a18:(f4 w AR).cell? ⟨w.heap.size+1,18,none⟩=some (.int .i64 x.op.kind):=(t5.cell 18).trans har18;have a19:(f4 w AR).cell? ⟨w.heap.size+1,19,none⟩=some (.int .i64 x.op.key):=(t5.cell 19).trans har19;have a20:(f4 w AR).cell? ⟨w.heap.size+1,20,none⟩=some (.int .i64 x.op.val):=(t5.cell 20).trans har20;clear har1 har18 har19 har20 harl haro hAR;have HT5:=LH t5b;have HT6:=LH t6b;clear hra t5b t5c t6b b1 b1b b2 b2b hz1 hz1b hz2;have c03:(f4 w AR).cell? ⟨fb,0,none⟩=some (.int .i64 25):=CP.out _ b3;have HR:=LH (hr.below b3);have HB3:=LH b3;have HZ3:=LH hz3;have H:=LH h;have G1:=LH g1;have T4:=LH t4;have T5:=LH t5;have T6:=LH t6;clear t4 t5 t6;clear hr b3 hz3 h g1 hg hf hp;have HOB:=LH ho;have hq1:¬x.op.kind<4:=by omega
 have hq2:¬10<x.op.kind:=by omega
 have hq3:¬x.b<1:=by omega
 have hq4:¬64<x.b:=by omega
 clear ho;go_enter Tryz.func155,Tryz.ntmps155;go_wp2_with (first|((with_reducible refine (show wpList _ _ _ ((Oper.mk (some 10) (.load _ _) _ _ _ _)::_) _ _ from ?_));refine wpList_load_mid rfl 50 (.tmp 9) rfl fb 1 rfl AR _ RA.out Tryz.underlying50 rfl (HIA.out) ?_)|((with_reducible refine (show wpList _ _ _ ((Oper.mk none (.store _ (.tmp 5) _) _ _ _ _)::_) _ _ from ?_));refine wpList_store_row rfl 50 (.tmp 5) (.tmp 10) rfl (w.heap.size+1) AR.toArray rfl rfl _ _ HT5.out (HIB.out) HIC.out HID.out ?_)|((with_reducible refine (show wpList _ _ _ ((Oper.mk none (.store _ (.tmp 6) _) _ _ _ _)::_) _ _ from ?_));refine wpList_store_row rfl 56 (.tmp 6) (.tmp 11) rfl (w.heap.size+1+1) oZ rfl rfl _ _ HT6.out (by kernel_rfl) rfl (by simp[Value.oneCell']) ?_));rw[show (f3 w AR).setRow (w.heap.size+1+1) oZ=f4 w AR from rfl];generalize (f4 w AR)=w3 at HR HB3 HZ3 T4 T5 T6 c03 a1 a18 a19 a20|-;clear HT5 HT6 RA HIA HIB HIC HID;with_reducible refine (Qbf Fr rb N x.op x.b s s1 v1 w3 HR.out d0 HOB.out hb1 hb64 HF.out G1.out).mono ?_
 rintro e w4 ⟨lv,rfl,hown,h4⟩;obtain ⟨lA,ln,lc,hlv⟩:∃lA ln lc,lv=.slice lA ln lc:=by obtain ⟨a,b,h⟩:=Q03 hown;exact ⟨a,_,b,h⟩
 subst hlv;have HOWN:=LH hown;clear hown;have H4:=LH h4;have hne4:¬(w.heap.size=rb):=by omega
 have hne6:¬(w.heap.size+1+1=rb):=by omega
 have T44:=LH (h4.2.blk T4.out hne4);have T66:=LH (h4.2.blk T6.out hne6);clear h4 HR T4 T5 T6 a1 a18 a19 a20 c03;have q7:w4.cell? ⟨w.heap.size+1+1,7,none⟩=some (.int .i64 0):=T66.out.cell 7;have r7:=T66.out.frozen 7;have q8:w4.cell? ⟨w.heap.size+1+1,8,none⟩=some (.bool false):=T66.out.cell 8;have r8:=T66.out.frozen 8;have q9:w4.cell? ⟨w.heap.size+1+1,9,none⟩=some (.int .i64 0):=T66.out.cell 9;have r9:=T66.out.frozen 9;have q10:w4.cell? ⟨w.heap.size+1+1,10,none⟩=some (.int .i64 0):=T66.out.cell 10;have r10:=T66.out.frozen 10;have q11:w4.cell? ⟨w.heap.size+1+1,11,none⟩=some (.int .i64 0):=T66.out.cell 11;have r11:=T66.out.frozen 11;have q12:w4.cell? ⟨w.heap.size+1+1,12,none⟩=some (.slice none 0 0):=T66.out.cell 12;have r12:=T66.out.frozen 12;have t6b:=(((((T66.out.set_ 7 (.int .i64 v1.why)).set_ 8 (.bool v1.found)).set_ 9 (.int .i64 v1.key)).set_ 10 (.int .i64 v1.val)).set_ 11 (.int .i64 v1.n)).set_ 12 (.slice lA ln lc);have hc5:Chg (fun y=>y=w.heap.size+1+1) w4 ((((((w4.setCell ⟨w.heap.size+1+1,7,none⟩ (.int .i64 v1.why)).setCell ⟨w.heap.size+1+1,8,none⟩ (.bool v1.found)).setCell ⟨w.heap.size+1+1,9,none⟩ (.int .i64 v1.key)).setCell ⟨w.heap.size+1+1,10,none⟩ (.int .i64 v1.val)).setCell ⟨w.heap.size+1+1,11,none⟩ (.int .i64 v1.n)).setCell ⟨w.heap.size+1+1,12,none⟩ (.slice lA ln lc)):=(((((Chg.set1 w4 (w.heap.size+1+1) 7 (.int .i64 v1.why)).trans (Chg.set1 _ (w.heap.size+1+1) 8 (.bool v1.found))).trans (Chg.set1 _ (w.heap.size+1+1) 9 (.int .i64 v1.key))).trans (Chg.set1 _ (w.heap.size+1+1) 10 (.int .i64 v1.val))).trans (Chg.set1 _ (w.heap.size+1+1) 11 (.int .i64 v1.n))).trans (Chg.set1 _ (w.heap.size+1+1) 12 (.slice lA ln lc));have hn46:¬w.heap.size=w.heap.size+1+1:=by omega
 have t4b:=hc5.blk T44.out hn46;have HC5:=LH hc5;have T4B:=LH t4b;have T6B:=LH t6b;clear t6b t4b hc5;unfold Qaa;go_upto_region 20 with fail;go_wp2_with (first|((with_reducible refine (show wpList _ _ _ ((Oper.mk (some 86) (.load _ _) _ _ _ _)::_) _ _ from ?_));refine wpList_load_row rfl 56 (.tmp 6) rfl (w.heap.size+1+1) rfl _ _ (0,0) _ T6B.out Tryz.underlying56 rfl (by kernel_rfl) ?_)|((with_reducible refine (show wpList _ _ _ ((Oper.mk none (.store _ (.tmp 4) _) _ _ _ _)::_) _ _ from ?_));refine wpList_store_row rfl 56 (.tmp 4) (.tmp 86) rfl w.heap.size #[.int .i64 0,.bool false,.int .i64 0,.int .i64 0,.int .i64 0,.slice none 0 0,.slice none 0 0,.int .i64 v1.why,.bool v1.found,.int .i64 v1.key,.int .i64 v1.val,.int .i64 v1.n,.slice lA ln lc] rfl rfl _ _ T4B.out (by kernel_rfl) rfl (by simp[Value.oneCell']) ?_));refine bodyPost_ret (v:=.agg #[.int .i64 0,.bool false,.int .i64 0,.int .i64 0,.int .i64 0,.slice none 0 0,.slice none 0 0,.int .i64 v1.why,.bool v1.found,.int .i64 v1.key,.int .i64 v1.val,.int .i64 v1.n,.slice lA ln lc]) (results_cell_row rfl _ _ w.heap.size _ _ (0,0) _ rfl (T4B.out.setRow _) Tryz.underlying56 rfl (by kernel_rfl)) rfl ?_;have hc6:Chg (fun y=>y=w.heap.size) ((((((w4.setCell ⟨w.heap.size+1+1,7,none⟩ (.int .i64 v1.why)).setCell ⟨w.heap.size+1+1,8,none⟩ (.bool v1.found)).setCell ⟨w.heap.size+1+1,9,none⟩ (.int .i64 v1.key)).setCell ⟨w.heap.size+1+1,10,none⟩ (.int .i64 v1.val)).setCell ⟨w.heap.size+1+1,11,none⟩ (.int .i64 v1.n)).setCell ⟨w.heap.size+1+1,12,none⟩ (.slice lA ln lc)) (((((((w4.setCell ⟨w.heap.size+1+1,7,none⟩ (.int .i64 v1.why)).setCell ⟨w.heap.size+1+1,8,none⟩ (.bool v1.found)).setCell ⟨w.heap.size+1+1,9,none⟩ (.int .i64 v1.key)).setCell ⟨w.heap.size+1+1,10,none⟩ (.int .i64 v1.val)).setCell ⟨w.heap.size+1+1,11,none⟩ (.int .i64 v1.n)).setCell ⟨w.heap.size+1+1,12,none⟩ (.slice lA ln lc)).setRow w.heap.size #[.int .i64 0,.bool false,.int .i64 0,.int .i64 0,.int .i64 0,.slice none 0 0,.slice none 0 0,.int .i64 v1.why,.bool v1.found,.int .i64 v1.key,.int .i64 v1.val,.int .i64 v1.n,.slice lA ln lc]):=Chg.setRow _ _ _;have hcc:Chg (fun y=>y=w.heap.size\/y=w.heap.size+1+1) w4 (((((((w4.setCell ⟨w.heap.size+1+1,7,none⟩ (.int .i64 v1.why)).setCell ⟨w.heap.size+1+1,8,none⟩ (.bool v1.found)).setCell ⟨w.heap.size+1+1,9,none⟩ (.int .i64 v1.key)).setCell ⟨w.heap.size+1+1,10,none⟩ (.int .i64 v1.val)).setCell ⟨w.heap.size+1+1,11,none⟩ (.int .i64 v1.n)).setCell ⟨w.heap.size+1+1,12,none⟩ (.slice lA ln lc)).setRow w.heap.size #[.int .i64 0,.bool false,.int .i64 0,.int .i64 0,.int .i64 0,.slice none 0 0,.slice none 0 0,.int .i64 v1.why,.bool v1.found,.int .i64 v1.key,.int .i64 v1.val,.int .i64 v1.n,.slice lA ln lc]):=(HC5.out.mono (fun y hy=>.inr hy)).trans (hc6.mono (fun y hy=>.inl hy));have hz3:=HZ3.out;refine ⟨.slice none 0 0,.slice none 0 0,.slice lA ln lc,rfl,⟨PrP.nil',PrP.nil', ?_⟩, ?_, ?_⟩
 ·refine ⟨Q0Z (hcc.own HOWN.out (fun g hg hy=> ?_)) (Nat.zero_le _),fun g hg=>by have:=(HOWN.out.lt g hg).1;omega⟩;have h1:=(HOWN.out.lt g hg).1
  rcases hy with rfl|rfl<;>omega
 ·refine (H4.out.1.keep hcc (fun y hy=> ?_)).mono (fun y hy=>hy.imp id (fun h=>by omega))
  rcases hy with rfl|rfl
  ·exact ⟨_,_,T44.out,by decide,by decide⟩
  ·exact ⟨_,_,T66.out,by decide,by decide⟩
 ·exact ((Chg.of_below HB3.out).trans H4.out.2).grow hcc (fun y hy=>by rcases hy with rfl|rfl<;>exact .inr (by omega))
end
section
theorem QcU (F Fr:Nat->Prop) (fb rb:Nat) (x:FX) (N:Nat) (T:List Int) (done:Bool) (o o':FOut) (s s':RunS) (w:World) (h:FrP F fb x T done o w) (hr:RunP Fr rb s w) (d0:s.Bd) (hp:x.proc=17) (hx:x.w.B) (hf:s.left<N) (hg:(x.tree N).go s=(o',s')):
  Calls Tryz.prog 154 #[.pointer (some ⟨fb,0,none⟩),.pointer (some ⟨rb,0,none⟩)] w (Qa3 Fr rb o' s' w):=by
 obtain ⟨xv,tv,pv,sv,lv,rec,laid,h⟩:=h;obtain ⟨xA,xc,rfl⟩:=Q03 h.spots.1;have hg:((Q0q x.w N 1 ⟨[],[]⟩).bind fun r=>Prog.ret {FOut.zero with pairs:=r.1.pairs,spots:=r.1.spots}).go s=(o',s'):=by unfold FX.tree at hg;rw[if_neg (by omega),if_neg (by omega),if_pos hp] at hg;exact hg
 obtain ⟨⟨st,bb⟩,s1,g1⟩:=Q0k (Q0q x.w N 1 ⟨[],[]⟩) s
 rw[Q01,g1] at hg
 obtain ⟨rfl,rfl⟩:=Prod.mk.inj hg;have hrlt:=hr.lt;have hflt:=h.blk.lt;obtain ⟨AR,hAR⟩:∃AR:List Value,AR=[.int .i64 x.a,.int .i64 x.b,.int .i64 0,.int .i64 x.p,.int .i64 0,.int .i64 x.w.lo,.int .i64 x.w.hi,.bool x.w.back,.int .i64 x.w.most,.bool x.w.values,.slice none 0 0,.slice none 0 0,.slice xA x.spots.length xc,.slice none 0 0,.slice none 0 0,.int .i64 0,.int .i64 0,.int .i64 0,.int .i64 x.op.kind,.int .i64 x.op.key,.int .i64 x.op.val]:=⟨_,rfl⟩;have har5:AR.toArray[5]? =some (.int .i64 x.w.lo):=by rw[hAR];rfl
 have har6:AR.toArray[6]? =some (.int .i64 x.w.hi):=by rw[hAR];rfl
 have har7:AR.toArray[7]? =some (.bool x.w.back):=by rw[hAR];rfl
 have har8:AR.toArray[8]? =some (.int .i64 x.w.most):=by rw[hAR];rfl
 have har9:AR.toArray[9]? =some (.bool x.w.values):=by rw[hAR];rfl
 have harl:AR.length=21:=by rw[hAR];rfl
 have haro:AR.toArray.all (·.oneCell')=true:=by rw[hAR];simp[Value.oneCell']
 have CP:Hid (∀w',Below w.heap.size w w'->w'.cell? ⟨fb,0,none⟩=some (.int .i64 17)):=LH (fun w' hb=>by rw[<-hp];exact (h.blk.below hb h.blk.lt).cell 0);have hz1:(w.alloc (.cells oZ 56)).heap.size=w.heap.size+1:=by simp
 have hz1b:(f1 w).heap.size=w.heap.size+1+1:=by simp
 have hz2:(f2 w AR).heap.size=w.heap.size+1+1:=by simp
 have hz3:(f4 w AR).heap.size=w.heap.size+3:=by simp
 have b1:Below w.heap.size w (w.alloc (.cells oZ 56)):=(Below.refl w.heap.size w).alloc (Nat.le_refl _) _;have b1b:Below w.heap.size w (f1 w):=b1.alloc b1.size _;have b2:Below w.heap.size w (f2 w AR):=b1b.trans ((Chg.setRow _ _ _).below (fun y hy=>by omega) (by omega));have b2b:Below w.heap.size w (f3 w AR):=b2.alloc b2.size _;have b3:Below w.heap.size w (f4 w AR):=b2b.trans ((Chg.setRow _ _ _).below (fun y hy=>by omega) b2b.size)
 have t5b:Blk (f1 w) (w.heap.size+1) 50 aZ:=by
  have:=Blk.new (w.alloc (.cells oZ 56)) 50 aZ
  rw[hz1] at this
  exact this
 have t5c:Blk (f2 w AR) (w.heap.size+1) 50 AR.toArray:=t5b.setRow _
 have t6b:Blk (f3 w AR) (w.heap.size+1+1) 56 oZ:=by
  have:=Blk.new (f2 w AR) 56 oZ
  rw[hz2] at this
  exact this
 have t6:Blk (f4 w AR) (w.heap.size+1+1) 56 oZ:=t6b.setRow _;have t5:Blk (f4 w AR) (w.heap.size+1) 50 AR.toArray:=(Chg.setRow (f3 w AR) (w.heap.size+1+1) oZ).blk (t5c.below ((Below.refl (f2 w AR).heap.size (f2 w AR)).alloc (Nat.le_refl _) (.cells oZ 56)) t5c.lt) (by omega)
 have t4:Blk (f4 w AR) w.heap.size 56 oZ:=by
  have h1:=Blk.new w 56 oZ;have h2:=h1.below ((Below.refl (w.alloc (.cells oZ 56)).heap.size (w.alloc (.cells oZ 56))).alloc (Nat.le_refl _) (.cells aZ 50)) h1.lt;have h3:=(Chg.setRow (f1 w) (w.heap.size+1) AR.toArray).blk h2 (by omega);have h4:=h3.below ((Below.refl (f2 w AR).heap.size (f2 w AR)).alloc (Nat.le_refl _) (.cells oZ 56)) h3.lt;exact (Chg.setRow (f3 w AR) (w.heap.size+1+1) oZ).blk h4 (by omega)
 have hra:(w.alloc (.cells oZ 56)).rangeAt fb 1 AR:=fun j u hu=>by
  rw[hAR] at hu
  have:=(h.blk.below (b1.mono (Nat.le_refl _)) h.blk.lt).cell (1+j)
  rw[this]
  have e:(1+j)=j+1:=by omega
  rw[e]
  have hj:j<21:=by
   rcases Nat.lt_or_ge j 21 with g|g
   ·exact g
   ·rw[List.getElem?_eq_none (by simpa using g)] at hu;cases hu
  match j,hj,hu with
  |0,_,hu=>exact hu
  |1,_,hu=>exact hu
  |2,_,hu=>exact hu
  |3,_,hu=>exact hu
  |4,_,hu=>exact hu
  |5,_,hu=>exact hu
  |6,_,hu=>exact hu
  |7,_,hu=>exact hu
  |8,_,hu=>exact hu
  |9,_,hu=>exact hu
  |10,_,hu=>exact hu
  |11,_,hu=>exact hu
  |12,_,hu=>exact hu
  |13,_,hu=>exact hu
  |14,_,hu=>exact hu
  |15,_,hu=>exact hu
  |16,_,hu=>exact hu
  |17,_,hu=>exact hu
  |18,_,hu=>exact hu
  |19,_,hu=>exact hu
  |20,_,hu=>exact hu
 have RA:=LH hra;have HF:=LH hf;have HIA:Hid ((Tryz.prog.info? 50).map (·.size)=some AR.length):=LH (by rw[harl];kernel_rfl);have HIB:Hid ((Tryz.prog.info? 50).map (·.size)=some AR.toArray.size):=LH (by rw[List.size_toArray,harl];kernel_rfl);have HIC:Hid ((aZ:Array Value).size=AR.toArray.size):=LH (by show 21=AR.toArray.size;rw[List.size_toArray,harl]);have HID:=LH haro;have a5:(f4 w AR).cell? ⟨w.heap.size+1,5,none⟩=some (.int .i64 x.w.lo):=(t5.cell 5).trans har5;have a6:(f4 w AR).cell? ⟨w.heap.size+1,6,none⟩=some (.int .i64 x.w.hi):=(t5.cell 6).trans har6;have a7:(f4 w AR).cell? ⟨w.heap.size+1,7,none⟩=some (.bool x.w.back):=(t5.cell 7).trans har7;have a8:(f4 w AR).cell? ⟨w.heap.size+1,8,none⟩=some (.int .i64 x.w.most):=(t5.cell 8).trans har8;have a9:(f4 w AR).cell? ⟨w.heap.size+1,9,none⟩=some (.bool x.w.values):=(t5.cell 9).trans har9;clear har5 har6 har7 har8 har9 harl haro hAR;have HT5:=LH t5b;have HT6:=LH t6b;clear hra t5b t5c t6b b1 b1b b2 b2b hz1 hz1b hz2;have c03:(f4 w AR).cell? ⟨fb,0,none⟩=some (.int .i64 17):=CP.out _ b3;have HR:=LH (hr.below b3);have HB3:=LH b3;have HZ3:=LH hz3;have H:=LH h;have G1:=LH g1;have T4:=LH t4;have T5:=LH t5;have T6:=LH t6;clear t4 t5 t6;clear hr b3 hz3 h g1 hg hf hp;go_enter Tryz.func154,Tryz.ntmps154;go_wp2_with (first|((with_reducible refine (show wpList _ _ _ ((Oper.mk (some 11) (.load _ _) _ _ _ _)::_) _ _ from ?_));refine wpList_load_mid rfl 50 (.tmp 10) rfl fb 1 rfl AR _ RA.out Tryz.underlying50 rfl (HIA.out) ?_)|((with_reducible refine (show wpList _ _ _ ((Oper.mk none (.store _ (.tmp 5) _) _ _ _ _)::_) _ _ from ?_));refine wpList_store_row rfl 50 (.tmp 5) (.tmp 11) rfl (w.heap.size+1) AR.toArray rfl rfl _ _ HT5.out (HIB.out) HIC.out HID.out ?_)|((with_reducible refine (show wpList _ _ _ ((Oper.mk none (.store _ (.tmp 6) _) _ _ _ _)::_) _ _ from ?_));refine wpList_store_row rfl 56 (.tmp 6) (.tmp 12) rfl (w.heap.size+1+1) oZ rfl rfl _ _ HT6.out (by kernel_rfl) rfl (by simp[Value.oneCell']) ?_));rw[show (f3 w AR).setRow (w.heap.size+1+1) oZ=f4 w AR from rfl];generalize (f4 w AR)=w3 at HR HB3 HZ3 T4 T5 T6 c03 a5 a6 a7 a8 a9|-;clear HT5 HT6 RA HIA HIB HIC HID;have hbw:=(Below.refl w3.heap.size w3).alloc (Nat.le_refl _) (.cells #[.int .i64 x.w.lo,.int .i64 x.w.hi,.bool x.w.back,.int .i64 x.w.most,.bool x.w.values,.slice none 0 0,.slice none 0 0] 43);have hll:=Q4d d0;obtain ⟨wb,hwb⟩:∃wb,w.heap.size+1+1+1=wb:=⟨_,rfl⟩
 rw[hwb]
 have ez:w3.heap.size=wb:=by have:=HZ3.out;omega
 have HW:Hid (RW Fr rb w3 s wb x.w ⟨[],[]⟩ (w3.alloc (.cells #[.int .i64 x.w.lo,.int .i64 x.w.hi,.bool x.w.back,.int .i64 x.w.most,.bool x.w.values,.slice none 0 0,.slice none 0 0] 43))):=LH (by rw[<-ez];exact ⟨.slice none 0 0,.slice none 0 0,(RAt.refl HR.out).below hbw,Nat.le_refl _,Blk.new w3 _ _,World.ownsRow_nil _ _ _ _,World.ownsRow_nil _ _ _ _,by simp;omega,by simp;omega⟩);clear hbw;with_reducible refine ((Q5d _ rb wb _ x.w hx N).use ⟨[],[]⟩ st bb s s1 1 _ HW.out d0 (fun _=>HF.out) (by decide) (by decide) ⟨LB.nil,LB.nil⟩ G1.out).mono ?_
 rintro e w4 ⟨rfl,h4⟩;obtain ⟨pA,pc,sA,sc,c5,c6,-,-,-,-,hown,-,-⟩:=h4.rows;obtain ⟨pvv,svv,hrw⟩:=h4;have hsp:∃A2 c2,svv=.slice A2 st.spots.length c2:=Q03 hrw.sps;have c6b:w4.cell? ⟨wb,6,none⟩=some svv:=hrw.blk.cell 6;have hsv:svv=.slice sA st.spots.length sc:=by rw[c6b] at c6;injection c6
 have hpv:pvv=.slice pA st.pairs.length pc:=by have c5b:w4.cell? ⟨wb,5,none⟩=some pvv:=hrw.blk.cell 5;rw[c5b] at c5;injection c5
 subst hsv hpv;have h4:RAt Fr rb w3 s1 w4:=hrw.run;have HOP:=LH hrw.prs;have HBW:=LH hrw.blk;have HOS:=LH hrw.sps;clear hsp c6b hrw hown;have H4:=LH h4;have hne4:¬(w.heap.size=rb):=by omega
 have hne6:¬(w.heap.size+1+1=rb):=by omega
 have T44:=LH (h4.2.blk T4.out hne4);have T66:=LH (h4.2.blk T6.out hne6);have hw34:=h4.2.size;clear h4 HR T4 T5 T6 c03 a5 a6 a7 a8 a9;have q5:w4.cell? ⟨w.heap.size+1+1,5,none⟩=some (.slice none 0 0):=(T66.out).cell 5;have r5:=(T66.out).frozen 5;have q6:(w4.setCell ⟨w.heap.size+1+1,5,none⟩ (.slice pA st.pairs.length pc)).cell? ⟨w.heap.size+1+1,6,none⟩=some (.slice none 0 0):=((T66.out).set_ 5 (.slice pA st.pairs.length pc)).cell 6;have r6:=((T66.out).set_ 5 (.slice pA st.pairs.length pc)).frozen 6;have hw36:¬wb=w.heap.size+1+1:=by omega
 have c6c:(w4.setCell ⟨w.heap.size+1+1,5,none⟩ (.slice pA st.pairs.length pc)).cell? ⟨wb,6,none⟩=some (.slice sA st.spots.length sc):=(HBW.out.far (p:=⟨w.heap.size+1+1,5,none⟩) hw36 (.slice pA st.pairs.length pc)).cell 6;have t6b:=((T66.out).set_ 5 (.slice pA st.pairs.length pc)).set_ 6 (.slice sA st.spots.length sc);have hc5:Chg (fun y=>y=w.heap.size+1+1) w4 ((w4.setCell ⟨w.heap.size+1+1,5,none⟩ (.slice pA st.pairs.length pc)).setCell ⟨w.heap.size+1+1,6,none⟩ (.slice sA st.spots.length sc)):=(Chg.set1 w4 (w.heap.size+1+1) 5 (.slice pA st.pairs.length pc)).trans (Chg.set1 _ (w.heap.size+1+1) 6 (.slice sA st.spots.length sc));have hn46:¬w.heap.size=w.heap.size+1+1:=by omega
 have t4b:=hc5.blk T44.out hn46;have HC5:=LH hc5;have T4B:=LH t4b;have T6B:=LH t6b;clear t6b t4b hc5;go_upto_region 20 with fail;go_wp2_with (first|((with_reducible refine (show wpList _ _ _ ((Oper.mk (some 92) (.load _ _) _ _ _ _)::_) _ _ from ?_));refine wpList_load_row rfl 56 (.tmp 6) rfl (w.heap.size+1+1) rfl _ _ (0,0) _ T6B.out Tryz.underlying56 rfl (by kernel_rfl) ?_)|((with_reducible refine (show wpList _ _ _ ((Oper.mk none (.store _ (.tmp 4) _) _ _ _ _)::_) _ _ from ?_));refine wpList_store_row rfl 56 (.tmp 4) (.tmp 92) rfl w.heap.size #[.int .i64 0,.bool false,.int .i64 0,.int .i64 0,.int .i64 0,.slice pA st.pairs.length pc,.slice sA st.spots.length sc,.int .i64 0,.bool false,.int .i64 0,.int .i64 0,.int .i64 0,.slice none 0 0] rfl rfl _ _ T4B.out (by kernel_rfl) rfl (by simp[Value.oneCell']) ?_));refine bodyPost_ret (v:=.agg #[.int .i64 0,.bool false,.int .i64 0,.int .i64 0,.int .i64 0,.slice pA st.pairs.length pc,.slice sA st.spots.length sc,.int .i64 0,.bool false,.int .i64 0,.int .i64 0,.int .i64 0,.slice none 0 0]) (results_cell_row rfl _ _ w.heap.size _ _ (0,0) _ rfl (T4B.out.setRow _) Tryz.underlying56 rfl (by kernel_rfl)) rfl ?_;have hc6:Chg (fun y=>y=w.heap.size) ((w4.setCell ⟨w.heap.size+1+1,5,none⟩ (.slice pA st.pairs.length pc)).setCell ⟨w.heap.size+1+1,6,none⟩ (.slice sA st.spots.length sc)) (((w4.setCell ⟨w.heap.size+1+1,5,none⟩ (.slice pA st.pairs.length pc)).setCell ⟨w.heap.size+1+1,6,none⟩ (.slice sA st.spots.length sc)).setRow w.heap.size #[.int .i64 0,.bool false,.int .i64 0,.int .i64 0,.int .i64 0,.slice pA st.pairs.length pc,.slice sA st.spots.length sc,.int .i64 0,.bool false,.int .i64 0,.int .i64 0,.int .i64 0,.slice none 0 0]):=Chg.setRow _ _ _;have hcc:Chg (fun y=>y=w.heap.size\/y=w.heap.size+1+1) w4 (((w4.setCell ⟨w.heap.size+1+1,5,none⟩ (.slice pA st.pairs.length pc)).setCell ⟨w.heap.size+1+1,6,none⟩ (.slice sA st.spots.length sc)).setRow w.heap.size #[.int .i64 0,.bool false,.int .i64 0,.int .i64 0,.int .i64 0,.slice pA st.pairs.length pc,.slice sA st.spots.length sc,.int .i64 0,.bool false,.int .i64 0,.int .i64 0,.int .i64 0,.slice none 0 0]):=(HC5.out.mono (fun y hy=>.inr hy)).trans (hc6.mono (fun y hy=>.inl hy));have hz3:=HZ3.out;refine ⟨.slice pA st.pairs.length pc,.slice sA st.spots.length sc,.slice none 0 0,rfl,⟨?_, ?_,PrP.nil'⟩, ?_, ?_⟩
 ·refine ⟨Q0Z (hcc.own HOP.out (fun g hg hy=> ?_)) (Nat.zero_le _),fun g hg=>by have:=(HOP.out.lt g hg).1;omega⟩;have h1:=(HOP.out.lt g hg).1
  rcases hy with rfl|rfl<;>omega
 ·refine ⟨Q0Z (hcc.own HOS.out (fun g hg hy=> ?_)) (Nat.zero_le _),fun g hg=>by have:=(HOS.out.lt g hg).1;omega⟩;have h1:=(HOS.out.lt g hg).1
  rcases hy with rfl|rfl<;>omega
 ·refine (H4.out.1.keep hcc (fun y hy=> ?_)).mono (fun y hy=>hy.imp id (fun h=>by omega))
  rcases hy with rfl|rfl
  ·exact ⟨_,_,T44.out,by decide,by decide⟩
  ·exact ⟨_,_,T66.out,by decide,by decide⟩
 ·exact ((Chg.of_below HB3.out).trans H4.out.2).grow hcc (fun y hy=>by rcases hy with rfl|rfl<;>exact .inr (by omega))
end
theorem Qbh (F:Nat->Prop) (fb:Nat) (x:FX) (N:Nat) (T:List Int) (done:Bool) (o o':FOut) (s':RunS) (w:World) (h:FrP F fb x T done o w) (d0:(RunS.mk T 0 false Q20).Bd) (hp:x.proc=24) (ho:x.op.B) (hk3:x.op.kind=1\/x.op.kind=2\/x.op.kind=3) (hf:T.length+1<N) (hg:(x.tree N).go ⟨T,0,false,Q20⟩=(o',s')):
  Calls Tryz.prog 95 #[.pointer (some ⟨fb,0,none⟩)] w (Q5B F o' s' w):=by
 have hfull:=h;obtain ⟨xv,tv,pv,sv,lv,rec,laid,h⟩:=h;obtain ⟨tA,tc,rfl⟩:=Q03 h.tape;have hflt:=h.blk.lt;have hz1:(w.alloc (.cells oZ 56)).heap.size=w.heap.size+1:=by simp
 have hz2:((w.alloc (.cells oZ 56)).alloc (.cells (tZ tA T.length tc) 145)).heap.size=w.heap.size+2:=by simp
 have b1:Below w.heap.size w (w.alloc (.cells oZ 56)):=(Below.refl w.heap.size w).alloc (Nat.le_refl _) _;have b2:Below w.heap.size w ((w.alloc (.cells oZ 56)).alloc (.cells (tZ tA T.length tc) 145)):=b1.alloc b1.size _;have t3:Blk ((w.alloc (.cells oZ 56)).alloc (.cells (tZ tA T.length tc) 145)) w.heap.size 56 oZ:=(Blk.new w 56 oZ).below ((Below.refl (w.alloc (.cells oZ 56)).heap.size (w.alloc (.cells oZ 56))).alloc (Nat.le_refl _) (.cells (tZ tA T.length tc) 145)) (Blk.new w 56 oZ).lt
 have tr:Blk ((w.alloc (.cells oZ 56)).alloc (.cells (tZ tA T.length tc) 145)) (w.heap.size+1) 145 (tZ tA T.length tc):=by
  have:=Blk.new (w.alloc (.cells oZ 56)) 145 (tZ tA T.length tc)
  rw[hz1] at this
  exact this
 have hr:RunP (fun y=>F y\/w.heap.size<=y) (w.heap.size+1) ⟨T,0,false,Q20⟩ ((w.alloc (.cells oZ 56)).alloc (.cells (tZ tA T.length tc) 145)):=⟨.slice tA T.length tc,.slice none 0 0,0,0,.inr (by omega),tr,Q0n h.tape b2,World.ownsRow_nil _ _ _ _,fun g hg=>.inl (h.ft g hg),fun g hg=>absurd hg (by simp[Value.ownBlock])⟩;have c22:(w.alloc (.cells oZ 56)).cell? ⟨fb,22,none⟩=some (.slice tA T.length tc):=(h.blk.below b1 h.blk.lt).cell 22;have c0:((w.alloc (.cells oZ 56)).alloc (.cells (tZ tA T.length tc) 145)).cell? ⟨fb,0,none⟩=some (.int .i64 24):=by rw[<-hp];exact (h.blk.below b2 h.blk.lt).cell 0
 have HF:=LH (hfull.below b2);have HR:=LH hr;have HB2:=LH b2;have HG:=LH hg;have HNN:=LH (show (RunS.mk T 0 false Q20).left<N by unfold RunS.left;simp;omega);have T3:=LH t3;have HP:=LH hp;have HZ2:=LH hz2;clear t3 hp hz2;clear tr hr hfull h b1 b2 hz1 hg hf;go_enter Tryz.func95,Tryz.ntmps95;go_wp2_with (fail);generalize ((w.alloc (.cells oZ 56)).alloc (.cells (tZ tA T.length tc) 145))=w2 at HF HR HB2 T3 HZ2 c0|-;clear c22;with_reducible refine (QbC F _ fb (w.heap.size+1) x N T done o o' ⟨T,0,false,Q20⟩ s' w2 HF.out HR.out d0 HP.out ho hk3 HNN.out HG.out).mono ?_
 rintro e w3 ⟨pv3,sv3,lv3,rfl,hrows,hra⟩;have HROW:=LH hrows;have HRA:=LH hra;have hne:¬w.heap.size=w.heap.size+1:=by omega
 have T33:=LH (hra.2.blk T3.out hne)
 have hone:((oA o' pv3 sv3 lv3):Array Value).all (·.oneCell')=true:=by
  obtain ⟨_,_,rfl⟩:=Q03 hrows.prs.1;obtain ⟨_,_,rfl⟩:=Q03 hrows.sps.1;obtain ⟨_,_,rfl⟩:=Q03 hrows.lst.1;simp[Value.oneCell']
 have HONE:=LH hone;clear hrows hra HR HF T3 hone c0 HG HP HNN;unfold Qfn;go_wp2_with (first|((with_reducible refine (show wpList _ _ _ ((Oper.mk none (.store _ (.tmp 3) _) _ _ _ _)::_) _ _ from ?_));refine wpList_store_row rfl 56 (.tmp 3) (.tmp 34) rfl w.heap.size (oA o' pv3 sv3 lv3) rfl rfl _ _ T33.out (by kernel_rfl) rfl HONE.out ?_));refine bodyPost_ret (v:=.tuple #[.pointer (some ⟨w.heap.size+1,0,none⟩),.agg (oA o' pv3 sv3 lv3)]) (Q22 rfl _ _ _ w.heap.size _ _ (0,0) _ rfl rfl (T33.out.setRow _) Tryz.underlying56 rfl (by kernel_rfl)) rfl ?_;have hz2:=HZ2.out;have hc6:Chg (fun y=>y=w.heap.size) w3 (w3.setRow w.heap.size (oA o' pv3 sv3 lv3)):=Chg.setRow _ _ _;have hk6:∀y,y=w.heap.size->∃t cs,Blk w3 y t cs/\t=56:=fun y hy=>⟨_,_,hy▸T33.out,rfl⟩;refine ⟨w.heap.size+1,pv3,sv3,lv3,rfl, ?_, ?_,by omega, ?_⟩
 ·exact (HROW.out.keep hc6 (fun y hy=>by obtain ⟨t,cs,h1,rfl⟩:=hk6 y hy;exact ⟨_,_,h1,by decide,by decide⟩)).mono (fun y hy=>by omega)
 ·exact (HRA.out.1.keep hc6 (fun y hy=>by obtain ⟨t,cs,h1,rfl⟩:=hk6 y hy;exact ⟨_,_,h1,by decide,by decide⟩)).mono (fun y hy=>hy.elim id (fun h=>.inr (by omega)))
 ·exact (HB2.out.trans (HRA.out.2.below (fun y hy=>by omega) (by omega))).trans (hc6.below (fun y hy=>by omega) (by have:=HRA.out.2.size;omega))
theorem QfS {N:Nat} {x:FX} (hp:x.proc=24) (ho:x.op.B) (hk3:x.op.kind=1\/x.op.kind=2\/x.op.kind=3):Q5s N x:=fun F fb T done o o' s' w h d0 hf hg=>Qbh F fb x N T done o o' s' w h d0 hp ho hk3 hf hg
theorem Qbg (F:Nat->Prop) (fb:Nat) (x:FX) (N:Nat) (T:List Int) (done:Bool) (o o':FOut) (s':RunS) (w:World) (h:FrP F fb x T done o w) (d0:(RunS.mk T 0 false Q20).Bd) (hp:x.proc=25) (ho:x.op.B) (hk4:4<=x.op.kind) (hk10:x.op.kind<=10) (hb1:1<=x.b) (hb64:x.b<=64) (hf:T.length+1<N) (hg:(x.tree N).go ⟨T,0,false,Q20⟩=(o',s')):
  Calls Tryz.prog 95 #[.pointer (some ⟨fb,0,none⟩)] w (Q5B F o' s' w):=by
 have hfull:=h;obtain ⟨xv,tv,pv,sv,lv,rec,laid,h⟩:=h;obtain ⟨tA,tc,rfl⟩:=Q03 h.tape;have hflt:=h.blk.lt;have hz1:(w.alloc (.cells oZ 56)).heap.size=w.heap.size+1:=by simp
 have hz2:((w.alloc (.cells oZ 56)).alloc (.cells (tZ tA T.length tc) 145)).heap.size=w.heap.size+2:=by simp
 have b1:Below w.heap.size w (w.alloc (.cells oZ 56)):=(Below.refl w.heap.size w).alloc (Nat.le_refl _) _;have b2:Below w.heap.size w ((w.alloc (.cells oZ 56)).alloc (.cells (tZ tA T.length tc) 145)):=b1.alloc b1.size _;have t3:Blk ((w.alloc (.cells oZ 56)).alloc (.cells (tZ tA T.length tc) 145)) w.heap.size 56 oZ:=(Blk.new w 56 oZ).below ((Below.refl (w.alloc (.cells oZ 56)).heap.size (w.alloc (.cells oZ 56))).alloc (Nat.le_refl _) (.cells (tZ tA T.length tc) 145)) (Blk.new w 56 oZ).lt
 have tr:Blk ((w.alloc (.cells oZ 56)).alloc (.cells (tZ tA T.length tc) 145)) (w.heap.size+1) 145 (tZ tA T.length tc):=by
  have:=Blk.new (w.alloc (.cells oZ 56)) 145 (tZ tA T.length tc)
  rw[hz1] at this
  exact this
 have hr:RunP (fun y=>F y\/w.heap.size<=y) (w.heap.size+1) ⟨T,0,false,Q20⟩ ((w.alloc (.cells oZ 56)).alloc (.cells (tZ tA T.length tc) 145)):=⟨.slice tA T.length tc,.slice none 0 0,0,0,.inr (by omega),tr,Q0n h.tape b2,World.ownsRow_nil _ _ _ _,fun g hg=>.inl (h.ft g hg),fun g hg=>absurd hg (by simp[Value.ownBlock])⟩;have c22:(w.alloc (.cells oZ 56)).cell? ⟨fb,22,none⟩=some (.slice tA T.length tc):=(h.blk.below b1 h.blk.lt).cell 22;have c0:((w.alloc (.cells oZ 56)).alloc (.cells (tZ tA T.length tc) 145)).cell? ⟨fb,0,none⟩=some (.int .i64 25):=by rw[<-hp];exact (h.blk.below b2 h.blk.lt).cell 0
 have HF:=LH (hfull.below b2);have HR:=LH hr;have HB2:=LH b2;have HG:=LH hg;have HNN:=LH (show (RunS.mk T 0 false Q20).left<N by unfold RunS.left;simp;omega);have T3:=LH t3;have HP:=LH hp;have HZ2:=LH hz2;clear t3 hp hz2;clear tr hr hfull h b1 b2 hz1 hg hf;go_enter Tryz.func95,Tryz.ntmps95;go_wp2_with (fail);generalize ((w.alloc (.cells oZ 56)).alloc (.cells (tZ tA T.length tc) 145))=w2 at HF HR HB2 T3 HZ2 c0|-;clear c22;with_reducible refine (QbB F _ fb (w.heap.size+1) x N T done o o' ⟨T,0,false,Q20⟩ s' w2 HF.out HR.out d0 HP.out ho hk4 hk10 hb1 hb64 HNN.out HG.out).mono ?_
 rintro e w3 ⟨pv3,sv3,lv3,rfl,hrows,hra⟩;have HROW:=LH hrows;have HRA:=LH hra;have hne:¬w.heap.size=w.heap.size+1:=by omega
 have T33:=LH (hra.2.blk T3.out hne)
 have hone:((oA o' pv3 sv3 lv3):Array Value).all (·.oneCell')=true:=by
  obtain ⟨_,_,rfl⟩:=Q03 hrows.prs.1;obtain ⟨_,_,rfl⟩:=Q03 hrows.sps.1;obtain ⟨_,_,rfl⟩:=Q03 hrows.lst.1;simp[Value.oneCell']
 have HONE:=LH hone;clear hrows hra HR HF T3 hone c0 HG HP HNN;unfold Qfn;go_wp2_with (first|((with_reducible refine (show wpList _ _ _ ((Oper.mk none (.store _ (.tmp 3) _) _ _ _ _)::_) _ _ from ?_));refine wpList_store_row rfl 56 (.tmp 3) (.tmp 34) rfl w.heap.size (oA o' pv3 sv3 lv3) rfl rfl _ _ T33.out (by kernel_rfl) rfl HONE.out ?_));refine bodyPost_ret (v:=.tuple #[.pointer (some ⟨w.heap.size+1,0,none⟩),.agg (oA o' pv3 sv3 lv3)]) (Q22 rfl _ _ _ w.heap.size _ _ (0,0) _ rfl rfl (T33.out.setRow _) Tryz.underlying56 rfl (by kernel_rfl)) rfl ?_;have hz2:=HZ2.out;have hc6:Chg (fun y=>y=w.heap.size) w3 (w3.setRow w.heap.size (oA o' pv3 sv3 lv3)):=Chg.setRow _ _ _;have hk6:∀y,y=w.heap.size->∃t cs,Blk w3 y t cs/\t=56:=fun y hy=>⟨_,_,hy▸T33.out,rfl⟩;refine ⟨w.heap.size+1,pv3,sv3,lv3,rfl, ?_, ?_,by omega, ?_⟩
 ·exact (HROW.out.keep hc6 (fun y hy=>by obtain ⟨t,cs,h1,rfl⟩:=hk6 y hy;exact ⟨_,_,h1,by decide,by decide⟩)).mono (fun y hy=>by omega)
 ·exact (HRA.out.1.keep hc6 (fun y hy=>by obtain ⟨t,cs,h1,rfl⟩:=hk6 y hy;exact ⟨_,_,h1,by decide,by decide⟩)).mono (fun y hy=>hy.elim id (fun h=>.inr (by omega)))
 ·exact (HB2.out.trans (HRA.out.2.below (fun y hy=>by omega) (by omega))).trans (hc6.below (fun y hy=>by omega) (by have:=HRA.out.2.size;omega))
theorem QfR {N:Nat} {x:FX} (hp:x.proc=25) (ho:x.op.B) (hk4:4<=x.op.kind) (hk10:x.op.kind<=10) (hb1:1<=x.b) (hb64:x.b<=64):Q5s N x:=fun F fb T done o o' s' w h d0 hf hg=>Qbg F fb x N T done o o' s' w h d0 hp ho hk4 hk10 hb1 hb64 hf hg
theorem Qbi (F:Nat->Prop) (fb:Nat) (x:FX) (N:Nat) (T:List Int) (done:Bool) (o o':FOut) (s':RunS) (w:World) (h:FrP F fb x T done o w) (d0:(RunS.mk T 0 false Q20).Bd) (hp:x.proc=17) (hx:x.w.B) (hf:T.length+1<N) (hg:(x.tree N).go ⟨T,0,false,Q20⟩=(o',s')):
  Calls Tryz.prog 95 #[.pointer (some ⟨fb,0,none⟩)] w (Q5B F o' s' w):=by
 have hfull:=h;obtain ⟨xv,tv,pv,sv,lv,rec,laid,h⟩:=h;obtain ⟨tA,tc,rfl⟩:=Q03 h.tape;have hflt:=h.blk.lt;have hz1:(w.alloc (.cells oZ 56)).heap.size=w.heap.size+1:=by simp
 have hz2:((w.alloc (.cells oZ 56)).alloc (.cells (tZ tA T.length tc) 145)).heap.size=w.heap.size+2:=by simp
 have b1:Below w.heap.size w (w.alloc (.cells oZ 56)):=(Below.refl w.heap.size w).alloc (Nat.le_refl _) _;have b2:Below w.heap.size w ((w.alloc (.cells oZ 56)).alloc (.cells (tZ tA T.length tc) 145)):=b1.alloc b1.size _;have t3:Blk ((w.alloc (.cells oZ 56)).alloc (.cells (tZ tA T.length tc) 145)) w.heap.size 56 oZ:=(Blk.new w 56 oZ).below ((Below.refl (w.alloc (.cells oZ 56)).heap.size (w.alloc (.cells oZ 56))).alloc (Nat.le_refl _) (.cells (tZ tA T.length tc) 145)) (Blk.new w 56 oZ).lt
 have tr:Blk ((w.alloc (.cells oZ 56)).alloc (.cells (tZ tA T.length tc) 145)) (w.heap.size+1) 145 (tZ tA T.length tc):=by
  have:=Blk.new (w.alloc (.cells oZ 56)) 145 (tZ tA T.length tc)
  rw[hz1] at this
  exact this
 have hr:RunP (fun y=>F y\/w.heap.size<=y) (w.heap.size+1) ⟨T,0,false,Q20⟩ ((w.alloc (.cells oZ 56)).alloc (.cells (tZ tA T.length tc) 145)):=⟨.slice tA T.length tc,.slice none 0 0,0,0,.inr (by omega),tr,Q0n h.tape b2,World.ownsRow_nil _ _ _ _,fun g hg=>.inl (h.ft g hg),fun g hg=>absurd hg (by simp[Value.ownBlock])⟩;have c22:(w.alloc (.cells oZ 56)).cell? ⟨fb,22,none⟩=some (.slice tA T.length tc):=(h.blk.below b1 h.blk.lt).cell 22;have c0:((w.alloc (.cells oZ 56)).alloc (.cells (tZ tA T.length tc) 145)).cell? ⟨fb,0,none⟩=some (.int .i64 17):=by rw[<-hp];exact (h.blk.below b2 h.blk.lt).cell 0
 have HF:=LH (hfull.below b2);have HR:=LH hr;have HB2:=LH b2;have HG:=LH hg;have HNN:=LH (show (RunS.mk T 0 false Q20).left<N by unfold RunS.left;simp;omega);have T3:=LH t3;have HP:=LH hp;have HZ2:=LH hz2;clear t3 hp hz2;clear tr hr hfull h b1 b2 hz1 hg hf;go_enter Tryz.func95,Tryz.ntmps95;go_wp2_with (fail);generalize ((w.alloc (.cells oZ 56)).alloc (.cells (tZ tA T.length tc) 145))=w2 at HF HR HB2 T3 HZ2 c0|-;clear c22;with_reducible refine (QcU F _ fb (w.heap.size+1) x N T done o o' ⟨T,0,false,Q20⟩ s' w2 HF.out HR.out d0 HP.out hx HNN.out HG.out).mono ?_
 rintro e w3 ⟨pv3,sv3,lv3,rfl,hrows,hra⟩;have HROW:=LH hrows;have HRA:=LH hra;have hne:¬w.heap.size=w.heap.size+1:=by omega
 have T33:=LH (hra.2.blk T3.out hne)
 have hone:((oA o' pv3 sv3 lv3):Array Value).all (·.oneCell')=true:=by
  obtain ⟨_,_,rfl⟩:=Q03 hrows.prs.1;obtain ⟨_,_,rfl⟩:=Q03 hrows.sps.1;obtain ⟨_,_,rfl⟩:=Q03 hrows.lst.1;simp[Value.oneCell']
 have HONE:=LH hone;clear hrows hra HR HF T3 hone c0 HG HP HNN;unfold Qfn;go_wp2_with (first|((with_reducible refine (show wpList _ _ _ ((Oper.mk none (.store _ (.tmp 3) _) _ _ _ _)::_) _ _ from ?_));refine wpList_store_row rfl 56 (.tmp 3) (.tmp 30) rfl w.heap.size (oA o' pv3 sv3 lv3) rfl rfl _ _ T33.out (by kernel_rfl) rfl HONE.out ?_));refine bodyPost_ret (v:=.tuple #[.pointer (some ⟨w.heap.size+1,0,none⟩),.agg (oA o' pv3 sv3 lv3)]) (Q22 rfl _ _ _ w.heap.size _ _ (0,0) _ rfl rfl (T33.out.setRow _) Tryz.underlying56 rfl (by kernel_rfl)) rfl ?_;have hz2:=HZ2.out;have hc6:Chg (fun y=>y=w.heap.size) w3 (w3.setRow w.heap.size (oA o' pv3 sv3 lv3)):=Chg.setRow _ _ _;have hk6:∀y,y=w.heap.size->∃t cs,Blk w3 y t cs/\t=56:=fun y hy=>⟨_,_,hy▸T33.out,rfl⟩;refine ⟨w.heap.size+1,pv3,sv3,lv3,rfl, ?_, ?_,by omega, ?_⟩
 ·exact (HROW.out.keep hc6 (fun y hy=>by obtain ⟨t,cs,h1,rfl⟩:=hk6 y hy;exact ⟨_,_,h1,by decide,by decide⟩)).mono (fun y hy=>by omega)
 ·exact (HRA.out.1.keep hc6 (fun y hy=>by obtain ⟨t,cs,h1,rfl⟩:=hk6 y hy;exact ⟨_,_,h1,by decide,by decide⟩)).mono (fun y hy=>hy.elim id (fun h=>.inr (by omega)))
 ·exact (HB2.out.trans (HRA.out.2.below (fun y hy=>by omega) (by omega))).trans (hc6.below (fun y hy=>by omega) (by have:=HRA.out.2.size;omega))
theorem QfT {N:Nat} {x:FX} (hp:x.proc=17) (hx:x.w.B):Q5s N x:=fun F fb T done o o' s' w h d0 hf hg=>Qbi F fb x N T done o o' s' w h d0 hp hx hf hg
structure TH where
 budget:Int
 busy:Bool
 x:FX
 T:List Int
 done:Bool
 o:FOut
structure ThQ (F:Nat->Prop) (tb:Nat) (t:TH) (kind key val:Int) (fv:Value) (steps:Int) (took:Bool) (no:Int) (w:World):Prop where
 ft:F tb
 blk:Blk w tb 164 #[.int .i64 t.budget,.bool t.busy,.int .i64 kind,.int .i64 key,.int .i64 val,fv,.int .i64 steps,.bool took,.int .i64 no]
 fr:t.busy=true->∃fb,fv=.pointer (some ⟨fb,0,none⟩)/\FrP (fun y=>F y/\y≠tb) fb t.x t.T t.done t.o w
def ThP (F:Nat->Prop) (tb:Nat) (t:TH) (w:World):Prop:=∃kind key val fv steps took no,ThQ F tb t kind key val fv steps took no w
section
variable {F G:Nat->Prop} {tb:Nat} {t:TH} {kind key val steps no:Int} {took:Bool} {fv:Value} {w w':World}
theorem ThQ.mono (h:ThQ F tb t kind key val fv steps took no w) (hs:∀x,F x->G x):ThQ G tb t kind key val fv steps took no w:=
 ⟨hs _ h.ft,h.blk,fun hb=>by obtain ⟨fb,e,h⟩:=h.fr hb;exact ⟨fb,e,h.mono (fun y hy=>⟨hs _ hy.1,hy.2⟩)⟩⟩
theorem ThQ.chg (h:ThQ F tb t kind key val fv steps took no w) (m:Chg G w w') (hd:∀x,F x->G x->False):ThQ F tb t kind key val fv steps took no w':=
 ⟨h.ft,m.blk h.blk (fun e=>hd _ h.ft e),fun hb=>by obtain ⟨fb,e,h⟩:=h.fr hb;exact ⟨fb,e,h.chg m (fun y hy=>hd y hy.1)⟩⟩
theorem ThQ.below (h:ThQ F tb t kind key val fv steps took no w) (hb:Below w.heap.size w w'):ThQ F tb t kind key val fv steps took no w':=h.chg (G:=fun _=>False) (Chg.of_below hb) (fun _ _ hg=>hg)
theorem ThP.mono (h:ThP F tb t w) (hs:∀x,F x->G x):ThP G tb t w:=by obtain ⟨a,b,c,d,e,f,g,h⟩:=h;exact ⟨a,b,c,d,e,f,g,h.mono hs⟩
theorem ThP.chg (h:ThP F tb t w) (m:Chg G w w') (hd:∀x,F x->G x->False):ThP F tb t w':=by obtain ⟨a,b,c,d,e,f,g,h⟩:=h;exact ⟨a,b,c,d,e,f,g,h.chg m hd⟩
theorem ThP.below (h:ThP F tb t w) (hb:Below w.heap.size w w'):ThP F tb t w':=h.chg (G:=fun _=>False) (Chg.of_below hb) (fun _ _ hg=>hg)
theorem ThQ.set (h:ThQ F tb t kind key val fv steps took no w) (k:Nat) (u:Value) {t':TH} {kind' key' val' steps' no':Int} {took':Bool} (hx:t'.busy=true->t.busy=true/\t'.x=t.x/\t'.T=t.T/\t'.done=t.done/\t'.o=t.o)
  (he:(#[.int .i64 t.budget,.bool t.busy,.int .i64 kind,.int .i64 key,.int .i64 val,fv,.int .i64 steps,.bool took,.int .i64 no]:Array Value).setIfInBounds k u=#[.int .i64 t'.budget,.bool t'.busy,.int .i64 kind',.int .i64 key',.int .i64 val',fv,.int .i64 steps',.bool took',.int .i64 no']):
  ThQ F tb t' kind' key' val' fv steps' took' no' (w.setCell ⟨tb,k,none⟩ u):=
 ⟨h.ft,by have:=h.blk.set_ k u;rw[he] at this;exact this,fun hb=>by
  obtain ⟨h1,h2,h3,h4,h5⟩:=hx hb;obtain ⟨fb,e,hf⟩:=h.fr h1
  rw[h2,h3,h4,h5]
  exact ⟨fb,e,hf.chg (Chg.set1 w tb k u) (fun y hy he=>hy.2 he)⟩⟩
theorem ThQ.within (h:ThQ F tb t kind key val fv steps took no w):ThQ (fun y=>F y/\y<w.heap.size) tb t kind key val fv steps took no w:=
 ⟨⟨h.ft,h.blk.lt⟩,h.blk,fun hb=>by obtain ⟨fb,e,h⟩:=h.fr hb;exact ⟨fb,e,h.within.mono (fun y hy=>⟨⟨hy.1.1,hy.2⟩,hy.1.2⟩)⟩⟩
end
def Qh3 (rv:Value):Prop:=∃a b c d n A l k,rv=.agg #[.int .i64 a,.bool b,.int .i64 c,.int .i64 d,.int .i64 n,.slice A l k]
theorem Q1v {P:Program} {fn:Func} {p1 p2:Tmp} {ty:TypeId} (h:fn.results=#[.cell p1 ty,.tmp p2]) (tmps:Array Value) (w:World) (v:Value) (g:Nat) (t:TypeId) (cs:Array Value) (fr:Nat×Nat) (d:TypeDesc)
  (hv:tmps.getD p2 undef=v) (hp:tmps.getD p1 undef=.pointer (some ⟨g,0,none⟩)) (hg:w.heap[g]? =some (.cells cs t fr))
  (hu:P.underlying ty=some d) (hd:(match d with|.struct _|.array _ _=>true|_=>false)=true) (hi:(P.info? ty).map (·.size)=some cs.size):
  (results fn tmps).run P w=.ok (.tuple #[.agg cs,v]) w:=by
 have hp':tmps[p1]?.getD undef=.pointer (some ⟨g,0,none⟩):=by simpa using hp
 have hv':tmps[p2]?.getD undef=v:=by simpa using hv
 simp[results,h,hp',hv',asAddr,run_loadVar_row w g t ty cs fr d hg hu hd hi]
def Qe7:Array Value:=rZ
def Q9i (F Fm:Nat->Prop) (tb bm:Nat) (t:TH) (C:List Int) (max:Int) (dn:Bool) (w:World) (e:Ending) (w':World):Prop:=(∃rv,e=.returned (.tuple #[rv,.bool dn])/\Qh3 rv)/\∃F' Fm':Nat->Prop,ThP F' tb t w'/\M7 Fm' bm C max w'/\(∀y,F' y->Fm' y->False)/\(∀y,F' y->F y\/w.heap.size<=y)/\(∀y,Fm' y->Fm y\/w.heap.size<=y)/\Chg (fun y=>F y\/Fm y) w w'
theorem Q6J (F Fm:Nat->Prop) (tb bm:Nat) (t:TH) (T':List Int) (C C':List Int) (max:Int) (dn:Bool) (o':FOut) (w:World) (h:ThP F tb t w) (hm:M7 Fm bm C max w) (hd:∀y,F y->Fm y->False) (hb:t.busy=true)
  (HS:∀(F0 Fm0:Nat->Prop) (fb:Nat) (w0:World),FrP F0 fb t.x t.T t.done t.o w0->M7 Fm0 bm C max w0->(∀y,F0 y->Fm0 y->False)->Calls Tryz.prog 31 #[.pointer (some ⟨fb,0,none⟩),.pointer (some ⟨bm,0,none⟩)] w0 (Q6x F0 Fm0 fb bm t.x T' dn o' C' max w0)):
  Calls Tryz.prog 174 #[.pointer (some ⟨tb,0,none⟩),.pointer (some ⟨bm,0,none⟩)] w (Q9i F Fm tb bm {t with busy:= !dn,T:=T',done:=dn,o:=o'} C' max dn w):=by
 obtain ⟨budget,busy,x,T,done,o⟩:=t;subst hb;obtain ⟨kind,key,val,fv,steps,took,no,h⟩:=h;have hba:=((Below.refl w.heap.size w).alloc (Nat.le_refl _) (.cells rZ 54));have h1:=h.within.below hba;have hm1:=hm.within.below hba;have hbk:=Blk.new w 54 rZ;have htlt:=h.blk.lt;obtain ⟨fb,rfl,_⟩:=h1.fr rfl;have hst:=h1.set 6 (.int .i64 (wrap64 (steps+1))) (t':=⟨budget,true,x,T,done,o⟩) (fun _=>⟨rfl,rfl,rfl,rfl,rfl⟩) (kind':=kind) (key':=key) (val':=val) (steps':=wrap64 (steps+1)) (took':=took) (no':=no) rfl;have c1:(w.alloc (.cells rZ 54)).cell? ⟨tb,1,none⟩=some (.bool true):=h1.blk.cell 1;have c6:(w.alloc (.cells rZ 54)).cell? ⟨tb,6,none⟩=some (.int .i64 steps):=h1.blk.cell 6;have f6:=h1.blk.frozen 6;have c5:(w.alloc (.cells rZ 54)).cell? ⟨tb,5,none⟩=some (.pointer (some ⟨fb,0,none⟩)):=h1.blk.cell 5;have hcc:=Chg.set1 (w.alloc (.cells rZ 54)) tb 6 (.int .i64 (wrap64 (steps+1)))
 have W2:Hid (ThQ (fun y=>F y/\y<w.heap.size) tb ⟨budget,true,x,T,done,o⟩ kind key val (.pointer (some ⟨fb,0,none⟩)) (wrap64 (steps+1)) took no ((w.alloc (.cells rZ 54)).setCell ⟨tb,6,none⟩ (.int .i64 (wrap64 (steps+1))))/\M7 (fun y=>Fm y/\y<w.heap.size) bm C max ((w.alloc (.cells rZ 54)).setCell ⟨tb,6,none⟩ (.int .i64 (wrap64 (steps+1))))/\Blk ((w.alloc (.cells rZ 54)).setCell ⟨tb,6,none⟩ (.int .i64 (wrap64 (steps+1)))) w.heap.size 54 Qe7/\Chg F w ((w.alloc (.cells rZ 54)).setCell ⟨tb,6,none⟩ (.int .i64 (wrap64 (steps+1))))):=
  LH ⟨hst,hm1.chg hcc (fun y h1 h2=>hd y (h2▸h.ft) h1.1),hcc.blk hbk (by omega),(Chg.of_below hba).trans (hcc.mono (fun y hy=>hy▸h.ft))⟩
 have HSH:=LH HS;have HD:=LH hd;clear h h1 hm hm1 hbk hba hst hcc htlt HS hd;go_enter Tryz.func174,Tryz.ntmps174;go_wp2_with (fail);clear c1 c6 f6 c5;generalize (w.alloc (.cells rZ 54)).setCell ⟨tb,6,none⟩ (.int .i64 (wrap64 (steps+1)))=w2 at W2|-;obtain ⟨_,hq,hfr2⟩:=W2.out.1.fr rfl;injection hq with hq;injection hq with hq;injection hq with hq;subst hq;with_reducible refine (HSH.out _ _ fb w2 hfr2 W2.out.2.1 (fun y h1 h2=>HD.out y h1.1.1 h2.1)).mono ?_
 rintro e w3 ⟨rfl,F',Fm',hf3,hm3,hd3,hF',hFm',hc3⟩;have hc23:Chg (fun y=>(F y/\y<w.heap.size/\y≠tb)\/(Fm y/\y<w.heap.size)) w2 w3:=hc3.mono (fun y hy=>hy.imp (fun h=>⟨h.1.1,h.1.2,h.2⟩) id);have hb3:=hc23.blk W2.out.2.2.1 (fun h=>by rcases h with h|h;exact Nat.lt_irrefl _ h.2.1;exact Nat.lt_irrefl _ h.2);have htb3:=hc23.blk W2.out.1.blk (fun h=>by rcases h with h|h;exact h.2.2 rfl;exact HD.out _ W2.out.1.ft.1 h.1);have hz:w.heap.size<w2.heap.size:=W2.out.2.2.1.lt;have hz3:=hc23.size;have htlt:tb<w.heap.size:=W2.out.1.ft.2;have hFt:¬F' tb:=fun h=>by rcases hF' _ h with h|h;exact h.2 rfl;omega
 have hFr:¬F' w.heap.size:=fun h=>by rcases hF' _ h with h|h;exact Nat.lt_irrefl _ h.1.2;omega
 have hFmr:¬Fm' w.heap.size:=fun h=>by rcases hFm' _ h with h|h;exact Nat.lt_irrefl _ h.2;omega
 have hFmt:¬Fm' tb:=fun h=>by rcases hFm' _ h with h|h;exact HD.out _ W2.out.1.ft.1 h.1;omega
 cases dn with
 |false=>
  have W3:Hid (∀w4,Chg (fun y=>y=w.heap.size) w3 w4->∃F'' Fm'':Nat->Prop,ThP F'' tb ⟨budget, !false,x,T',false,o'⟩ w4/\M7 Fm'' bm C' max w4/\(∀y,F'' y->Fm'' y->False)/\(∀y,F'' y->F y\/w.heap.size<=y)/\(∀y,Fm'' y->Fm y\/w.heap.size<=y)/\Chg (fun y=>F y\/Fm y) w w4):=LH (fun w4 hc4=>by
   refine ⟨fun y=>F' y\/y=tb,Fm',⟨kind,key,val,_,_,took,no,.inr rfl,hc4.blk htb3 (by omega),fun _=>⟨fb,rfl, ?_⟩⟩,hm3.chg hc4 (fun y h1 h2=>hFmr (h2▸h1)),fun y h1 h2=> ?_,fun y h1=> ?_,fun y h1=> ?_, ?_⟩
   ·exact (hf3.mono (fun y hy=>⟨.inl hy,fun e=>hFt (e▸hy)⟩)).chg hc4 (fun y h1 h2=>by rcases h1.1 with h1|h1;exact hFr (h2▸h1);omega)
   ·rcases h1 with h1|h1
    ·exact hd3 y h1 h2
    ·exact hFmt (h1▸h2)
   ·rcases h1 with h1|h1
    ·rcases hF' _ h1 with h1|h1
     ·exact .inl h1.1.1
     ·exact .inr (by omega)
    ·exact .inl (h1▸W2.out.1.ft.1)
   ·rcases hFm' _ h1 with h1|h1
    ·exact .inl h1.1
    ·exact .inr (by omega)
   ·have c5:=(W2.out.2.2.2.mono (G:=fun y=>F y\/Fm y) (fun y hy=>.inl hy)).trans (hc23.mono (fun y hy=>hy.imp (fun h=>h.1) (fun h=>h.1)));exact c5.grow hc4 (fun y hy=>.inr (by omega)))
  have HB3:=LH hb3;clear hf3 hm3 hd3 hF' hFm' hc3 hc23 htb3 hz hz3 htlt hFt hFr hFmr hFmt hb3 HSH hfr2;go_wp2_with (first|((with_reducible refine (show wpList _ _ _ ((Oper.mk none (.store _ (.tmp 4) _) _ _ _ _)::_) _ _ from ?_));refine wpList_store_row rfl 54 (.tmp 4) (.tmp 26) rfl w.heap.size rZ rfl rfl _ _ HB3.out (by kernel_rfl) rfl (by simp[Value.oneCell']) ?_));refine bodyPost_ret (v:=.tuple #[.agg rZ,.bool false]) (Q1v rfl _ _ _ w.heap.size 54 _ (0,0) _ rfl rfl (HB3.out.setRow _) Tryz.underlying54 rfl (by kernel_rfl)) rfl ?_;exact ⟨⟨_,rfl,_,_,_,_,_,_,_,_,rfl⟩,W3.out _ (Chg.setRow _ _ _)⟩
 |true=>
  have W3:Hid (∀w4,Chg (fun y=>y=w.heap.size) (w3.setCell ⟨tb,1,none⟩ (.bool false)) w4->∃F'' Fm'':Nat->Prop,ThP F'' tb ⟨budget, !true,x,T',true,o'⟩ w4/\M7 Fm'' bm C' max w4/\(∀y,F'' y->Fm'' y->False)/\(∀y,F'' y->F y\/w.heap.size<=y)/\(∀y,Fm'' y->Fm y\/w.heap.size<=y)/\Chg (fun y=>F y\/Fm y) w w4):=LH (fun w4 hc4=>by
   have hc45:=((Chg.set1 w3 tb 1 (.bool false)).mono (G:=fun y=>y=w.heap.size\/y=tb) (fun y hy=>.inr hy)).trans (hc4.mono (fun y hy=>.inl hy));refine ⟨fun y=>F' y\/y=tb,Fm',⟨kind,key,val,_,_,took,no,.inr rfl,hc4.blk (htb3.set_ 1 _) (by omega),fun h=>absurd (show (!true)=true from h) (by decide)⟩,hm3.chg hc45 (fun y h1 h2=>by rcases h2 with h2|h2;exact hFmr (h2▸h1);exact hFmt (h2▸h1)),fun y h1 h2=> ?_,fun y h1=> ?_,fun y h1=> ?_, ?_⟩
   ·rcases h1 with h1|h1
    ·exact hd3 y h1 h2
    ·exact hFmt (h1▸h2)
   ·rcases h1 with h1|h1
    ·rcases hF' _ h1 with h1|h1
     ·exact .inl h1.1.1
     ·exact .inr (by omega)
    ·exact .inl (h1▸W2.out.1.ft.1)
   ·rcases hFm' _ h1 with h1|h1
    ·exact .inl h1.1
    ·exact .inr (by omega)
   ·have c5:=(W2.out.2.2.2.mono (G:=fun y=>F y\/Fm y) (fun y hy=>.inl hy)).trans (hc23.mono (fun y hy=>hy.imp (fun h=>h.1) (fun h=>h.1)));exact c5.grow hc45 (fun y hy=>by rcases hy with hy|hy;exact .inr (by omega);exact .inl (.inl (hy▸W2.out.1.ft.1))))
  obtain ⟨xv,tv,pv,sv,lv,rec,laid,hf3⟩:=hf3;obtain ⟨lA,lc,rfl⟩:=Q03 hf3.rows.lst.1;have c1:=htb3.frozen 1;have d1:w3.cell? ⟨tb,1,none⟩=some (.bool true):=htb3.cell 1;have d5:w3.cell? ⟨tb,5,none⟩=some (.pointer (some ⟨fb,0,none⟩)):=htb3.cell 5;have hbs:Blk (w3.setCell ⟨tb,1,none⟩ (.bool false)) w.heap.size 54 Qe7:=(Chg.set1 w3 tb 1 (.bool false)).blk hb3 (by omega);have hfs:=(Chg.set1 w3 tb 1 (.bool false)).blk hf3.blk (fun e=>hFt (e▸hf3.ff))
  have RA:=LH (Q8B hfs 31 [.int .i64 o'.res.why,.bool o'.res.found,.int .i64 o'.res.key,.int .i64 o'.res.val,.int .i64 o'.res.n,.slice lA o'.res.list.length lc] (fun j v hv=>by
   have:j<6:=by have:=(List.getElem?_eq_some_iff.1 hv).1;simpa using this
   have:j=0\/j=1\/j=2\/j=3\/j=4\/j=5:=by omega
   rcases this with rfl|rfl|rfl|rfl|rfl|rfl<;>simpa using hv))
  have HB3:=LH hbs;clear hm3 hd3 hF' hFm' hc3 hc23 htb3 hz hz3 htlt hFt hFr hFmr hFmt hb3 HSH hfr2 hfs hf3 hbs;go_wp2_with (first|((with_reducible refine (show wpList _ _ _ ((Oper.mk (some 37) (.load _ _) _ _ _ _)::_) _ _ from ?_));refine wpList_load_mid rfl 54 (.tmp 36) rfl fb 31 rfl [.int .i64 o'.res.why,.bool o'.res.found,.int .i64 o'.res.key,.int .i64 o'.res.val,.int .i64 o'.res.n,.slice lA o'.res.list.length lc] _ RA.out Tryz.underlying54 rfl (by kernel_rfl) ?_)|((with_reducible refine (show wpList _ _ _ ((Oper.mk none (.store _ (.tmp 4) _) _ _ _ _)::_) _ _ from ?_));refine wpList_store_row rfl 54 (.tmp 4) (.tmp 37) rfl w.heap.size #[.int .i64 o'.res.why,.bool o'.res.found,.int .i64 o'.res.key,.int .i64 o'.res.val,.int .i64 o'.res.n,.slice lA o'.res.list.length lc] rfl rfl _ _ HB3.out (by kernel_rfl) rfl (by simp[Value.oneCell']) ?_));refine bodyPost_ret (v:=.tuple #[.agg #[.int .i64 o'.res.why,.bool o'.res.found,.int .i64 o'.res.key,.int .i64 o'.res.val,.int .i64 o'.res.n,.slice lA o'.res.list.length lc],.bool true]) (Q1v rfl _ _ _ w.heap.size 54 _ (0,0) _ rfl rfl (HB3.out.setRow _) Tryz.underlying54 rfl (by kernel_rfl)) rfl ?_;exact ⟨⟨_,rfl,_,_,_,_,_,_,_,_,rfl⟩,W3.out _ (Chg.setRow _ _ _)⟩
def TH.begun (t:TH) (o:Op) (o':FOut) (off:Bool):TH:={t with busy:=true,x:=⟨if 3<o.kind then 25 else 24,0,t.budget,0,⟨0,0,false,0,false⟩,[],o⟩,T:=[],done:= !off,o:=if off=true then FOut.zero else o'}
theorem Q9g (F:Nat->Prop) (tb:Nat) (t:TH) (o:Op) (w:World) (h:ThP F tb t w) (hb:t.busy=true):
  Calls Tryz.prog 173 #[.pointer (some ⟨tb,0,none⟩),.agg #[.int .i64 o.kind,.int .i64 o.key,.int .i64 o.val]] w fun e w'=>e=.returned (.int .i64 4)/\Below w.heap.size w w':=by
 obtain ⟨kind,key,val,fv,steps,took,no,h⟩:=h;have hba:=((Below.refl w.heap.size w).alloc (Nat.le_refl _) (.cells #[.int .i64 o.kind,.int .i64 o.key,.int .i64 o.val] 48));have c1:(w.alloc (.cells #[.int .i64 o.kind,.int .i64 o.key,.int .i64 o.val] 48)).cell? ⟨tb,1,none⟩=some (.bool t.busy):=(h.below hba).blk.cell 1
 rw[hb] at c1
 clear h;go_enter Tryz.func173,Tryz.ntmps173;go_wp2_with (fail);go_ret;exact ⟨rfl,hba⟩
def Qe5 (F:Nat->Prop) (tb:Nat) (t:TH) (w:World) (e:Ending) (w':World):Prop:=e=.returned (.int .i64 0)/\ThP (fun y=>F y\/w.heap.size<=y) tb t w'/\Chg (fun y=>y=tb) w w'
theorem Q9Z (N:Nat) (F:Nat->Prop) (tb:Nat) (t:TH) (o:Op) (w:World) (o':FOut) (s':RunS) (h:ThP F tb t w) (hb:t.busy=false) (k1:1<=o.kind) (k2:o.kind<=10) (b1:1<=t.budget) (b2:t.budget<=64) (hN:1<N)
  (hP:Q5s N (t.begun o o' s'.off).x) (hg:((t.begun o o' s'.off).x.tree N).go ⟨[],0,false,Q20⟩=(o',s')):
  Calls Tryz.prog 173 #[.pointer (some ⟨tb,0,none⟩),.agg #[.int .i64 o.kind,.int .i64 o.key,.int .i64 o.val]] w (Qe5 F tb (t.begun o o' s'.off) w):=by
 have NEWC:Hid (∀w0,Calls Tryz.prog 29 #[.int .i64 (if 3<o.kind then 25 else 24),.agg #[.int .i64 0,.int .i64 t.budget,.int .i64 0,.int .i64 0,.int .i64 0,.int .i64 0,.int .i64 0,.bool false,.int .i64 0,.bool false,.slice none 0 0,.slice none 0 0,.slice none 0 0,.slice none 0 0,.slice none 0 0,.int .i64 0,.int .i64 0,.int .i64 0,.int .i64 o.kind,.int .i64 o.key,.int .i64 o.val]] w0 (QaG (fun _=>False) (t.begun o o' s'.off).x o' s'.off w0)):=
  LH (fun w0=>Qai N (fun _=>False) (t.begun o o' s'.off).x (.slice none 0 0) o' s' w0 hP PrP.nil' hN hg)
 obtain ⟨kind,key,val,fv,steps,took,no,h⟩:=h;have hba:=((Below.refl w.heap.size w).alloc (Nat.le_refl _) (.cells #[.int .i64 o.kind,.int .i64 o.key,.int .i64 o.val] 48));have h1:=h.blk.below hba h.blk.lt;have ho1:=Blk.new w 48 #[.int .i64 o.kind,.int .i64 o.key,.int .i64 o.val];have hne:tb≠w.heap.size:=by have:=h.blk.lt;omega
 have c0:(w.alloc (.cells #[.int .i64 o.kind,.int .i64 o.key,.int .i64 o.val] 48)).cell? ⟨tb,0,none⟩=some (.int .i64 t.budget):=h1.cell 0;have c1:(w.alloc (.cells #[.int .i64 o.kind,.int .i64 o.key,.int .i64 o.val] 48)).cell? ⟨tb,1,none⟩=some (.bool t.busy):=h1.cell 1;have f1:=h1.frozen 1
 rw[hb] at c1
 have h2:=h1.set_ 1 (.bool true);have HTH:=LH (Q8e h2 2 3 (by simp));have h3:=Blk.setCells [.int .i64 o.kind,.int .i64 o.key,.int .i64 o.val] 2 _ _ h2;have hc3:=(Chg.set1 (w.alloc (.cells #[.int .i64 o.kind,.int .i64 o.key,.int .i64 o.val] 48)) tb 1 (.bool true)).trans (Chg.setCells tb [.int .i64 o.kind,.int .i64 o.key,.int .i64 o.val] 2 ((w.alloc (.cells #[.int .i64 o.kind,.int .i64 o.key,.int .i64 o.val] 48)).setCell ⟨tb,1,none⟩ (.bool true)))
 have HW2:Hid (Blk (((w.alloc (.cells #[.int .i64 o.kind,.int .i64 o.key,.int .i64 o.val] 48)).setCell ⟨tb,1,none⟩ (.bool true)).setCells tb 2 [.int .i64 o.kind,.int .i64 o.key,.int .i64 o.val]) tb 164 #[.int .i64 t.budget,.bool true,.int .i64 o.kind,.int .i64 o.key,.int .i64 o.val,fv,.int .i64 steps,.bool took,.int .i64 no]/\Blk (((w.alloc (.cells #[.int .i64 o.kind,.int .i64 o.key,.int .i64 o.val] 48)).setCell ⟨tb,1,none⟩ (.bool true)).setCells tb 2 [.int .i64 o.kind,.int .i64 o.key,.int .i64 o.val]) w.heap.size 48 #[.int .i64 o.kind,.int .i64 o.key,.int .i64 o.val]/\Chg (fun y=>y=tb) w (((w.alloc (.cells #[.int .i64 o.kind,.int .i64 o.key,.int .i64 o.val] 48)).setCell ⟨tb,1,none⟩ (.bool true)).setCells tb 2 [.int .i64 o.kind,.int .i64 o.key,.int .i64 o.val])):=
  LH ⟨h3,hc3.blk ho1 (fun e=>hne e.symm),(Chg.of_below hba).trans hc3⟩
 have HO1:=LH ((Chg.set1 (w.alloc (.cells #[.int .i64 o.kind,.int .i64 o.key,.int .i64 o.val] 48)) tb 1 (.bool true)).blk ho1 (fun e=>hne e.symm));have HFT:=LH h.ft;clear h h1 ho1 h2 h3 hc3 hba hne hP hg;obtain ⟨kk,hkk⟩:∃kk:Int,kk=if 3<o.kind then 25 else 24:=⟨_,rfl⟩;rw[<-hkk] at NEWC;go_enter Tryz.func173,Tryz.ntmps173;go_wp2_with (first|((with_reducible refine (show wpList _ _ _ ((Oper.mk (some 37) (.load _ _) _ _ _ _)::_) _ _ from ?_));refine wpList_load_row rfl 48 (.tmp 3) rfl w.heap.size rfl _ _ (0,0) _ HO1.out Tryz.underlying48 rfl (by kernel_rfl) ?_)|((with_reducible refine (show wpList _ _ _ ((Oper.mk none (.store _ (.tmp 39) _) _ _ _ _)::_) _ _ from ?_));refine wpList_store_mid rfl 48 (.tmp 39) (.tmp 37) rfl tb 2 #[.int .i64 o.kind,.int .i64 o.key,.int .i64 o.val] rfl rfl HTH.out (by kernel_rfl) (by simp[Value.oneCell']) ?_;generalize ((w.alloc (.cells #[.int .i64 o.kind,.int .i64 o.key,.int .i64 o.val] 48)).setCell ⟨tb,1,none⟩ (.bool true)).setCells tb 2 [.int .i64 o.kind,.int .i64 o.key,.int .i64 o.val]=W2 at HW2|-;clear c0 c1 f1;have c0:W2.cell? ⟨tb,0,none⟩=some (.int .i64 t.budget):=HW2.out.1.cell 0;have c5:W2.cell? ⟨tb,5,none⟩=some fv:=HW2.out.1.cell 5;have c6:W2.cell? ⟨tb,6,none⟩=some (.int .i64 steps):=HW2.out.1.cell 6;have c7:W2.cell? ⟨tb,7,none⟩=some (.bool took):=HW2.out.1.cell 7;have f6:=HW2.out.1.frozen 6;have f7:=HW2.out.1.frozen 7;have q0:W2.cell? ⟨w.heap.size,0,none⟩=some (.int .i64 o.kind):=HW2.out.2.1.cell 0))
 all_goals
  first|(have e:kk=25:=(by rw[hkk,if_pos (by omega)]);rw[e] at NEWC)|(have e:kk=24:=(by rw[hkk,if_neg (by omega)]);rw[e] at NEWC)
  have h4:=(HW2.out.1.set_ 6 (.int .i64 0)).set_ 7 (.bool false);have hc4:=(Chg.set1 W2 tb 6 (.int .i64 0)).trans (Chg.set1 (W2.setCell ⟨tb,6,none⟩ (.int .i64 0)) tb 7 (.bool false))
  have HW4:Hid (Blk ((W2.setCell ⟨tb,6,none⟩ (.int .i64 0)).setCell ⟨tb,7,none⟩ (.bool false)) tb 164 #[.int .i64 t.budget,.bool true,.int .i64 o.kind,.int .i64 o.key,.int .i64 o.val,fv,.int .i64 0,.bool false,.int .i64 no]/\Blk ((W2.setCell ⟨tb,6,none⟩ (.int .i64 0)).setCell ⟨tb,7,none⟩ (.bool false)) w.heap.size 48 #[.int .i64 o.kind,.int .i64 o.key,.int .i64 o.val]/\Chg (fun y=>y=tb) w ((W2.setCell ⟨tb,6,none⟩ (.int .i64 0)).setCell ⟨tb,7,none⟩ (.bool false))):=
   LH ⟨h4,hc4.blk HW2.out.2.1 (fun e=>HW2.out.2.1.ne_ HW2.out.1 (by decide) e),HW2.out.2.2.trans hc4⟩
  clear h4 hc4 c0 c5 c6 c7 f6 f7 q0 HW2 HTH HO1;generalize (W2.setCell ⟨tb,6,none⟩ (.int .i64 0)).setCell ⟨tb,7,none⟩ (.bool false)=W4 at HW4|-;have c0:W4.cell? ⟨tb,0,none⟩=some (.int .i64 t.budget):=HW4.out.1.cell 0;have AFT:Hid (∀w5,Below W4.heap.size W4.drew w5->Blk w5 tb 164 #[.int .i64 t.budget,.bool true,.int .i64 o.kind,.int .i64 o.key,.int .i64 o.val,fv,.int .i64 0,.bool false,.int .i64 no]):=LH (fun w5 hb5=>(HW4.out.1.below (Q08 (Drawn.of W4 1) _) HW4.out.1.lt).below hb5 HW4.out.1.lt);have q0:W4.cell? ⟨w.heap.size,0,none⟩=some (.int .i64 o.kind):=HW4.out.2.1.cell 0;have q1:W4.cell? ⟨w.heap.size,1,none⟩=some (.int .i64 o.key):=HW4.out.2.1.cell 1;have q2:W4.cell? ⟨w.heap.size,2,none⟩=some (.int .i64 o.val):=HW4.out.2.1.cell 2
  go_region_law (first|(go_simp;go_at_call 29;(with_reducible refine (NEWC.out _).mono ?_);rintro e w5 ⟨fb,rfl,hfr,hfb,hb5⟩;have K5:=LH (AFT.out w5 hb5);have HFR:=LH hfr;have HFB:=LH hfb;have HB5:=LH hb5;have c5:w5.cell? ⟨tb,5,none⟩=some fv:=K5.out.cell 5;have f5:=K5.out.frozen 5;clear hfr hfb hb5))
 all_goals
  have hz1:=HW4.out.2.2.size;have hz2:w.heap.size<W4.heap.size:=HW4.out.2.1.lt;have hz3:W4.drew.heap.size=W4.heap.size:=rfl;have hfb:=HFB.out;have htb:tb<W4.heap.size:=HW4.out.1.lt
  have hfin:Qe5 F tb (t.begun o o' s'.off) w (.returned (.int .i64 0)) (w5.setCell ⟨tb,5,none⟩ (.pointer (some ⟨fb,0,none⟩))):=by
   refine ⟨rfl,⟨o.kind,o.key,o.val,_,0,false,no,.inl HFT.out,K5.out.set_ 5 _,fun _=>⟨fb,rfl, ?_⟩⟩, ?_⟩
   ·exact (HFR.out.mono (G:=fun y=>(F y\/w.heap.size<=y)/\y≠tb) (fun y hy=>by rcases hy with hy|hy;exact hy.elim;exact ⟨.inr (by omega),by omega⟩)).chg (Chg.set1 w5 tb 5 _) (fun y h1 h2=>h1.2 h2)
   ·exact (HW4.out.2.2.trans (Chg.of_below (Q3E HB5.out))).trans (Chg.set1 w5 tb 5 _)
  have HFIN:=LH hfin;clear hfin hz1 hz2 hz3 hfb htb;go_wp2_with (fail);go_ret;exact HFIN.out
def CB (C:List Int):Prop:=∀x∈C,i64B x
theorem CB.rd {C:List Int} (h:CB C) (a:Int):i64B (rdC C a):=by
 by_cases ha:1<=a/\a<=(C.length:Int)
 ·obtain ⟨k,rfl⟩:∃k:Nat,a=(k:Int)+1:=⟨(a-1).toNat,by omega⟩
  rw[show rdC C ((k:Int)+1)=keyAt C k from Q5U (C:=C) (a:=k+1) (by omega) (by omega)]
  unfold keyAt
  rw[List.getD_eq_getElem?_getD,List.getElem?_eq_getElem (by omega)]
  exact h _ (List.getElem_mem _)
 ·rw[Q4a (by omega)];exact Q0f
theorem CB.wr {C:List Int} (h:CB C) (a:Int) {x:Int} (hx:i64B x):CB (wrC C a x):=by
 unfold wrC
 split
 ·intro y hy
  rcases List.mem_or_eq_of_mem_set hy with hy|hy
  ·exact h y hy
  ·rw[hy];exact hx
 ·exact h
structure ExQ (max:Int) (C:List Int) (r:Int×List Int):Prop where
 v:i64B r.1
 c:CB r.2
 hi:(r.2.length:Int)<=max
 lo:C.length<=r.2.length
theorem Qdr {max:Int} {q:Ask} {C:List Int} (h:CB C) (hq:q.Ok) (hm0:(C.length:Int)<=max) (hm:max<=65536):ExQ max C (exQ max q C):=by
 have h1:q.kind=1\/q.kind=2\/q.kind=3\/q.kind=4\/q.kind=5:=by have:=hq.k0;have:=hq.k1;omega
 rcases h1 with h1|h1|h1|h1|h1
 ·rw[Qar h1];exact ⟨h.rd _,h,hm0,Nat.le_refl _⟩
 ·rw[Q92 h1];exact ⟨Q0f,h.wr _ hq.x,by rw[Q21];exact hm0,by rw[Q21];exact Nat.le_refl _⟩
 ·rw[Qdq h1]
  unfold QbR
  split
  ·exact ⟨Q10,h.wr _ hq.y,by rw[Q21];exact hm0,by rw[Q21];exact Nat.le_refl _⟩
  ·exact ⟨Q0f,h,hm0,Nat.le_refl _⟩
 ·rw[Qds h1];exact ⟨h.rd _,h.wr _ (Q0l _),by rw[Q21];exact hm0,by rw[Q21];exact Nat.le_refl _⟩
 ·rw[Qas h1]
  unfold mkC
  split
  ·exact ⟨Q0f,h,hm0,Nat.le_refl _⟩
  ·rename_i hc;refine ⟨by unfold i64B;simp only;omega,fun x hx=> ?_,by simp only[List.length_append];omega,by simp⟩
   rcases List.mem_append.1 hx with hx|hx
   ·exact h x hx
   ·exact hq.ws x hx
section
variable {α:Type} {P:α->Prop}
theorem Q4P:∀{p:Prog α} {T:List Int},p.Ok P->(∀x∈T,i64B x)->(p.rest T).Ok P
 |.ret a,T,h,_=>h
 |.ask q k,[],h,_=>h
 |.ask q k,v::T,h,hT=>Q4P (p:=k v) (T:=T) (h.2 v (hT v (by simp))) (fun x hx=>hT x (by simp[hx]))
 |.chk k,T,h,hT=>Q4P (p:=k false) (T:=T) (h false) hT
 |.stuck p,T,h,hT=>Q4P (p:=p) (T:=T) h hT
theorem Q62:∀{p:Prog α} {q:Ask},p.Ok P->p.next=some q->q.Ok
 |.ask q k,_,h,e=>by injection e with e;exact e▸h.1
 |.chk k,_,h,e=>Q62 (p:=k false) (h false) e
 |.stuck p,_,h,e=>Q62 (p:=p) h e
end
def TH.rest (N:Nat) (t:TH):Prog FOut:=(t.x.tree N).rest t.T
structure TH.Ok (N:Nat) (m:Nat) (t:TH):Prop where
 play:Q5s N t.x
 ok:(t.x.tree N).Ok (fun _=>True)
 tape:∀x∈t.T,i64B x
 len:t.T.length<=m
 done:t.done=(t.rest N).next.isNone
def TH.step (N:Nat) (max:Int) (C:List Int) (t:TH):TH×List Int:=
 match t.done,(t.rest N).next with
 |false,some q=>
  let r:=exQ max q C
  let p:=(t.x.tree N).rest (t.T++[r.1])
  ({t with busy:=p.next.isSome,T:=t.T++[r.1],done:=p.next.isNone,o:=if p.next.isNone=true then p.val else t.o},r.2)
 |_,_=>({t with busy:=false,done:=true},C)
theorem step_done {N:Nat} {max:Int} {C:List Int} {t:TH} (h:t.done=true):t.step N max C=({t with busy:=false,done:=true},C):=by unfold TH.step;rw[h]
theorem Q5u {N:Nat} {max:Int} {C:List Int} {t:TH} {q:Ask} (h:t.done=false) (hq:(t.rest N).next=some q):t.step N max C=
  ({t with busy:=((t.x.tree N).rest (t.T++[(exQ max q C).1])).next.isSome,T:=t.T++[(exQ max q C).1],done:=((t.x.tree N).rest (t.T++[(exQ max q C).1])).next.isNone,o:=if ((t.x.tree N).rest (t.T++[(exQ max q C).1])).next.isNone=true then ((t.x.tree N).rest (t.T++[(exQ max q C).1])).val else t.o},(exQ max q C).2):=by
 unfold TH.step;rw[h,hq]
theorem QaW (N m:Nat) (F Fm:Nat->Prop) (tb bm:Nat) (t:TH) (C:List Int) (max:Int) (w:World) (h:ThP F tb t w) (hm:M7 Fm bm C max w) (hd:∀y,F y->Fm y->False) (hb:t.busy=true)
  (ht:t.Ok N m) (hmN:m+2<N) (hmm:m<=1000000) (hC:CB C) (hm0:(C.length:Int)<=max) (hmx:max<=65536):
  Calls Tryz.prog 174 #[.pointer (some ⟨tb,0,none⟩),.pointer (some ⟨bm,0,none⟩)] w (Q9i F Fm tb bm (t.step N max C).1 (t.step N max C).2 max (!(t.step N max C).1.busy) w):=by
 have hl:=ht.len;have bd:(RunS.mk t.T 0 false Q20).Bd:=⟨ht.tape,by show t.T.length<=_;omega,Nat.zero_le _⟩
 cases hdn:t.done with
 |true=>
  rw[step_done hdn]
  refine Q6J F Fm tb bm t t.T C C max true t.o w h hm hd hb (fun F0 Fm0 fb w0 hf0 hm0 hd0=> ?_)
  rw[hdn] at hf0
  exact QaZ F0 Fm0 fb bm t.x t.T t.o C max w0 hf0 hm0 hd0
 |false=>
  cases hq:(t.rest N).next with
  |none=>have:=ht.done;rw[hq,hdn] at this;cases this
  |some q=>
   rw[Q5u hdn hq]
   have hr1:=Q3a (t.x.tree N) ⟨t.T,0,false,Q20⟩ rfl (Nat.zero_le _)
   rw[show (t.x.tree N).rest (List.drop (RunS.mk t.T 0 false Q20).at_ (RunS.mk t.T 0 false Q20).tape)=t.rest N from rfl,hq] at hr1
   simp only at hr1;have hqo:q.Ok:=Q62 (Q4P ht.ok ht.tape) hq;have hex:=Qdr hC hqo hm0 hmx;have hr2:=Q3a (t.x.tree N) ⟨t.T++[(exQ max q C).1],0,false,Q20⟩ rfl (Nat.zero_le _)
   rw[show (t.x.tree N).rest (List.drop (RunS.mk (t.T++[(exQ max q C).1]) 0 false Q20).at_ (RunS.mk (t.T++[(exQ max q C).1]) 0 false Q20).tape)=(t.x.tree N).rest (t.T++[(exQ max q C).1]) from rfl] at hr2
   generalize hT':t.T++[(exQ max q C).1]=T' at hr2|-;generalize hp:(t.x.tree N).rest T'=p at hr2|-
   have hgo:(!((t.x.tree N).go ⟨T',0,false,Q20⟩).2.off)=p.next.isNone/\(if ((t.x.tree N).go ⟨T',0,false,Q20⟩).2.off=true then t.o else ((t.x.tree N).go ⟨T',0,false,Q20⟩).1)=(if p.next.isNone=true then p.val else t.o):=by
    cases hn:p.next with
    |none=>
     rw[hn] at hr2
     simp only at hr2
     rw[hr2.1,hr2.2]
     exact ⟨rfl,rfl⟩
    |some q'=>
     rw[hn] at hr2
     simp only at hr2
     rw[hr2.1]
     exact ⟨rfl,rfl⟩
   have e1:(!({t with busy:=p.next.isSome,T:=T',done:=p.next.isNone,o:=if p.next.isNone=true then p.val else t.o}:TH).busy)=p.next.isNone:=by cases p.next<;>rfl
   have e2:({t with busy:=p.next.isSome,T:=T',done:=p.next.isNone,o:=if p.next.isNone=true then p.val else t.o}:TH)={t with busy:= !p.next.isNone,T:=T',done:=p.next.isNone,o:=if p.next.isNone=true then p.val else t.o}:=by cases p.next<;>rfl
   rw[e1,e2]
   refine Q6J F Fm tb bm t T' C (exQ max q C).2 max p.next.isNone _ w h hm hd hb (fun F0 Fm0 fb w0 hf0 hm1 hd0=> ?_)
   rw[hdn] at hf0
   have:=Q8i N F0 Fm0 fb bm t.x t.T t.o ((t.x.tree N).go ⟨t.T,0,false,Q20⟩).1 ((t.x.tree N).go ⟨T',0,false,Q20⟩).1 ((t.x.tree N).go ⟨t.T,0,false,Q20⟩).2 ((t.x.tree N).go ⟨T',0,false,Q20⟩).2 C max w0 ht.play hf0 hm1 hd0 bd (by omega) (by omega) hm0 hmx (exQ max q C).1 (exQ max q C).2 p.next.isNone _ (by rw[hr1.2]) hex.v (by rw[hr1.2];exact hqo) (by omega) rfl hr1.1 (by rw[hT']) hgo.1 hgo.2
   rw[hT'] at this
   exact this
theorem TH.Ok.step {N m:Nat} {max:Int} {C:List Int} {t:TH} (h:t.Ok N m) (hC:CB C) (hm0:(C.length:Int)<=max) (hmx:max<=65536) (hb:(t.step N max C).1.busy=true):(t.step N max C).1.Ok N (m+1):=by
 cases hdn:t.done with
 |true=>rw[step_done hdn] at hb;cases hb
 |false=>
  cases hq:(t.rest N).next with
  |none=>have:=h.done;rw[hq,hdn] at this;cases this
  |some q=>
   rw[Q5u hdn hq]
   have hqo:q.Ok:=Q62 (Q4P h.ok h.tape) hq;have hex:=Qdr hC hqo hm0 hmx;refine ⟨h.play,h.ok,fun x hx=> ?_, ?_,rfl⟩
   ·rcases List.mem_append.1 hx with hx|hx
    ·exact h.tape x hx
    ·rw[List.mem_singleton] at hx;rw[hx];exact hex.v
   ·have:=h.len;show (t.T++[(exQ max q C).1]).length<=m+1;simp;omega
theorem TH.step_cells {N m:Nat} {max:Int} {C:List Int} {t:TH} (h:t.Ok N m) (hC:CB C) (hm0:(C.length:Int)<=max) (hmx:max<=65536):CB (t.step N max C).2/\((t.step N max C).2.length:Int)<=max/\C.length<=(t.step N max C).2.length:=by
 cases hdn:t.done with
 |true=>rw[step_done hdn];exact ⟨hC,hm0,Nat.le_refl _⟩
 |false=>
  cases hq:(t.rest N).next with
  |none=>have:=h.done;rw[hq,hdn] at this;cases this
  |some q=>
   rw[Q5u hdn hq]
   have hqo:q.Ok:=Q62 (Q4P h.ok h.tape) hq;have hex:=Qdr hC hqo hm0 hmx;exact ⟨hex.c,hex.hi,hex.lo⟩
def lgC (C:List Int) (s:Int):Int:=if Q05 (rdC C s)=5 then (if rdC C (wAt (rdC C s)+4)=1 then rdC C (wAt (rdC C s)+3) else rdC C (wAt (rdC C s)+2)) else rdC C s
def BB (m:List Bool):Array Value:=(m.map Value.bool).toArray
theorem QfG (m:List Bool) (i:Nat) (h:i<m.length):(BB m)[i]? =some (.bool (m.getD i false)):=by
 simp[BB,List.getD_eq_getElem?_getD,h]
theorem QfF (m:List Bool) (i:Nat) (b:Bool):(BB m).setIfInBounds i (.bool b)=BB (m.set i b):=by
 simp[BB]
def Q5f:Nat->Nat->List Bool->Option (List Bool)
 |0,_,m=>some m
 |k+1,a,m=>if m.getD a false=true then none else Q5f k (a+1) (m.set a true)
theorem Q6H:∀(k a:Nat) (m m':List Bool),Q5f k a m=some m'->m'.length=m.length
 |0,a,m,m',h=>by injection h with h;rw[h]
 |k+1,a,m,m',h=>by
  unfold Q5f at h
  split at h
  ·cases h
  ·have:=Q6H k (a+1) _ m' h
   simpa using this
section
variable (F:Nat->Prop) (bm:Nat) (C:List Int) (max:Int)
theorem Q4Y (s:Int) (w:World) (h:M7 F bm C max w) (hC:C.length<=1000000) (hb:CB C):
  Calls Tryz.prog 73 #[.pointer (some ⟨bm,0,none⟩),.int .i64 s] w fun e w'=>e=.returned (.int .i64 (lgC C s))/\w=w':=by
 have H:=LH h;have HL:=LH (show lgC C s=if Q05 (rdC C s)=5 then (if rdC C (wAt (rdC C s)+4)=1 then rdC C (wAt (rdC C s)+3) else rdC C (wAt (rdC C s)+2)) else rdC C s from rfl);have b1:=hb.rd s;have HB:=LH hb;clear h hb;go_enter Tryz.func73,Tryz.ntmps73;go_wp2_with (fail);with_reducible refine (Q1s F bm C max s _ H.out hC).mono ?_
 rintro e w1 ⟨rfl,rfl⟩;generalize rdC C s=x at b1 HL;obtain ⟨b10,b11⟩:=b1;go_wp2_with (fail);with_reducible refine (Q0A x _ b10 b11).mono ?_
 rintro e w2 ⟨rfl,rfl⟩;by_cases hk:Q05 x=5
 ·have hd:(Q05 x !=5)=false:=by simp[hk]
  rw[if_pos hk] at HL
  clear hk;go_wp2_with (fail);with_reducible refine (Q0x x _ b10 b11).mono ?_
  rintro e w3 ⟨rfl,rfl⟩;have ba:=Q0D x;generalize wAt x=a at ba HL;go_wp2_with (fail);with_reducible refine (Q1s F bm C max (a+4) _ H.out hC).mono ?_
  rintro e w4 ⟨rfl,rfl⟩;by_cases ho:rdC C (a+4)=1
  ·rw[if_pos ho] at HL
   rw[ho]
   clear ho;go_wp2_with (fail);with_reducible refine (Q1s F bm C max (a+3) _ H.out hC).mono ?_
   rintro e w5 ⟨rfl,rfl⟩;go_wp2_with (fail);go_ret
   rw[HL.out]
   exact ⟨rfl,rfl⟩
  ·rw[if_neg ho] at HL
   have ho2:(rdC C (a+4)==1)=false:=by simpa using ho
   generalize rdC C (a+4)=y at ho ho2;go_wp2_with (fail);with_reducible refine (Q1s F bm C max (a+2) _ H.out hC).mono ?_
   rintro e w5 ⟨rfl,rfl⟩;go_wp2_with (fail);go_ret
   rw[HL.out]
   exact ⟨rfl,rfl⟩
 ·have hd:(Q05 x !=5)=true:=by simpa using hk
  rw[if_neg hk] at HL
  generalize Q05 x=z at hd hk;go_wp2_with (fail);go_ret
  rw[HL.out]
  exact ⟨rfl,rfl⟩
def RTk (mb:Nat) (w0:World) (met met':List Bool) (a n:Nat) (iv:Value) (wr:World):Prop:=∃(i k:Nat) (m:List Bool),iv=.int .i64 i/\i+k=a+n/\a<=i/\m.length=met.length/\Q5f k i m=some met'/\Blk wr mb 4 (BB m)/\Chg (fun y=>y=mb) w0 wr
theorem QaM (a n:Nat) (mb N c:Nat) (met met':List Bool) (w:World) (hN:N=met.length) (h:M7 F bm C max w) (hC:C.length<=1000000) (hm:met.length=C.length+1) (hmb:Blk w mb 4 (BB met)) (a1:1<=a) (han:a+n<=C.length+1) (ht:Q5f n a met=some met'):
  Calls Tryz.prog 268 #[.pointer (some ⟨bm,0,none⟩),.int .i64 a,.int .i64 n,.slice (some ⟨mb,0,none⟩) N c] w fun e w'=>e=.returned (.bool true)/\Blk w' mb 4 (BB met')/\Chg (fun y=>y=mb) w w':=by
 subst hN;obtain ⟨v,cnt,odd,rf,h⟩:=h;obtain ⟨A,cc,rfl⟩:=Q03 h.row;have d1:w.cell? ⟨bm,1,none⟩=some (.slice A C.length cc):=h.blk.cell 1;have e1:(1:Int)<=a:=by omega
 have e2:(a:Int)+n-1<=C.length:=by omega
 have HMB:=LH hmb;have HT:=LH ht;have HM:=LH hm;clear h hmb ht hm;go_enter Tryz.func268,Tryz.ntmps268;go_wp2_with (fail)
 go_loopw [9] (fun iv wr=>RTk mb w met met' a n iv wr) (fun iv _=>a+n-(intOf iv).toNat)
 case atStart=>unfold RTk;exact ⟨a,n,met,rfl,rfl,Nat.le_refl _,rfl,HT.out,HMB.out,Chg.refl _ _⟩
 case round=>
  clear HT HMB;obtain ⟨i,k,m,rfl,hik,hai,hml,htk,hbk,hc⟩:=hrel
  cases k with
  |zero=>
   have e3:(i:Int)=(a:Int)+n:=by omega
   injection htk with htk;subst htk;have HB:=LH hbk;have HC:=LH hc;clear hbk hc hik hai
   rw[e3]
   go_wp2_with (fail);go_ret;exact ⟨rfl,HB.out,HC.out⟩
  |succ k=>
   have e3:(i:Int)<(a:Int)+n:=by omega
   have hi:i<m.length:=by have:=HM.out;omega
   have hi2:(i:Int)<(met.length:Int):=by omega
   unfold Q5f at htk
   have hg:m.getD i false=false:=by
    cases hx:m.getD i false with
    |false=>rfl
    |true=>rw[if_pos hx] at htk;cases htk
   rw[if_neg (by rw[hg];decide)] at htk
   have ci:wr.cell? ⟨mb,i,none⟩=some (.bool false):=by rw[hbk.cell i,QfG m i hi,hg]
   have fi:=hbk.frozen i;have HB:=LH (show Blk (wr.setCell ⟨mb,i,none⟩ (.bool true)) mb 4 (BB (m.set i true)) by have:=hbk.set_ i (.bool true);rw[QfF] at this;exact this);have HC:=LH (hc.trans (Chg.set1 wr mb i (.bool true)));have HTK:=LH htk;clear hbk hc hg htk;go_wp2_with (fail)
   go_roundw
   case rel=>unfold RTk;exact ⟨i+1,k,m.set i true,by go_num,by omega,by omega,by simpa using hml,HTK.out,HB.out,HC.out⟩
   case measure=>simp[intOf];omega
end
def Q41 (C:List Int) (a n:Int) (m:List Bool):Option (List Bool):=if 1<=a/\0<=n/\a+n<=C.length+1 then Q5f n.toNat a.toNat m else none
def Q5q (C:List Int) (snd:Int->Int->Int->List Bool->Option (List Bool)) (s lo hi:Int) (m:List Bool):Option (List Bool):=
 if Q05 (rdC C s)=5/\((C.length:Int)<wAt (rdC C s)+4\/rdC C (wAt (rdC C s)+1)≠s) then none else snd (lgC C s) lo hi m
def QeO (C:List Int) (snd:Int->Int->Int->List Bool->Option (List Bool)) (a d hi:Int):Nat->Int->Int->List Bool->Option (List Bool)
 |0,_,_,m=>some m
 |k+1,i,from_,m=>
  if i<d-1 then
   if from_<rdC C (Q0j a (i+1))/\rdC C (Q0j a (i+1))<=hi then
    match Q5q C snd (Q06 a d i) from_ (rdC C (Q0j a (i+1))-1) m with
    |none=>none
    |some m'=>QeO C snd a d hi k (i+1) (rdC C (Q0j a (i+1))) m'
   else none
  else match Q5q C snd (Q06 a d i) from_ hi m with
   |none=>none
   |some m'=>QeO C snd a d hi k (i+1) from_ m'
def Q9m (C:List Int):Nat->Int->Int->Int->List Bool->Option (List Bool)
 |0,_,_,_,_=>none
 |f+1,w,lo,hi,m=>
  if Q05 w=1 then Q41 C (wAt w) 1 m
  else if Q05 w=2 then (if lo<=rdC C (wAt w)/\rdC C (wAt w)<=hi then Q41 C (wAt w) 2 m else none)
  else if Q05 w=3 then
   (if 2<=rdC C (wAt w)/\rdC C (wAt w)<=65536/\(rdC C (wAt w+2)=0\/rdC C (wAt w+2)=1) then
    match Q41 C (wAt w) (2*rdC C (wAt w)+4) m with
    |none=>none
    |some m'=>QeO C (Q9m C f) (wAt w) (rdC C (wAt w)) hi (rdC C (wAt w)).toNat 0 lo m'
    else none)
  else if Q05 w=4 then
   (if Q05 (rdC C (wAt w))=3 then
    match Q41 C (wAt w) 5 m with
    |none=>none
    |some m'=>Q9m C f (rdC C (wAt w)) lo hi m'
    else none)
  else none
def Q4f (bm mb:Nat) (met':List Bool) (w:World) (e:Ending) (w':World):Prop:=e=.returned (.bool true)/\Blk w' mb 4 (BB met')/\Chg (fun y=>y=mb) w w'
def SndC (f:Nat):Prop:=∀(F:Nat->Prop) (bm:Nat) (C:List Int) (max x lo hi:Int) (mb N c:Nat) (met met':List Bool) (w:World),N=met.length->M7 F bm C max w->C.length<=1000000->CB C->met.length=C.length+1->Blk w mb 4 (BB met)->¬F mb->i64B x->i64B lo->i64B hi->Q9m C f x lo hi met=some met'->
  Calls Tryz.prog 253 #[.pointer (some ⟨bm,0,none⟩),.int .i64 x,.int .i64 lo,.int .i64 hi,.slice (some ⟨mb,0,none⟩) N c] w (Q4f bm mb met' w)
theorem SndC.use {f:Nat} (h:SndC f) (F:Nat->Prop) (bm:Nat) (C:List Int) (max x lo hi:Int) (mb N c:Nat) (met met':List Bool) (w:World) (h1:N=met.length) (h2:M7 F bm C max w) (h3:C.length<=1000000) (h4:CB C) (h5:met.length=C.length+1) (h6:Blk w mb 4 (BB met)) (h7:¬F mb) (h8:i64B x) (h9:i64B lo) (h10:i64B hi) (h11:Q9m C f x lo hi met=some met'):
  Calls Tryz.prog 253 #[.pointer (some ⟨bm,0,none⟩),.int .i64 x,.int .i64 lo,.int .i64 hi,.slice (some ⟨mb,0,none⟩) N c] w (Q4f bm mb met' w):=h F bm C max x lo hi mb N c met met' w h1 h2 h3 h4 h5 h6 h7 h8 h9 h10 h11
theorem Q1A {C:List Int} {a n:Int} {m m':List Bool} (h:Q41 C a n m=some m'):1<=a/\0<=n/\a+n<=C.length+1/\Q5f n.toNat a.toNat m=some m'/\m'.length=m.length:=by
 unfold Q41 at h
 split at h
 ·rename_i hc;exact ⟨hc.1,hc.2.1,hc.2.2,h,Q6H _ _ _ _ h⟩
 ·cases h
theorem Q3K (F:Nat->Prop) (bm:Nat) (C:List Int) (max a n:Int) (mb N c:Nat) (met met':List Bool) (w:World) (hN:N=met.length) (h:M7 F bm C max w) (hC:C.length<=1000000) (hm:met.length=C.length+1) (hmb:Blk w mb 4 (BB met)) (ht:Q41 C a n met=some met'):
  Calls Tryz.prog 268 #[.pointer (some ⟨bm,0,none⟩),.int .i64 a,.int .i64 n,.slice (some ⟨mb,0,none⟩) N c] w (Q4f bm mb met' w):=by
 obtain ⟨h1,h2,h3,h4,h5⟩:=Q1A ht;obtain ⟨a',rfl⟩:∃a':Nat,a=a':=⟨a.toNat,by omega⟩;obtain ⟨n',rfl⟩:∃n':Nat,n=n':=⟨n.toNat,by omega⟩;exact QaM F bm C max a' n' mb N c met met' w hN h hC hm hmb (by omega) (by omega) (by simpa using h4)
theorem Q3q (f:Nat) (ih:SndC f) (F:Nat->Prop) (bm:Nat) (C:List Int) (max s lo hi:Int) (mb N c:Nat) (met met':List Bool) (w:World) (hN:N=met.length) (h:M7 F bm C max w) (hC:C.length<=1000000) (hb:CB C) (hm:met.length=C.length+1) (hmb:Blk w mb 4 (BB met)) (hF:¬F mb) (bs:i64B s) (bl:i64B lo) (bh:i64B hi) (ht:Q5q C (Q9m C f) s lo hi met=some met'):
  Calls Tryz.prog 218 #[.pointer (some ⟨bm,0,none⟩),.int .i64 s,.int .i64 lo,.int .i64 hi,.slice (some ⟨mb,0,none⟩) N c] w (Q4f bm mb met' w):=by
 unfold Q5q at ht
 split at ht
 ·cases ht
 ·rename_i hn;have H:=LH h;have HB:=LH hb;have HIH:=LH ih;have HM:=LH hm;have HMB:=LH hmb;have HFM:=LH hF;have HT:=LH ht;have b1:=hb.rd s;have bg:Hid (i64B (lgC C s)):=LH (by unfold lgC;split;(split<;>exact hb.rd _);exact hb.rd _)
  have HE:Hid (Q05 (rdC C s)=5->wAt (rdC C s)+4<=C.length/\rdC C (wAt (rdC C s)+1)=s):=LH (fun h5=>by
   constructor
   ·exact Int.not_lt.1 (fun hl=>hn ⟨h5,.inl hl⟩)
   ·exact Classical.byContradiction (fun hl=>hn ⟨h5,.inr hl⟩))
  have HBS:=LH bs;have HBL:=LH bl;have HBH:=LH bh;have HNN:=LH hN;obtain ⟨v,cnt,odd,rf,hq⟩:=h;obtain ⟨A,cc,rfl⟩:=Q03 hq.row;have d1:w.cell? ⟨bm,1,none⟩=some (.slice A C.length cc):=hq.blk.cell 1
  have FIN:Hid (∀w2,w2=w->Calls Tryz.prog 253 #[.pointer (some ⟨bm,0,none⟩),.int .i64 (lgC C s),.int .i64 lo,.int .i64 hi,.slice (some ⟨mb,0,none⟩) N c] w2 (Q4f bm mb met' w)):=LH (fun w2 e=>by
   subst e;exact HIH.out.use F bm C max (lgC C s) lo hi mb N c met met' _ HNN.out H.out hC HB.out HM.out HMB.out HFM.out bg.out HBL.out HBH.out HT.out)
  clear hb ih hm hmb hF ht hn bs bl bh hq hN;go_enter Tryz.func218,Tryz.ntmps218;go_wp2_with (fail);with_reducible refine (Q1s F bm C max s _ H.out hC).mono ?_
  rintro e w1 ⟨rfl,rfl⟩;generalize rdC C s=x at b1 HE;obtain ⟨b10,b11⟩:=b1;go_wp2_with (fail);with_reducible refine (Q0A x _ b10 b11).mono ?_
  rintro e w2 ⟨rfl,rfl⟩;by_cases hk:Q05 x=5
  ·obtain ⟨e1,e2⟩:=HE.out hk;have hd:(Q05 x==5)=true:=by rw[hk];rfl
   clear HE;generalize Q05 x=z at hd hk;go_wp2_with (fail);with_reducible refine (Q0x x _ b10 b11).mono ?_
   rintro e w3 ⟨rfl,rfl⟩;have ba:=Q0D x;generalize wAt x=a at ba e1 e2;have HE2:=LH e2;clear e2;go_wp2_with (fail);with_reducible refine (Q1s F bm C max (a+1) _ H.out hC).mono ?_
   rintro e w4 ⟨rfl,rfl⟩
   rw[HE2.out]
   go_wp2_with (fail);with_reducible refine (Q4Y F bm C max s _ H.out hC HB.out).mono ?_
   rintro e w5 ⟨rfl,rfl⟩;go_wp2_with (fail);with_reducible refine (FIN.out _ rfl).mono ?_
   rintro e w6 ⟨rfl,hbk,hc⟩;have HBK:=LH hbk;have HC:=LH hc;clear hbk hc;go_wp2_with (fail);go_ret;exact ⟨rfl,HBK.out,HC.out⟩
  ·have hd:(Q05 x==5)=false:=by simpa using hk
   clear HE;generalize Q05 x=z at hd hk;go_wp2_with (fail);with_reducible refine (Q4Y F bm C max s _ H.out hC HB.out).mono ?_
   rintro e w5 ⟨rfl,rfl⟩;go_wp2_with (fail);with_reducible refine (FIN.out _ rfl).mono ?_
   rintro e w6 ⟨rfl,hbk,hc⟩;have HBK:=LH hbk;have HC:=LH hc;clear hbk hc;go_wp2_with (fail);go_ret;exact ⟨rfl,HBK.out,HC.out⟩
theorem Q5J {C:List Int} {snd:Int->Int->Int->List Bool->Option (List Bool)} (hs:∀w lo hi m m',snd w lo hi m=some m'->m'.length=m.length) {s lo hi:Int} {m m':List Bool} (h:Q5q C snd s lo hi m=some m'):m'.length=m.length:=by
 unfold Q5q at h
 split at h
 ·cases h
 ·exact hs _ _ _ _ _ h
theorem Q7I {C:List Int} {snd:Int->Int->Int->List Bool->Option (List Bool)} (hs:∀w lo hi m m',snd w lo hi m=some m'->m'.length=m.length) {a d hi:Int}:∀(k:Nat) (i from_:Int) (m m':List Bool),QeO C snd a d hi k i from_ m=some m'->m'.length=m.length
 |0,i,from_,m,m',h=>by injection h with h;rw[h]
 |k+1,i,from_,m,m',h=>by
  unfold QeO at h
  split at h
  ·split at h
   ·split at h
    ·cases h
    ·rename_i hx
     rw[Q7I hs k _ _ _ _ h];exact Q5J hs hx
   ·cases h
  ·split at h
   ·cases h
   ·rename_i hx
    rw[Q7I hs k _ _ _ _ h];exact Q5J hs hx
theorem Q7s {C:List Int}:∀(f:Nat) (w lo hi:Int) (m m':List Bool),Q9m C f w lo hi m=some m'->m'.length=m.length
 |0,_,_,_,_,_,h=>by cases h
 |f+1,w,lo,hi,m,m',h=>by
  unfold Q9m at h
  split at h
  ·exact (Q1A h).2.2.2.2
  ·split at h
   ·split at h
    ·exact (Q1A h).2.2.2.2
    ·cases h
   ·split at h
    ·split at h
     ·split at h
      ·cases h
      ·rename_i hx
       rw[Q7I (Q7s f) _ _ _ _ _ h];exact (Q1A hx).2.2.2.2
     ·cases h
    ·split at h
     ·split at h
      ·split at h
       ·cases h
       ·rename_i hx
        rw[Q7s f _ _ _ _ _ h];exact (Q1A hx).2.2.2.2
      ·cases h
     ·cases h
theorem Q4k {C:List Int} {f:Nat} {s lo hi:Int} {m m':List Bool} (h:Q5q C (Q9m C f) s lo hi m=some m'):m.length=m'.length:=(Q5J (Q7s f) h).symm
def QfD (F:Nat->Prop) (bm mb:Nat) (C:List Int) (f:Nat) (a d hi:Int) (w0:World) (met met':List Bool) (fv iv:Value) (wr:World):Prop:=∃(i k:Nat) (from_:Int) (m:List Bool),fv=.int .i64 from_/\iv=.int .i64 i/\i64B from_/\(i:Int)+k=d/\m.length=met.length/\QeO C (Q9m C f) a d hi k i from_ m=some met'/\Blk wr mb 4 (BB m)/\Chg (fun y=>y=mb) w0 wr
theorem QeP (f:Nat) (ih:SndC f) (F:Nat->Prop) (bm:Nat) (C:List Int) (max a lo hi:Int) (mb N c:Nat) (met m1 met':List Bool) (w:World) (hN:N=met.length) (h:M7 F bm C max w) (hC:C.length<=1000000) (hb:CB C) (hm:met.length=C.length+1) (hmb:Blk w mb 4 (BB met)) (hF:¬F mb) (a0:0<=a) (a1:a<=65536) (bl:i64B lo) (bh:i64B hi)
  (hd0:2<=rdC C a) (hd1:rdC C a<=65536) (hg:rdC C (a+2)=0\/rdC C (a+2)=1) (ht:Q41 C a (2*rdC C a+4) met=some m1) (hi_:QeO C (Q9m C f) a (rdC C a) hi (rdC C a).toNat 0 lo m1=some met'):
  Calls Tryz.prog 269 #[.pointer (some ⟨bm,0,none⟩),.int .i64 a,.int .i64 lo,.int .i64 hi,.slice (some ⟨mb,0,none⟩) N c] w (Q4f bm mb met' w):=by
 obtain ⟨d,hd⟩:∃d,rdC C a=d:=⟨_,rfl⟩
 rw[hd] at hd0 hd1 ht hi_
 obtain ⟨g,hg'⟩:∃g,rdC C (a+2)=g:=⟨_,rfl⟩
 rw[hg'] at hg
 have H:=LH h;have HB:=LH hb;have HIH:=LH ih;have HM:=LH hm;have HMB:=LH hmb;have HFM:=LH hF;have HT:=LH ht;have HI:=LH hi_;have HD:=LH hd;have HG:=LH hg';have HBL:=LH bl;have HBH:=LH bh;have HNN:=LH hN;have hfb:∀y,F y->y=mb->False:=fun y h1 h2=>hF (h2▸h1);have HFB:=LH hfb;clear h hb ih hm hmb hF ht hi_ hd hg' bl bh hN hfb;go_enter Tryz.func269,Tryz.ntmps269;go_wp2_with (fail);with_reducible refine (Q1s F bm C max a _ H.out hC).mono ?_
 rintro e w1 ⟨rfl,rfl⟩
 rw[HD.out]
 go_wp2_with (fail);with_reducible refine (Q1s F bm C max a _ H.out hC).mono ?_
 rintro e w1 ⟨rfl,rfl⟩
 rw[HD.out]
 go_wp2_with (fail);with_reducible refine (Q1s F bm C max a _ H.out hC).mono ?_
 rintro e w1 ⟨rfl,rfl⟩
 rw[HD.out]
 go_wp2_with (fail);with_reducible refine (Q3K F bm C max a (2*d+4) mb N c met m1 _ HNN.out H.out hC HM.out HMB.out HT.out).mono ?_
 rintro e w2 ⟨rfl,hbk,hc⟩;have H2:=LH (H.out.chg hc HFB.out);have HBK:=LH hbk;have HC:=LH hc;clear hbk hc
 rcases hg with rfl|rfl
 ·go_wp2_with (fail);with_reducible refine (Q1s F bm C max (a+2) _ H2.out hC).mono ?_
  rintro e w3 ⟨rfl,rfl⟩
  rw[HG.out]
  go_wp2_with (fail)
  go_loopw [12,13] (fun fv iv wr=>QfD F bm mb C f a d hi w met met' fv iv wr) (fun _ iv _=>(d-intOf iv).toNat)
  case atStart=>unfold QfD;exact ⟨0,d.toNat,lo,m1,rfl,rfl,HBL.out,by omega,(Q1A HT.out).2.2.2.2,HI.out,HBK.out,HC.out⟩
  case round=>
   clear HT HI HBK HC H2 HMB;obtain ⟨i,k,from_,m,rfl,rfl,bf,hik,hml,hin,hbk,hc⟩:=hrel;have H3:=LH (H.out.chg hc HFB.out);have HBK:=LH hbk;have HC:=LH hc;have HBF:=LH bf;clear hbk hc bf
   cases k with
   |zero=>
    have e3:(i:Int)=d:=by omega
    injection hin with hin;subst hin;clear hik
    rw[e3]
    go_wp2_with (fail);go_ret;exact ⟨rfl,HBK.out,HC.out⟩
   |succ k=>
    have e3:(i:Int)<d:=by omega
    have hml2:m.length=C.length+1:=by have:=HM.out;omega
    have HML:=LH hml2;have HNM:=LH (show N=m.length by have:=HNN.out;omega);have HMM:=LH hml;clear hml2 hml;unfold QeO at hin;by_cases hl:(i:Int)<d-1
    ·rw[if_pos hl] at hin
     have bk:=HB.out.rd (Q0j a ((i:Int)+1));obtain ⟨kk,hkk⟩:∃kk,rdC C (Q0j a ((i:Int)+1))=kk:=⟨_,rfl⟩
     rw[hkk] at hin bk
     have HKK:=LH hkk;clear hkk;by_cases hc2:from_<kk/\kk<=hi
     ·rw[if_pos hc2] at hin
      obtain ⟨c1,c2⟩:=hc2
      cases hs:Q5q C (Q9m C f) (Q06 a d i) from_ (kk-1) m with
      |none=>rw[hs] at hin;cases hin
      |some m2=>
       rw[hs] at hin
       have HS:=LH hs;have HIN:=LH hin;have bto:Hid (i64B (kk-1)):=LH (by have:=HBF.out.lo;have:=bk.hi;unfold i64B;omega);have bk0:=bk.lo;have bk1:=bk.hi;have bf0:=HBF.out.lo;clear hs hin bk;go_wp2_with (fail);with_reducible refine (Q1l a ((i:Int)+1) _).mono ?_
       rintro e w4 ⟨rfl,rfl⟩;go_wp2_with (fail);with_reducible refine (Q1s F bm C max (Q0j a ((i:Int)+1)) _ H3.out hC).mono ?_
       rintro e w5 ⟨rfl,rfl⟩
       rw[HKK.out]
       go_wp2_with (fail);with_reducible refine (Q0F a d i _).mono ?_
       rintro e w6 ⟨rfl,rfl⟩;go_wp2_with (fail);with_reducible refine (Q3q f HIH.out F bm C max (Q06 a d i) from_ (kk-1) mb N c m m2 _ HNM.out H3.out hC HB.out HML.out HBK.out HFM.out (Q0r _ _ _) HBF.out bto.out HS.out).mono ?_
       rintro e w7 ⟨rfl,hbk,hc⟩;have HBK2:=LH hbk;have HC2:=LH (HC.out.trans hc);have HL2:=LH (show m2.length=met.length from Q4k HS.out▸HMM.out);clear hbk hc;go_wp2_with (fail)
       go_roundw
       case rel=>unfold QfD;exact ⟨i+1,k,kk,m2,by go_num,by go_num,⟨bk0,bk1⟩,by omega,HL2.out,HIN.out,HBK2.out,HC2.out⟩
       case measure=>simp[intOf];omega
     ·rw[if_neg hc2] at hin;cases hin
    ·rw[if_neg hl] at hin
     cases hs:Q5q C (Q9m C f) (Q06 a d i) from_ hi m with
     |none=>rw[hs] at hin;cases hin
     |some m2=>
      rw[hs] at hin
      have HS:=LH hs;have HIN:=LH hin;clear hs hin;go_wp2_with (fail);with_reducible refine (Q0F a d i _).mono ?_
      rintro e w6 ⟨rfl,rfl⟩;go_wp2_with (fail);with_reducible refine (Q3q f HIH.out F bm C max (Q06 a d i) from_ hi mb N c m m2 _ HNM.out H3.out hC HB.out HML.out HBK.out HFM.out (Q0r _ _ _) HBF.out HBH.out HS.out).mono ?_
      rintro e w7 ⟨rfl,hbk,hc⟩;have HBK2:=LH hbk;have HC2:=LH (HC.out.trans hc);have HL2:=LH (show m2.length=met.length from Q4k HS.out▸HMM.out);clear hbk hc;go_wp2_with (fail)
      go_roundw
      case rel=>unfold QfD;exact ⟨i+1,k,from_,m2,by go_num,by go_num,HBF.out,by omega,HL2.out,HIN.out,HBK2.out,HC2.out⟩
      case measure=>simp[intOf];omega
 ·go_wp2_with (fail);with_reducible refine (Q1s F bm C max (a+2) _ H2.out hC).mono ?_
  rintro e w3 ⟨rfl,rfl⟩
  rw[HG.out]
  go_wp2_with (fail);with_reducible refine (Q1s F bm C max (a+2) _ H2.out hC).mono ?_
  rintro e w3 ⟨rfl,rfl⟩
  rw[HG.out]
  go_wp2_with (fail)
  go_loopw [12,13] (fun fv iv wr=>QfD F bm mb C f a d hi w met met' fv iv wr) (fun _ iv _=>(d-intOf iv).toNat)
  case atStart=>unfold QfD;exact ⟨0,d.toNat,lo,m1,rfl,rfl,HBL.out,by omega,(Q1A HT.out).2.2.2.2,HI.out,HBK.out,HC.out⟩
  case round=>
   clear HT HI HBK HC H2 HMB;obtain ⟨i,k,from_,m,rfl,rfl,bf,hik,hml,hin,hbk,hc⟩:=hrel;have H3:=LH (H.out.chg hc HFB.out);have HBK:=LH hbk;have HC:=LH hc;have HBF:=LH bf;clear hbk hc bf
   cases k with
   |zero=>
    have e3:(i:Int)=d:=by omega
    injection hin with hin;subst hin;clear hik
    rw[e3]
    go_wp2_with (fail);go_ret;exact ⟨rfl,HBK.out,HC.out⟩
   |succ k=>
    have e3:(i:Int)<d:=by omega
    have hml2:m.length=C.length+1:=by have:=HM.out;omega
    have HML:=LH hml2;have HNM:=LH (show N=m.length by have:=HNN.out;omega);have HMM:=LH hml;clear hml2 hml;unfold QeO at hin;by_cases hl:(i:Int)<d-1
    ·rw[if_pos hl] at hin
     have bk:=HB.out.rd (Q0j a ((i:Int)+1));obtain ⟨kk,hkk⟩:∃kk,rdC C (Q0j a ((i:Int)+1))=kk:=⟨_,rfl⟩
     rw[hkk] at hin bk
     have HKK:=LH hkk;clear hkk;by_cases hc2:from_<kk/\kk<=hi
     ·rw[if_pos hc2] at hin
      obtain ⟨c1,c2⟩:=hc2
      cases hs:Q5q C (Q9m C f) (Q06 a d i) from_ (kk-1) m with
      |none=>rw[hs] at hin;cases hin
      |some m2=>
       rw[hs] at hin
       have HS:=LH hs;have HIN:=LH hin;have bto:Hid (i64B (kk-1)):=LH (by have:=HBF.out.lo;have:=bk.hi;unfold i64B;omega);have bk0:=bk.lo;have bk1:=bk.hi;have bf0:=HBF.out.lo;clear hs hin bk;go_wp2_with (fail);with_reducible refine (Q1l a ((i:Int)+1) _).mono ?_
       rintro e w4 ⟨rfl,rfl⟩;go_wp2_with (fail);with_reducible refine (Q1s F bm C max (Q0j a ((i:Int)+1)) _ H3.out hC).mono ?_
       rintro e w5 ⟨rfl,rfl⟩
       rw[HKK.out]
       go_wp2_with (fail);with_reducible refine (Q0F a d i _).mono ?_
       rintro e w6 ⟨rfl,rfl⟩;go_wp2_with (fail);with_reducible refine (Q3q f HIH.out F bm C max (Q06 a d i) from_ (kk-1) mb N c m m2 _ HNM.out H3.out hC HB.out HML.out HBK.out HFM.out (Q0r _ _ _) HBF.out bto.out HS.out).mono ?_
       rintro e w7 ⟨rfl,hbk,hc⟩;have HBK2:=LH hbk;have HC2:=LH (HC.out.trans hc);have HL2:=LH (show m2.length=met.length from Q4k HS.out▸HMM.out);clear hbk hc;go_wp2_with (fail)
       go_roundw
       case rel=>unfold QfD;exact ⟨i+1,k,kk,m2,by go_num,by go_num,⟨bk0,bk1⟩,by omega,HL2.out,HIN.out,HBK2.out,HC2.out⟩
       case measure=>simp[intOf];omega
     ·rw[if_neg hc2] at hin;cases hin
    ·rw[if_neg hl] at hin
     cases hs:Q5q C (Q9m C f) (Q06 a d i) from_ hi m with
     |none=>rw[hs] at hin;cases hin
     |some m2=>
      rw[hs] at hin
      have HS:=LH hs;have HIN:=LH hin;clear hs hin;go_wp2_with (fail);with_reducible refine (Q0F a d i _).mono ?_
      rintro e w6 ⟨rfl,rfl⟩;go_wp2_with (fail);with_reducible refine (Q3q f HIH.out F bm C max (Q06 a d i) from_ hi mb N c m m2 _ HNM.out H3.out hC HB.out HML.out HBK.out HFM.out (Q0r _ _ _) HBF.out HBH.out HS.out).mono ?_
      rintro e w7 ⟨rfl,hbk,hc⟩;have HBK2:=LH hbk;have HC2:=LH (HC.out.trans hc);have HL2:=LH (show m2.length=met.length from Q4k HS.out▸HMM.out);clear hbk hc;go_wp2_with (fail)
      go_roundw
      case rel=>unfold QfD;exact ⟨i+1,k,from_,m2,by go_num,by go_num,HBF.out,by omega,HL2.out,HIN.out,HBK2.out,HC2.out⟩
      case measure=>simp[intOf];omega
theorem QfK:∀f,SndC f:=by
 intro f
 induction f with
 |zero=>intro F bm C max x lo hi mb N c met met' w h1 h2 h3 h4 h5 h6 h7 h8 h9 h10 h11;cases h11
 |succ f ih=>
  intro F bm C max x lo hi mb N c met met' w hN h hC hb hm hmb hF bx bl bh ht;have H:=LH h;have HB:=LH hb;have HIH:=LH ih;have HM:=LH hm;have HMB:=LH hmb;have HFM:=LH hF;have HNN:=LH hN;have HBL:=LH bl;have HBH:=LH bh;have hfb:∀y,F y->y=mb->False:=fun y h1 h2=>hF (h2▸h1);have HFB:=LH hfb;obtain ⟨b10,b11⟩:=bx;have HBX:Hid (i64B x):=LH ⟨b10,b11⟩;have ba:=Q0D x;unfold Q9m at ht;clear h hb ih hm hmb hF bl bh hN hfb;by_cases k1:Q05 x=1
  ·rw[if_pos k1] at ht
   have HT:=LH ht;clear ht;go_enter Tryz.func253,Tryz.ntmps253;go_wp2_with (fail);with_reducible refine (Q0x x _ b10 b11).mono ?_
   rintro e w3 ⟨rfl,rfl⟩;go_wp2_with (fail);with_reducible refine (Q0A x _ b10 b11).mono ?_
   rintro e w2 ⟨rfl,rfl⟩
   rw[k1]
   clear k1;go_wp2_with (fail);with_reducible refine (Q3K F bm C max (wAt x) 1 mb N c met met' _ HNN.out H.out hC HM.out HMB.out HT.out).mono ?_
   rintro e w2 ⟨rfl,hbk,hc⟩;have HBK:=LH hbk;have HC:=LH hc;clear hbk hc;go_wp2_with (fail);go_ret;exact ⟨rfl,HBK.out,HC.out⟩
  ·rw[if_neg k1] at ht
   by_cases k2:Q05 x=2
   ·rw[if_pos k2] at ht
    by_cases hr:lo<=rdC C (wAt x)/\rdC C (wAt x)<=hi
    ·rw[if_pos hr] at ht
     have HT:=LH ht;obtain ⟨r0,r1⟩:=hr;clear ht k1;generalize hq:rdC C (wAt x)=q at r0 r1;have HQ:=LH hq;clear hq;go_enter Tryz.func253,Tryz.ntmps253;go_wp2_with (fail);with_reducible refine (Q0x x _ b10 b11).mono ?_
     rintro e w3 ⟨rfl,rfl⟩;go_wp2_with (fail);with_reducible refine (Q0A x _ b10 b11).mono ?_
     rintro e w2 ⟨rfl,rfl⟩
     rw[k2]
     clear k2;go_wp2_with (fail);with_reducible refine (Q3K F bm C max (wAt x) 2 mb N c met met' _ HNN.out H.out hC HM.out HMB.out HT.out).mono ?_
     rintro e w2 ⟨rfl,hbk,hc⟩;have H2:=LH (H.out.chg hc HFB.out);have HBK:=LH hbk;have HC:=LH hc;clear hbk hc;go_wp2_with (fail);with_reducible refine (Q1s F bm C max (wAt x) _ H2.out hC).mono ?_
     rintro e w1 ⟨rfl,rfl⟩
     rw[HQ.out]
     go_wp2_with (fail);with_reducible refine (Q1s F bm C max (wAt x) _ H2.out hC).mono ?_
     rintro e w1 ⟨rfl,rfl⟩
     rw[HQ.out]
     go_wp2_with (fail);go_ret;exact ⟨rfl,HBK.out,HC.out⟩
    ·rw[if_neg hr] at ht;cases ht
   ·rw[if_neg k2] at ht
    by_cases k3:Q05 x=3
    ·rw[if_pos k3] at ht
     by_cases hr:2<=rdC C (wAt x)/\rdC C (wAt x)<=65536/\(rdC C (wAt x+2)=0\/rdC C (wAt x+2)=1)
     ·rw[if_pos hr] at ht
      cases hs:Q41 C (wAt x) (2*rdC C (wAt x)+4) met with
      |none=>rw[hs] at ht;cases ht
      |some m1=>
       rw[hs] at ht
       have INN:Hid (∀w2,w2=w->Calls Tryz.prog 269 #[.pointer (some ⟨bm,0,none⟩),.int .i64 (wAt x),.int .i64 lo,.int .i64 hi,.slice (some ⟨mb,0,none⟩) N c] w2 (Q4f bm mb met' w)):=LH (fun w2 e=>by
        subst e;exact QeP f HIH.out F bm C max (wAt x) lo hi mb N c met m1 met' _ HNN.out H.out hC HB.out HM.out HMB.out HFM.out ba.1 ba.2 HBL.out HBH.out hr.1 hr.2.1 hr.2.2 hs ht)
       clear ht hs hr k1 k2;go_enter Tryz.func253,Tryz.ntmps253;go_wp2_with (fail);with_reducible refine (Q0x x _ b10 b11).mono ?_
       rintro e w3 ⟨rfl,rfl⟩;go_wp2_with (fail);with_reducible refine (Q0A x _ b10 b11).mono ?_
       rintro e w2 ⟨rfl,rfl⟩
       rw[k3]
       clear k3;go_wp2_with (fail);with_reducible refine (INN.out _ rfl).mono ?_
       rintro e w2 ⟨rfl,hbk,hc⟩;have HBK:=LH hbk;have HC:=LH hc;clear hbk hc;go_wp2_with (fail);go_ret;exact ⟨rfl,HBK.out,HC.out⟩
     ·rw[if_neg hr] at ht;cases ht
    ·rw[if_neg k3] at ht
     by_cases k4:Q05 x=4
     ·rw[if_pos k4] at ht
      by_cases hr:Q05 (rdC C (wAt x))=3
      ·rw[if_pos hr] at ht
       cases hs:Q41 C (wAt x) 5 met with
       |none=>rw[hs] at ht;cases ht
       |some m1=>
        rw[hs] at ht
        have bt:=HB.out.rd (wAt x);generalize hq:rdC C (wAt x)=t at ht hr bt;have HQ:=LH hq;have HT:=LH ht;have HS:=LH hs;obtain ⟨t0,t1⟩:=bt;have HL1:=LH (Q1A hs).2.2.2.2;clear ht hs k1 k2 k3 hq;go_enter Tryz.func253,Tryz.ntmps253;go_wp2_with (fail);with_reducible refine (Q0x x _ b10 b11).mono ?_
        rintro e w3 ⟨rfl,rfl⟩;go_wp2_with (fail);with_reducible refine (Q0A x _ b10 b11).mono ?_
        rintro e w2 ⟨rfl,rfl⟩
        rw[k4]
        clear k4;go_wp2_with (fail);with_reducible refine (Q1s F bm C max (wAt x) _ H.out hC).mono ?_
        rintro e w1 ⟨rfl,rfl⟩
        rw[HQ.out]
        go_wp2_with (fail);with_reducible refine (Q3K F bm C max (wAt x) 5 mb N c met m1 _ HNN.out H.out hC HM.out HMB.out HS.out).mono ?_
        rintro e w2 ⟨rfl,hbk,hc⟩;have H2:=LH (H.out.chg hc HFB.out);have HBK:=LH hbk;have HC:=LH hc;clear hbk hc;go_wp2_with (fail);with_reducible refine (Q0A t _ t0 t1).mono ?_
        rintro e w2 ⟨rfl,rfl⟩
        rw[hr]
        clear hr;go_wp2_with (fail);with_reducible refine (HIH.out.use F bm C max t lo hi mb N c m1 met' _ (by rw[HL1.out];exact HNN.out) H2.out hC HB.out (by rw[HL1.out];exact HM.out) HBK.out HFM.out (i64B.of t0 t1) HBL.out HBH.out HT.out).mono ?_
        rintro e w3 ⟨rfl,hbk,hc⟩;have HBK2:=LH hbk;have HC2:=LH (HC.out.trans hc);clear hbk hc;go_wp2_with (fail);go_ret;exact ⟨rfl,HBK2.out,HC2.out⟩
      ·rw[if_neg hr] at ht;cases ht
     ·rw[if_neg k4] at ht;cases ht
theorem Qd1 (A:Option Addr) (c N:Nat) (l:List (Int×Int)) (w:World) (hN:N=l.length) (hq:PairsAt w w.heap.size A l) (hl:l.length<=1000000) (ha:Qgn l):
  Calls Tryz.prog 86 #[.slice A N c] w fun e w'=>e=.returned (.bool true)/\Drawn w w':=by
 subst hN;have HQ:=LH hq;have HA:=LH ha;clear hq ha;go_enter Tryz.func86,Tryz.ntmps86;go_wp2_with (fail)
 go_loopw [3] (fun v wr=>∃(i m:Nat),1<=i/\(i<=l.length\/i=1)/\v=.int .i64 i/\wr=w.drewN m) (fun v _=>l.length-(intOf v).toNat)
 case atStart=>exact ⟨1,0,by omega,.inr rfl,rfl,rfl⟩
 case round=>
  obtain ⟨i,m,i0,i1,rfl,rfl⟩:=hrel;by_cases hlt:i<l.length
  ·obtain ⟨j,rfl⟩:∃j,i=j+1:=⟨i-1,by omega⟩;obtain ⟨ad,rfl,_,hc⟩:=HQ.out.key (by omega);have k1:=hc j (by omega);have k2:=hc (j+1) hlt;have hk:=HA.out j hlt;have e1:(j:Int)+1-1=j:=by omega
   generalize Q17 l j=x at k1 hk;generalize Q17 l (j+1)=y at k2 hk;clear hc i1;have k2':w.cell? (ad.add (j*2+2))=some (.int .i64 y):=by rw[show (j+1)*2=j*2+2 by omega] at k2;exact k2
   have hlt2:(j:Int)+1<l.length:=by omega
   have hk2:¬y<=x:=by omega
   go_wp2_with (fail)
   go_quiet (fail)
   go_wp2_with (fail)
   go_roundw
   case rel=>exact ⟨j+1+1,_,by omega,.inl (by omega),by go_num,rfl⟩
   case measure=>simp[intOf];omega
  ·have hlt2:¬(i:Int)<l.length:=by omega
   go_wp2_with (fail);go_ret;exact ⟨rfl,Drawn.of _ _⟩
theorem PairsAt.some_ {w:World} {B:Nat} {A:Option Addr} {L:List (Int×Int)} (h:PairsAt w B A L) (hl:0<L.length):∃ad,A=some ad:=by
 obtain ⟨ad,e,_⟩:=PairsAt.both h hl;exact ⟨ad,e⟩
end Go.Proofs.YtblajeildolloaaGreat
