/- Part 1 of what the statement of WalkPlays needs. No condition. -/
import Derived.Lib.BitFns
import Derived.Laws.Bits64b
import Derived.IntWalk
import Derived.Test.YtblajeildolloaaGreatProg
import Derived.WalkKit
import Derived.WalkSpells
import Derived.Lib.Strings
import Derived.Lib.Slices
import Derived.Lib.Small
import Derived.Lib.Walk
import Derived.Lib.Hide
import Derived.Deep.Light
import Derived.Deep.Draws
import Derived.Below
import Derived.Laws.OwnMore
import Derived.Deep.AppendLies
import Derived.Laws.Rows
import Derived.Maps.AppendAt
import Derived.RegionTactic
import Derived.OwnWalk
import Derived.Laws.Bits128
import Derived.WalkSmall
import Derived.OneCell
import Derived.Deep.QuietTactic
import Derived.BigQuiet
import Derived.Lib.Mul64
import Derived.StillTailTactics
import Derived.Outline
import Derived.Deep.RegionWith
import Derived.Lib.AppendZeros
import Derived.Lib.SliceRun
import Derived.Deep.RegionHeld3
import Derived.Deep.RegionLaw
import Derived.ChangeAlike
namespace Go.Proofs.YtblajeildolloaaGreat
set_option linter.unusedVariables false
set_option linter.unusedSimpArgs false
open Go.RowKit
set_option maxRecDepth 100000
set_option maxHeartbeats 8000000
abbrev oZ : Array Value := #[.int .i64 0, .bool false, .int .i64 0, .int .i64 0, .int .i64 0, .slice none 0 0, .slice none 0 0, .int .i64 0, .bool false, .int .i64 0, .int .i64 0, .int .i64 0, .slice none 0 0]
abbrev aZ : Array Value := #[.int .i64 0, .int .i64 0, .int .i64 0, .int .i64 0, .int .i64 0, .int .i64 0, .int .i64 0, .bool false, .int .i64 0, .bool false, .slice none 0 0, .slice none 0 0, .slice none 0 0, .slice none 0 0, .slice none 0 0, .int .i64 0, .int .i64 0, .int .i64 0, .int .i64 0, .int .i64 0, .int .i64 0]
abbrev rZ : Array Value := #[.int .i64 0, .bool false, .int .i64 0, .int .i64 0, .int .i64 0, .slice none 0 0]
abbrev tZ (a : Option Addr) (n c : Nat) : Array Value := #[.slice a n c, .int .i64 0, .bool false, .int .i64 0, .int .i64 0, .int .i64 0, .int .i64 0, .slice none 0 0, .int .i64 0, .int .i64 0]
abbrev f1 (w : World) : World := (w.alloc (.cells oZ 56)).alloc (.cells aZ 50)
abbrev f2 (w : World) (A : List Value) : World := (f1 w).setRow (w.heap.size + 1) A.toArray
abbrev f3 (w : World) (A : List Value) : World := (f2 w A).alloc (.cells oZ 56)
abbrev f4 (w : World) (A : List Value) : World := (f3 w A).setRow (w.heap.size + 1 + 1) oZ
theorem LH {p : Prop} (h : p) : Hid p := Lib.hid h
def Q1M:Nat->Nat
 |0=>0
 |n+1=>if (Q1M n+1)*(Q1M n+1)<=n+1 then Q1M n+1 else Q1M n
def Q2t (n:Int):Int:=(Q1M n.toNat:Int)
theorem Q3L (n:Nat):Q1M n*Q1M n<=n/\n<(Q1M n+1)*(Q1M n+1):=by
 induction n with
 |zero=>simp[Q1M]
 |succ n ih=>
  simp only[Q1M]
  split
  ·rename_i h;refine ⟨h, ?_⟩
   have e:(Q1M n+1+1)*(Q1M n+1+1)=(Q1M n+1)*(Q1M n+1)+2*(Q1M n+1)+1:=by
    rw[Nat.mul_add,Nat.add_mul];omega
   omega
  ·rename_i h;exact ⟨by omega,by omega⟩
theorem QfJ {a b:Nat} (h:a<b):(a+1)*(a+1)<=b*b:=Nat.mul_le_mul h h
theorem Q8j {n r:Nat} (h1:r*r<=n) (h2:n<(r+1)*(r+1)):Q1M n=r:=by
 obtain ⟨s1,s2⟩:=Q3L n
 rcases Nat.lt_trichotomy (Q1M n) r with h|h|h
 ·have:=QfJ h;omega
 ·exact h
 ·have:=QfJ h;omega
theorem Qb2 {m n:Nat} (h:m<=n):Q1M m<=Q1M n:=by
 obtain ⟨s1,s2⟩:=Q3L n;obtain ⟨t1,t2⟩:=Q3L m
 rcases Nat.lt_or_ge (Q1M n) (Q1M m) with g|g
 ·have:=QfJ g;omega
 ·exact g
theorem QcB {n:Int} (h:n<=0):Q2t n=0:=by
 unfold Q2t;rw[Int.toNat_of_nonpos h];rfl
theorem Qbc {n:Int} (h:0<=n):Q2t n*Q2t n<=n/\n<(Q2t n+1)*(Q2t n+1):=by
 obtain ⟨s1,s2⟩:=Q3L n.toNat;unfold Q2t;constructor
 ·have:((Q1M n.toNat*Q1M n.toNat:Nat):Int)<=(n.toNat:Int):=by exact_mod_cast s1
  rw[Int.natCast_mul] at this;omega
 ·have:((n.toNat:Nat):Int)<(((Q1M n.toNat+1)*(Q1M n.toNat+1):Nat):Int):=by exact_mod_cast s2
  rw[Int.natCast_mul,Int.natCast_add] at this;simp only[Int.natCast_one] at this;omega
theorem Q5h {n r:Int} (h0:0<=r) (h1:r*r<=n) (h2:n<(r+1)*(r+1)):Q2t n=r:=by
 obtain ⟨k,rfl⟩:=Int.eq_ofNat_of_zero_le h0;unfold Q2t;have hn:0<=n:=Int.le_trans (by rw[<-Int.natCast_mul];exact Int.natCast_nonneg _) h1;obtain ⟨m,rfl⟩:=Int.eq_ofNat_of_zero_le hn;have e1:k*k<=m:=by exact_mod_cast h1
 have e2:m<(k+1)*(k+1):=by exact_mod_cast h2
 rw[Int.toNat_natCast,Q8j e1 e2]
theorem Qbd {m n:Int} (h:m<=n):Q2t m<=Q2t n:=by
 unfold Q2t;have:Q1M m.toNat<=Q1M n.toNat:=Qb2 (by omega);omega
theorem Q9W:Go.Lib.bitLen 0=0:=by decide
theorem Q57 {x:Nat} (h0:x≠0) (h:x<2^64):0<Go.Lib.bitLen x:=by
 rw[Go.Lib.bitLen_half x h0 h];omega
theorem Q6q:∀(d x:Nat),x<=d->x≠0->x<2^64->2^(Go.Lib.bitLen x-1)<=x/\x<2^Go.Lib.bitLen x
 |0,x,hd,h0,_=>absurd (Nat.le_zero.1 hd) h0
 |d+1,x,hd,h0,h=>by
  have e:=Go.Lib.bitLen_half x h0 h
  rw[e]
  by_cases h2:x/2=0
  ·rw[h2,Q9W]
   simp;omega
  ·obtain ⟨i1,i2⟩:=Q6q d (x/2) (by omega) h2 (by omega);have p:=Q57 h2 (by omega);obtain ⟨b,hb⟩:∃b,Go.Lib.bitLen (x/2)=b+1:=⟨Go.Lib.bitLen (x/2)-1,by omega⟩
   rw[hb] at i1 i2|-
   have e1:1+(b+1)-1=b+1:=by omega
   have e2:1+(b+1)=b+1+1:=by omega
   have e3:b+1-1=b:=by omega
   rw[e1,e2]
   rw[e3] at i1
   rw[Nat.pow_succ 2 (b+1)]
   rw[Nat.pow_succ] at i2|-
   omega
theorem QdS {x:Nat} (h0:x≠0) (h:x<2^64):2^(Go.Lib.bitLen x-1)<=x/\x<2^Go.Lib.bitLen x:=Q6q x x (Nat.le_refl _) h0 h
def Q6E (a b:Int):Int:=if b<a then 0 else b-a
def Qc5 (a b:Int):Int:=if b<a then b else a
def Q42 (p x n:Int):Int:=if x=0\/n<1\/65536<n then 0 else Qc5 p x*n/x
theorem Q1O {p x n:Int} (h:x=0\/n<1\/65536<n):Q42 p x n=0:=if_pos h
theorem Qd4 {p x:Int} (p0:0<=p) (x0:0<=x):0<=Qc5 p x/\Qc5 p x<=x/\Qc5 p x<=p:=by unfold Qc5;split<;>omega
theorem Qap {a b:Int} (a0:-9223372036854775808<=a) (a1:a<=9223372036854775807) (b0:-9223372036854775808<=b) (b1:b<=9223372036854775807) (h:a<=b):IntKind.u64.wrap (IntKind.u64.wrap b-IntKind.u64.wrap a)=Q6E a b:=by
 unfold Q6E;rw[if_neg (by omega)];simp only[IntKind.wrap_u64];omega
theorem Q7S {a b:Int} (a0:-9223372036854775808<=a) (b1:b<=9223372036854775807):0<=Q6E a b/\Q6E a b<=18446744073709551615:=by unfold Q6E;split<;>omega
theorem Q9u {m x n:Int} (m0:0<=m) (m1:m<=x) (x0:0<x) (x1:x<=18446744073709551615) (n0:1<=n) (n1:n<=65536):
  0<=m*n/18446744073709551616/\m*n/18446744073709551616<x/\0<=m*n%18446744073709551616/\m*n%18446744073709551616<=18446744073709551615/\(m*n/18446744073709551616*18446744073709551616+m*n%18446744073709551616)/x=m*n/x/\m*n/18446744073709551616*18446744073709551616+m*n%18446744073709551616<x*4294967296/\(0<=m*n/x/\m*n/x<=65536):=by
 have a0:0<=m*n:=Int.mul_nonneg m0 (by omega);have a1:m*n<=x*65536:=Int.mul_le_mul m1 n1 (by omega) (by omega);have e:m*n/18446744073709551616*18446744073709551616+m*n%18446744073709551616=m*n:=by omega
 rw[e]
 have b0:0<=m*n/x:=Int.ediv_nonneg a0 (by omega);have b1:m*n/x<65537:=Int.ediv_lt_of_lt_mul x0 (by omega);refine ⟨by omega,by omega,by omega,by omega,rfl,by omega,b0,by omega⟩
structure ShareAt (m x n:Int) (b:Nat) (q r:Int):Prop where
 eq:q*x+r=m*(n/2^b)
 r0:0<=r
 r1:r<x
theorem ShareAt.start {m x n:Int} (n0:0<=n) (n1:n<=65536) (x0:0<x):ShareAt m x n 17 0 0:=by
 have:n/2^17=0:=Int.ediv_eq_zero_of_lt n0 (by omega);exact ⟨by rw[this];simp,by omega,x0⟩
theorem ShareAt.done {m x n q r:Int} (h:ShareAt m x n 0 q r) (x0:0<x):m*n/x=q:=by
 have e:=h.eq;have:n/2^0=n:=by simp
 rw[this] at e
 rw[<-e,Int.add_comm,Int.add_mul_ediv_right _ _ (by omega),Int.ediv_eq_zero_of_lt h.r0 h.r1,Int.zero_add]
theorem Qao (n:Int) (j:Nat):n/2^(j+1)=n/2^j/2:=by
 rw[Int.pow_succ,Int.ediv_ediv_of_nonneg (Int.pow_nonneg (by decide))]
theorem ShareAt.bd {m x n q r:Int} {j:Nat} (h:ShareAt m x n (j+1) q r) (m0:0<=m) (m1:m<=x) (x0:0<x) (n0:0<=n) (n1:n<=65536):0<=r/\r<x/\0<=q/\q<=65536:=by
 refine ⟨h.r0,h.r1, ?_⟩;have e:=h.eq;have k0:0<=n/2^(j+1):=Int.ediv_nonneg n0 (Int.pow_nonneg (by decide));have k1:n/2^(j+1)<=n:=Int.ediv_le_self _ n0;generalize n/2^(j+1)=k at*;have a0:0<=m*k:=Int.mul_nonneg m0 k0;have a1:m*k<=x*k:=Int.mul_le_mul_of_nonneg_right m1 k0;have r0:=h.r0;have r1:=h.r1;constructor
 ·rcases Int.lt_or_le q 0 with g|g
  ·have:q*x<=(-1)*x:=Int.mul_le_mul_of_nonneg_right (by omega) (by omega);omega
  ·exact g
 ·rcases Int.lt_or_le 65536 q with g|g
  ·have:65537*x<=q*x:=Int.mul_le_mul_of_nonneg_right (by omega) (by omega);have:x*k<=x*65536:=Int.mul_le_mul_of_nonneg_left (by omega) (by omega);omega
  ·exact g
section
variable {m x n q r:Int} {j:Nat}
theorem ShareAt.twice (h:ShareAt m x n (j+1) q r) (c2:n/2^j%2=0):(2*q)*x+(r+r)=m*(n/2^j):=by
 have e:=h.eq
 rw[Qao] at e
 have:n/2^j=2*(n/2^j/2):=by omega
 rw[this,Int.mul_left_comm,<-e,Int.mul_assoc,Int.mul_add];omega
theorem ShareAt.twice1 (h:ShareAt m x n (j+1) q r) (c2:n/2^j%2=1):(2*q)*x+(r+r)+m=m*(n/2^j):=by
 have e:=h.eq
 rw[Qao] at e
 have:n/2^j=2*(n/2^j/2)+1:=by omega
 rw[this,Int.mul_add,Int.mul_one,Int.mul_left_comm,<-e,Int.mul_assoc,Int.mul_add];omega
theorem ShareAt.step1 (h:ShareAt m x n (j+1) q r) (c1:x-r<=r) (c2:n/2^j%2=0):ShareAt m x n j (2*q+1) (r-(x-r)):=
 ⟨by rw[<-h.twice c2,Int.add_mul];omega,by have:=h.r0;omega,by have:=h.r1;omega⟩
theorem ShareAt.step2 (h:ShareAt m x n (j+1) q r) (m1:m<=x) (c1:x-r<=r) (c2:n/2^j%2=1) (c3:x-(r-(x-r))<=m):ShareAt m x n j (2*q+1+1) (r-(x-r)-(x-m)):=
 ⟨by rw[<-h.twice1 c2,Int.add_mul,Int.add_mul];omega,by omega,by have:=h.r1;omega⟩
theorem ShareAt.step3 (h:ShareAt m x n (j+1) q r) (m0:0<=m) (c1:x-r<=r) (c2:n/2^j%2=1) (c3:¬x-(r-(x-r))<=m):ShareAt m x n j (2*q+1) (r-(x-r)+m):=
 ⟨by rw[<-h.twice1 c2,Int.add_mul];omega,by omega,by omega⟩
theorem ShareAt.step4 (h:ShareAt m x n (j+1) q r) (c1:¬x-r<=r) (c2:n/2^j%2=0):ShareAt m x n j (2*q) (r+r):=
 ⟨h.twice c2,by have:=h.r0;omega,by omega⟩
theorem ShareAt.step5 (h:ShareAt m x n (j+1) q r) (m1:m<=x) (c1:¬x-r<=r) (c2:n/2^j%2=1) (c3:x-(r+r)<=m):ShareAt m x n j (2*q+1) (r+r-(x-m)):=
 ⟨by rw[<-h.twice1 c2,Int.add_mul];omega,by omega,by omega⟩
theorem ShareAt.step6 (h:ShareAt m x n (j+1) q r) (m0:0<=m) (c1:¬x-r<=r) (c2:n/2^j%2=1) (c3:¬x-(r+r)<=m):ShareAt m x n j (2*q) (r+r+m):=
 ⟨by rw[<-h.twice1 c2];omega,by have:=h.r0;omega,by omega⟩
end
theorem QgF (n:Int) (j:Nat) (n0:0<=n) (n1:n<=9223372036854775807):bits .and .i64 (n/2^j) 1=n/2^j%2:=by
 have k0:0<=n/2^j:=Int.ediv_nonneg n0 (Int.pow_nonneg (by decide));have k1:n/2^j<=n:=Int.ediv_le_self _ n0;generalize n/2^j=k at*;obtain ⟨a,rfl⟩:=Int.eq_ofNat_of_zero_le k0
 have h1:(BitVec.ofInt 64 (a:Int)).toNat=a:=by
  rw[BitVec.ofInt_natCast,BitVec.toNat_ofNat];exact Nat.mod_eq_of_lt (by omega)
 have h2:(BitVec.ofInt 64 (1:Int)).toNat=1:=rfl;show IntKind.i64.wrap ((BitVec.ofInt 64 (a:Int)&&&BitVec.ofInt 64 (1:Int)).toNat:Int)=_
 rw[BitVec.toNat_and,h1,h2,Nat.and_one_is_mod,IntWalk.i64_in _ (by omega)]
 omega
def keyAt (q:List Int) (i:Nat):Int:=q.getD i 0
def Q0G (f l k n:Int):Int:=if n<2\/65536<n\/k<f\/l<=k then 0 else 1+Q42 (Q6E f k) (Q6E f l) (n-1)
theorem Q1i {f l k n:Int} (h:n<2\/65536<n\/k<f\/l<=k):Q0G f l k n=0:=if_pos h
theorem Q6c {f l k n:Int} (h:¬(n<2\/65536<n\/k<f\/l<=k)):Q0G f l k n=1+Q42 (Q6E f k) (Q6E f l) (n-1):=if_neg h
theorem Q7t {p x n:Int} (p0:0<=p) (px:p<x) (n0:1<=n) (n1:n<=65536):0<=Q42 p x n/\Q42 p x n<n:=by
 have e:Qc5 p x=p:=by unfold Qc5;rw[if_neg (by omega)]
 unfold Q42
 rw[if_neg (by omega),e]
 have a0:0<=p*n:=Int.mul_nonneg p0 (by omega);have a1:p*n<x*n:=Int.mul_lt_mul_of_pos_right px (by omega);exact ⟨Int.ediv_nonneg a0 (by omega),Int.ediv_lt_of_lt_mul (by omega) (by rw[Int.mul_comm n x];exact a1)⟩
theorem Q4A {f l k n:Int} (h0:2<=n) (h1:n<=65536) (h2:f<=k) (h3:k<l):1<=Q0G f l k n/\Q0G f l k n<=n-1:=by
 rw[Q6c (by omega)]
 have:=Q7t (p:=Q6E f k) (x:=Q6E f l) (n:=n-1) (by unfold Q6E;split<;>omega) (by unfold Q6E;rw[if_neg (by omega),if_neg (by omega)];omega) (by omega) (by omega);omega
theorem Q0y {k:IntKind} {a b:Int} (h:a=b):Ending.returned (.int k a)=.returned (.int k b):=by rw[h]
def Drawn (w w':World):Prop:=∃m,w'=w.drewN m
theorem Drawn.refl (w:World):Drawn w w:=⟨0,rfl⟩
theorem Drawn.of (w:World) (n:Nat):Drawn w (w.drewN n):=⟨n,rfl⟩
theorem Drawn.trans {w w1 w2:World} (h:Drawn w w1) (k:Drawn w1 w2):Drawn w w2:=by
 obtain ⟨m,rfl⟩:=h;obtain ⟨n,rfl⟩:=k;exact ⟨m+n,World.drewN_drewN _ _ _⟩
theorem Qaf (j:Nat):(0:Int)<2^j:=Int.pow_pos (by decide)
theorem Q8Q:(Lib.len8tab.size:Int)=256:=by
 have:Lib.len8tab.size=256:=by decide+kernel
 omega
theorem Q1Q (x y:Int) (k:Nat) (hk:k<=56) (h:y.toNat<Lib.len8tab.size) (y0:0<=y) (y1:y<=255) (hs:Lib.bitLen x.toNat=k+Lib.bitLen y.toNat):
  wrap64 ((k:Int)+wrap64 ((Lib.len8tab[y.toNat]'h).toNat:Int))=(Lib.bitLen x.toNat:Int):=by
 have e:((Lib.len8tab[y.toNat]'h).toNat:Int)=Lib.len8 y:=by
  unfold Lib.len8
  rw[getElem?_pos Lib.len8tab y.toNat h]
  rfl
 have l:=Lib.bitLen_le8' y y0 y1
 rw[e,Lib.len8_of y y0 y1,hs]
 unfold wrap64;omega
theorem Q9H (x:Int) (h:x.toNat<Lib.len8tab.size) (y0:0<=x) (y1:x<=255):
  wrap64 (wrap64 ((Lib.len8tab[x.toNat]'h).toNat:Int))=(Lib.bitLen x.toNat:Int):=by
 have e:((Lib.len8tab[x.toNat]'h).toNat:Int)=Lib.len8 x:=by
  unfold Lib.len8
  rw[getElem?_pos Lib.len8tab x.toNat h]
  rfl
 have l:=Lib.bitLen_le8' x y0 y1
 rw[e,Lib.len8_of x y0 y1]
 unfold wrap64;omega
theorem Qd6 (x:Int) (w:World) (h0:0<=x) (h1:x<=18446744073709551615):
  Calls Tryz.prog 274 #[.int .u64 x] w fun e w'=>e=.returned (.int .i64 (Lib.bitLen x.toNat))/\w=w':=by
 go_enter Tryz.func274,Tryz.ntmps274
 go_wp2
 all_goals first
  |(go_ret;refine ⟨congrArg Ending.returned (congrArg (Value.int IntKind.i64) ?_),rfl⟩;go_light)
  |(exfalso
    go_light
    have hs:=Q8Q;omega)
 all_goals first
  |(refine Q1Q x (x/4294967296/65536/256) 56 (by decide) _ (by omega) (by omega) ?_
    have e:(x/4294967296/65536/256).toNat=x.toNat/72057594037927936:=by omega
    rw[e]
    exact Lib.bitLen_shift56 x.toNat (by omega) (by omega))
  |(refine Q1Q x (x/4294967296/65536) 48 (by decide) _ (by omega) (by omega) ?_
    have e:(x/4294967296/65536).toNat=x.toNat/281474976710656:=by omega
    rw[e]
    exact Lib.bitLen_shift48 x.toNat (by omega) (by omega))
  |(refine Q1Q x (x/4294967296/256) 40 (by decide) _ (by omega) (by omega) ?_
    have e:(x/4294967296/256).toNat=x.toNat/1099511627776:=by omega
    rw[e]
    exact Lib.bitLen_shift40 x.toNat (by omega) (by omega))
  |(refine Q1Q x (x/4294967296) 32 (by decide) _ (by omega) (by omega) ?_
    have e:(x/4294967296).toNat=x.toNat/4294967296:=by omega
    rw[e]
    exact Lib.bitLen_shift32 x.toNat (by omega) (by omega))
  |(refine Q1Q x (x/65536/256) 24 (by decide) _ (by omega) (by omega) ?_
    have e:(x/65536/256).toNat=x.toNat/16777216:=by omega
    rw[e]
    exact Lib.bitLen_shift24 x.toNat (by omega) (by omega))
  |(refine Q1Q x (x/65536) 16 (by decide) _ (by omega) (by omega) ?_
    have e:(x/65536).toNat=x.toNat/65536:=by omega
    rw[e]
    exact Lib.bitLen_shift16 x.toNat (by omega) (by omega))
  |(refine Q1Q x (x/256) 8 (by decide) _ (by omega) (by omega) ?_
    have e:(x/256).toNat=x.toNat/256:=by omega
    rw[e]
    exact Lib.bitLen_shift8 x.toNat (by omega) (by omega))
  |exact Q9H x _ (by omega) (by omega)
theorem Q0O (a:Addr) (n:Nat):(a.add n).block=a.block:=by unfold Addr.add;split<;>rfl
theorem Qc1 (a:Addr) (i j:Nat):(a.add i).add j=a.add (i+j):=by
 unfold Addr.add;by_cases hi:i=0<;>by_cases hj:j=0<;>simp[hi,hj,Nat.add_assoc]
def Reads (w:World) (B size:Nat) (A:Option Addr) (n:Nat) (xs:List Value):Prop:=
 xs.length=n*size/\(0<n->∃ad,A=some ad/\ad.block<B/\∀j u,xs[j]? =some u->w.cell? (ad.add j)=some u)
section
variable {w w':World} {B B' size n:Nat} {A:Option Addr} {xs:List Value}
theorem Reads.none_:Reads w B size A 0 []:=⟨by simp,fun h=>absurd h (by omega)⟩
theorem Reads.keep (h:Reads w B size A n xs) (hk:∀p:Addr,p.block<B->w'.cell? p=w.cell? p):Reads w' B size A n xs:=
 ⟨h.1,fun hn=>by
  obtain ⟨ad,e,hb,hc⟩:=h.2 hn;exact ⟨ad,e,hb,fun j u hu=>(hk _ (by rw[Q0O];exact hb)).trans (hc j u hu)⟩⟩
theorem Reads.more (h:Reads w B size A n xs) (hB:B<=B'):Reads w B' size A n xs:=
 ⟨h.1,fun hn=>by
  obtain ⟨ad,e,hb,hc⟩:=h.2 hn;exact ⟨ad,e,by omega,hc⟩⟩
theorem Reads.below (h:Reads w B size A n xs) (hb:Below B w w'):Reads w' B size A n xs:=h.keep fun _ hp=>hb.cell hp
theorem Reads.drew (h:Reads w B size A n xs):Reads w.drew B size A n xs:=h
theorem Reads.alloc (h:Reads w B size A n xs) (hB:B<=w.heap.size) (o:Obj):Reads (w.alloc o) B size A n xs:=h.keep fun p hp=>World.cell?_alloc_lt w o p (by omega)
theorem Reads.cut (h:Reads w B size A n xs) {k cap:Nat} (hk:k<=n) (hc:n<=cap):
  Reads w B size (if cap=k then A else A.map (·.add (k*size))) (n-k) (xs.drop (k*size)):=by
 refine ⟨by rw[List.length_drop,h.1,Nat.sub_mul],fun hn=> ?_⟩;obtain ⟨ad,rfl,hb,hcell⟩:=h.2 (by omega)
 rw[if_neg (by omega)]
 refine ⟨ad.add (k*size),rfl,by rw[Q0O];exact hb,fun j u hu=> ?_⟩
 rw[Qc1]
 exact hcell _ u (by rw[<-hu,List.getElem?_drop])
theorem Reads.of_own {base:Nat} {e:TypeId} {c:Nat} (h:w.ownsRow base e size (.slice A n c) n xs):Reads w w.heap.size size A n xs:=by
 refine ⟨h.1,fun hn=> ?_⟩;obtain ⟨g,cap,hv,_,hlt⟩:=h.form hn;have hA:A=some ⟨g,0,none⟩:=by injection hv
 subst hA;exact ⟨_,rfl,hlt,h.cells (g:=g) rfl⟩
end
def Blk (w:World) (g:Nat) (t:TypeId) (cs:Array Value):Prop:=w.heap[g]? =some (.cells cs t (0,0))
section
variable {w w':World} {g:Nat} {t:TypeId} {cs:Array Value}
theorem Blk.lt (h:Blk w g t cs):g<w.heap.size:=by
 rcases Nat.lt_or_ge g w.heap.size with hlt|hge
 ·exact hlt
 ·unfold Blk at h;rw[Array.getElem?_eq_none hge] at h;cases h
theorem Blk.cell (h:Blk w g t cs) (i:Nat):w.cell? ⟨g,i,none⟩=cs[i]? :=cell_of_row w g i cs t (0,0) h
theorem Blk.frozen (h:Blk w g t cs) (i:Nat):w.frozen? ⟨g,i,none⟩=false:=by
 unfold Blk at h;simp[World.frozen?,h]
theorem Blk.new (w:World) (t:TypeId) (cs:Array Value):Blk (w.alloc (.cells cs t)) w.heap.size t cs:=heap_alloc_new w _
theorem Blk.drew (h:Blk w g t cs):Blk w.drew g t cs:=h
theorem Blk.drewN (h:Blk w g t cs) (n:Nat):Blk (w.drewN n) g t cs:=h
theorem Blk.alloc (h:Blk w g t cs) (o:Obj):Blk (w.alloc o) g t cs:=(Below.heap_alloc w o g h.lt).trans h
theorem Blk.set_ (h:Blk w g t cs) (i:Nat) (u:Value):Blk (w.setCell ⟨g,i,none⟩ u) g t (cs.setIfInBounds i u):=by
 unfold Blk at h|-;simp[World.setCell,Array.getElem?_modify,h]
theorem Blk.far (h:Blk w g t cs) {p:Addr} (hp:g≠p.block) (u:Value):Blk (w.setCell p u) g t cs:=(Below.heap_setCell w p u g hp).trans h
theorem Blk.below {B:Nat} (h:Blk w g t cs) (hb:Below B w w') (hg:g<B):Blk w' g t cs:=(hb.block g hg).trans h
theorem Blk.grown {row:Option Nat} (h:Blk w g t cs) (hb:w.grownBy w' row) (hg:some g≠row):Blk w' g t cs:=(hb.block g h.lt hg).trans h
theorem Blk.ne_ {g':Nat} {t':TypeId} {cs':Array Value} (h:Blk w g t cs) (h':Blk w g' t' cs') (hne:t≠t'):g≠g':=by
 rintro rfl;unfold Blk at h h'
 rw[h] at h'
 injection h' with h';injection h' with _ ht;exact hne ht
theorem Q0o {base:Nat} {e:TypeId} {size n:Nat} {v:Value} {xs:List Value} (h:w.ownsRow base e size v n xs) (hg:Blk w g t cs) (hne:e≠t):v.ownBlock≠some g:=by
 rcases h.2 with ⟨rfl,_⟩|⟨g',cap,cur,rfl,_,hh,_⟩
 ·simp[Value.ownBlock]
 ·intro he;have:g'=g:=by simpa[Value.ownBlock] using he
  subst this;exact Blk.ne_ (t:=e) hh hg hne rfl
end
section
variable {P:Program} (w:World)
theorem Q4O (base:Nat) (t ty e:TypeId) (i:TypeInfo) (size:Nat) (ht:P.underlying t=some (.slice e)) (hi:P.info? e=some i)
  (v:Value) (n:Nat) (xs:List Value) (hown:w.ownsRow base e size v n xs) (c:Nat):(Builtin.append_ #[t,t] ty #[v,.slice none 0 c]).run P w=.ok v w:=by
 rcases hown.2 with ⟨rfl,rfl⟩|⟨g,cap,cur,rfl,_,_,hnc,_⟩
 ·simp[Builtin.append_,run_underlying ht,sizeOf,typeInfo,hi,Builtin.lenOf,Builtin.firstCells]
 ·simp[Builtin.append_,run_underlying ht,sizeOf,typeInfo,hi,Builtin.lenOf,Builtin.firstCells,hnc,storeCells]
theorem Q6B (base:Nat) (t ty e:TypeId) (i:TypeInfo) (z:Value) (size bytes:Nat) (ht:P.underlying t=some (.slice e)) (hi:P.info? e=some i) (hz:i.zero=some z)
  (hsize:i.size=size) (hby:i.bytes=bytes) (hzs:z.cells.size=size) (hsz:0<size)
  (v:Value) (n:Nat) (xs:List Value) (hown:w.ownsRow base e size v n xs)
  (B:Nat) (A:Option Addr) (m c:Nat) (news:List Value) (hr:Reads w B size A m news) (h1:∀u∈news,u.oneCell'=true)
  (h63:n+m<=maxLen) (hbytes:(n+m)*bytes<=140737488355328) (hbase:base<=w.heap.size):
  ∃v' w',(Builtin.append_ #[t,t] ty #[v,.slice A m c]).run P w=.ok v' w'/\w'.ownsRow base e size v' (n+m) (xs++news)/\w.grownBy w' v.ownBlock/\
   (v'.ownBlock=v.ownBlock\/v'.ownBlock=some w.heap.size):=by
 rcases A with _|ad
 ·have hm:m=0:=by
   rcases Nat.eq_zero_or_pos m with h0|h0
   ·exact h0
   ·obtain ⟨ad,h,_⟩:=hr.2 h0
    cases h
  subst hm;have hn:news=[]:=List.eq_nil_of_length_eq_zero (by simpa using hr.1);subst hn;exact ⟨v,w,Q4O w base t ty e i size ht hi v n xs hown c,by simpa using hown,World.grownBy.refl w _,.inl rfl⟩
 ·have hcells:∀j u,news[j]? =some u->w.cell? (ad.add j)=some u:=by
   intro j u hu
   rcases Nat.eq_zero_or_pos m with h0|h0
   ·subst h0;have hn:news=[]:=List.eq_nil_of_length_eq_zero (by simpa using hr.1);subst hn;simp at hu
   ·obtain ⟨ad',h,_,hc⟩:=hr.2 h0;injection h with h;subst h;exact hc j u hu
  obtain ⟨v',w',hrun,h2,h3,_,h5⟩:=run_append_own_at (P:=P) w base t ty e i z size bytes ht hi hz hsize hby hzs hsz v n xs hown ad m c news hr.1 hcells h1 h63 hbytes hbase;exact ⟨v',w',hrun,h2,h3,h5⟩
theorem Q7k {o:Oper} {a:Act} {K:Act->World->Prop} {Q:Exit->Act->World->Prop} (s x:Operand) (t:TypeId)
  (ho:o.op=.call {callee:=.builtin .append,args:=#[s,x],argTypes:=#[t,t]})
  (base:Nat) (e:TypeId) (i:TypeInfo) (z:Value) (size bytes:Nat) (ht:P.underlying t=some (.slice e)) (hi:P.info? e=some i) (hz:i.zero=some z)
  (hsize:i.size=size) (hby:i.bytes=bytes) (hzs:z.cells.size=size) (hsz:0<size)
  (v:Value) (n:Nat) (xs:List Value) (hs:a.eval s=v) (hown:w.ownsRow base e size v n xs)
  (B:Nat) (A:Option Addr) (m c:Nat) (news:List Value) (hx:a.eval x=.slice A m c) (hr:Reads w B size A m news) (h1:∀u∈news,u.oneCell'=true)
  (h63:n+m<=maxLen) (hbytes:(n+m)*bytes<=140737488355328) (hbase:base<=w.heap.size)
  (h:∀v' w',w'.ownsRow base e size v' (n+m) (xs++news)->w.grownBy w' v.ownBlock->(v'.ownBlock=v.ownBlock\/v'.ownBlock=some w.heap.size)->K (a.put o.dst v') w'):o.wp P a w K Q:=by
 obtain ⟨v',w',hrun,h2,h3,h4⟩:=Q6B (P:=P) w base t o.type e i z size bytes ht hi hz hsize hby hzs hsz v n xs hown B A m c news hr h1 h63 hbytes hbase;unfold Oper.wp execOp;simp only[ho,resolve,invoke,builtin,Sem.run_bind,Sem.run_pure,Result.andThen_ok,List.map_toArray,List.map_cons,List.map_nil,hs,hx,hrun];exact h v' w' h2 h3 h4
theorem Q09 {ops:Array Oper} {rest:List Oper} {o:Oper} {a:Act} {Q:Exit->Act->World->Prop} (hgd:o.guard=none) (s x:Operand) (t:TypeId)
  (ho:o.op=.call {callee:=.builtin .append,args:=#[s,x],argTypes:=#[t,t]})
  (base:Nat) (e:TypeId) (i:TypeInfo) (z:Value) (size bytes:Nat) (ht:P.underlying t=some (.slice e)) (hi:P.info? e=some i) (hz:i.zero=some z)
  (hsize:i.size=size) (hby:i.bytes=bytes) (hzs:z.cells.size=size) (hsz:0<size)
  (v:Value) (n:Nat) (xs:List Value) (hs:a.eval s=v) (hown:w.ownsRow base e size v n xs)
  (B:Nat) (A:Option Addr) (m c:Nat) (news:List Value) (hx:a.eval x=.slice A m c) (hr:Reads w B size A m news) (h1:∀u∈news,u.oneCell'=true)
  (h63:n+m<=maxLen) (hbytes:(n+m)*bytes<=140737488355328) (hbase:base<=w.heap.size)
  (h:∀v' w',w'.ownsRow base e size v' (n+m) (xs++news)->w.grownBy w' v.ownBlock->(v'.ownBlock=v.ownBlock\/v'.ownBlock=some w.heap.size)->wpList P ops Q rest (a.put o.dst v') w'):wpList P ops Q (o::rest) a w:=
 wpList_plain hgd fun _ hK=>Q7k w s x t ho base e i z size bytes ht hi hz hsize hby hzs hsz v n xs hs hown B A m c news hx hr h1 h63 hbytes hbase fun v' w' h2 h3 h4=>hK _ _ (h v' w' h2 h3 h4)
end
def IntsAt (w:World) (B:Nat) (A:Option Addr) (q:List Int):Prop:=Reads w B 1 A q.length (q.map (Value.int .i64))
theorem IntsAt.cells {w:World} {B:Nat} {A:Option Addr} {q:List Int} (h:IntsAt w B A q) (hl:0<q.length):∃ad,A=some ad/\ad.block<B/\∀k,k<q.length->w.cell? (ad.add k)=some (.int .i64 (keyAt q k)):=by
 obtain ⟨ad,e,hb,hc⟩:=h.2 hl;refine ⟨ad,e,hb,fun k hk=>hc k _ ?_⟩;unfold keyAt
 rw[List.getElem?_map,List.getD_eq_getElem?_getD,List.getElem?_eq_getElem hk]
 rfl
theorem QfB {B:Nat} {a w:World} (h:Below B a w) (n:Nat):Below B a (w.drewN n):=h.trans ⟨rfl,rfl,rfl,Nat.le_refl _,fun _ _=>rfl⟩
theorem IntsAt.alloc {w:World} {B:Nat} {A:Option Addr} {q:List Int} (h:IntsAt w B A q) (hB:B<=w.heap.size) (o:Obj):IntsAt (w.alloc o) B A q:=Reads.alloc h hB o
theorem IntsAt.below {w w':World} {B:Nat} {A:Option Addr} {q:List Int} (h:IntsAt w B A q) (hb:Below B w w'):IntsAt w' B A q:=Reads.below h hb
theorem IntsAt.more {w:World} {B B':Nat} {A:Option Addr} {q:List Int} (h:IntsAt w B A q) (hb:B<=B'):IntsAt w B' A q:=Reads.more h hb
theorem Q1D {P:Program} {f:FuncId} {args:Array Value} {w:World} {n:Nat} {v:Value}
  (h:Calls P f args (w.drewN n) fun e w'=>e=.returned v/\w.drewN n=w'):Calls P f args (w.drewN n) fun e w''=>e=.returned v/\∃m,w''=w.drewN m:=
 h.mono fun _ _ ⟨he,hm⟩=>⟨he,n,hm.symm⟩
theorem Q3d {w w0:World} (h:Drawn w w0):Below w.heap.size w w0/\w.heap.size<=w0.heap.size:=by
 obtain ⟨n,rfl⟩:=h;exact ⟨QfB (Below.refl _ _) _,Nat.le_refl _⟩
theorem QeR (n:Int):bits .and .i64 n 7=n%8:=by
 have h7:(BitVec.ofInt 64 7).toNat=2^3-1:=by decide
 have key:(BitVec.ofInt 64 n&&&BitVec.ofInt 64 7).toNat=(n%((2^64:Nat):Int)).toNat%2^3:=by
  rw[BitVec.toNat_and,BitVec.toNat_ofInt,h7,Nat.and_two_pow_sub_one_eq_mod]
 show IntKind.i64.wrap ((BitVec.ofInt 64 n&&&BitVec.ofInt 64 7).toNat:Nat)=n%8
 rw[key,IntKind.wrap_i64]
 omega
def QfW (k a:Int):Bool:=decide (1<=k/\k<=5/\1<=a/\a<=65536)
theorem Qaj {k a:Int} (h:QfW k a=true):1<=k/\k<=5/\1<=a/\a<=65536:=of_decide_eq_true h
theorem Q4W {k a:Int} (h1:1<=k) (h2:k<=5) (h3:1<=a) (h4:a<=65536):QfW k a=true:=decide_eq_true ⟨h1,h2,h3,h4⟩
theorem Q2D {k a:Int} (h:¬(1<=k/\k<=5/\1<=a/\a<=65536)):QfW k a=false:=decide_eq_false h
def wB (x:Int):Bool:=decide (0<=x)&&QfW (x%8) (x/8)
def Q05 (x:Int):Int:=if wB x=true then x%8 else 0
def wAt (x:Int):Int:=if wB x=true then x/8 else 0
def wOf (k a:Int):Int:=if QfW k a=true then a*8+k else 0
theorem Q5G {x:Int} (h:wB x=true):9<=x/\x<=524293/\1<=x%8/\x%8<=5/\1<=x/8/\x/8<=65536:=by
 unfold wB at h
 rw[Bool.and_eq_true] at h
 have h1:=of_decide_eq_true h.1;have h2:=Qaj h.2;omega
theorem Q0D (x:Int):0<=wAt x/\wAt x<=65536:=by
 unfold wAt
 split
 ·rename_i h;have:=Q5G h;omega
 ·omega
theorem Qcd (k a:Int):0<=wOf k a/\wOf k a<=524293:=by
 unfold wOf
 split
 ·rename_i h;have:=Qaj h;omega
 ·omega
theorem QcZ (k a:Int) (w:World):Calls Tryz.prog 144 #[.int .i64 k,.int .i64 a] w fun e w'=>e=.returned (.bool (QfW k a))/\w=w':=by
 by_cases h1:1<=k
 ·by_cases h2:k<=5
  ·by_cases h3:1<=a
   ·by_cases h4:a<=65536
    ·have HB:=LH (Q4W h1 h2 h3 h4);go_enter Tryz.func144,Tryz.ntmps144;go_wp2_with (fail);go_ret
     rw[HB.out]
     exact ⟨rfl,rfl⟩
    ·have HB:=LH (Q2D (k:=k) (a:=a) (by omega));have g:¬a<=65536:=h4;go_enter Tryz.func144,Tryz.ntmps144;go_wp2_with (fail);go_ret
     rw[HB.out]
     exact ⟨rfl,rfl⟩
   ·have HB:=LH (Q2D (k:=k) (a:=a) (by omega));go_enter Tryz.func144,Tryz.ntmps144;go_wp2_with (fail);go_ret
    rw[HB.out]
    exact ⟨rfl,rfl⟩
  ·have HB:=LH (Q2D (k:=k) (a:=a) (by omega));go_enter Tryz.func144,Tryz.ntmps144;go_wp2_with (fail);go_ret
   rw[HB.out]
   exact ⟨rfl,rfl⟩
 ·have HB:=LH (Q2D (k:=k) (a:=a) (by omega));go_enter Tryz.func144,Tryz.ntmps144;go_wp2_with (fail);go_ret
  rw[HB.out]
  exact ⟨rfl,rfl⟩
theorem Q8J (x:Int) (w:World) (x0:-9223372036854775808<=x) (x1:x<=9223372036854775807):Calls Tryz.prog 178 #[.int .i64 x] w fun e w'=>e=.returned (.tuple #[.int .i64 (Q05 x),.int .i64 (wAt x),.bool (wB x)])/\w=w':=by
 by_cases h1:0<=x
 ·by_cases h2:x<=524296
  ·have e7:=QeR x;have e1:0<=x%8/\x%8<=7:=by omega
   have e2:0<=x/8/\x/8<=65537:=by omega
   cases hb:QfW (x%8) (x/8) with
   |true=>
    have HW:=LH (show wB x=true by unfold wB;rw[hb,decide_eq_true h1];rfl);have HB:=LH hb;clear hb;go_enter Tryz.func178,Tryz.ntmps178;go_wp2_with (fail);with_reducible refine (QcZ _ _ _).mono ?_
    rintro e w1 ⟨rfl,rfl⟩
    rw[HB.out]
    go_wp2_with (fail)
    go_ret3
    have e:=HW.out;unfold Q05 wAt
    rw[e,if_pos rfl,if_pos rfl]
    exact ⟨rfl,rfl⟩
   |false=>
    have HW:=LH (show wB x=false by unfold wB;rw[hb,Bool.and_false]);have HB:=LH hb;clear hb;go_enter Tryz.func178,Tryz.ntmps178;go_wp2_with (fail);with_reducible refine (QcZ _ _ _).mono ?_
    rintro e w1 ⟨rfl,rfl⟩
    rw[HB.out]
    go_wp2_with (fail)
    go_ret3
    have e:=HW.out;unfold Q05 wAt
    rw[e,if_neg Bool.false_ne_true,if_neg Bool.false_ne_true]
    exact ⟨rfl,rfl⟩
  ·have HW:=LH (show wB x=false by
    cases h:wB x with
    |false=>rfl
    |true=>have:=Q5G h;omega)
   have h3:524296<x:=by omega
   clear h2;go_enter Tryz.func178,Tryz.ntmps178;go_wp2_with (fail)
   go_ret3
   have e:=HW.out;unfold Q05 wAt
   rw[e,if_neg Bool.false_ne_true,if_neg Bool.false_ne_true]
   exact ⟨rfl,rfl⟩
 ·have HW:=LH (show wB x=false by
   cases h:wB x with
   |false=>rfl
   |true=>have:=Q5G h;omega)
  go_enter Tryz.func178,Tryz.ntmps178;go_wp2_with (fail)
  go_ret3
  have e:=HW.out;unfold Q05 wAt
  rw[e,if_neg Bool.false_ne_true,if_neg Bool.false_ne_true]
  exact ⟨rfl,rfl⟩
theorem Q3R (x:Int) (w:World) (x0:-9223372036854775808<=x) (x1:x<=9223372036854775807):Calls Tryz.prog 138 #[.int .i64 x] w fun e w'=>e=.returned (.int .i64 (Q05 x))/\w=w':=by
 go_enter Tryz.func138,Tryz.ntmps138;go_wp2_with (fail);with_reducible refine (Q8J _ _ x0 x1).mono ?_
 rintro e w1 ⟨rfl,rfl⟩;go_wp2_with (fail);go_ret;exact ⟨rfl,rfl⟩
theorem Q2U (x:Int) (w:World) (x0:-9223372036854775808<=x) (x1:x<=9223372036854775807):Calls Tryz.prog 121 #[.int .i64 x] w fun e w'=>e=.returned (.int .i64 (wAt x))/\w=w':=by
 go_enter Tryz.func121,Tryz.ntmps121;go_wp2_with (fail);with_reducible refine (Q8J _ _ x0 x1).mono ?_
 rintro e w1 ⟨rfl,rfl⟩;go_wp2_with (fail);go_ret;exact ⟨rfl,rfl⟩
structure Mv (b:Nat) (r:Option Nat) (w w':World):Prop where
 os:w'.os=w.os
 tape:w'.tape=w.tape
 output:w'.output=w.output
 size:w.heap.size<=w'.heap.size
 block:∀k,k<w.heap.size->k≠b->some k≠r->w'.heap[k]? =w.heap[k]?
theorem Mv.of_grown {b:Nat} {r:Option Nat} {w w':World} (h:w.grownBy w' r) (u:Value):Mv b r w (w'.setCell ⟨b,0,none⟩ u):=
 ⟨h.os,h.tape,h.output,by simpa using h.size,fun k hk hb hr=>(Below.heap_setCell w' _ u k (by simpa using hb)).trans (h.block k hk hr)⟩
theorem Mv.blk {b:Nat} {r:Option Nat} {w w':World} (h:Mv b r w w') {g:Nat} {t:TypeId} {cs:Array Value} (hB:Blk w g t cs) (h1:g≠b) (h2:some g≠r):Blk w' g t cs:=(h.block g hB.lt h1 h2).trans hB
theorem Mv.own {b:Nat} {r:Option Nat} {w w':World} (h:Mv b r w w') {base:Nat} {e:TypeId} {size n:Nat} {v:Value} {xs:List Value} (hO:w.ownsRow base e size v n xs) (h1:v.ownBlock≠some b) (h2:v.ownBlock=none\/v.ownBlock≠r):w'.ownsRow base e size v n xs:=by
 refine ⟨hO.1, ?_⟩
 rcases hO.2 with hn|⟨g,cap,cur,rfl,hb,hgg,rest⟩
 ·exact .inl hn
 ·refine .inr ⟨g,cap,cur,rfl,hb, ?_,rest⟩
  rw[h.block g (Array.getElem?_eq_some_iff.1 hgg).1 (fun e=>h1 (by simp[Value.ownBlock,e])) (by simpa[Value.ownBlock] using h2)]
  exact hgg
theorem Q03 {w:World} {base n:Nat} {e:TypeId} {size:Nat} {v:Value} {xs:List Value} (hO:w.ownsRow base e size v n xs):∃A c,v=.slice A n c:=by
 rcases hO.2 with ⟨rfl,rfl⟩|⟨g,cap,cur,rfl,_⟩
 ·exact ⟨_,_,rfl⟩
 ·exact ⟨_,_,rfl⟩
theorem Q08 {w w':World} (h:Drawn w w') (B:Nat):Below B w w':=by
 obtain ⟨n,rfl⟩:=h;exact ⟨rfl,rfl,rfl,Nat.le_refl _,fun _ _=>rfl⟩
theorem Mv.after {b:Nat} {r:Option Nat} {w V w':World} (h:Below w.heap.size w V) (k:Mv b r V w'):Mv b r w w':=
 ⟨k.os.trans h.os,k.tape.trans h.tape,k.output.trans h.output,Nat.le_trans h.size k.size,fun i hi h1 h2=>(k.block i (Nat.lt_of_lt_of_le hi h.size) h1 h2).trans (h.block i hi)⟩
theorem QfU {w:World} {base n c:Nat} {e:TypeId} {size:Nat} {A:Option Addr} {xs:List Value} (hO:w.ownsRow base e size (.slice A n c) n xs):n<=c:=by
 rcases hO.2 with ⟨h,h0⟩|⟨g,cap,cur,h,_,_,hle,_⟩
 ·omega
 ·injection h with _ _ hc;omega
theorem Q0n {base n:Nat} {e:TypeId} {size:Nat} {v:Value} {xs:List Value} {w w':World} (hO:w.ownsRow base e size v n xs) (hb:Below w.heap.size w w'):w'.ownsRow base e size v n xs:=
 hO.kept ⟨hb.os,hb.tape,hb.output,hb.size,fun k hk _=>hb.block k hk⟩ (row:=none) (by cases v.ownBlock<;>simp)
def Q2m (c:Int):Int:=wrap64 (c+1)
def rdC (C:List Int) (a:Int):Int:=if 1<=a/\a<=C.length then keyAt C (a.toNat-1) else 0
theorem Q5U {C:List Int} {a:Nat} (h1:1<=a) (h2:a<=C.length):rdC C a=keyAt C (a-1):=by
 unfold rdC;rw[if_pos (by omega),Int.toNat_natCast]
theorem Q4a {C:List Int} {a:Int} (h:a<1\/C.length<a):rdC C a=0:=if_neg (by omega)
structure MemP (B b:Nat) (v:Value) (C:List Int) (size count odd ref:Int) (w:World):Prop where
 blk:Blk w b 134 #[v,.int .i64 size,.int .i64 count,.int .i64 odd,.int .i64 ref]
 own:w.ownsRow B 2 1 v C.length (C.map (Value.int .i64))
 base:B<=b
theorem Q1h:(Tryz.prog.info? 2).map (fun i=>(i.zero,i.size,i.bytes))=some (some (.int .i64 0),1,8):=by kernel_rfl
section
variable {B b:Nat} {v:Value} {C:List Int} {size count odd ref:Int} {w w':World}
theorem MemP.below (h:MemP B b v C size count odd ref w) (hb:Below w.heap.size w w'):MemP B b v C size count odd ref w':=
 ⟨h.blk.below hb h.blk.lt,Q0n h.own hb,h.base⟩
theorem MemP.mv {b2:Nat} {r:Option Nat} (h:MemP B b v C size count odd ref w) (m:Mv b2 r w w') (h1:b≠b2) (h2:some b≠r) (h3:v.ownBlock≠some b2) (h4:v.ownBlock=none\/v.ownBlock≠r):MemP B b v C size count odd ref w':=
 ⟨m.blk h.blk h1 h2,m.own h.own h3 h4,h.base⟩
theorem MemP.apart (h:MemP B b v C size count odd ref w):v.ownBlock≠some b:=Q0o h.own h.blk (by decide)
theorem Mv.set1 (w:World) (b k:Nat) (u:Value):Mv b none w (w.setCell ⟨b,k,none⟩ u):=
 ⟨rfl,rfl,rfl,by simp,fun i _ h _=>Below.heap_setCell w _ _ i (by simpa using h)⟩
theorem Mv.trans_ {r:Option Nat} {w1:World} (h:Mv b r w w1) (k:Mv b r w1 w'):Mv b r w w':=
 ⟨k.os.trans h.os,k.tape.trans h.tape,k.output.trans h.output,Nat.le_trans h.size k.size,fun i hi h1 h2=>(k.block i (Nat.lt_of_lt_of_le hi h.size) h1 h2).trans (h.block i hi h1 h2)⟩
theorem MemP.set (h:MemP B b v C size count odd ref w) (k:Nat) (hk:k≠0) (u:Value) {size' count' odd' ref':Int} (he:(#[v,.int .i64 size,.int .i64 count,.int .i64 odd,.int .i64 ref]:Array Value).setIfInBounds k u=#[v,.int .i64 size',.int .i64 count',.int .i64 odd',.int .i64 ref']):MemP B b v C size' count' odd' ref' (w.setCell ⟨b,k,none⟩ u):=
 ⟨by have:=h.blk.set_ k u;rw[he] at this;exact this,ownsRow_setCell_other h.own (fun e=>h.apart (by simpa using e)) u,h.base⟩
end
theorem QaC (B b:Nat) (v:Value) (C:List Int) (size count odd ref a:Int) (w:World) (h:MemP B b v C size count odd ref w) (hC:C.length<=1000000) (a0:-9223372036854775808<=a) (a1:a<=9223372036854775807) (ha:a<1\/(C.length:Int)<a):
  Calls Tryz.prog 102 #[.pointer (some ⟨b,0,none⟩),.int .i64 a] w fun e w'=>e=.returned (.pointer none)/\MemP B b v C size (Q2m count) (Q2m odd) ref w'/\Mv b none w w':=by
 obtain ⟨A,c,rfl⟩:=Q03 h.own;have H:=LH ((h.set 2 (by decide) (.int .i64 (Q2m count)) rfl).set 3 (by decide) (.int .i64 (Q2m odd)) rfl);have c0:w.cell? ⟨b,2,none⟩=some (.int .i64 count):=h.blk.cell 2;have f0:=h.blk.frozen 2;have h1:=(h.set 2 (by decide) (.int .i64 (Q2m count)) rfl);have c1:(w.setCell ⟨b,2,none⟩ (.int .i64 (wrap64 (count+1)))).cell? ⟨b,0,none⟩=some (.slice A C.length c):=h1.blk.cell 0;have c2:(w.setCell ⟨b,2,none⟩ (.int .i64 (wrap64 (count+1)))).cell? ⟨b,3,none⟩=some (.int .i64 odd):=h1.blk.cell 3;have f2:(w.setCell ⟨b,2,none⟩ (.int .i64 (wrap64 (count+1)))).frozen? ⟨b,3,none⟩=false:=h1.blk.frozen 3;clear h h1;by_cases h0:a<1
 ·clear ha;go_enter Tryz.func102,Tryz.ntmps102;go_wp2_with (fail);go_ret;exact ⟨rfl,H.out,(Mv.set1 _ _ _ _).trans_ (Mv.set1 _ _ _ _)⟩
 ·have h2:(C.length:Int)<a:=by omega
  clear ha;go_enter Tryz.func102,Tryz.ntmps102;go_wp2_with (fail);go_ret;exact ⟨rfl,H.out,(Mv.set1 _ _ _ _).trans_ (Mv.set1 _ _ _ _)⟩
theorem QdN (B b:Nat) (v:Value) (C:List Int) (size count odd ref:Int) (a:Nat) (w:World) (h:MemP B b v C size count odd ref w) (hC:C.length<=1000000) (a0:1<=a) (a1:a<=C.length):
  Calls Tryz.prog 102 #[.pointer (some ⟨b,0,none⟩),.int .i64 a] w fun e w'=>∃g,e=.returned (.pointer (some ⟨g,a-1,none⟩))/\v.ownBlock=some g/\MemP B b v C size (Q2m count) odd ref w'/\Mv b none w w':=by
 obtain ⟨g,c,rfl,_,_⟩:=h.own.form (by omega);obtain ⟨k,rfl⟩:∃k,a=k+1:=⟨a-1,by omega⟩;have H:=LH (h.set 2 (by decide) (.int .i64 (Q2m count)) rfl);have c0:w.cell? ⟨b,2,none⟩=some (.int .i64 count):=h.blk.cell 2;have f0:=h.blk.frozen 2;have h1:=(h.set 2 (by decide) (.int .i64 (Q2m count)) rfl);have c1:(w.setCell ⟨b,2,none⟩ (.int .i64 (wrap64 (count+1)))).cell? ⟨b,0,none⟩=some (.slice (some ⟨g,0,none⟩) C.length c):=h1.blk.cell 0;have e1:(k:Int)+1-1=k:=by omega
 clear h h1;go_enter Tryz.func102,Tryz.ntmps102;go_wp2_with (fail);go_ret;exact ⟨g,rfl,rfl,H.out,Mv.set1 _ _ _ _⟩
theorem Q28 (B b:Nat) (v:Value) (C:List Int) (size count odd ref a:Int) (w:World) (h:MemP B b v C size count odd ref w) (hC:C.length<=1000000) (a0:-9223372036854775808<=a) (a1:a<=9223372036854775807):
  Calls Tryz.prog 91 #[.pointer (some ⟨b,0,none⟩),.int .i64 a] w fun e w'=>e=.returned (.int .i64 (rdC C a))/\MemP B b v C size (Q2m count) (if 1<=a/\a<=C.length then odd else Q2m odd) ref w'/\Mv b none w w':=by
 by_cases ha:1<=a/\a<=C.length
 ·obtain ⟨k,rfl⟩:∃k:Nat,a=k:=⟨a.toNat,by omega⟩;have HR:=LH (Q5U (C:=C) (a:=k) (by omega) (by omega))
  rw[if_pos ha]
  have HH:=LH h;obtain ⟨k1,k2⟩:=ha;clear h;go_enter Tryz.func91,Tryz.ntmps91;go_wp2_with (fail);with_reducible refine (QdN B b v C size count odd ref k w HH.out hC (by omega) (by omega)).mono ?_
  rintro e w1 ⟨g,rfl,hv,h1,m1⟩
  have hx:w1.cell? ⟨g,k-1,none⟩=some (.int .i64 (keyAt C (k-1))):=by
   obtain ⟨g',c,rfl,_,_⟩:=h1.own.form (by omega);have:g'=g:=by simpa[Value.ownBlock] using hv
   subst this
   rw[h1.own.cellAt (k-1) (by simp;omega)]
   rw[List.getElem?_map,List.getElem?_eq_getElem (by omega)]
   simp[keyAt,List.getD_eq_getElem?_getD,List.getElem?_eq_getElem (show k-1<C.length by omega)]
  have H1:=LH h1;have M1:=LH m1;clear h1 m1 hv;go_wp2_with (fail);go_ret
  rw[HR.out]
  exact ⟨rfl,H1.out,M1.out⟩
 ·have HR:=LH (Q4a (C:=C) (a:=a) (by omega))
  rw[if_neg ha]
  have HH:=LH h;clear h;go_enter Tryz.func91,Tryz.ntmps91;go_wp2_with (fail);with_reducible refine (QaC B b v C size count odd ref a w HH.out hC a0 a1 (by omega)).mono ?_
  rintro e w1 ⟨rfl,h1,m1⟩;have H1:=LH h1;have M1:=LH m1;clear h1 m1 ha;go_wp2_with (fail);go_ret
  rw[HR.out]
  exact ⟨rfl,H1.out,M1.out⟩
structure Only (S:List Nat) (w w':World):Prop where
 os:w'.os=w.os
 tape:w'.tape=w.tape
 output:w'.output=w.output
 size:w.heap.size<=w'.heap.size
 block:∀k,k<w.heap.size->k∉S->w'.heap[k]? =w.heap[k]?
section
variable {S T:List Nat} {w w1 w':World}
theorem Only.refl (S:List Nat) (w:World):Only S w w:=⟨rfl,rfl,rfl,Nat.le_refl _,fun _ _ _=>rfl⟩
theorem Only.trans (h:Only S w w1) (k:Only S w1 w'):Only S w w':=
 ⟨k.os.trans h.os,k.tape.trans h.tape,k.output.trans h.output,Nat.le_trans h.size k.size,fun i hi h1=>(k.block i (Nat.lt_of_lt_of_le hi h.size) h1).trans (h.block i hi h1)⟩
theorem Only.of_below (h:Below w.heap.size w w'):Only S w w':=⟨h.os,h.tape,h.output,h.size,fun k hk _=>h.block k hk⟩
theorem Only.of_mv {b:Nat} (h:Mv b none w w') (hb:b∈S):Only S w w':=⟨h.os,h.tape,h.output,h.size,fun k hk hn=>h.block k hk (fun e=>hn (e▸hb)) (by simp)⟩
theorem Only.of_mvr {b:Nat} {r:Option Nat} (h:Mv b r w w') (hb:b∈S) (hr:∀g,r=some g->g∈S):Only S w w':=⟨h.os,h.tape,h.output,h.size,fun k hk hn=>h.block k hk (fun e=>hn (e▸hb)) (fun e=>hn (hr k e.symm))⟩
theorem Only.below {B:Nat} (h:Only S w w') (hS:∀x∈S,B<=x) (hB:B<=w.heap.size):Below B w w':=⟨h.os,h.tape,h.output,h.size,fun k hk=>h.block k (by omega) (fun hm=>by have:=hS k hm;omega)⟩
end
structure RS where
 next:Int
 n:Int
 k:Int
 degree:Int
 i:Int
 first:Int
 child:Int
def Q18 (x:Int):Bool:=decide (0<=x)&&decide (x<=1099511627776)
def Q0j (n i:Int):Int:=if Q18 n=true/\Q18 i=true then n+4+i else 0
def Q06 (n d i:Int):Int:=if Q18 n=true/\Q18 d=true/\Q18 i=true then n+4+d+i else 0
def RS.init (n k:Int):RS:=⟨0,n,k,0,0,0,0⟩
def RS.ende (s:RS) (c:Int):RS:={s with child:=c,next:=6}
def RS.up (s:RS) (i:Int):RS:=if s.degree-1<=i then {s with i:=i,next:=6,child:=s.degree-1-1} else {s with i:=i,next:=4}
def RS.down (s:RS) (i:Int):RS:=if i<=1 then {s with i:=i,next:=6,child:=1} else {s with i:=i,next:=5}
def RS.guess (s:RS) (last:Int):RS:=
 if 1<Q0G s.first last s.k (s.degree-1) then {s with next:=3,i:=Q0G s.first last s.k (s.degree-1)} else s.up 2
def RS.key (s:RS) (q:Int):RS:=
 if s.next=1 then (if s.k<q then {s with first:=q,i:=s.degree-1,next:=6,child:=0} else if s.degree-1=1 then {s with first:=q,i:=s.degree-1,next:=6,child:=1} else {s with first:=q,i:=s.degree-1,next:=2})
 else if s.next=2 then (if s.k<q then s.guess q else s.ende (s.degree-1))
 else if s.next=3 then (if s.k<q then s.down (s.i-1) else s.up (s.i+1))
 else if s.next=4 then (if s.k<q then s.ende (s.i-1) else s.up (s.i+1))
 else if s.next=5 then (if s.k<q then s.down (s.i-1) else s.ende s.i)
 else s
def RS.step (R:Int->Int) (s:RS):RS:=
 if s.next=0 then (if R s.n<2 then {s with degree:=R s.n,i:=1,next:=6,child:=0} else {s with degree:=R s.n,i:=1,next:=1})
 else if s.next=6 then s
 else s.key (R (Q0j s.n s.i))
theorem RS.key1 {s:RS} (h:s.next=1) (q:Int):s.key q=if s.k<q then {s with first:=q,i:=s.degree-1,next:=6,child:=0} else if s.degree-1=1 then {s with first:=q,i:=s.degree-1,next:=6,child:=1} else {s with first:=q,i:=s.degree-1,next:=2}:=by
 unfold RS.key;rw[if_pos h]
theorem RS.key2 {s:RS} (h:s.next=2) (q:Int):s.key q=if s.k<q then s.guess q else s.ende (s.degree-1):=by
 unfold RS.key;rw[if_neg (by omega),if_pos h]
theorem RS.key3 {s:RS} (h:s.next=3) (q:Int):s.key q=if s.k<q then s.down (s.i-1) else s.up (s.i+1):=by
 unfold RS.key;rw[if_neg (by omega),if_neg (by omega),if_pos h]
theorem RS.key4 {s:RS} (h:s.next=4) (q:Int):s.key q=if s.k<q then s.ende (s.i-1) else s.up (s.i+1):=by
 unfold RS.key;rw[if_neg (by omega),if_neg (by omega),if_neg (by omega),if_pos h]
theorem RS.key5 {s:RS} (h:s.next=5) (q:Int):s.key q=if s.k<q then s.down (s.i-1) else s.ende s.i:=by
 unfold RS.key;rw[if_neg (by omega),if_neg (by omega),if_neg (by omega),if_neg (by omega),if_pos h]
theorem RS.step0 {R:Int->Int} {s:RS} (h:s.next=0):s.step R=if R s.n<2 then {s with degree:=R s.n,i:=1,next:=6,child:=0} else {s with degree:=R s.n,i:=1,next:=1}:=by
 unfold RS.step;rw[if_pos h]
theorem RS.stepK {R:Int->Int} {s:RS} (h:s.next≠0) (h':s.next≠6):s.step R=s.key (R (Q0j s.n s.i)):=by
 unfold RS.step;rw[if_neg h,if_neg h']
def RS.addr (s:RS):Int:=if s.next=0 then s.n else Q0j s.n s.i
structure RS.Inv (s:RS):Prop where
 n0:-9223372036854775808<=s.n
 n1:s.n<=9223372036854775807
 k0:-9223372036854775808<=s.k
 k1:s.k<=9223372036854775807
 g0:-9223372036854775808<=s.first
 g1:s.first<=9223372036854775807
 st:s.next=0\/s.next=6\/(1<=s.next/\s.next<=5/\2<=s.degree/\s.degree<=9223372036854775807/\1<=s.i/\s.i<=s.degree-1)
theorem Q4z (f l k n:Int) (h:1<=n):0<=Q0G f l k n/\(1<Q0G f l k n->Q0G f l k n<=n-1):=by
 by_cases c:n<2\/65536<n\/k<f\/l<=k
 ·rw[Q1i c];omega
 ·have:=Q4A (f:=f) (l:=l) (k:=k) (n:=n) (by omega) (by omega) (by omega) (by omega);omega
theorem RS.Inv.init {n k:Int} (n0:-9223372036854775808<=n) (n1:n<=9223372036854775807) (k0:-9223372036854775808<=k) (k1:k<=9223372036854775807):(RS.init n k).Inv:=
 ⟨n0,n1,k0,k1,by simp[RS.init],by simp[RS.init],.inl rfl⟩
theorem RS.Inv.up {s:RS} (h:s.Inv) (d0:2<=s.degree) (d1:s.degree<=9223372036854775807) {i:Int} (hi:1<=i):(s.up i).Inv:=by
 unfold RS.up
 split
 ·exact ⟨h.n0,h.n1,h.k0,h.k1,h.g0,h.g1,.inr (.inl rfl)⟩
 ·exact ⟨h.n0,h.n1,h.k0,h.k1,h.g0,h.g1,.inr (.inr ⟨by simp,by simp,d0,d1,hi,by simp;omega⟩)⟩
theorem RS.Inv.down {s:RS} (h:s.Inv) (d0:2<=s.degree) (d1:s.degree<=9223372036854775807) {i:Int} (hi:i<=s.degree-1):(s.down i).Inv:=by
 unfold RS.down
 split
 ·exact ⟨h.n0,h.n1,h.k0,h.k1,h.g0,h.g1,.inr (.inl rfl)⟩
 ·exact ⟨h.n0,h.n1,h.k0,h.k1,h.g0,h.g1,.inr (.inr ⟨by simp,by simp,d0,d1,by simp;omega,hi⟩)⟩
theorem RS.Inv.ende {s:RS} (h:s.Inv) (c:Int):(s.ende c).Inv:=⟨h.n0,h.n1,h.k0,h.k1,h.g0,h.g1,.inr (.inl rfl)⟩
theorem RS.Inv.key {s:RS} (h:s.Inv) (h0:s.next≠0) (h6:s.next≠6) {q:Int} (q0:-9223372036854775808<=q) (q1:q<=9223372036854775807):(s.key q).Inv:=by
 have st:1<=s.next/\s.next<=5/\2<=s.degree/\s.degree<=9223372036854775807/\1<=s.i/\s.i<=s.degree-1:=by rcases h.st with h|h|h<;>first|exact absurd h h0|exact absurd h h6|exact h
 obtain ⟨a1,a2,d0,d1,i0,i1⟩:=st;unfold RS.key
 split
 ·split
  ·exact ⟨h.n0,h.n1,h.k0,h.k1,q0,q1,.inr (.inl rfl)⟩
  ·split
   ·exact ⟨h.n0,h.n1,h.k0,h.k1,q0,q1,.inr (.inl rfl)⟩
   ·exact ⟨h.n0,h.n1,h.k0,h.k1,q0,q1,.inr (.inr ⟨by simp,by simp,d0,d1,by simp;omega,by simp⟩)⟩
 ·split
  ·split
   ·unfold RS.guess
    split
    ·rename_i hg;have:=Q4z s.first q s.k (s.degree-1) (by omega);exact ⟨h.n0,h.n1,h.k0,h.k1,h.g0,h.g1,.inr (.inr ⟨by simp,by simp,d0,d1,by simp;omega,by simp;omega⟩)⟩
    ·exact h.up d0 d1 (by omega)
   ·exact h.ende _
  ·split
   ·split
    ·exact h.down d0 d1 (by omega)
    ·exact h.up d0 d1 (by omega)
   ·split
    ·split
     ·exact h.ende _
     ·exact h.up d0 d1 (by omega)
    ·split
     ·split
      ·exact h.down d0 d1 (by omega)
      ·exact h.ende _
     ·exact h
theorem RS.Inv.step {s:RS} (h:s.Inv) {R:Int->Int} (hR:∀a,-9223372036854775808<=R a/\R a<=9223372036854775807):(s.step R).Inv:=by
 by_cases h0:s.next=0
 ·rw[RS.step0 h0]
  have:=hR s.n
  split
  ·exact ⟨h.n0,h.n1,h.k0,h.k1,h.g0,h.g1,.inr (.inl rfl)⟩
  ·exact ⟨h.n0,h.n1,h.k0,h.k1,h.g0,h.g1,.inr (.inr ⟨by simp,by simp,by simp;omega,by simp;omega,by simp,by simp;omega⟩)⟩
 ·by_cases h6:s.next=6
  ·unfold RS.step;rw[if_neg h0,if_pos h6];exact h
  ·rw[RS.stepK h0 h6];exact h.key h0 h6 (hR _).1 (hR _).2
theorem RS.step_done {R:Int->Int} {s:RS} (h:s.next=6):s.step R=s:=by
 unfold RS.step;rw[if_neg (by omega),if_pos h]
theorem Q0N {x:Int} (h:Q18 x=true):0<=x/\x<=1099511627776:=by
 unfold Q18 at h;simpa using h
theorem QeB {x:Int} (h:Q18 x=false):x<0\/1099511627776<x:=by
 unfold Q18 at h;simp at h;omega
theorem Q8L (x:Int) (w:World):Calls Tryz.prog 193 #[.int .i64 x] w fun e w'=>e=.returned (.bool (!Q18 x))/\w=w':=by
 cases h:Q18 x with
 |true=>
  obtain ⟨h1,h2⟩:=Q0N h;have b1:decide (x<0)=false:=by simp;omega
  have b2:decide (1099511627776<x)=false:=by simp;omega
  clear h;go_enter Tryz.func193,Tryz.ntmps193
  go_wp2
  go_ret;exact ⟨rfl,rfl⟩
 |false=>
  by_cases h1:x<0
  ·clear h;go_enter Tryz.func193,Tryz.ntmps193
   go_wp2
   go_ret;exact ⟨rfl,rfl⟩
  ·have h2:1099511627776<x:=by have:=QeB h;omega
   clear h;go_enter Tryz.func193,Tryz.ntmps193
   go_wp2
   go_ret;exact ⟨rfl,rfl⟩
def Qgl (L:List Int) (w:World) (e:Ending) (w':World):Prop:=∃j:Int,e=.returned (.int .i64 j)/\w=w'/\-1<=j/\j<=100/\(L.all Q18=true->j=-1)/\(L.all Q18=false->0<=j)
theorem Q81 {L:List Int} {k:Nat} (h:k<L.length) (ha:(L.take k).all Q18=true) (hk:Q18 (keyAt L k)=true):(L.take (k+1)).all Q18=true:=by
 rw[List.take_add_one,List.getElem?_eq_getElem h,List.all_append,ha]
 simpa[keyAt,List.getD_eq_getElem?_getD,h] using hk
theorem Qgg {L:List Int} {k:Nat} (h:k<L.length) (hk:Q18 (keyAt L k)=false):L.all Q18=false:=by
 rw[List.all_eq_false]
 exact ⟨L[k],List.getElem_mem _,by simpa[keyAt,List.getD_eq_getElem?_getD,h] using hk⟩
theorem QbA (A:Option Addr) (c B:Nat) (L:List Int) (w:World) (hq:IntsAt w B A L) (hl:L.length<=50):
  Calls Tryz.prog 225 #[.slice A L.length c,.func (.func 193) #[] #[]] w (Qgl L w):=by
 have HQ:=LH hq;clear hq;go_enter Tryz.func225,Tryz.ntmps225
 go_wp2
 go_loop [8] (fun i=>∃k:Nat,k<=L.length/\i=.int .i64 k/\Hid ((L.take k).all Q18=true)) (fun i=>L.length-(intOf i).toNat)
 case atStart=>exact ⟨0,by omega,rfl,LH rfl⟩
 case round=>
  obtain ⟨k,k1,rfl,ha⟩:=hrel;by_cases hlt:k<L.length
  ·obtain ⟨ad,rfl,hbl,hc⟩:=HQ.out.cells (by omega);have hx:=hc k hlt;have hS:=LH (fun h=>Q81 hlt ha.out h);have hN:=LH (fun h=>Qgg hlt h);obtain ⟨x,hxe⟩:∃x,keyAt L k=x:=⟨_,rfl⟩
   rw[hxe] at hx hS hN
   clear hc hxe
   cases hb:Q18 x with
   |true=>
    have hs:=LH (hS.out hb);clear hS hN ha;have HB:=LH hb;clear hb;go_wp2_with (fail);with_reducible refine (Q8L x _).mono ?_
    rintro e w1 ⟨rfl,rfl⟩;have hb:=HB.out;go_wp2_with (fail)
    go_round
    case rel=>exact ⟨k+1,by omega,by go_num,hs⟩
    case measure=>simp[intOf];omega
   |false=>
    have hs:=LH (hN.out hb);clear hS hN ha;have HB:=LH hb;clear hb;go_wp2_with (fail);with_reducible refine (Q8L x _).mono ?_
    rintro e w1 ⟨rfl,rfl⟩;have hb:=HB.out;go_wp2_with (fail);go_ret;exact ⟨k,rfl,rfl,by omega,by omega,fun h=>(by rw[hs.out] at h;cases h),fun _=>by omega⟩
  ·have hk:k=L.length:=by omega
   have hs:=LH (show L.all Q18=true by have:=ha.out;rw[hk,List.take_of_length_le (Nat.le_refl _)] at this;exact this);clear ha;go_wp2_with (fail);go_ret;exact ⟨-1,rfl,rfl,by omega,by omega,fun _=>rfl,fun h=>(by rw[hs.out] at h;cases h)⟩
theorem Q9a (A:Option Addr) (c B:Nat) (L:List Int) (w:World) (hq:IntsAt w B A L) (hl:L.length<=50):
  Calls Tryz.prog 192 #[.slice A L.length c,.func (.func 193) #[] #[]] w fun e w'=>e=.returned (.bool (!L.all Q18))/\w=w':=by
 have HQ:=LH hq;clear hq;go_enter Tryz.func192,Tryz.ntmps192;go_wp2_with (fail);with_reducible refine (QbA A c B L w HQ.out hl).mono ?_
 rintro e w1 ⟨j,rfl,rfl,j0,j1,ht,hf⟩
 cases hb:L.all Q18 with
 |true=>
  have e1:=ht hb;have HB:=LH hb;clear ht hf hb;subst e1;go_wp2_with (fail);go_ret
  rw[HB.out]
  exact ⟨rfl,rfl⟩
 |false=>
  have e1:=hf hb;have HB:=LH hb;clear ht hf hb;go_wp2_with (fail);go_ret
  rw[HB.out]
  exact ⟨rfl,rfl⟩
theorem Q5w (A:Option Addr) (c B N:Nat) (L:List Int) (w:World) (hN:N=L.length) (hq:IntsAt w B A L) (hl:L.length<=50):
  Calls Tryz.prog 152 #[.slice A N c] w fun e w'=>e=.returned (.bool (L.all Q18))/\w=w':=by
 subst hN;have HQ:=LH hq;clear hq;go_enter Tryz.func152,Tryz.ntmps152;go_wp2_with (fail);with_reducible refine (Q9a A c B L w HQ.out hl).mono ?_
 rintro e w1 ⟨rfl,rfl⟩
 cases hb:L.all Q18 with
 |true=>
  have HB:=LH hb;clear hb;go_wp2_with (fail);go_ret
  rw[HB.out]
  exact ⟨rfl,rfl⟩
 |false=>
  have HB:=LH hb;clear hb;go_wp2_with (fail);go_ret
  rw[HB.out]
  exact ⟨rfl,rfl⟩
theorem Q2a (w:World) (t:TypeId) (L:List Int):IntsAt (w.alloc (.cells (L.map (Value.int .i64)).toArray t)) (w.heap.size+1) (some ⟨w.heap.size,0,none⟩) L:=by
 refine ⟨by simp,fun _=>⟨_,rfl,Nat.lt_succ_self _,fun j u hu=> ?_⟩⟩;have e:(⟨w.heap.size,0,none⟩:Addr).add j=⟨w.heap.size,j,none⟩:=by unfold Addr.add;split<;>simp_all
 rw[e]
 have:=(Blk.new w t (L.map (Value.int .i64)).toArray).cell j
 rw[this]
 simpa using hu
theorem Q69 (n i:Int) (w:World):
  Calls Tryz.prog 94 #[.int .i64 n,.int .i64 i] w fun e w'=>e=.returned (.int .i64 (Q0j n i))/\Below w.heap.size w w':=by
 have hB:=(Below.refl w.heap.size w).alloc (Nat.le_refl _) (.cells #[.int .i64 n,.int .i64 i] 3);have hq0:IntsAt (w.alloc (.cells #[.int .i64 n,.int .i64 i] 3)) (w.heap.size+1) (some ⟨w.heap.size,0,none⟩) [n,i]:=Q2a w 3 [n,i];have HQ:=LH hq0;clear hq0
 cases hb:[n,i].all Q18 with
 |true=>
  have h2:Q18 n=true/\Q18 i=true:=by simpa using hb
  obtain ⟨a1,a2⟩:=Q0N h2.1;obtain ⟨a3,a4⟩:=Q0N h2.2;have HK:=LH (show Q0j n i=n+4+i from if_pos h2);have HB:=LH hb;clear hb h2;go_enter Tryz.func94,Tryz.ntmps94;go_wp2_with (fail);with_reducible refine (Q5w _ _ _ 2 [n,i] _ (by kernel_rfl) HQ.out (by simp)).mono ?_
  rintro e w1 ⟨rfl,rfl⟩
  rw[HB.out]
  go_wp2_with (fail);go_ret
  rw[HK.out]
  exact ⟨rfl,hB⟩
 |false=>
  have HK:=LH (show Q0j n i=0 from if_neg (fun h=>by simp[h.1,h.2] at hb));have HB:=LH hb;clear hb;go_enter Tryz.func94,Tryz.ntmps94;go_wp2_with (fail);with_reducible refine (Q5w _ _ _ 2 [n,i] _ (by kernel_rfl) HQ.out (by simp)).mono ?_
  rintro e w1 ⟨rfl,rfl⟩
  rw[HB.out]
  go_wp2_with (fail);go_ret
  rw[HK.out]
  exact ⟨rfl,hB⟩
theorem Q9S (n d i:Int) (w:World):
  Calls Tryz.prog 117 #[.int .i64 n,.int .i64 d,.int .i64 i] w fun e w'=>e=.returned (.int .i64 (Q06 n d i))/\Below w.heap.size w w':=by
 have hB:=(Below.refl w.heap.size w).alloc (Nat.le_refl _) (.cells #[.int .i64 n,.int .i64 d,.int .i64 i] 3);have hq0:IntsAt (w.alloc (.cells #[.int .i64 n,.int .i64 d,.int .i64 i] 3)) (w.heap.size+1) (some ⟨w.heap.size,0,none⟩) [n,d,i]:=Q2a w 3 [n,d,i];have HQ:=LH hq0;clear hq0
 cases hb:[n,d,i].all Q18 with
 |true=>
  have h2:Q18 n=true/\Q18 d=true/\Q18 i=true:=by simpa using hb
  obtain ⟨a1,a2⟩:=Q0N h2.1;obtain ⟨a3,a4⟩:=Q0N h2.2.1;obtain ⟨a5,a6⟩:=Q0N h2.2.2;have HK:=LH (show Q06 n d i=n+4+d+i from if_pos h2);have HB:=LH hb;clear hb h2;go_enter Tryz.func117,Tryz.ntmps117;go_wp2_with (fail);with_reducible refine (Q5w _ _ _ 3 [n,d,i] _ (by kernel_rfl) HQ.out (by simp)).mono ?_
  rintro e w1 ⟨rfl,rfl⟩
  rw[HB.out]
  go_wp2_with (fail);go_ret
  rw[HK.out]
  exact ⟨rfl,hB⟩
 |false=>
  have HK:=LH (show Q06 n d i=0 from if_neg (fun h=>by simp[h.1,h.2.1,h.2.2] at hb));have HB:=LH hb;clear hb;go_enter Tryz.func117,Tryz.ntmps117;go_wp2_with (fail);with_reducible refine (Q5w _ _ _ 3 [n,d,i] _ (by kernel_rfl) HQ.out (by simp)).mono ?_
  rintro e w1 ⟨rfl,rfl⟩
  rw[HB.out]
  go_wp2_with (fail);go_ret
  rw[HK.out]
  exact ⟨rfl,hB⟩
namespace Mul64
theorem maskN (a:Nat) (ha:a<18446744073709551616):bits .and .u64 (a:Int) 4294967295=((a%4294967296:Nat):Int):=by
 have h:=bits_and_u64_nat a 4294967295 ha (by omega);have e:a&&&4294967295=a%4294967296:=Nat.and_two_pow_sub_one_eq_mod a 32
 rw[e] at h
 exact h
theorem divN (a:Nat):(a:Int)/4294967296=((a/4294967296:Nat):Int):=by omega
theorem mulN (a b:Nat):(a:Int)*(b:Int)=((a*b:Nat):Int):=(Int.natCast_mul a b).symm
theorem addN (a b:Nat):(a:Int)+(b:Int)=((a+b:Nat):Int):=(Int.natCast_add a b).symm
theorem wrapN (a:Nat) (ha:a<18446744073709551616):IntKind.u64.wrap (a:Int)=(a:Int):=by rw[IntKind.wrap_u64];omega
theorem wrapM (a:Nat):IntKind.u64.wrap (a:Int)=((a%18446744073709551616:Nat):Int):=by rw[IntKind.wrap_u64];omega
end Mul64
theorem QcS (x y:Nat) (hx:x<18446744073709551616) (hy:y<18446744073709551616) (w:World):
  Calls Tryz.prog 257 #[.int .u64 x,.int .u64 y] w fun e w'=>e=.returned (.tuple #[.int .u64 ((x*y/18446744073709551616:Nat):Int),.int .u64 ((x*y%18446744073709551616:Nat):Int)])/\w=w':=by
 obtain ⟨bd,bt,bw,hhi⟩:=Lib.mul64_hi x y hx hy;have ba:=Lib.half_mul_le (a:=x/4294967296) (b:=y/4294967296) (by omega) (by omega);have bb:=Lib.half_mul_le (a:=x/4294967296) (b:=y%4294967296) (by omega) (by omega);have bc:=Lib.half_mul_le (a:=x%4294967296) (b:=y/4294967296) (by omega) (by omega);have ba':x/4294967296*(y/4294967296)<18446744073709551616:=by omega
 have bb':x/4294967296*(y%4294967296)<18446744073709551616:=by omega
 have bc':x%4294967296*(y/4294967296)<18446744073709551616:=by omega
 have bh1:x/4294967296*(y/4294967296)+(x/4294967296*(y%4294967296)+x%4294967296*(y%4294967296)/4294967296)/4294967296<18446744073709551616:=by omega
 have bh:x/4294967296*(y/4294967296)+(x/4294967296*(y%4294967296)+x%4294967296*(y%4294967296)/4294967296)/4294967296+((x/4294967296*(y%4294967296)+x%4294967296*(y%4294967296)/4294967296)%4294967296+x%4294967296*(y/4294967296))/4294967296<18446744073709551616:=by omega
 go_enter Tryz.func257,Tryz.ntmps257
 go_wp2
 simp only[Mul64.maskN x hx,Mul64.maskN y hy,Mul64.divN,Mul64.mulN,Mul64.addN,Mul64.wrapN _ bd,Mul64.wrapN _ bb',Mul64.wrapN _ bt,Mul64.maskN _ bt,Mul64.wrapN _ bc',Mul64.wrapN _ bw,Mul64.wrapN _ ba',Mul64.wrapN _ bh1,Mul64.wrapN _ bh,Mul64.wrapM (x*y)]
 rw[hhi]
 go_ret2
 exact ⟨rfl,rfl⟩
theorem QcT (x y:Int) (x0:0<=x) (x1:x<=18446744073709551615) (y0:0<=y) (y1:y<=18446744073709551615) (w:World):
  Calls Tryz.prog 257 #[.int .u64 x,.int .u64 y] w fun e w'=>e=.returned (.tuple #[.int .u64 (x*y/18446744073709551616),.int .u64 (x*y%18446744073709551616)])/\w=w':=by
 obtain ⟨m,rfl⟩:=Int.eq_ofNat_of_zero_le x0;obtain ⟨n,rfl⟩:=Int.eq_ofNat_of_zero_le y0;have h:=QcS m n (by omega) (by omega) w;have e1:((m*n/18446744073709551616:Nat):Int)=(m:Int)*n/18446744073709551616:=by rw[Int.natCast_ediv,Int.natCast_mul];rfl
 have e2:((m*n%18446744073709551616:Nat):Int)=(m:Int)*n%18446744073709551616:=by rw[Int.natCast_emod,Int.natCast_mul];rfl
 rw[e1,e2] at h
 exact h
theorem QeD (y:Int) (s:Nat) (w:World) (h0:0<=y) (h1:y<=18446744073709551615) (hs:Hid (Lib.bitLen y.toNat+s=64)):
  Calls Tryz.prog 271 #[.int .u64 y] w fun e w'=>e=.returned (.int .i64 s)/\w=w':=by
 have hs2:=hs.out;have b:(Lib.bitLen y.toNat:Int)<=64:=by omega
 have b0:0<=(Lib.bitLen y.toNat:Int):=by omega
 have H:=LH (show 64-(Lib.bitLen y.toNat:Int)=s by omega);clear hs2;go_enter Tryz.func271,Tryz.ntmps271;go_wp2_with (go_at_call 274;refine (Qd6 _ _ h0 h1).mono ?_;rintro e w' ⟨rfl,rfl⟩);go_ret;exact ⟨Q0y H.out,rfl⟩
theorem QgM (s:Nat):(2:Int)^s=((2^s:Nat):Int):=by rw[Int.natCast_pow];rfl
theorem Qgv (h l s:Nat) (hl:l<2^s) (hh:h*2^s<18446744073709551616) (h2:l<18446744073709551616) (h3:h*2^s+l<18446744073709551616):bits .or .u64 ((h*2^s:Nat):Int) (l:Int)=((h*2^s+l:Nat):Int):=by
 rw[bits_or_u64_nat _ _ hh h2,Nat.mul_comm h,Nat.two_pow_add_eq_or_of_lt hl]
theorem Q3X (a:Int) (h0:0<=a) (h1:a<18446744073709551616):bits .and .u64 a 4294967295=a%4294967296:=by
 obtain ⟨n,rfl⟩:=Int.eq_ofNat_of_zero_le h0
 rw[Mul64.maskN n (by omega)]
 omega
structure DivSet (hi lo y:Int) (s:Nat) (yn yn1 yn0 a b un32 un10 un1 un0:Int):Prop where
 e1:y*2^s=yn
 e2:yn/4294967296=yn1
 e3:bits .and .u64 yn 4294967295=yn0
 e4:hi*2^s=a
 e5:lo/2^(64-s)=b
 e6:bits .or .u64 a b=un32
 e7:IntKind.u64.wrap (lo*2^s)=un10
 e8:un10/4294967296=un1
 e9:bits .and .u64 un10 4294967295=un0
 y0:0<=yn
 y1:yn<18446744073709551616
 y2:yn=yn1*4294967296+yn0
 y3:2147483648<=yn1
 y4:yn1<4294967296
 y5:0<=yn0
 y6:yn0<4294967296
 a0:0<=a
 a1:a<18446744073709551616
 b0:0<=b
 b1:b<18446744073709551616
 u0:0<=un32
 u1:0<=un1
 u2:un1<4294967296
 u3:0<=un0
 u4:un0<4294967296
 u5:un32*4294967296+un1<yn
 u6:0<=un10
 u7:un10<18446744073709551616
 same:(hi*18446744073709551616+lo)/y=((un32*4294967296+un1)*4294967296+un0)/yn
theorem Qg8 (hi lo y:Int) (s:Nat) (hs:Lib.bitLen y.toNat+s=64) (h0:0<hi) (h1:hi<y) (hy:y<18446744073709551616) (l0:0<=lo) (l1:lo<18446744073709551616)
  (hq:hi*18446744073709551616+lo<y*4294967296):∃yn yn1 yn0 a b un32 un10 un1 un0:Int,DivSet hi lo y s yn yn1 yn0 a b un32 un10 un1 un0:=by
 obtain ⟨b1,b2⟩:=QdS (x:=y.toNat) (by omega) (by omega);have bp:=Q57 (x:=y.toNat) (by omega) (by omega);have hs1:s<=63:=by omega
 have P0:(0:Int)<2^s:=Qaf s;have R0:(0:Int)<2^(64-s):=Qaf _
 have PR:(2:Int)^s*2^(64-s)=18446744073709551616:=by
  rw[<-Int.pow_add,show s+(64-s)=64 by omega];decide
 have yl:9223372036854775808<=y*2^s:=by
  have:2^(Lib.bitLen y.toNat-1)*2^s<=y.toNat*2^s:=Nat.mul_le_mul_right _ b1;rw[<-Nat.pow_add,show Lib.bitLen y.toNat-1+s=63 by omega] at this;have t:((2^63:Nat):Int)<=((y.toNat*2^s:Nat):Int):=by exact_mod_cast this
  rw[Int.natCast_mul,<-QgM,show ((y.toNat:Nat):Int)=y by omega] at t
  exact t
 have yu:y*2^s<18446744073709551616:=by
  have:y.toNat*2^s<2^Lib.bitLen y.toNat*2^s:=Nat.mul_lt_mul_of_pos_right b2 (Nat.two_pow_pos s);rw[<-Nat.pow_add,hs] at this;have t:((y.toNat*2^s:Nat):Int)<((2^64:Nat):Int):=by exact_mod_cast this
  rw[Int.natCast_mul,<-QgM,show ((y.toNat:Nat):Int)=y by omega] at t
  exact t
 have hl:hi*2^s<y*2^s:=Int.mul_lt_mul_of_pos_right h1 P0;have h00:0<=hi*2^s:=Int.mul_nonneg (by omega) (by omega);have lb0:0<=lo/2^(64-s):=Int.ediv_nonneg l0 (by omega);have lb1:lo/2^(64-s)<2^s:=Int.ediv_lt_of_lt_mul R0 (by rw[PR];exact l1)
 have Pb:(2:Int)^s<=9223372036854775808:=by
  have:(2:Nat)^s<=9223372036854775808:=Nat.pow_le_pow_right (n:=2) (by decide) hs1
  rw[QgM];omega
 have lm0:=Int.emod_nonneg lo (show (2:Int)^(64-s)≠0 by omega);have lm1:=Int.emod_lt_of_pos lo R0;have le:=Int.mul_ediv_add_emod lo (2^(64-s))
 have lP:lo*2^s=18446744073709551616*(lo/2^(64-s))+(lo%2^(64-s))*2^s:=by
  have:lo*2^s=(2^(64-s)*(lo/2^(64-s))+lo%2^(64-s))*2^s:=by rw[le]
  rw[this,Int.add_mul,<-PR,Int.mul_comm (2^(64-s)) (lo/2^(64-s)),Int.mul_assoc,Int.mul_comm (2^(64-s)) (2^s),Int.mul_comm (lo/2^(64-s))]
 have m0:0<=(lo%2^(64-s))*2^s:=Int.mul_nonneg lm0 (by omega)
 have m1:(lo%2^(64-s))*2^s<18446744073709551616:=by
  have:=Int.mul_lt_mul_of_pos_right lm1 P0
  rw[Int.mul_comm (2^(64-s)),PR] at this
  exact this
 have w10:IntKind.u64.wrap (lo*2^s)=(lo%2^(64-s))*2^s:=by
  rw[IntKind.wrap_u64,lP,Int.mul_add_emod_self_left]
  exact Int.emod_eq_of_lt m0 m1
 have ho:hi*2^s+lo/2^(64-s)<18446744073709551616:=by
  have:hi*2^s+2^s<=y*2^s:=by
   have:=Int.mul_le_mul_of_nonneg_right (show hi+1<=y by omega) (show (0:Int)<=2^s by omega)
   rw[Int.add_mul,Int.one_mul] at this;exact this
  omega
 have or1:bits .or .u64 (hi*2^s) (lo/2^(64-s))=hi*2^s+lo/2^(64-s):=by
  obtain ⟨h,rfl⟩:=Int.eq_ofNat_of_zero_le (show 0<=hi by omega);obtain ⟨l,el⟩:=Int.eq_ofNat_of_zero_le lb0
  rw[el] at lb1 ho|-
  rw[QgM] at lb1 ho h00 hl|-
  rw[<-Int.natCast_mul] at ho|-;have q1:l<2^s:=by exact_mod_cast lb1
  rw[Qgv h l s q1 (by omega) (by omega) (by omega),Int.natCast_add]
 refine ⟨_,_,_,_,_,_,_,_,_,⟨rfl,rfl,rfl,rfl,rfl,rfl,rfl,rfl,rfl,by omega,yu, ?_,by omega,by omega, ?_, ?_,h00,by omega,lb0,by omega, ?_, ?_, ?_, ?_, ?_, ?_, ?_, ?_, ?_⟩⟩
 ·rw[Q3X _ (by omega) yu];omega
 ·rw[Q3X _ (by omega) yu];omega
 ·rw[Q3X _ (by omega) yu];omega
 ·rw[or1];omega
 ·rw[w10];omega
 ·rw[w10];omega
 ·rw[w10,Q3X _ m0 m1];omega
 ·rw[w10,Q3X _ m0 m1];omega
 ·rw[or1,w10]
  have t:(hi*18446744073709551616+lo)*2^s<y*4294967296*2^s:=Int.mul_lt_mul_of_pos_right hq P0
  rw[Int.add_mul,lP,Int.mul_right_comm hi,Int.mul_right_comm y] at t
  generalize lo/2^(64-s)=b at*;generalize lo%2^(64-s)*2^s=c at*;generalize hi*2^s=h at*;generalize y*2^s=yy at*;omega
 ·rw[w10];exact m0
 ·rw[w10];exact m1
 ·rw[or1,w10,Q3X _ m0 m1]
  have e:((hi*2^s+lo/2^(64-s))*4294967296+lo%2^(64-s)*2^s/4294967296)*4294967296+lo%2^(64-s)*2^s%4294967296=(hi*18446744073709551616+lo)*2^s:=by
   rw[Int.add_mul (hi*18446744073709551616),lP,Int.mul_right_comm hi]
   generalize lo/2^(64-s)=b at*;generalize lo%2^(64-s)*2^s=c at*;generalize hi*2^s=h at*;omega
  rw[e]
  exact (Int.mul_ediv_mul_of_pos_left _ _ P0).symm
theorem Q95 {n un0 yn yn1 yn0 q r:Int} (hy:yn=yn1*4294967296+yn0) (y3:2147483648<=yn1) (y5:0<=yn0) (hr:q*yn1+r=n) (hq:0<=q) (h:q*yn0<=4294967296*r+un0):q<=(n*4294967296+un0)/yn:=by
 refine (Int.le_ediv_iff_mul_le (by omega)).2 ?_;have e:q*yn=q*yn1*4294967296+q*yn0:=by rw[hy,Int.mul_add,<-Int.mul_assoc]
 rw[e]
 omega
theorem QbL {n un0 yn yn1 yn0 q r:Int} (hy:yn=yn1*4294967296+yn0) (y3:2147483648<=yn1) (y5:0<=yn0) (hr:q*yn1+r=n) (h:4294967296*r+un0<q*yn0):(n*4294967296+un0)/yn<q:=by
 refine (Int.ediv_lt_iff_lt_mul (by omega)).2 ?_;have e:q*yn=q*yn1*4294967296+q*yn0:=by rw[hy,Int.mul_add,<-Int.mul_assoc]
 rw[e]
 omega
theorem Q9O {un32 un1 yn yn1 yn0:Int} (u0:0<=un32) (u1:0<=un1) (y3:2147483648<=yn1) (y6:yn0<4294967296) (y2:yn=yn1*4294967296+yn0) (u5:un32*4294967296+un1<yn):
  (un32/yn1=1/\un32=yn1/\un1<yn0)\/un32/yn1=0:=by
 by_cases c:un32<yn1
 ·exact .inr (Int.ediv_eq_zero_of_lt u0 c)
 ·have e:un32=yn1:=by omega
  subst e;exact .inl ⟨Int.ediv_self (by omega),rfl,by omega⟩
theorem Q8p {n un0 yn yn1 yn0:Int} (n0:0<=n) (u5:n<yn) (y2:yn=yn1*4294967296+yn0) (y3:2147483648<=yn1) (y4:yn1<4294967296) (y5:0<=yn0) (y6:yn0<4294967296) (u3:0<=un0) (u4:un0<4294967296):
  0<=n/yn1/\n/yn1<=4294967297/\0<=n-n/yn1*yn1/\n-n/yn1*yn1<4294967296/\0<=n/yn1*yn1/\(n*4294967296+un0)/yn<=n/yn1:=by
 have e:=Int.mul_ediv_add_emod n yn1;have m0:=Int.emod_nonneg n (show yn1≠0 by omega);have m1:=Int.emod_lt_of_pos n (show 0<yn1 by omega);have q0:0<=n/yn1:=Int.ediv_nonneg n0 (by omega);have q1:n/yn1<4294967298:=Int.ediv_lt_of_lt_mul (by omega) (by omega);have e':n/yn1*yn1=yn1*(n/yn1):=Int.mul_comm _ _;have m2:0<=n/yn1*yn1:=Int.mul_nonneg q0 (by omega);refine ⟨q0,by omega,by omega,by omega,m2, ?_⟩
 have:(n*4294967296+un0)/yn<n/yn1+1:=by
  refine (Int.ediv_lt_iff_lt_mul (by omega)).2 ?_;have a:n+1<=(n/yn1+1)*yn1:=by rw[Int.add_mul];omega
  have b:(n/yn1+1)*yn=(n/yn1+1)*yn1*4294967296+(n/yn1+1)*yn0:=by
   rw[y2,Int.mul_add,<-Int.mul_assoc]
  have c:0<=(n/yn1+1)*yn0:=Int.mul_nonneg (by omega) y5
  rw[b];omega
 omega
theorem Q78 {q r yn1 n:Int} (h:q*yn1+r=n):(q-1)*yn1+(r+yn1)=n:=by
 rw[Int.sub_mul,Int.one_mul];omega
theorem Q9Q {n un0 yn yn1 yn0 Q q:Int} (hQ:(n*4294967296+un0)/yn=Q) (hy:yn=yn1*4294967296+yn0) (y3:2147483648<=yn1) (y4:yn1<4294967296) (y5:0<=yn0) (y6:yn0<4294967296) (u4:un0<4294967296) (u5:n<yn) (n0:0<=n) (c:4294967296<=q):Q<q:=by
 have:Q<4294967296:=by
  rw[<-hQ];exact Int.ediv_lt_of_lt_mul (by omega) (by omega)
 omega
theorem Q79 {n un0 yn yn1 yn0 Q q r:Int} (hQ:(n*4294967296+un0)/yn=Q) (hy:yn=yn1*4294967296+yn0) (y3:2147483648<=yn1) (y5:0<=yn0) (y6:yn0<4294967296) (u3:0<=un0) (q0:0<=q) (q1:q<=4294967296) (hq:Q<=q) (h:q*yn1+r=n) (c:4294967296<=r):Q=q:=by
 have m:q*yn0<=4294967296*4294967295:=Int.mul_le_mul q1 (by omega) y5 (by omega);have:=Q95 (un0:=un0) hy y3 y5 h q0 (by omega);omega
def Qa2 (q:Int) (w:World) (e:Ending) (w':World):Prop:=(∃r:Int,e=.returned (.tuple #[.int .u64 q,.int .u64 r]))/\Drawn w w'
theorem Qdv (lo y:Int) (w:World) (y0:0<y) (y1:y<=18446744073709551615) (l0:0<=lo) (l1:lo<=18446744073709551615):
  Calls Tryz.prog 258 #[.int .u64 0,.int .u64 lo,.int .u64 y] w (Qa2 (lo/y) w):=by
 have yz:(y==0)=false:=by simpa using (show y≠0 by omega)
 go_enter Tryz.func258,Tryz.ntmps258
 go_wp2
 go_quiet (fail)
 go_wp2
 go_ret2
 exact ⟨⟨_,rfl⟩,Drawn.of _ _⟩
theorem QbK (hi lo y:Int) (w:World) (h0:0<hi) (h1:hi<y) (y1:y<=18446744073709551615) (l0:0<=lo) (l1:lo<=18446744073709551615) (hq:hi*18446744073709551616+lo<y*4294967296):
  Calls Tryz.prog 258 #[.int .u64 hi,.int .u64 lo,.int .u64 y] w (Qa2 ((hi*18446744073709551616+lo)/y) w):=by
 obtain ⟨s,hs⟩:∃s:Nat,Lib.bitLen y.toNat+s=64:=⟨64-Lib.bitLen y.toNat,by have:=Lib.bitLen_le y.toNat 64 (by decide) (by omega);omega⟩;obtain ⟨yn,yn1,yn0,a,b,un32,un10,un1,un0,D⟩:=Qg8 hi lo y s hs h0 h1 (by omega) l0 (by omega) hq;have bp:=Q57 (x:=y.toNat) (by omega) (by omega);have s1:s<=63:=by omega
 have HS:=LH hs;clear hs hq bp;obtain ⟨e1,e2,e3,e4,e5,e6,e7,e8,e9,y0,y1',y2,y3,y4,y5,y6,a0,a1,b0,b1,u0,u1,u2,u3,u4,u5,u6,u7,same⟩:=D;obtain ⟨n,hn⟩:∃n,un32*4294967296+un1=n:=⟨_,rfl⟩
 rw[hn] at same u5
 have n0:0<=n:=by omega
 have u32:un32<4294967296:=by omega
 have HQ:=LH same;have HY:=LH y2;have A:=Q9O u0 u1 y3 y6 y2 (by rw[hn];exact u5);obtain ⟨g0,g1,g2,g3,g4,g5⟩:=Q8p (un0:=un0) n0 u5 y2 y3 y4 y5 y6 u3 u4;obtain ⟨q0,hq0⟩:∃q,n/yn1=q:=⟨_,rfl⟩
 rw[hq0] at g0 g1 g2 g3 g4 g5
 obtain ⟨r0,hr0⟩:∃r,n-q0*yn1=r:=⟨_,rfl⟩
 rw[hr0] at g2 g3
 have hqr:q0*yn1+r0=n:=by omega
 have HQR:=LH hqr;obtain ⟨Q,hQ⟩:∃Q,(n*4294967296+un0)/yn=Q:=⟨_,rfl⟩;have HQ2:=LH hQ
 rw[hQ] at g5
 clear same y2 hqr hQ;have AH:=LH A;clear A;have yz:(y==0)=false:=by simpa using (show y≠0 by omega)
 have hz:(hi==0)=false:=by simpa using (show hi≠0 by omega)
 go_enter Tryz.func258,Tryz.ntmps258;go_wp2_with (go_at_call 271;refine (QeD _ s _ (by omega) (by omega) HS).mono ?_;rintro e w' ⟨rfl,rfl⟩)
 go_loop [15,16] (fun u v=>∃q r:Int,u=.int .u64 q/\v=.int .u64 r/\((q=1/\r=0/\un1<yn0)\/(q=0/\0<=r/\r<4294967296))) (fun u _=>(intOf u).toNat)
 case atStart=>
  rcases AH.out with ⟨c,c1,c2⟩|c
  ·refine ⟨1,0,by rw[c], ?_,.inl ⟨rfl,rfl,c2⟩⟩
   rw[c,c1,Int.one_mul,IntWalk.u64_in yn1 (by omega),Int.sub_self]
   rfl
  ·refine ⟨0,un32,by rw[c], ?_,.inr ⟨rfl,u0,by omega⟩⟩
   rw[c,Int.zero_mul,IntWalk.u64_in 0 (by omega),Int.sub_zero,IntWalk.u64_in un32 (by omega)]
 case round=>
  obtain ⟨q,r,rfl,rfl,⟨rfl,rfl,c⟩|⟨rfl,r1,r2⟩⟩:=hrel
  ·go_wp2
   go_round
   case rel=>exact ⟨0,yn1,rfl,rfl,.inr ⟨rfl,by omega,y4⟩⟩
   case measure=>simp[intOf]
  ·go_wp2
   go_loop [18,16] (fun u v=>∃q r:Int,u=.int .u64 q/\v=.int .u64 r/\q*yn1+r=n/\0<=q/\q<=4294967297/\0<=r/\r<4294967296/\Q<=q) (fun u _=>(intOf u).toNat)
   case atStart=>exact ⟨q0,r0,rfl,rfl,HQR.out,g0,g1,g2,g3,g5⟩
   case round=>
    obtain ⟨q,r,rfl,rfl,k1,k2,k3,k4,k5,k6⟩:=hrel;have K1:=LH k1;clear k1;by_cases c:4294967296<=q
    ·have hlt:=Q9Q HQ2.out HY.out y3 y4 y5 y6 u4 u5 n0 c;have K2:=Q78 K1.out;by_cases c3:4294967296<=r+yn1
     ·have F:=LH (Q79 HQ2.out HY.out y3 y5 y6 u3 (by omega) (by omega) (by omega) K2 c3);clear K2
      go_wp2
      go_ret2
      rw[HQ.out,HQ2.out,F.out];exact ⟨⟨_,rfl⟩,Drawn.refl _⟩
     ·have K3:=LH K2;clear K2
      go_wp2
      go_round
      case rel=>exact ⟨q-1,r+yn1,rfl,rfl,K3.out,by omega,by omega,by omega,by omega,by omega⟩
      case measure=>simp[intOf];omega
    ·have m0:0<=q*yn0:=Int.mul_nonneg k2 y5;have m1:q*yn0<=4294967295*4294967295:=Int.mul_le_mul (by omega) (by omega) y5 (by omega);by_cases c2:4294967296*r+un0<q*yn0
     ·have hlt:=QbL HY.out y3 y5 K1.out c2
      rw[HQ2.out] at hlt
      have K2:=Q78 K1.out
      have q1:1<=q:=by
       rcases Int.lt_or_le q 1 with g|g
       ·have:q=0:=by omega
        subst this;omega
       ·exact g
      by_cases c3:4294967296<=r+yn1
      ·have F:=LH (Q79 HQ2.out HY.out y3 y5 y6 u3 (by omega) (by omega) (by omega) K2 c3);clear K2
       go_wp2
       go_ret2
       rw[HQ.out,HQ2.out,F.out];exact ⟨⟨_,rfl⟩,Drawn.refl _⟩
      ·have K3:=LH K2;clear K2
       go_wp2
       go_round
       case rel=>exact ⟨q-1,r+yn1,rfl,rfl,K3.out,by omega,by omega,by omega,by omega,by omega⟩
       case measure=>simp[intOf];omega
     ·have F0:=Q95 (un0:=un0) HY.out y3 y5 K1.out k2 (by omega)
      rw[HQ2.out] at F0
      have F:=LH (show Q=q by omega)
      go_wp2
      go_ret2
      rw[HQ.out,HQ2.out,F.out];exact ⟨⟨_,rfl⟩,Drawn.refl _⟩
theorem Q39 (k k':IntKind) (x y:Int):Builtin.max2 (.int k x) (.int k' y)=pure (.int k (if x<y then y else x)):=by simp only[Builtin.max2,gt_iff_lt]
theorem Q7E (k k':IntKind) (x y:Int):Builtin.min2 (.int k x) (.int k' y)=pure (.int k (if y<x then y else x)):=by simp only[Builtin.min2]
theorem Q9D (ats:Array TypeId) (ty:TypeId) (a b:Value):Builtin.min_ ats ty #[a,b]=(Builtin.min2 a b>>=fun s=>pure s):=by simp only[Builtin.min_,List.foldlM_cons,List.foldlM_nil]
theorem Q4X (ats:Array TypeId) (ty:TypeId) (a b:Value):Builtin.max_ ats ty #[a,b]=(Builtin.max2 a b>>=fun s=>pure s):=by simp only[Builtin.max_,List.foldlM_cons,List.foldlM_nil]
attribute [local go_sem] Q39 Q4X Q7E Q9D
theorem QcC {a b:Int} (h:a=b):Ending.returned (.int .u64 a)=.returned (.int .u64 b):=by rw[h]
theorem Qg0 (a b:Int) (w:World) (a0:-9223372036854775808<=a) (a1:a<=9223372036854775807) (b0:-9223372036854775808<=b) (b1:b<=9223372036854775807):
  Calls Tryz.prog 224 #[.int .i64 a,.int .i64 b] w fun e w'=>e=.returned (.int .u64 (Q6E a b))/\w=w':=by
 by_cases h:b<a
 ·go_enter Tryz.func224,Tryz.ntmps224
  go_wp2
  go_ret;exact ⟨QcC (if_pos h).symm,rfl⟩
 ·have E:=Qap a0 a1 b0 b1 (show a<=b by omega);go_enter Tryz.func224,Tryz.ntmps224
  go_wp2
  go_ret;exact ⟨rfl,rfl⟩
theorem Qbe (a b:Int) (w:World) (a0:-9223372036854775808<=a) (a1:a<=9223372036854775807) (b0:-9223372036854775808<=b) (b1:b<=9223372036854775807):
  Calls Tryz.prog 261 #[.int .i64 a,.int .i64 b] w fun e w'=>e=.returned (.int .u64 (Q6E a b))/\w=w':=by
 by_cases h:b<a
 ·go_enter Tryz.func261,Tryz.ntmps261
  go_wp2
  go_ret;exact ⟨QcC (if_pos h).symm,rfl⟩
 ·have E:=Qap a0 a1 b0 b1 (show a<=b by omega);go_enter Tryz.func261,Tryz.ntmps261
  go_wp2
  go_ret;exact ⟨rfl,rfl⟩
theorem Qdw (hi lo y:Int) (w:World) (h0:0<=hi) (h1:hi<y) (y1:y<=18446744073709551615) (l0:0<=lo) (l1:lo<=18446744073709551615) (hq:hi*18446744073709551616+lo<y*4294967296):
  Calls Tryz.prog 258 #[.int .u64 hi,.int .u64 lo,.int .u64 y] w (Qa2 ((hi*18446744073709551616+lo)/y) w):=by
 by_cases z:hi=0
 ·subst z;have:=Qdv lo y w h1 y1 l0 l1
  rw[Int.zero_mul,Int.zero_add]
  exact this
 ·exact QbK hi lo y w (by omega) h1 y1 l0 l1 hq
theorem Qct (p x n:Int) (w:World) (p0:0<=p) (p1:p<=18446744073709551615) (x0:0<=x) (x1:x<=18446744073709551615) (n0:-9223372036854775808<=n) (n1:n<=9223372036854775807):
  Calls Tryz.prog 223 #[.int .u64 p,.int .u64 x,.int .i64 n] w fun e w'=>e=.returned (.int .i64 (Q42 p x n))/\Drawn w w':=by
 by_cases z:x=0
 ·subst z;go_enter Tryz.func223,Tryz.ntmps223;go_wp2_with (fail);go_ret;exact ⟨Q0y (Q1O (.inl rfl)).symm,Drawn.refl _⟩
 ·have xz:(x==0)=false:=by simpa using z
  by_cases g:n<1
  ·go_enter Tryz.func223,Tryz.ntmps223;go_wp2_with (fail);go_ret;exact ⟨Q0y (Q1O (.inr (.inl g))).symm,Drawn.refl _⟩
  ·by_cases k:65536<n
   ·go_enter Tryz.func223,Tryz.ntmps223;go_wp2_with (fail);go_ret;exact ⟨Q0y (Q1O (.inr (.inr k))).symm,Drawn.refl _⟩
   ·have hm:(if x<p then x else p)=Qc5 p x:=rfl;obtain ⟨m0,m1,m2⟩:=Qd4 p0 x0;obtain ⟨d1,d2,d3,d4,d5,d6,d7⟩:=Q9u (n:=n) m0 m1 (show 0<x by omega) x1 (by omega) (by omega);have H:=LH (show Q42 p x n=Qc5 p x*n/x from if_neg (by omega));have HE:=LH d5;clear d5;have hG:=Drawn.refl w;go_enter Tryz.func223,Tryz.ntmps223;go_wp2_with (first|(go_at_call 257;refine (QcT _ _ (by omega) (by omega) (by omega) (by omega) _).mono ?_;rintro e w' ⟨rfl,rfl⟩)|(go_at_call 258;refine (Qdw _ _ _ _ (by omega) (by omega) (by omega) (by omega) (by omega) (by omega)).mono ?_;rintro e w' ⟨⟨r,rfl⟩,hg⟩;replace hG:=hG.trans hg;clear hg;rw[HE.out]));go_ret;exact ⟨Q0y H.out.symm,hG⟩
theorem Q8x (p x n:Int) (w:World) (p0:0<=p) (p1:p<=18446744073709551615) (x0:0<=x) (x1:x<=18446744073709551615) (n0:-9223372036854775808<=n) (n1:n<=9223372036854775807):
  Calls Tryz.prog 260 #[.int .u64 p,.int .u64 x,.int .i64 n] w fun e w'=>e=.returned (.int .i64 (Q42 p x n))/\w=w':=by
 by_cases z:x=0
 ·subst z;go_enter Tryz.func260,Tryz.ntmps260;go_wp2_with (fail);go_ret;exact ⟨Q0y (Q1O (.inl rfl)).symm,rfl⟩
 ·have xz:(x==0)=false:=by simpa using z
  by_cases g:n<1
  ·go_enter Tryz.func260,Tryz.ntmps260;go_wp2_with (fail);go_ret;exact ⟨Q0y (Q1O (.inr (.inl g))).symm,rfl⟩
  ·by_cases k:65536<n
   ·go_enter Tryz.func260,Tryz.ntmps260;go_wp2_with (fail);go_ret;exact ⟨Q0y (Q1O (.inr (.inr k))).symm,rfl⟩
   ·have hm:(if x<p then x else p)=Qc5 p x:=rfl;obtain ⟨m0,m1,m2⟩:=Qd4 p0 x0;have H:=LH (show Q42 p x n=Qc5 p x*n/x from if_neg (by omega));obtain ⟨m,hM⟩:∃m,Qc5 p x=m:=⟨_,rfl⟩
    rw[hM] at hm m0 m1 m2 H
    clear hM;have N0:0<=n:=by omega
    have X0:0<x:=by omega
    go_enter Tryz.func260,Tryz.ntmps260;go_wp2_with (fail)
    go_loop [7,8,9] (fun u v t=>∃(b:Nat) (q r:Int),b<=17/\u=.int .i64 q/\v=.int .u64 r/\t=.int .i64 ((b:Int)-1)/\ShareAt m x n b q r) (fun _ _ t=>(intOf t+1).toNat)
    case atStart=>exact ⟨17,0,0,by omega,rfl,rfl,rfl,ShareAt.start N0 (by omega) X0⟩
    case round=>
     obtain ⟨b,q,r,hb,rfl,rfl,rfl,S⟩:=hrel
     rcases b with _|j
     ·have F:=LH (S.done X0);clear S;go_wp2_with (fail);go_ret;exact ⟨Q0y (by rw[H.out,F.out]),rfl⟩
     ·have hj:j<=16:=by omega
      obtain ⟨r0,r1,q0,q1⟩:=S.bd m0 m1 X0 N0 (by omega);have HS:=LH S;clear S;have B:=QgF n j N0 (by omega);by_cases c1:x-r<=r
      ·by_cases c2:n/2^j%2=0
       ·rw[c2] at B
        have N:=LH (HS.out.step1 c1 c2);go_wp2_with (fail)
        go_round
        case rel=>exact ⟨j,_,_,by omega,rfl,rfl,by go_num,N.out⟩
        case measure=>simp[intOf]
       ·have c2':n/2^j%2=1:=by omega
        rw[c2'] at B
        by_cases c3:x-(r-(x-r))<=m
        ·have N:=LH (HS.out.step2 m1 c1 c2' c3);go_wp2_with (fail)
         go_round
         case rel=>exact ⟨j,_,_,by omega,rfl,rfl,by go_num,N.out⟩
         case measure=>simp[intOf]
        ·have N:=LH (HS.out.step3 m0 c1 c2' c3);go_wp2_with (fail)
         go_round
         case rel=>exact ⟨j,_,_,by omega,rfl,rfl,by go_num,N.out⟩
         case measure=>simp[intOf]
      ·by_cases c2:n/2^j%2=0
       ·rw[c2] at B
        have N:=LH (HS.out.step4 c1 c2);go_wp2_with (fail)
        go_round
        case rel=>exact ⟨j,_,_,by omega,rfl,rfl,by go_num,N.out⟩
        case measure=>simp[intOf]
       ·have c2':n/2^j%2=1:=by omega
        rw[c2'] at B
        by_cases c3:x-(r+r)<=m
        ·have N:=LH (HS.out.step5 m1 c1 c2' c3);go_wp2_with (fail)
         go_round
         case rel=>exact ⟨j,_,_,by omega,rfl,rfl,by go_num,N.out⟩
         case measure=>simp[intOf]
        ·have N:=LH (HS.out.step6 m0 c1 c2' c3);go_wp2_with (fail)
         go_round
         case rel=>exact ⟨j,_,_,by omega,rfl,rfl,by go_num,N.out⟩
         case measure=>simp[intOf]
theorem Q8V (f l k n:Int) (w:World) (f0:-9223372036854775808<=f) (f1:f<=9223372036854775807) (l0:-9223372036854775808<=l) (l1:l<=9223372036854775807) (k0:-9223372036854775808<=k) (k1:k<=9223372036854775807) (n0:-9223372036854775808<=n) (n1:n<=9223372036854775807):
  Calls Tryz.prog 191 #[.int .i64 f,.int .i64 l,.int .i64 k,.int .i64 n] w fun e w'=>e=.returned (.int .i64 (Q0G f l k n))/\Drawn w w':=by
 by_cases h1:n<2
 ·have H:=LH (Q1i (f:=f) (l:=l) (k:=k) (n:=n) (.inl h1));go_enter Tryz.func191,Tryz.ntmps191;go_wp2_with (fail);go_ret;exact ⟨Q0y H.out.symm,Drawn.refl _⟩
 ·by_cases h2:65536<n
  ·have H:=LH (Q1i (f:=f) (l:=l) (k:=k) (n:=n) (.inr (.inl h2)));go_enter Tryz.func191,Tryz.ntmps191;go_wp2_with (fail);go_ret;exact ⟨Q0y H.out.symm,Drawn.refl _⟩
  ·by_cases h3:k<f
   ·have H:=LH (Q1i (f:=f) (l:=l) (k:=k) (n:=n) (.inr (.inr (.inl h3))));go_enter Tryz.func191,Tryz.ntmps191;go_wp2_with (fail);go_ret;exact ⟨Q0y H.out.symm,Drawn.refl _⟩
   ·by_cases h4:l<=k
    ·have H:=LH (Q1i (f:=f) (l:=l) (k:=k) (n:=n) (.inr (.inr (.inr h4))));go_enter Tryz.func191,Tryz.ntmps191;go_wp2_with (fail);go_ret;exact ⟨Q0y H.out.symm,Drawn.refl _⟩
    ·have H:=LH (Q6c (f:=f) (l:=l) (k:=k) (n:=n) (by omega));obtain ⟨g0,g1⟩:=Q7S (a:=f) (b:=k) (by omega) (by omega);obtain ⟨g2,g3⟩:=Q7S (a:=f) (b:=l) (by omega) (by omega);obtain ⟨s0,s1⟩:=Q7t (p:=Q6E f k) (x:=Q6E f l) (n:=n-1) (by omega) (by unfold Q6E;rw[if_neg (by omega),if_neg (by omega)];omega) (by omega) (by omega);go_enter Tryz.func191,Tryz.ntmps191;go_wp2_with (first|(go_at_call 224;refine (Qg0 _ _ _ (by omega) (by omega) (by omega) (by omega)).mono ?_;rintro e w' ⟨rfl,rfl⟩)|(go_at_call 223;refine (Qct _ _ _ _ (by omega) (by omega) (by omega) (by omega) (by omega) (by omega)).mono ?_;rintro e w' ⟨rfl,m,rfl⟩));go_ret;exact ⟨Q0y H.out.symm,Drawn.of _ _⟩
theorem Q8z (f l k n:Int) (w:World) (f0:-9223372036854775808<=f) (f1:f<=9223372036854775807) (l0:-9223372036854775808<=l) (l1:l<=9223372036854775807) (k0:-9223372036854775808<=k) (k1:k<=9223372036854775807) (n0:-9223372036854775808<=n) (n1:n<=9223372036854775807):
  Calls Tryz.prog 232 #[.int .i64 f,.int .i64 l,.int .i64 k,.int .i64 n] w fun e w'=>e=.returned (.int .i64 (Q0G f l k n))/\Drawn w w':=by
 by_cases h1:n<2
 ·have H:=LH (Q1i (f:=f) (l:=l) (k:=k) (n:=n) (.inl h1));go_enter Tryz.func232,Tryz.ntmps232;go_wp2_with (fail);go_ret;exact ⟨Q0y H.out.symm,Drawn.refl _⟩
 ·by_cases h2:65536<n
  ·have H:=LH (Q1i (f:=f) (l:=l) (k:=k) (n:=n) (.inr (.inl h2)));go_enter Tryz.func232,Tryz.ntmps232;go_wp2_with (fail);go_ret;exact ⟨Q0y H.out.symm,Drawn.refl _⟩
  ·by_cases h3:k<f
   ·have H:=LH (Q1i (f:=f) (l:=l) (k:=k) (n:=n) (.inr (.inr (.inl h3))));go_enter Tryz.func232,Tryz.ntmps232;go_wp2_with (fail);go_ret;exact ⟨Q0y H.out.symm,Drawn.refl _⟩
   ·by_cases h4:l<=k
    ·have H:=LH (Q1i (f:=f) (l:=l) (k:=k) (n:=n) (.inr (.inr (.inr h4))));go_enter Tryz.func232,Tryz.ntmps232;go_wp2_with (fail);go_ret;exact ⟨Q0y H.out.symm,Drawn.refl _⟩
    ·have H:=LH (Q6c (f:=f) (l:=l) (k:=k) (n:=n) (by omega));obtain ⟨g0,g1⟩:=Q7S (a:=f) (b:=k) (by omega) (by omega);obtain ⟨g2,g3⟩:=Q7S (a:=f) (b:=l) (by omega) (by omega);obtain ⟨s0,s1⟩:=Q7t (p:=Q6E f k) (x:=Q6E f l) (n:=n-1) (by omega) (by unfold Q6E;rw[if_neg (by omega),if_neg (by omega)];omega) (by omega) (by omega);go_enter Tryz.func232,Tryz.ntmps232;go_wp2_with (first|(go_at_call 261;refine (Qbe _ _ _ (by omega) (by omega) (by omega) (by omega)).mono ?_;rintro e w' ⟨rfl,rfl⟩)|(go_at_call 260;refine (Q8x _ _ _ _ (by omega) (by omega) (by omega) (by omega) (by omega) (by omega)).mono ?_;rintro e w' ⟨rfl,rfl⟩));go_ret;exact ⟨Q0y H.out.symm,Drawn.refl _⟩
def RouteP (b:Nat) (s:RS) (w:World):Prop:=Blk w b 136 #[.int .i64 s.next,.int .i64 s.n,.int .i64 s.k,.int .i64 s.degree,.int .i64 s.i,.int .i64 s.first,.int .i64 s.child]
theorem RouteP.blk {b:Nat} {s:RS} {w:World} (h:RouteP b s w):Blk w b 136 #[.int .i64 s.next,.int .i64 s.n,.int .i64 s.k,.int .i64 s.degree,.int .i64 s.i,.int .i64 s.first,.int .i64 s.child]:=h
theorem RouteP.drewN {b:Nat} {s:RS} {w:World} (h:RouteP b s w) (n:Nat):RouteP b s (w.drewN n):=h
theorem Q1I (b:Nat) (s:RS) (w:World) (h:RouteP b s w) (d0:-9223372036854775808<s.degree) (d1:s.degree<=9223372036854775807):
  Calls Tryz.prog 148 #[.pointer (some ⟨b,0,none⟩)] w fun e w'=>e=.returned (.int .i64 (s.degree-1))/\w=w':=by
 have c3:w.cell? ⟨b,3,none⟩=some (.int .i64 s.degree):=h.blk.cell 3;clear h;go_enter Tryz.func148,Tryz.ntmps148
 go_wp2
 go_ret;exact ⟨rfl,rfl⟩
theorem Q3A (b:Nat) (s:RS) (c:Int) (w:World) (h:RouteP b s w):
  Calls Tryz.prog 92 #[.pointer (some ⟨b,0,none⟩),.int .i64 c] w fun e w'=>e=.returned (.tuple #[])/\RouteP b (s.ende c) w'/\Mv b none w w':=by
 have c0:w.cell? ⟨b,0,none⟩=some (.int .i64 s.next):=h.blk.cell 0;have c6:w.cell? ⟨b,6,none⟩=some (.int .i64 s.child):=h.blk.cell 6;have f0:=h.blk.frozen 0;have f6:=h.blk.frozen 6;have H:Hid (RouteP b (s.ende c) ((w.setCell ⟨b,6,none⟩ (.int .i64 c)).setCell ⟨b,0,none⟩ (.int .i64 6))):=LH ((h.blk.set_ 6 _).set_ 0 _);clear h;go_enter Tryz.func92,Tryz.ntmps92
 go_wp2
 go_end0
 exact ⟨rfl,H.out,(Mv.set1 _ _ _ _).trans_ (Mv.set1 _ _ _ _)⟩
theorem Qcf (b:Nat) (s:RS) (i:Int) (w:World) (h:RouteP b s w) (d0:2<=s.degree) (d1:s.degree<=9223372036854775807) (i0:-9223372036854775808<=i) (i1:i<=9223372036854775807):
  Calls Tryz.prog 151 #[.pointer (some ⟨b,0,none⟩),.int .i64 i] w fun e w'=>e=.returned (.tuple #[])/\RouteP b (s.up i) w'/\Mv b none w w':=by
 have c0:w.cell? ⟨b,0,none⟩=some (.int .i64 s.next):=h.blk.cell 0;have c4:w.cell? ⟨b,4,none⟩=some (.int .i64 s.i):=h.blk.cell 4;have f0:=h.blk.frozen 0;have f4:=h.blk.frozen 4;have H1:Hid (RouteP b {s with next:=4,i:=i} ((w.setCell ⟨b,0,none⟩ (.int .i64 4)).setCell ⟨b,4,none⟩ (.int .i64 i))):=LH ((h.blk.set_ 0 _).set_ 4 _);have M1:=LH ((Mv.set1 w b 0 (.int .i64 4)).trans_ (Mv.set1 _ b 4 (.int .i64 i)));clear h;by_cases hi:s.degree-1<=i
 ·have HS:=LH (show s.up i=RS.ende {s with next:=4,i:=i} (s.degree-1-1) from if_pos hi);go_enter Tryz.func151,Tryz.ntmps151;go_wp2_with (fail);with_reducible refine (Q1I b {s with next:=4,i:=i} _ H1.out (by show _<s.degree;omega) (by show s.degree<=_;omega)).mono ?_
  rintro e w1 ⟨rfl,rfl⟩;go_wp2_with (fail);with_reducible refine (Q1I b {s with next:=4,i:=i} _ H1.out (by show _<s.degree;omega) (by show s.degree<=_;omega)).mono ?_
  rintro e w1 ⟨rfl,rfl⟩;go_wp2_with (fail);with_reducible refine (Q3A b {s with next:=4,i:=i} (s.degree-1-1) _ H1.out).mono ?_
  rintro e w1 ⟨rfl,h2,m2⟩;have H2:=LH h2;have M2:=LH m2;clear h2 m2;go_wp2_with (fail)
  go_end0
  rw[HS.out]
  exact ⟨rfl,H2.out,M1.out.trans_ M2.out⟩
 ·have HS:=LH (show s.up i={s with next:=4,i:=i} from if_neg hi);go_enter Tryz.func151,Tryz.ntmps151;go_wp2_with (fail);with_reducible refine (Q1I b {s with next:=4,i:=i} _ H1.out (by show _<s.degree;omega) (by show s.degree<=_;omega)).mono ?_
  rintro e w1 ⟨rfl,rfl⟩;go_wp2_with (fail)
  go_end0
  rw[HS.out]
  exact ⟨rfl,H1.out,M1.out⟩
theorem Qau (b:Nat) (s:RS) (i:Int) (w:World) (h:RouteP b s w) (i0:-9223372036854775808<=i) (i1:i<=9223372036854775807):
  Calls Tryz.prog 150 #[.pointer (some ⟨b,0,none⟩),.int .i64 i] w fun e w'=>e=.returned (.tuple #[])/\RouteP b (s.down i) w'/\Mv b none w w':=by
 have c0:w.cell? ⟨b,0,none⟩=some (.int .i64 s.next):=h.blk.cell 0;have c4:w.cell? ⟨b,4,none⟩=some (.int .i64 s.i):=h.blk.cell 4;have f0:=h.blk.frozen 0;have f4:=h.blk.frozen 4;have H1:Hid (RouteP b {s with next:=5,i:=i} ((w.setCell ⟨b,0,none⟩ (.int .i64 5)).setCell ⟨b,4,none⟩ (.int .i64 i))):=LH ((h.blk.set_ 0 _).set_ 4 _);have M1:=LH ((Mv.set1 w b 0 (.int .i64 5)).trans_ (Mv.set1 _ b 4 (.int .i64 i)));clear h;by_cases hi:i<=1
 ·have HS:=LH (show s.down i=RS.ende {s with next:=5,i:=i} 1 from if_pos hi);go_enter Tryz.func150,Tryz.ntmps150;go_wp2_with (fail);with_reducible refine (Q3A b {s with next:=5,i:=i} 1 _ H1.out).mono ?_
  rintro e w1 ⟨rfl,h2,m2⟩;have H2:=LH h2;have M2:=LH m2;clear h2 m2;go_wp2_with (fail)
  go_end0
  rw[HS.out]
  exact ⟨rfl,H2.out,M1.out.trans_ M2.out⟩
 ·have HS:=LH (show s.down i={s with next:=5,i:=i} from if_neg hi);go_enter Tryz.func150,Tryz.ntmps150;go_wp2_with (fail)
  go_end0
  rw[HS.out]
  exact ⟨rfl,H1.out,M1.out⟩
theorem QbD (b:Nat) (s:RS) (q:Int) (w:World) (h:RouteP b s w) (d0:2<=s.degree) (d1:s.degree<=9223372036854775807) (k0:-9223372036854775808<=s.k) (k1:s.k<=9223372036854775807) (g0:-9223372036854775808<=s.first) (g1:s.first<=9223372036854775807) (q0:-9223372036854775808<=q) (q1:q<=9223372036854775807):
  Calls Tryz.prog 149 #[.pointer (some ⟨b,0,none⟩),.int .i64 q] w fun e w'=>e=.returned (.tuple #[])/\RouteP b (s.guess q) w'/\Mv b none w w':=by
 have c0:w.cell? ⟨b,0,none⟩=some (.int .i64 s.next):=h.blk.cell 0;have c2:w.cell? ⟨b,2,none⟩=some (.int .i64 s.k):=h.blk.cell 2;have c4:w.cell? ⟨b,4,none⟩=some (.int .i64 s.i):=h.blk.cell 4;have c5:w.cell? ⟨b,5,none⟩=some (.int .i64 s.first):=h.blk.cell 5;have f0:=h.blk.frozen 0;have f4:=h.blk.frozen 4;have H:=LH h;have hj:=Q4z s.first q s.k (s.degree-1) (by omega);clear h;by_cases hj1:1<Q0G s.first q s.k (s.degree-1)
 ·have HS:=LH (show s.guess q={s with next:=3,i:=Q0G s.first q s.k (s.degree-1)} from if_pos hj1);go_enter Tryz.func149,Tryz.ntmps149;go_wp2_with (fail)
  go_quiet ((first|(go_at_call 148;exact Q1D (Q1I b s _ (H.out.drewN _) (by omega) (by omega)))|(go_at_call 191;exact Calls.quiet_of (Q8V _ _ _ _ _ (by omega) (by omega) (by omega) (by omega) (by omega) (by omega) (by omega) (by omega)))))
  rename_i nq;generalize Q0G s.first q s.k (s.degree-1)=j at hj hj1 HS|-;have c0':(w.drewN nq).cell? ⟨b,0,none⟩=some (.int .i64 s.next):=c0;have c4':(w.drewN nq).cell? ⟨b,4,none⟩=some (.int .i64 s.i):=c4;have f0':(w.drewN nq).frozen? ⟨b,0,none⟩=false:=f0;have f4':(w.drewN nq).frozen? ⟨b,4,none⟩=false:=f4;go_wp2_with (fail);refine bodyPost_ret (results_none rfl _ _ _) rfl ?_
  rw[HS.out]
  exact ⟨rfl,((H.out.blk.drewN nq).set_ 0 _).set_ 4 _,Mv.after (Q08 (Drawn.of w nq) _) ((Mv.set1 _ b 0 _).trans_ (Mv.set1 _ b 4 _))⟩
 ·have HS:=LH (show s.guess q=s.up 2 from if_neg hj1);go_enter Tryz.func149,Tryz.ntmps149;go_wp2_with (fail)
  go_quiet ((first|(go_at_call 148;exact Q1D (Q1I b s _ (H.out.drewN _) (by omega) (by omega)))|(go_at_call 191;exact Calls.quiet_of (Q8V _ _ _ _ _ (by omega) (by omega) (by omega) (by omega) (by omega) (by omega) (by omega) (by omega)))))
  go_wp2_with (fail);with_reducible refine (Qcf b s 2 _ (H.out.drewN _) d0 d1 (by omega) (by omega)).mono ?_
  rintro e w1 ⟨rfl,h2,m2⟩;have H2:=LH h2;have M2:=LH (Mv.after (Q08 (Drawn.of w _) _) m2);clear h2 m2;go_wp2_with (fail)
  go_end0
  rw[HS.out]
  exact ⟨rfl,H2.out,M2.out⟩
theorem QeM (b:Nat) (s:RS) (q:Int) (w:World) (h:RouteP b s w) (hn:s.next=2) (d0:2<=s.degree) (d1:s.degree<=9223372036854775807) (k0:-9223372036854775808<=s.k) (k1:s.k<=9223372036854775807) (g0:-9223372036854775808<=s.first) (g1:s.first<=9223372036854775807) (i0:1<=s.i) (i1:s.i<=s.degree-1) (q0:-9223372036854775808<=q) (q1:q<=9223372036854775807):
  Calls Tryz.prog 93 #[.pointer (some ⟨b,0,none⟩),.int .i64 q] w fun e w'=>e=.returned (.tuple #[])/\RouteP b (s.key q) w'/\Mv b none w w':=by
 have c0:w.cell? ⟨b,0,none⟩=some (.int .i64 2):=by rw[<-hn];exact h.blk.cell 0
 have c2:w.cell? ⟨b,2,none⟩=some (.int .i64 s.k):=h.blk.cell 2;have c3:w.cell? ⟨b,3,none⟩=some (.int .i64 s.degree):=h.blk.cell 3;have c4:w.cell? ⟨b,4,none⟩=some (.int .i64 s.i):=h.blk.cell 4;have c5:w.cell? ⟨b,5,none⟩=some (.int .i64 s.first):=h.blk.cell 5;have f0:=h.blk.frozen 0;have f4:=h.blk.frozen 4;have f5:=h.blk.frozen 5;have H:=LH h;have hK:=RS.key2 hn q;have HN:=LH hn;clear h hn;by_cases hq:s.k<q
 ·rw[if_pos hq] at hK
  have HK:=LH hK;clear hK;go_enter Tryz.func93,Tryz.ntmps93;go_wp2_with (fail);with_reducible refine (QbD b s q _ H.out d0 d1 k0 k1 g0 g1 q0 q1).mono ?_
  rintro e w1 ⟨rfl,h2,m2⟩;have H2:=LH h2;have M2:=LH m2;clear h2 m2;go_wp2_with (fail)
  go_end0
  rw[HK.out]
  exact ⟨rfl,H2.out,M2.out⟩
 ·rw[if_neg hq] at hK
  have HK:=LH hK;clear hK;go_enter Tryz.func93,Tryz.ntmps93;go_wp2_with (fail);with_reducible refine (Q1I b s _ H.out (by omega) (by omega)).mono ?_
  rintro e w1 ⟨rfl,rfl⟩;go_wp2_with (fail);with_reducible refine (Q3A b s (s.degree-1) _ H.out).mono ?_
  rintro e w1 ⟨rfl,h2,m2⟩;have H2:=LH h2;have M2:=LH m2;clear h2 m2;go_wp2_with (fail)
  go_end0
  rw[HK.out]
  exact ⟨rfl,H2.out,M2.out⟩
theorem QeL (b:Nat) (s:RS) (q:Int) (w:World) (h:RouteP b s w) (hn:s.next=3) (d0:2<=s.degree) (d1:s.degree<=9223372036854775807) (k0:-9223372036854775808<=s.k) (k1:s.k<=9223372036854775807) (g0:-9223372036854775808<=s.first) (g1:s.first<=9223372036854775807) (i0:1<=s.i) (i1:s.i<=s.degree-1) (q0:-9223372036854775808<=q) (q1:q<=9223372036854775807):
  Calls Tryz.prog 93 #[.pointer (some ⟨b,0,none⟩),.int .i64 q] w fun e w'=>e=.returned (.tuple #[])/\RouteP b (s.key q) w'/\Mv b none w w':=by
 have c0:w.cell? ⟨b,0,none⟩=some (.int .i64 3):=by rw[<-hn];exact h.blk.cell 0
 have c2:w.cell? ⟨b,2,none⟩=some (.int .i64 s.k):=h.blk.cell 2;have c3:w.cell? ⟨b,3,none⟩=some (.int .i64 s.degree):=h.blk.cell 3;have c4:w.cell? ⟨b,4,none⟩=some (.int .i64 s.i):=h.blk.cell 4;have c5:w.cell? ⟨b,5,none⟩=some (.int .i64 s.first):=h.blk.cell 5;have f0:=h.blk.frozen 0;have f4:=h.blk.frozen 4;have f5:=h.blk.frozen 5;have H:=LH h;have hK:=RS.key3 hn q;have HN:=LH hn;clear h hn;by_cases hq:s.k<q
 ·rw[if_pos hq] at hK
  have HK:=LH hK;clear hK;go_enter Tryz.func93,Tryz.ntmps93;go_wp2_with (fail);with_reducible refine (Qau b s (s.i-1) _ H.out (by omega) (by omega)).mono ?_
  rintro e w1 ⟨rfl,h2,m2⟩;have H2:=LH h2;have M2:=LH m2;clear h2 m2;go_wp2_with (fail)
  go_end0
  rw[HK.out]
  exact ⟨rfl,H2.out,M2.out⟩
 ·rw[if_neg hq] at hK
  have HK:=LH hK;clear hK;go_enter Tryz.func93,Tryz.ntmps93;go_wp2_with (fail);with_reducible refine (Qcf b s (s.i+1) _ H.out d0 d1 (by omega) (by omega)).mono ?_
  rintro e w1 ⟨rfl,h2,m2⟩;have H2:=LH h2;have M2:=LH m2;clear h2 m2;go_wp2_with (fail)
  go_end0
  rw[HK.out]
  exact ⟨rfl,H2.out,M2.out⟩
theorem QeK (b:Nat) (s:RS) (q:Int) (w:World) (h:RouteP b s w) (hn:s.next=4) (d0:2<=s.degree) (d1:s.degree<=9223372036854775807) (k0:-9223372036854775808<=s.k) (k1:s.k<=9223372036854775807) (g0:-9223372036854775808<=s.first) (g1:s.first<=9223372036854775807) (i0:1<=s.i) (i1:s.i<=s.degree-1) (q0:-9223372036854775808<=q) (q1:q<=9223372036854775807):
  Calls Tryz.prog 93 #[.pointer (some ⟨b,0,none⟩),.int .i64 q] w fun e w'=>e=.returned (.tuple #[])/\RouteP b (s.key q) w'/\Mv b none w w':=by
 have c0:w.cell? ⟨b,0,none⟩=some (.int .i64 4):=by rw[<-hn];exact h.blk.cell 0
 have c2:w.cell? ⟨b,2,none⟩=some (.int .i64 s.k):=h.blk.cell 2;have c3:w.cell? ⟨b,3,none⟩=some (.int .i64 s.degree):=h.blk.cell 3;have c4:w.cell? ⟨b,4,none⟩=some (.int .i64 s.i):=h.blk.cell 4;have c5:w.cell? ⟨b,5,none⟩=some (.int .i64 s.first):=h.blk.cell 5;have f0:=h.blk.frozen 0;have f4:=h.blk.frozen 4;have f5:=h.blk.frozen 5;have H:=LH h;have hK:=RS.key4 hn q;have HN:=LH hn;clear h hn;by_cases hq:s.k<q
 ·rw[if_pos hq] at hK
  have HK:=LH hK;clear hK;go_enter Tryz.func93,Tryz.ntmps93;go_wp2_with (fail);with_reducible refine (Q3A b s (s.i-1) _ H.out).mono ?_
  rintro e w1 ⟨rfl,h2,m2⟩;have H2:=LH h2;have M2:=LH m2;clear h2 m2;go_wp2_with (fail)
  go_end0
  rw[HK.out]
  exact ⟨rfl,H2.out,M2.out⟩
 ·rw[if_neg hq] at hK
  have HK:=LH hK;clear hK;go_enter Tryz.func93,Tryz.ntmps93;go_wp2_with (fail);with_reducible refine (Qcf b s (s.i+1) _ H.out d0 d1 (by omega) (by omega)).mono ?_
  rintro e w1 ⟨rfl,h2,m2⟩;have H2:=LH h2;have M2:=LH m2;clear h2 m2;go_wp2_with (fail)
  go_end0
  rw[HK.out]
  exact ⟨rfl,H2.out,M2.out⟩
theorem QeJ (b:Nat) (s:RS) (q:Int) (w:World) (h:RouteP b s w) (hn:s.next=5) (d0:2<=s.degree) (d1:s.degree<=9223372036854775807) (k0:-9223372036854775808<=s.k) (k1:s.k<=9223372036854775807) (g0:-9223372036854775808<=s.first) (g1:s.first<=9223372036854775807) (i0:1<=s.i) (i1:s.i<=s.degree-1) (q0:-9223372036854775808<=q) (q1:q<=9223372036854775807):
  Calls Tryz.prog 93 #[.pointer (some ⟨b,0,none⟩),.int .i64 q] w fun e w'=>e=.returned (.tuple #[])/\RouteP b (s.key q) w'/\Mv b none w w':=by
 have c0:w.cell? ⟨b,0,none⟩=some (.int .i64 5):=by rw[<-hn];exact h.blk.cell 0
 have c2:w.cell? ⟨b,2,none⟩=some (.int .i64 s.k):=h.blk.cell 2;have c3:w.cell? ⟨b,3,none⟩=some (.int .i64 s.degree):=h.blk.cell 3;have c4:w.cell? ⟨b,4,none⟩=some (.int .i64 s.i):=h.blk.cell 4;have c5:w.cell? ⟨b,5,none⟩=some (.int .i64 s.first):=h.blk.cell 5;have f0:=h.blk.frozen 0;have f4:=h.blk.frozen 4;have f5:=h.blk.frozen 5;have H:=LH h;have hK:=RS.key5 hn q;have HN:=LH hn;clear h hn;by_cases hq:s.k<q
 ·rw[if_pos hq] at hK
  have HK:=LH hK;clear hK;go_enter Tryz.func93,Tryz.ntmps93;go_wp2_with (fail);with_reducible refine (Qau b s (s.i-1) _ H.out (by omega) (by omega)).mono ?_
  rintro e w1 ⟨rfl,h2,m2⟩;have H2:=LH h2;have M2:=LH m2;clear h2 m2;go_wp2_with (fail)
  go_end0
  rw[HK.out]
  exact ⟨rfl,H2.out,M2.out⟩
 ·rw[if_neg hq] at hK
  have HK:=LH hK;clear hK;go_enter Tryz.func93,Tryz.ntmps93;go_wp2_with (fail);with_reducible refine (Q3A b s s.i _ H.out).mono ?_
  rintro e w1 ⟨rfl,h2,m2⟩;have H2:=LH h2;have M2:=LH m2;clear h2 m2;go_wp2_with (fail)
  go_end0
  rw[HK.out]
  exact ⟨rfl,H2.out,M2.out⟩
theorem QeN (b:Nat) (s:RS) (q:Int) (w:World) (h:RouteP b s w) (hn:s.next=1) (d0:2<=s.degree) (d1:s.degree<=9223372036854775807) (k0:-9223372036854775808<=s.k) (k1:s.k<=9223372036854775807) (g0:-9223372036854775808<=s.first) (g1:s.first<=9223372036854775807) (i0:1<=s.i) (i1:s.i<=s.degree-1) (q0:-9223372036854775808<=q) (q1:q<=9223372036854775807):
  Calls Tryz.prog 93 #[.pointer (some ⟨b,0,none⟩),.int .i64 q] w fun e w'=>e=.returned (.tuple #[])/\RouteP b (s.key q) w'/\Mv b none w w':=by
 have c0:w.cell? ⟨b,0,none⟩=some (.int .i64 1):=by rw[<-hn];exact h.blk.cell 0
 have c2:w.cell? ⟨b,2,none⟩=some (.int .i64 s.k):=h.blk.cell 2;have c3:w.cell? ⟨b,3,none⟩=some (.int .i64 s.degree):=h.blk.cell 3;have c4:w.cell? ⟨b,4,none⟩=some (.int .i64 s.i):=h.blk.cell 4;have c5:w.cell? ⟨b,5,none⟩=some (.int .i64 s.first):=h.blk.cell 5;have f0:=h.blk.frozen 0;have f4:=h.blk.frozen 4;have f5:=h.blk.frozen 5;have H:=LH h;have hK:=RS.key1 hn q;have HN:=LH hn;clear h hn;have H1:Hid (RouteP b {s with first:=q} (w.setCell ⟨b,5,none⟩ (.int .i64 q))):=LH (H.out.blk.set_ 5 _);have H2:Hid (RouteP b {s with first:=q,next:=2,i:=s.degree-1} (((w.setCell ⟨b,5,none⟩ (.int .i64 q)).setCell ⟨b,0,none⟩ (.int .i64 2)).setCell ⟨b,4,none⟩ (.int .i64 (s.degree-1)))):=LH (((H.out.blk.set_ 5 _).set_ 0 _).set_ 4 _);have M1:=LH (((Mv.set1 w b 5 (.int .i64 q)).trans_ (Mv.set1 _ b 0 (.int .i64 2))).trans_ (Mv.set1 _ b 4 (.int .i64 (s.degree-1))));by_cases hq:s.k<q
 ·rw[if_pos hq] at hK
  have HK:=LH hK;clear hK;go_enter Tryz.func93,Tryz.ntmps93;go_wp2_with (fail);with_reducible refine (Q1I b {s with first:=q} _ H1.out (by show _<s.degree;omega) (by show s.degree<=_;omega)).mono ?_
  rintro e w1 ⟨rfl,rfl⟩;go_wp2_with (fail);with_reducible refine (Q3A b {s with first:=q,next:=2,i:=s.degree-1} 0 _ H2.out).mono ?_
  rintro e w1 ⟨rfl,h3,m3⟩;have H3:=LH h3;have M3:=LH m3;clear h3 m3;go_wp2_with (fail)
  go_end0
  rw[HK.out]
  exact ⟨rfl,H3.out,M1.out.trans_ M3.out⟩
 ·rw[if_neg hq] at hK
  by_cases hd:s.degree-1=1
  ·have hd1:(s.degree-1==1)=true:=by simpa using hd
   rw[if_pos hd] at hK
   have HK:=LH hK;clear hK hd;go_enter Tryz.func93,Tryz.ntmps93;go_wp2_with (fail);with_reducible refine (Q1I b {s with first:=q} _ H1.out (by show _<s.degree;omega) (by show s.degree<=_;omega)).mono ?_
   rintro e w1 ⟨rfl,rfl⟩;go_wp2_with (fail);with_reducible refine (Q1I b {s with first:=q,next:=2,i:=s.degree-1} _ H2.out (by show _<s.degree;omega) (by show s.degree<=_;omega)).mono ?_
   rintro e w1 ⟨rfl,rfl⟩;go_wp2_with (fail);with_reducible refine (Q3A b {s with first:=q,next:=2,i:=s.degree-1} 1 _ H2.out).mono ?_
   rintro e w1 ⟨rfl,h3,m3⟩;have H3:=LH h3;have M3:=LH m3;clear h3 m3;go_wp2_with (fail)
   go_end0
   rw[HK.out]
   exact ⟨rfl,H3.out,M1.out.trans_ M3.out⟩
  ·have hd1:(s.degree-1==1)=false:=by simpa using hd
   rw[if_neg hd] at hK
   have HK:=LH hK;clear hK hd;go_enter Tryz.func93,Tryz.ntmps93;go_wp2_with (fail);with_reducible refine (Q1I b {s with first:=q} _ H1.out (by show _<s.degree;omega) (by show s.degree<=_;omega)).mono ?_
   rintro e w1 ⟨rfl,rfl⟩;go_wp2_with (fail);with_reducible refine (Q1I b {s with first:=q,next:=2,i:=s.degree-1} _ H2.out (by show _<s.degree;omega) (by show s.degree<=_;omega)).mono ?_
   rintro e w1 ⟨rfl,rfl⟩;go_wp2_with (fail)
   go_end0
   rw[HK.out]
   exact ⟨rfl,H2.out,M1.out⟩
theorem Q6a {n i:Int}:0<=Q0j n i/\Q0j n i<=2199023255556:=by
 unfold Q0j
 split
 ·rename_i h;have h1:=Q0N h.1;have h2:=Q0N h.2;omega
 ·omega
theorem Q4t {C:List Int} (hC:∀i,i<C.length->-9223372036854775808<=keyAt C i/\keyAt C i<=9223372036854775807) (a:Int):-9223372036854775808<=rdC C a/\rdC C a<=9223372036854775807:=by
 unfold rdC
 split
 ·exact hC _ (by omega)
 ·omega
theorem Q4B (b:Nat) (s:RS) (w:World) (h:RouteP b s w):
  Calls Tryz.prog 32 #[.pointer (some ⟨b,0,none⟩)] w fun e w'=>e=.returned (.bool (s.next==6))/\w=w':=by
 have c0:w.cell? ⟨b,0,none⟩=some (.int .i64 s.next):=h.blk.cell 0;clear h;go_enter Tryz.func32,Tryz.ntmps32;go_wp2_with (fail);go_ret;exact ⟨rfl,rfl⟩
theorem QbM (b:Nat) (s:RS) (w:World) (h:RouteP b s w) (hn:s.next=6):
  Calls Tryz.prog 33 #[.pointer (some ⟨b,0,none⟩)] w fun e w'=>e=.returned (.int .i64 s.degree)/\w=w':=by
 have c3:w.cell? ⟨b,3,none⟩=some (.int .i64 s.degree):=h.blk.cell 3;have H:=LH h;have e1:(s.next==6)=true:=by simpa using hn
 clear h hn;go_enter Tryz.func33,Tryz.ntmps33;go_wp2_with (fail);with_reducible refine (Q4B b s _ H.out).mono ?_
 rintro e w1 ⟨rfl,rfl⟩;go_wp2_with (fail);go_ret;exact ⟨rfl,rfl⟩
theorem QdJ (b:Nat) (s:RS) (w:World) (h:RouteP b s w):
  Calls Tryz.prog 34 #[.pointer (some ⟨b,0,none⟩)] w fun e w'=>e=.returned (.int .i64 s.child)/\w=w':=by
 have c6:w.cell? ⟨b,6,none⟩=some (.int .i64 s.child):=h.blk.cell 6;clear h;go_enter Tryz.func34,Tryz.ntmps34;go_wp2_with (fail);go_ret;exact ⟨rfl,rfl⟩
theorem Qah (n k:Int) (w:World):
  Calls Tryz.prog 28 #[.int .i64 n,.int .i64 k] w fun e w'=>e=.returned (.pointer (some ⟨w.heap.size,0,none⟩))/\RouteP w.heap.size (RS.init n k) w'/\Below w.heap.size w w':=by
 have H:Hid (RouteP w.heap.size (RS.init n k) (w.alloc (.cells #[.int .i64 0,.int .i64 n,.int .i64 k,.int .i64 0,.int .i64 0,.int .i64 0,.int .i64 0] 136))):=LH (Blk.new w _ _);go_enter Tryz.func28,Tryz.ntmps28;go_wp2_with (fail);go_ret;exact ⟨rfl,H.out,(Below.refl _ _).alloc (Nat.le_refl _) _⟩
theorem QfY (b:Nat) (s:RS) (q:Int) (w:World) (h:RouteP b s w) (a1:1<=s.next) (a2:s.next<=5) (d0:2<=s.degree) (d1:s.degree<=9223372036854775807) (k0:-9223372036854775808<=s.k) (k1:s.k<=9223372036854775807) (g0:-9223372036854775808<=s.first) (g1:s.first<=9223372036854775807) (i0:1<=s.i) (i1:s.i<=s.degree-1) (q0:-9223372036854775808<=q) (q1:q<=9223372036854775807):
  Calls Tryz.prog 93 #[.pointer (some ⟨b,0,none⟩),.int .i64 q] w fun e w'=>e=.returned (.tuple #[])/\RouteP b (s.key q) w'/\Mv b none w w':=by
 have:s.next=1\/s.next=2\/s.next=3\/s.next=4\/s.next=5:=by omega
 rcases this with hn|hn|hn|hn|hn
 ·exact QeN b s q w h hn d0 d1 k0 k1 g0 g1 i0 i1 q0 q1
 ·exact QeM b s q w h hn d0 d1 k0 k1 g0 g1 i0 i1 q0 q1
 ·exact QeL b s q w h hn d0 d1 k0 k1 g0 g1 i0 i1 q0 q1
 ·exact QeK b s q w h hn d0 d1 k0 k1 g0 g1 i0 i1 q0 q1
 ·exact QeJ b s q w h hn d0 d1 k0 k1 g0 g1 i0 i1 q0 q1
theorem QbT {w w1:World} (hb:Below w.drew.heap.size w.drew w1):Below w.heap.size w w1:=⟨hb.os,hb.tape,hb.output,hb.size,hb.block⟩
def Q4F (b bm:Nat) (s:RS) (B:Nat) (v:Value) (C:List Int) (size count odd ref:Int) (w:World) (e:Ending) (w':World):Prop:=
 e=.returned (.bool ((s.step (rdC C)).next==6))/\RouteP b (s.step (rdC C)) w'/\MemP B bm v C size (if s.next=6 then count else Q2m count) (if s.next=6\/(1<=s.addr/\s.addr<=C.length) then odd else Q2m odd) ref w'/\Only [b,bm] w w'
theorem Qcq (b bm:Nat) (s:RS) (B:Nat) (v:Value) (C:List Int) (size count odd ref:Int) (w:World) (h:RouteP b s w) (hm:MemP B bm v C size count odd ref w) (hI:s.Inv) (hC:C.length<=1000000) (hw:∀i,i<C.length->-9223372036854775808<=keyAt C i/\keyAt C i<=9223372036854775807):
  Calls Tryz.prog 30 #[.pointer (some ⟨b,0,none⟩),.pointer (some ⟨bm,0,none⟩)] w (Q4F b bm s B v C size count odd ref w):=by
 have hne:b≠bm:=h.blk.ne_ hm.blk (by decide);have hvb:v.ownBlock≠some b:=Q0o hm.own h.blk (by decide);have hR:=Q4t hw;by_cases h6:s.next=6
 ·have hs:=LH (RS.step_done (R:=rdC C) h6);have c0:w.cell? ⟨b,0,none⟩=some (.int .i64 6):=by rw[<-h6];exact h.blk.cell 0
  have H:=LH h;have HM:=LH hm;have H6:=LH h6;clear h hm h6;go_enter Tryz.func30,Tryz.ntmps30;go_wp2_with (fail);with_reducible refine (Q4B b s _ H.out).mono ?_
  rintro e w1 ⟨rfl,rfl⟩;go_wp2_with (fail);go_ret;unfold Q4F
  rw[hs.out,if_pos H6.out,if_pos (.inl H6.out)]
  exact ⟨rfl,H.out,HM.out,Only.refl _ _⟩
 ·by_cases h0:s.next=0
  ·have hs:=LH (RS.step0 (R:=rdC C) h0);have c0:w.cell? ⟨b,0,none⟩=some (.int .i64 0):=by rw[<-h0];exact h.blk.cell 0
   have c1:w.cell? ⟨b,1,none⟩=some (.int .i64 s.n):=h.blk.cell 1;have n0:=hI.n0;have n1:=hI.n1;have H:=LH h;have HM:=LH hm;have H0:=LH h0;clear h hm h0 h6 hI;go_enter Tryz.func30,Tryz.ntmps30;go_wp2_with (fail);with_reducible refine (Q28 B bm v C size count odd ref s.n _ HM.out hC n0 n1).mono ?_
   rintro e w2 ⟨rfl,hm2,m2⟩;have h2:RouteP b s w2:=m2.blk H.out hne (by simp);have HM2:=LH hm2;have O2:=LH (Only.of_mv (S:=[b,bm]) m2 (by simp));clear hm2 m2;have c3:w2.cell? ⟨b,3,none⟩=some (.int .i64 s.degree):=h2.blk.cell 3;have c0':w2.cell? ⟨b,0,none⟩=some (.int .i64 0):=by rw[<-H0.out];exact h2.blk.cell 0
   have c4:w2.cell? ⟨b,4,none⟩=some (.int .i64 s.i):=h2.blk.cell 4;have f0:=h2.blk.frozen 0;have f3:=h2.blk.frozen 3;have f4:=h2.blk.frozen 4;have hr:=hR s.n;obtain ⟨x,hx⟩:∃x,rdC C s.n=x:=⟨_,rfl⟩
   rw[hx] at hr|-
   have HX:=LH hx;clear hx;have M3:=LH (((Mv.set1 w2 b 3 (.int .i64 x)).trans_ (Mv.set1 _ b 0 (.int .i64 1))).trans_ (Mv.set1 _ b 4 (.int .i64 1)));have h3:RouteP b {s with degree:=x,next:=1,i:=1} (((w2.setCell ⟨b,3,none⟩ (.int .i64 x)).setCell ⟨b,0,none⟩ (.int .i64 1)).setCell ⟨b,4,none⟩ (.int .i64 1)):=((h2.blk.set_ 3 _).set_ 0 _).set_ 4 _;have H3:=LH h3;clear h3 h2;by_cases hx2:x<2
   ·go_wp2_with (fail);with_reducible refine (Q3A b _ 0 _ H3.out).mono ?_
    rintro e w3 ⟨rfl,h4,m4⟩;have H4:=LH h4;have M4:=LH (M3.out.trans_ m4);clear h4 m4 M3 H3;go_wp2_with (fail);with_reducible refine (Q4B b _ _ H4.out).mono ?_
    rintro e w4 ⟨rfl,rfl⟩;go_wp2_with (fail);go_ret;unfold Q4F;have e0:=H0.out;have ea:s.addr=s.n:=if_pos e0;have e6:¬s.next=6:=by omega
    rw[hs.out,HX.out,if_pos hx2,if_neg e6,ea]
    simp only[e6,false_or];exact ⟨rfl,H4.out,HM2.out.mv M4.out (fun e=>hne e.symm) (by simp) hvb (by cases v.ownBlock<;>simp),O2.out.trans (Only.of_mv M4.out (by simp))⟩
   ·go_wp2_with (fail);with_reducible refine (Q4B b _ _ H3.out).mono ?_
    rintro e w4 ⟨rfl,rfl⟩;go_wp2_with (fail);go_ret;unfold Q4F;have e0:=H0.out;have ea:s.addr=s.n:=if_pos e0;have e6:¬s.next=6:=by omega
    have hx3:¬x<2:=by omega
    rw[hs.out,HX.out,if_neg hx3,if_neg e6,ea]
    simp only[e6,false_or];exact ⟨rfl,H3.out,HM2.out.mv M3.out (fun e=>hne e.symm) (by simp) hvb (by cases v.ownBlock<;>simp),O2.out.trans (Only.of_mv M3.out (by simp))⟩
  ·have hs:=LH (RS.stepK (R:=rdC C) h0 h6);have hst:1<=s.next/\s.next<=5/\2<=s.degree/\s.degree<=9223372036854775807/\1<=s.i/\s.i<=s.degree-1:=by rcases hI.st with h|h|h<;>first|exact absurd h h0|exact absurd h h6|exact h
   obtain ⟨a1,a2,d0,d1,i0,i1⟩:=hst;have c0:w.cell? ⟨b,0,none⟩=some (.int .i64 s.next):=h.blk.cell 0;have c1:w.cell? ⟨b,1,none⟩=some (.int .i64 s.n):=h.blk.cell 1;have c4:w.cell? ⟨b,4,none⟩=some (.int .i64 s.i):=h.blk.cell 4;have e0:(s.next==0)=false:=by simpa using h0
   have e6:(s.next==6)=false:=by simpa using h6
   have H:=LH h;have HM:=LH hm;have HI:=LH hI;clear h hm h0 h6 hI;go_enter Tryz.func30,Tryz.ntmps30;go_wp2_with (fail)
   go_region_with (first|(go_at_call 94;(with_reducible refine (Q69 _ _ _).mono ?_);rintro e w1 ⟨rfl,hB1⟩;replace hB1:=QbT hB1;have H1:Hid (RouteP b s w1):=LH (H.out.blk.below hB1 H.out.blk.lt);have HM1:=LH (HM.out.below hB1);have O1:=LH (Only.of_below (S:=[b,bm]) hB1);clear hB1)|(go_at_call 91;(with_reducible refine (Q28 B bm v C size count odd ref (Q0j s.n s.i) _ HM1.out hC (by have:=Q6a (n:=s.n) (i:=s.i);omega) (by have:=Q6a (n:=s.n) (i:=s.i);omega)).mono ?_);rintro e w2 ⟨rfl,hm2,m2⟩;have H2:Hid (RouteP b s w2):=LH (m2.blk H1.out hne (by simp));have HM2:=LH hm2;have O2:=LH (O1.out.trans (Only.of_mv m2 (by simp)));clear hm2 m2 H1 HM1 O1)|(go_at_call 93;(with_reducible refine (QfY b s (rdC C (Q0j s.n s.i)) _ H2.out a1 a2 d0 d1 HI.out.k0 HI.out.k1 HI.out.g0 HI.out.g1 i0 i1 (hR _).1 (hR _).2).mono ?_);rintro e w3 ⟨rfl,h3,m3⟩;have H3:=LH h3;have HM3:=LH (HM2.out.mv m3 (fun e=>hne e.symm) (by simp) hvb (by cases v.ownBlock<;>simp));have O3:=LH (O2.out.trans (Only.of_mv m3 (by simp)));clear h3 m3 H2 HM2 O2))
   all_goals
    go_wp2_with (fail);with_reducible refine (Q4B b _ _ H3.out).mono ?_
    rintro e w4 ⟨rfl,rfl⟩;go_wp2_with (fail);go_ret;unfold Q4F
    rw[hs.out]
    have e6':¬s.next=6:=by simpa using e6
    have e0':¬s.next=0:=by simpa using e0
    have ea:s.addr=Q0j s.n s.i:=if_neg e0'
    rw[if_neg e6',ea]
    simp only[e6',false_or];exact ⟨rfl,H3.out,HM3.out,O3.out⟩
def QgO:Option Int->Int->Int
 |none,c=>c
 |some _,c=>Q2m c
def QgN (C:List Int):Option Int->Int->Int
 |none,o=>o
 |some a,o=>if 1<=a/\a<=C.length then o else Q2m o
theorem MemP.read {B b:Nat} {v:Value} {C:List Int} {size count odd ref:Int} {w:World} {a:Int} (h:MemP B b v C size (Q2m count) (if 1<=a/\a<=C.length then odd else Q2m odd) ref w):MemP B b v C size (QgO (some a) count) (QgN C (some a) odd) ref w:=h
structure PS where
 next:Int
 cell:Int
 at_:Int
 word:Int
def PS.init (slot:Int):PS:=⟨0,slot,0,0⟩
def PS.step (R:Int->Int) (s:PS):PS:=
 if s.next=0 then (if Q05 (R s.cell)=5 then {s with at_:=wAt (R s.cell),next:=1,cell:=wAt (R s.cell)+4} else {s with word:=R s.cell,next:=3})
 else if s.next=1 then (if R s.cell=1 then {s with next:=2,cell:=s.at_+3} else {s with next:=2,cell:=s.at_+2})
 else if s.next=2 then {s with word:=R s.cell,next:=3}
 else s
def PS.acc (s:PS):Option Int:=if s.next=3 then none else some s.cell
structure PS.Inv (s:PS):Prop where
 c0:-9223372036854775808<=s.cell
 c1:s.cell<=9223372036854775807
 a0:0<=s.at_
 a1:s.at_<=65536
 x0:-9223372036854775808<=s.word
 x1:s.word<=9223372036854775807
 st:s.next=0\/s.next=1\/s.next=2\/s.next=3
theorem PS.Inv.init {a:Int} (h0:-9223372036854775808<=a) (h1:a<=9223372036854775807):(PS.init a).Inv:=⟨h0,h1,by simp[PS.init],by simp[PS.init],by simp[PS.init],by simp[PS.init],.inl rfl⟩
theorem PS.step0 {R:Int->Int} {s:PS} (h:s.next=0):s.step R=if Q05 (R s.cell)=5 then {s with at_:=wAt (R s.cell),next:=1,cell:=wAt (R s.cell)+4} else {s with word:=R s.cell,next:=3}:=if_pos h
theorem PS.step1 {R:Int->Int} {s:PS} (h:s.next=1):s.step R=if R s.cell=1 then {s with next:=2,cell:=s.at_+3} else {s with next:=2,cell:=s.at_+2}:=by
 unfold PS.step;rw[if_neg (by omega),if_pos h]
theorem PS.step2 {R:Int->Int} {s:PS} (h:s.next=2):s.step R={s with word:=R s.cell,next:=3}:=by
 unfold PS.step;rw[if_neg (by omega),if_neg (by omega),if_pos h]
theorem PS.step3 {R:Int->Int} {s:PS} (h:s.next=3):s.step R=s:=by
 unfold PS.step;rw[if_neg (by omega),if_neg (by omega),if_neg (by omega)]
theorem PS.acc_some {s:PS} (h:s.next≠3):s.acc=some s.cell:=if_neg h
theorem PS.acc_none {s:PS} (h:s.next=3):s.acc=none:=if_pos h
theorem PS.Inv.step {s:PS} (h:s.Inv) {R:Int->Int} (hR:∀a,-9223372036854775808<=R a/\R a<=9223372036854775807):(s.step R).Inv:=by
 have b:=Q0D (R s.cell);have r:=hR s.cell;have:=h.a0;have:=h.a1
 rcases h.st with e|e|e|e
 ·rw[PS.step0 e]
  split
  ·exact ⟨by simp;omega,by simp;omega,b.1,b.2,h.x0,h.x1,.inr (.inl rfl)⟩
  ·exact ⟨h.c0,h.c1,h.a0,h.a1,r.1,r.2,.inr (.inr (.inr rfl))⟩
 ·rw[PS.step1 e]
  split
  ·exact ⟨by simp;omega,by simp;omega,h.a0,h.a1,h.x0,h.x1,.inr (.inr (.inl rfl))⟩
  ·exact ⟨by simp;omega,by simp;omega,h.a0,h.a1,h.x0,h.x1,.inr (.inr (.inl rfl))⟩
 ·rw[PS.step2 e]
  exact ⟨h.c0,h.c1,h.a0,h.a1,r.1,r.2,.inr (.inr (.inr rfl))⟩
 ·rw[PS.step3 e];exact h
def PeekP (b:Nat) (s:PS) (w:World):Prop:=Blk w b 221 #[.int .i64 s.next,.int .i64 s.cell,.int .i64 s.at_,.int .i64 s.word]
theorem PeekP.blk {b:Nat} {s:PS} {w:World} (h:PeekP b s w):Blk w b 221 #[.int .i64 s.next,.int .i64 s.cell,.int .i64 s.at_,.int .i64 s.word]:=h
theorem QcQ (a:Int) (w:World):
  Calls Tryz.prog 116 #[.int .i64 a] w fun e w'=>e=.returned (.pointer (some ⟨w.heap.size,0,none⟩))/\PeekP w.heap.size (PS.init a) w'/\Below w.heap.size w w'/\w'.heap.size=w.heap.size+1:=by
 have H:Hid (PeekP w.heap.size (PS.init a) (w.alloc (.cells #[.int .i64 0,.int .i64 a,.int .i64 0,.int .i64 0] 221))):=LH (Blk.new w _ _);go_enter Tryz.func116,Tryz.ntmps116;go_wp2_with (fail);go_ret;exact ⟨rfl,H.out,(Below.refl _ _).alloc (Nat.le_refl _) _,by simp⟩
section
variable (b:Nat) (s:PS) (w:World) (h:PeekP b s w)
include h
theorem Q2k:Calls Tryz.prog 177 #[.pointer (some ⟨b,0,none⟩)] w fun e w'=>e=.returned (.bool (s.next==3))/\w=w':=by
 have c0:w.cell? ⟨b,0,none⟩=some (.int .i64 s.next):=h.blk.cell 0;clear h;go_enter Tryz.func177,Tryz.ntmps177;go_wp2_with (fail);go_ret;exact ⟨rfl,rfl⟩
theorem Q6G:Calls Tryz.prog 120 #[.pointer (some ⟨b,0,none⟩)] w fun e w'=>e=.returned (.int .i64 s.word)/\w=w':=by
 have c3:w.cell? ⟨b,3,none⟩=some (.int .i64 s.word):=h.blk.cell 3;clear h;go_enter Tryz.func120,Tryz.ntmps120;go_wp2_with (fail);go_ret;exact ⟨rfl,rfl⟩
theorem Q93 (x:Int):Calls Tryz.prog 176 #[.pointer (some ⟨b,0,none⟩),.int .i64 x] w fun e w'=>e=.returned (.tuple #[])/\PeekP b {s with word:=x,next:=3} w'/\Mv b none w w':=by
 have c0:w.cell? ⟨b,0,none⟩=some (.int .i64 s.next):=h.blk.cell 0;have c3:w.cell? ⟨b,3,none⟩=some (.int .i64 s.word):=h.blk.cell 3;have f0:=h.blk.frozen 0;have f3:=h.blk.frozen 3;have H:Hid (PeekP b {s with word:=x,next:=3} ((w.setCell ⟨b,3,none⟩ (.int .i64 x)).setCell ⟨b,0,none⟩ (.int .i64 3))):=LH ((h.blk.set_ 3 _).set_ 0 _);clear h;go_enter Tryz.func176,Tryz.ntmps176;go_wp2_with (fail)
 go_end0
 exact ⟨rfl,H.out,(Mv.set1 _ _ _ _).trans_ (Mv.set1 _ _ _ _)⟩
end
def Q6z (b bm:Nat) (s:PS) (B:Nat) (v:Value) (C:List Int) (size count odd ref:Int) (w:World) (e:Ending) (w':World):Prop:=
 e=.returned (.bool ((s.step (rdC C)).next==3))/\PeekP b (s.step (rdC C)) w'/\MemP B bm v C size (QgO s.acc count) (QgN C s.acc odd) ref w'/\Only [b,bm] w w'
theorem QaY (b bm:Nat) (s:PS) (B:Nat) (v:Value) (C:List Int) (size count odd ref:Int) (w:World) (h:PeekP b s w) (hm:MemP B bm v C size count odd ref w) (hI:s.Inv) (hC:C.length<=1000000) (hw:∀i,i<C.length->-9223372036854775808<=keyAt C i/\keyAt C i<=9223372036854775807):
  Calls Tryz.prog 118 #[.pointer (some ⟨b,0,none⟩),.pointer (some ⟨bm,0,none⟩)] w (Q6z b bm s B v C size count odd ref w):=by
 have hne:b≠bm:=h.blk.ne_ hm.blk (by decide);have hvb:v.ownBlock≠some b:=Q0o hm.own h.blk (by decide);have hR:=Q4t hw;have a0:=hI.a0;have a1:=hI.a1;have z0:=hI.c0;have z1:=hI.c1;by_cases h3:s.next=3
 ·have hs:=LH (PS.step3 (R:=rdC C) h3);have HA:=LH (PS.acc_none h3);have c0:w.cell? ⟨b,0,none⟩=some (.int .i64 3):=by rw[<-h3];exact h.blk.cell 0
  have H:=LH h;have HM:=LH hm;clear h hm;clear hI h3;go_enter Tryz.func118,Tryz.ntmps118;go_wp2_with (fail);with_reducible refine (Q2k b s _ H.out).mono ?_
  rintro e w1 ⟨rfl,rfl⟩;go_wp2_with (fail);go_ret;unfold Q6z
  rw[hs.out,HA.out]
  exact ⟨rfl,H.out,HM.out,Only.refl _ _⟩
 ·have HA:=LH (PS.acc_some h3);have ho:=hI.st;by_cases h0:s.next=0
  ·have hs:=LH (PS.step0 (R:=rdC C) h0);have c0:w.cell? ⟨b,0,none⟩=some (.int .i64 0):=by rw[<-h0];exact h.blk.cell 0
   have c1:w.cell? ⟨b,1,none⟩=some (.int .i64 s.cell):=h.blk.cell 1;have H:=LH h;have HM:=LH hm;have H0:=LH h0;clear h hm h0;clear h3 hI ho;go_enter Tryz.func118,Tryz.ntmps118;go_wp2_with (fail);with_reducible refine (Q28 B bm v C size count odd ref s.cell _ HM.out hC z0 z1).mono ?_
   rintro e w2 ⟨rfl,hm2,m2⟩;have h2:PeekP b s w2:=m2.blk H.out hne (by simp);have HM2:=LH hm2.read;have O2:=LH (Only.of_mv (S:=[b,bm]) m2 (by simp));clear hm2 m2 c0 c1;have hr:=hR s.cell;obtain ⟨x,hx⟩:∃x,rdC C s.cell=x:=⟨_,rfl⟩
   rw[hx] at hr|-
   have HX:=LH hx;clear hx;by_cases hk:Q05 x=5
   ·have ek:(Q05 x !=5)=false:=by simpa using hk
    have ew:=Q0D x;have HK:=LH hk;clear hk;have c0:w2.cell? ⟨b,0,none⟩=some (.int .i64 0):=by rw[<-H0.out];exact h2.blk.cell 0
    have c1:w2.cell? ⟨b,1,none⟩=some (.int .i64 s.cell):=h2.blk.cell 1;have c2:w2.cell? ⟨b,2,none⟩=some (.int .i64 s.at_):=h2.blk.cell 2;have f0:=h2.blk.frozen 0;have f1:=h2.blk.frozen 1;have f2:=h2.blk.frozen 2;have M3:=LH (((Mv.set1 w2 b 2 (.int .i64 (wAt x))).trans_ (Mv.set1 _ b 0 (.int .i64 1))).trans_ (Mv.set1 _ b 1 (.int .i64 (wAt x+4))));have h3:PeekP b {s with at_:=wAt x,next:=1,cell:=wAt x+4} (((w2.setCell ⟨b,2,none⟩ (.int .i64 (wAt x))).setCell ⟨b,0,none⟩ (.int .i64 1)).setCell ⟨b,1,none⟩ (.int .i64 (wAt x+4))):=((h2.blk.set_ 2 _).set_ 0 _).set_ 1 _;have H3:=LH h3;clear h3;clear h2;go_wp2_with (fail);with_reducible refine (Q3R x _ hr.1 hr.2).mono ?_
    rintro e w3 ⟨rfl,rfl⟩;go_wp2_with (fail);with_reducible refine (Q2U x _ hr.1 hr.2).mono ?_
    rintro e w3 ⟨rfl,rfl⟩;go_wp2_with (fail);with_reducible refine (Q2k b _ _ H3.out).mono ?_
    rintro e w4 ⟨rfl,rfl⟩;go_wp2_with (fail);go_ret;unfold Q6z
    rw[hs.out,HX.out,HA.out,if_pos HK.out]
    exact ⟨rfl,H3.out,HM2.out.mv M3.out (fun e=>hne e.symm) (by simp) hvb (by cases v.ownBlock<;>simp),O2.out.trans (Only.of_mv M3.out (by simp))⟩
   ·have ek:(Q05 x !=5)=true:=by simpa using hk
    have HK:=LH hk;clear hk;have c0:w2.cell? ⟨b,0,none⟩=some (.int .i64 0):=by rw[<-H0.out];exact h2.blk.cell 0
    have H2:=LH h2;clear h2;go_wp2_with (fail);with_reducible refine (Q3R x _ hr.1 hr.2).mono ?_
    rintro e w3 ⟨rfl,rfl⟩;go_wp2_with (fail);with_reducible refine (Q93 b s _ H2.out x).mono ?_
    rintro e w3 ⟨rfl,h3,m3⟩;have H3:=LH h3;have M3:=LH m3;clear h3 m3;go_wp2_with (fail);with_reducible refine (Q2k b _ _ H3.out).mono ?_
    rintro e w4 ⟨rfl,rfl⟩;go_wp2_with (fail);go_ret;unfold Q6z
    rw[hs.out,HX.out,HA.out,if_neg HK.out]
    exact ⟨rfl,H3.out,HM2.out.mv M3.out (fun e=>hne e.symm) (by simp) hvb (by cases v.ownBlock<;>simp),O2.out.trans (Only.of_mv M3.out (by simp))⟩
  ·by_cases h1:s.next=1
   ·have hs:=LH (PS.step1 (R:=rdC C) h1);have c0:w.cell? ⟨b,0,none⟩=some (.int .i64 1):=by rw[<-h1];exact h.blk.cell 0
    have c1:w.cell? ⟨b,1,none⟩=some (.int .i64 s.cell):=h.blk.cell 1;have f0:=h.blk.frozen 0;have h4:PeekP b {s with next:=2} (w.setCell ⟨b,0,none⟩ (.int .i64 2)):=h.blk.set_ 0 _;have M1:=LH (Mv.set1 w b 0 (.int .i64 2));have HM:=LH (hm.mv M1.out (fun e=>hne e.symm) (by simp) hvb (by cases v.ownBlock<;>simp));have c1':(w.setCell ⟨b,0,none⟩ (.int .i64 2)).cell? ⟨b,1,none⟩=some (.int .i64 s.cell):=h4.blk.cell 1;have H:=LH h;have H4:=LH h4;clear h h4;clear h3 hI ho hm h0 h1 c1;go_enter Tryz.func118,Tryz.ntmps118;go_wp2_with (fail);with_reducible refine (Q28 B bm v C size count odd ref s.cell _ HM.out hC z0 z1).mono ?_
    rintro e w2 ⟨rfl,hm2,m2⟩;have h2:PeekP b {s with next:=2} w2:=m2.blk H4.out hne (by simp);have HM2:=LH hm2.read;have O2:=LH ((Only.of_mv (S:=[b,bm]) M1.out (by simp)).trans (Only.of_mv (S:=[b,bm]) m2 (by simp)));clear hm2 m2 c0 c1';have hr:=hR s.cell;obtain ⟨x,hx⟩:∃x,rdC C s.cell=x:=⟨_,rfl⟩
    rw[hx] at hr|-
    have HX:=LH hx;clear hx;have c1:w2.cell? ⟨b,1,none⟩=some (.int .i64 s.cell):=h2.blk.cell 1;have c2:w2.cell? ⟨b,2,none⟩=some (.int .i64 s.at_):=h2.blk.cell 2;have f1:=h2.blk.frozen 1;by_cases hk:x=1
    ·have ek:(x==1)=true:=by simpa using hk
     have HK:=LH hk;clear hk;have M3:=LH (Mv.set1 w2 b 1 (.int .i64 (s.at_+3)));have h5:PeekP b {s with next:=2,cell:=s.at_+3} (w2.setCell ⟨b,1,none⟩ (.int .i64 (s.at_+3))):=h2.blk.set_ 1 _;have H3:=LH h5;clear h5;clear h2;go_wp2_with (fail);with_reducible refine (Q2k b _ _ H3.out).mono ?_
     rintro e w4 ⟨rfl,rfl⟩;go_wp2_with (fail);go_ret;unfold Q6z
     rw[hs.out,HX.out,HA.out,if_pos HK.out]
     exact ⟨rfl,H3.out,HM2.out.mv M3.out (fun e=>hne e.symm) (by simp) hvb (by cases v.ownBlock<;>simp),O2.out.trans (Only.of_mv M3.out (by simp))⟩
    ·have ek:(x==1)=false:=by simpa using hk
     have HK:=LH hk;clear hk;have M3:=LH (Mv.set1 w2 b 1 (.int .i64 (s.at_+2)));have h5:PeekP b {s with next:=2,cell:=s.at_+2} (w2.setCell ⟨b,1,none⟩ (.int .i64 (s.at_+2))):=h2.blk.set_ 1 _;have H3:=LH h5;clear h5;clear h2;go_wp2_with (fail);with_reducible refine (Q2k b _ _ H3.out).mono ?_
     rintro e w4 ⟨rfl,rfl⟩;go_wp2_with (fail);go_ret;unfold Q6z
     rw[hs.out,HX.out,HA.out,if_neg HK.out]
     exact ⟨rfl,H3.out,HM2.out.mv M3.out (fun e=>hne e.symm) (by simp) hvb (by cases v.ownBlock<;>simp),O2.out.trans (Only.of_mv M3.out (by simp))⟩
   ·have h2:s.next=2:=by omega
    have hs:=LH (PS.step2 (R:=rdC C) h2);have c0:w.cell? ⟨b,0,none⟩=some (.int .i64 2):=by rw[<-h2];exact h.blk.cell 0
    have c1:w.cell? ⟨b,1,none⟩=some (.int .i64 s.cell):=h.blk.cell 1;have H:=LH h;have HM:=LH hm;clear h hm;clear h3 hI ho h0 h1 h2;go_enter Tryz.func118,Tryz.ntmps118;go_wp2_with (fail);with_reducible refine (Q28 B bm v C size count odd ref s.cell _ HM.out hC z0 z1).mono ?_
    rintro e w2 ⟨rfl,hm2,m2⟩;have h2:PeekP b s w2:=m2.blk H.out hne (by simp);have HM2:=LH hm2.read;have O2:=LH (Only.of_mv (S:=[b,bm]) m2 (by simp));have H2:=LH h2;clear h2;clear hm2 m2 c0 c1;go_wp2_with (fail);with_reducible refine (Q93 b s _ H2.out _).mono ?_
    rintro e w3 ⟨rfl,h3,m3⟩;have H3:=LH h3;have M3:=LH m3;clear h3 m3;go_wp2_with (fail);with_reducible refine (Q2k b _ _ H3.out).mono ?_
    rintro e w4 ⟨rfl,rfl⟩;go_wp2_with (fail);go_ret;unfold Q6z
    rw[hs.out,HA.out]
    exact ⟨rfl,H3.out,HM2.out.mv M3.out (fun e=>hne e.symm) (by simp) hvb (by cases v.ownBlock<;>simp),O2.out.trans (Only.of_mv M3.out (by simp))⟩
def RS.acc (s:RS):Option Int:=if s.next=6 then none else some s.addr
structure SS where
 next:Int
 k:Int
 n:Int
 route:RS
 peek:Option PS
 at_:Int
 value:Int
 there:Bool
theorem Q6l {n d i:Int}:0<=Q06 n d i/\Q06 n d i<=3298534883332:=by
 unfold Q06
 split
 ·rename_i h;have h1:=Q0N h.1;have h2:=Q0N h.2.1;have h3:=Q0N h.2.2;omega
 ·omega
structure RS.Ch (s:RS):Prop where
 ch:s.next=6->0<=s.child/\(s.child=0\/s.child<s.degree)
 d1:s.degree<=9223372036854775807
theorem RS.Ch.init (n k:Int):(RS.init n k).Ch:=⟨fun h=>by simp[RS.init] at h,by simp[RS.init]⟩
theorem RS.Ch.up {s:RS} (h:s.Ch) (d0:2<=s.degree) (i:Int):(s.up i).Ch:=by
 have:=h.d1;unfold RS.up
 split
 ·exact ⟨fun _=>⟨by simp;omega,.inr (by simp;omega)⟩,h.d1⟩
 ·exact ⟨fun e=>by simp at e,h.d1⟩
theorem RS.Ch.down {s:RS} (h:s.Ch) (d0:2<=s.degree) (i:Int):(s.down i).Ch:=by
 unfold RS.down
 split
 ·exact ⟨fun _=>⟨by simp,.inr (by simp;omega)⟩,h.d1⟩
 ·exact ⟨fun e=>by simp at e,h.d1⟩
theorem RS.Ch.ende {s:RS} (h:s.Ch) (c:Int) (h0:0<=c) (h1:c=0\/c<s.degree):(s.ende c).Ch:=⟨fun _=>⟨h0,h1⟩,h.d1⟩
theorem RS.Ch.key {s:RS} (h:s.Ch) (hI:s.Inv) (h0:s.next≠0) (h6:s.next≠6) (q:Int):(s.key q).Ch:=by
 have st:1<=s.next/\s.next<=5/\2<=s.degree/\s.degree<=9223372036854775807/\1<=s.i/\s.i<=s.degree-1:=by rcases hI.st with h|h|h<;>first|exact absurd h h0|exact absurd h h6|exact h
 obtain ⟨a1,a2,d0,d1,i0,i1⟩:=st;unfold RS.key
 split
 ·split
  ·exact ⟨fun _=>⟨by simp,.inl rfl⟩,h.d1⟩
  ·split
   ·exact ⟨fun _=>⟨by simp,.inr (by simp;omega)⟩,h.d1⟩
   ·exact ⟨fun e=>by simp at e,h.d1⟩
 ·split
  ·split
   ·unfold RS.guess
    split
    ·exact ⟨fun e=>by simp at e,h.d1⟩
    ·exact h.up d0 2
   ·exact h.ende _ (by omega) (.inr (by omega))
  ·split
   ·split
    ·exact h.down d0 _
    ·exact h.up d0 _
   ·split
    ·split
     ·exact h.ende _ (by omega) (.inr (by omega))
     ·exact h.up d0 _
    ·split
     ·split
      ·exact h.down d0 _
      ·exact h.ende _ (by omega) (.inr (by omega))
     ·omega
theorem RS.Ch.step {s:RS} (h:s.Ch) (hI:s.Inv) {R:Int->Int} (hR:∀a,-9223372036854775808<=R a/\R a<=9223372036854775807):(s.step R).Ch:=by
 by_cases h0:s.next=0
 ·rw[RS.step0 h0]
  have:=hR s.n
  split
  ·exact ⟨fun _=>⟨by simp,.inl rfl⟩,by simp;omega⟩
  ·exact ⟨fun e=>by simp at e,by simp;omega⟩
 ·by_cases h6:s.next=6
  ·rw[RS.step_done h6];exact h
  ·rw[RS.stepK h0 h6];exact h.key hI h0 h6 _
structure WS where
 next:Int
 lo:Int
 hi:Int
 back:Bool
 values:Bool
 most:Int
 n:Int
 route:RS
 peek:Option PS
 levels:List (Int×Int×Int)
 at_:Int
 key:Int
 pairs:List (Int×Int)
 spots:List (Int×Int)
def WS.start (s:WS):Int:=if s.back=true then s.hi else s.lo
def WS.enter (s:WS) (n:Int):WS:={s with next:=0,n:=n,route:=RS.init n s.start}
def WS.init (lo hi:Int) (back:Bool) (most:Int) (values:Bool):WS:=⟨0,lo,hi,back,values,most,1,RS.init 1 (if back=true then hi else lo),none,[],0,0,[],[]⟩
def WS.top (s:WS):Int×Int×Int:=s.levels.headD (0,0,0)
def WS.slot (s:WS):Int:=Q06 s.top.1 s.top.2.1 s.top.2.2
def WS.look (s:WS):WS:={s with next:=1,peek:=some (PS.init s.slot)}
def more (back:Bool) (l:Int×Int×Int):Bool:=if back=true then decide (0<l.2.2) else decide (l.2.2+1<l.2.1)
def Q1F (back:Bool):List (Int×Int×Int)->List (Int×Int×Int)
 |[]=>[]
 |l::ls=>if more back l=true then l::ls else Q1F back ls
def WS.onward (s:WS):WS:={s with levels:=Q1F s.back s.levels,next:=if Q1F s.back s.levels=[] then 6 else 5}
def WS.ahead (s:WS):Int:=if s.back=true then Q0j s.top.1 s.top.2.2 else Q0j s.top.1 (s.top.2.2+1)
def WS.bound (s:WS) (q:Int):WS:=
 if s.back=true then (if s.lo<q then WS.look {s with levels:=(s.top.1,s.top.2.1,s.top.2.2-1)::s.levels.tail} else WS.onward {s with levels:=s.levels.tail})
 else (if q<=s.hi then WS.look {s with levels:=(s.top.1,s.top.2.1,s.top.2.2+1)::s.levels.tail} else WS.onward {s with levels:=s.levels.tail})
def WS.full (s:WS):Bool:=decide (0<s.most)&&decide (s.most<=(s.pairs.length:Int))
def WS.found (s:WS) (v:Int):WS:=
 if WS.full {s with pairs:=s.pairs++[(s.key,v)]}=true then {s with pairs:=s.pairs++[(s.key,v)],next:=6} else WS.onward {s with pairs:=s.pairs++[(s.key,v)]}
def WS.meet (s:WS) (w:Int):WS:=
 if Q05 w=2 then {s with at_:=wAt w,next:=2}
 else if Q05 w=3 then WS.enter {s with at_:=wAt w} (wAt w)
 else if Q05 w=4 then {s with at_:=wAt w,next:=4}
 else WS.onward {s with at_:=wAt w}
def WS.step (R:Int->Int) (s:WS):WS:=
 if s.next=0 then (if (s.route.step R).next=6 then WS.look {s with route:=s.route.step R,levels:=(s.n,(s.route.step R).degree,(s.route.step R).child)::s.levels} else {s with route:=s.route.step R})
 else if s.next=1 then (match s.peek with
  |some p=>if (p.step R).next=3 then WS.meet {s with peek:=some (p.step R),spots:=s.spots++[(s.slot,(p.step R).word)]} (p.step R).word else {s with peek:=some (p.step R)}
  |none=>s)
 else if s.next=2 then (if R s.at_<s.lo\/s.hi<R s.at_ then WS.onward {s with key:=R s.at_} else if s.values=true then {s with key:=R s.at_,next:=3} else WS.found {s with key:=R s.at_} 0)
 else if s.next=3 then WS.found s (R (s.at_+1))
 else if s.next=4 then WS.enter s (wAt (R s.at_))
 else if s.next=5 then WS.bound s (R s.ahead)
 else s
def WS.acc (s:WS):Option Int:=
 if s.next=0 then s.route.acc
 else if s.next=1 then (match s.peek with|some p=>p.acc|none=>none)
 else if s.next=2 then some s.at_
 else if s.next=3 then some (s.at_+1)
 else if s.next=4 then some s.at_
 else if s.next=5 then some s.ahead
 else none
def Q3v (l:Int×Int×Int):Prop:=0<=l.2.2/\(l.2.2=0\/l.2.2<l.2.1)/\l.2.1<=9223372036854775807
structure WS.Inv0 (s:WS):Prop where
 lo0:-9223372036854775808<=s.lo
 lo1:s.lo<=9223372036854775807
 hi0:-9223372036854775808<=s.hi
 hi1:s.hi<=9223372036854775807
 most0:-9223372036854775808<=s.most
 most1:s.most<=9223372036854775807
 rt:s.route.Inv
 ch:s.route.Ch
 lv:∀l∈s.levels,Q3v l
 a0:0<=s.at_
 a1:s.at_<=65536
structure WS.Inv (s:WS):Prop extends s.Inv0 where
 st:(s.next=0/\s.route.next≠6)\/(s.next=1/\s.levels≠[]/\∃p,s.peek=some p/\p.Inv/\p.next≠3)\/s.next=2\/s.next=3\/s.next=4\/(s.next=5/\∃l ls,s.levels=l::ls/\more s.back l=true)\/s.next=6
theorem Q5X {back:Bool}:∀{L:List (Int×Int×Int)} {l},l∈Q1F back L->l∈L
 |[],l,h=>h
 |x::L,l,h=>by
  unfold Q1F at h
  split at h
  ·exact h
  ·exact List.mem_cons_of_mem _ (Q5X h)
theorem Q6R {back:Bool}:∀{L:List (Int×Int×Int)},Q1F back L≠[]->∃l ls,Q1F back L=l::ls/\more back l=true
 |[],h=>absurd rfl h
 |x::L,h=>by
  unfold Q1F at h|-
  split
  ·rename_i hm;exact ⟨x,L,rfl,hm⟩
  ·rename_i hm;rw[if_neg hm] at h;exact Q6R h
theorem Q8F (back:Bool):∀L:List (Int×Int×Int),(Q1F back L).length<=L.length
 |[]=>Nat.le_refl _
 |x::L=>by
  unfold Q1F
  split
  ·exact Nat.le_refl _
  ·have:=Q8F back L;simp;omega
section
variable {s:WS} {R:Int->Int} {p:PS}
theorem WS.Inv0.start (h:s.Inv0):-9223372036854775808<=s.start/\s.start<=9223372036854775807:=by
 unfold WS.start;split
 ·exact ⟨h.hi0,h.hi1⟩
 ·exact ⟨h.lo0,h.lo1⟩
theorem WS.Inv.enter (h:s.Inv0) {n:Int} (h0:0<=n) (h1:n<=65536):(s.enter n).Inv:=
 ⟨⟨h.lo0,h.lo1,h.hi0,h.hi1,h.most0,h.most1,RS.Inv.init (by omega) (by omega) h.start.1 h.start.2,RS.Ch.init _ _,h.lv,h.a0,h.a1⟩,.inl ⟨rfl,by simp[WS.enter,RS.init]⟩⟩
theorem WS.Inv.init {lo hi most:Int} {back values:Bool} (a:-9223372036854775808<=lo) (b:lo<=9223372036854775807) (c:-9223372036854775808<=hi) (d:hi<=9223372036854775807) (e:-9223372036854775808<=most) (f:most<=9223372036854775807):(WS.init lo hi back most values).Inv:=
 ⟨⟨a,b,c,d,e,f,RS.Inv.init (by omega) (by omega) (by split<;>omega) (by split<;>omega),RS.Ch.init _ _,by simp[WS.init],by simp[WS.init],by simp[WS.init]⟩,.inl ⟨rfl,by simp[WS.init,RS.init]⟩⟩
theorem WS.Inv.look (h:s.Inv0) (hl:s.levels≠[]):s.look.Inv:=by
 have:=Q6l (n:=s.top.1) (d:=s.top.2.1) (i:=s.top.2.2);exact ⟨⟨h.lo0,h.lo1,h.hi0,h.hi1,h.most0,h.most1,h.rt,h.ch,h.lv,h.a0,h.a1⟩,.inr (.inl ⟨rfl,hl,_,rfl,PS.Inv.init (by unfold WS.slot;omega) (by unfold WS.slot;omega),by simp[PS.init]⟩)⟩
theorem WS.Inv.onward (h:s.Inv0):s.onward.Inv:=by
 refine ⟨⟨h.lo0,h.lo1,h.hi0,h.hi1,h.most0,h.most1,h.rt,h.ch,fun l hl=>h.lv l (Q5X hl),h.a0,h.a1⟩, ?_⟩;by_cases e:Q1F s.back s.levels=[]
 ·exact .inr (.inr (.inr (.inr (.inr (.inr (by unfold WS.onward;exact if_pos e))))))
 ·exact .inr (.inr (.inr (.inr (.inr (.inl ⟨by unfold WS.onward;exact if_neg e,Q6R e⟩)))))
theorem WS.Inv0.pairs (h:s.Inv0) (l:List (Int×Int)):WS.Inv0 {s with pairs:=l}:=⟨h.lo0,h.lo1,h.hi0,h.hi1,h.most0,h.most1,h.rt,h.ch,h.lv,h.a0,h.a1⟩
theorem WS.Inv0.key (h:s.Inv0) (k:Int):WS.Inv0 {s with key:=k}:=⟨h.lo0,h.lo1,h.hi0,h.hi1,h.most0,h.most1,h.rt,h.ch,h.lv,h.a0,h.a1⟩
theorem WS.Inv.found (h:s.Inv0) (v:Int):(s.found v).Inv:=by
 unfold WS.found
 split
 ·exact ⟨⟨h.lo0,h.lo1,h.hi0,h.hi1,h.most0,h.most1,h.rt,h.ch,h.lv,h.a0,h.a1⟩,.inr (.inr (.inr (.inr (.inr (.inr rfl)))))⟩
 ·exact WS.Inv.onward (h.pairs _)
theorem WS.Inv.meet (h:s.Inv0) (w:Int):(s.meet w).Inv:=by
 have b:=Q0D w;have h':WS.Inv0 {s with at_:=wAt w}:=⟨h.lo0,h.lo1,h.hi0,h.hi1,h.most0,h.most1,h.rt,h.ch,h.lv,b.1,b.2⟩;unfold WS.meet
 split
 ·exact ⟨⟨h.lo0,h.lo1,h.hi0,h.hi1,h.most0,h.most1,h.rt,h.ch,h.lv,b.1,b.2⟩,.inr (.inr (.inl rfl))⟩
 ·split
  ·exact WS.Inv.enter h' b.1 b.2
  ·split
   ·exact ⟨⟨h.lo0,h.lo1,h.hi0,h.hi1,h.most0,h.most1,h.rt,h.ch,h.lv,b.1,b.2⟩,.inr (.inr (.inr (.inr (.inl rfl))))⟩
   ·exact WS.Inv.onward h'
theorem WS.Inv.bound (h:s.Inv0) (l:Int×Int×Int) (ls:List (Int×Int×Int)) (hl:s.levels=l::ls) (hm:more s.back l=true) (q:Int):(s.bound q).Inv:=by
 have hb:=h.lv l (by rw[hl];simp);have htop:s.top=l:=by unfold WS.top;rw[hl];rfl
 have htl:s.levels.tail=ls:=by rw[hl];rfl
 have hls:∀x∈ls,Q3v x:=fun x hx=>h.lv x (by rw[hl];exact List.mem_cons_of_mem _ hx);have h':∀L:List (Int×Int×Int),(∀x∈L,Q3v x)->WS.Inv0 {s with levels:=L}:=fun L hL=>⟨h.lo0,h.lo1,h.hi0,h.hi1,h.most0,h.most1,h.rt,h.ch,hL,h.a0,h.a1⟩;unfold WS.bound
 rw[htop,htl]
 unfold more at hm;obtain ⟨b1,b2,b3⟩:=hb
 split
 ·rename_i hbk
  rw[if_pos hbk] at hm
  have hm2:=of_decide_eq_true hm
  split
  ·refine WS.Inv.look (h' _ (fun x hx=> ?_)) (by simp)
   rcases List.mem_cons.1 hx with rfl|hx
   ·exact ⟨by simp;omega,.inr (by simp;omega),b3⟩
   ·exact hls x hx
  ·exact WS.Inv.onward (h' _ hls)
 ·rename_i hbk
  rw[if_neg hbk] at hm
  have hm2:=of_decide_eq_true hm
  split
  ·refine WS.Inv.look (h' _ (fun x hx=> ?_)) (by simp)
   rcases List.mem_cons.1 hx with rfl|hx
   ·exact ⟨by simp;omega,.inr (by simp;omega),b3⟩
   ·exact hls x hx
  ·exact WS.Inv.onward (h' _ hls)
theorem WS.step0 (h:s.next=0) (h6:(s.route.step R).next≠6):s.step R={s with route:=s.route.step R}:=by
 unfold WS.step;rw[if_pos h,if_neg h6]
theorem WS.step0e (h:s.next=0) (h6:(s.route.step R).next=6):s.step R=WS.look {s with route:=s.route.step R,levels:=(s.n,(s.route.step R).degree,(s.route.step R).child)::s.levels}:=by
 unfold WS.step;rw[if_pos h,if_pos h6]
theorem WS.step1 (h:s.next=1) (hp:s.peek=some p) (h3:(p.step R).next≠3):s.step R={s with peek:=some (p.step R)}:=by
 unfold WS.step;rw[if_neg (by omega),if_pos h,hp];exact if_neg h3
theorem WS.step1e (h:s.next=1) (hp:s.peek=some p) (h3:(p.step R).next=3):s.step R=WS.meet {s with peek:=some (p.step R),spots:=s.spots++[(s.slot,(p.step R).word)]} (p.step R).word:=by
 unfold WS.step;rw[if_neg (by omega),if_pos h,hp];exact if_pos h3
theorem WS.step2 (h:s.next=2):s.step R=if R s.at_<s.lo\/s.hi<R s.at_ then WS.onward {s with key:=R s.at_} else if s.values=true then {s with key:=R s.at_,next:=3} else WS.found {s with key:=R s.at_} 0:=by
 unfold WS.step;rw[if_neg (by omega),if_neg (by omega),if_pos h]
theorem WS.step3 (h:s.next=3):s.step R=WS.found s (R (s.at_+1)):=by
 unfold WS.step;rw[if_neg (by omega),if_neg (by omega),if_neg (by omega),if_pos h]
theorem WS.step4 (h:s.next=4):s.step R=WS.enter s (wAt (R s.at_)):=by
 unfold WS.step;rw[if_neg (by omega),if_neg (by omega),if_neg (by omega),if_neg (by omega),if_pos h]
theorem WS.step5 (h:s.next=5):s.step R=WS.bound s (R s.ahead):=by
 unfold WS.step;rw[if_neg (by omega),if_neg (by omega),if_neg (by omega),if_neg (by omega),if_neg (by omega),if_pos h]
theorem WS.step6 (h:s.next=6):s.step R=s:=by
 unfold WS.step;rw[if_neg (by omega),if_neg (by omega),if_neg (by omega),if_neg (by omega),if_neg (by omega),if_neg (by omega)]
theorem WS.acc0 (h:s.next=0):s.acc=s.route.acc:=by unfold WS.acc;rw[if_pos h]
theorem WS.acc1 (h:s.next=1) (hp:s.peek=some p):s.acc=p.acc:=by unfold WS.acc;rw[if_neg (by omega),if_pos h,hp]
theorem WS.acc2 (h:s.next=2):s.acc=some s.at_:=by unfold WS.acc;rw[if_neg (by omega),if_neg (by omega),if_pos h]
theorem WS.acc3 (h:s.next=3):s.acc=some (s.at_+1):=by unfold WS.acc;rw[if_neg (by omega),if_neg (by omega),if_neg (by omega),if_pos h]
theorem WS.acc4 (h:s.next=4):s.acc=some s.at_:=by unfold WS.acc;rw[if_neg (by omega),if_neg (by omega),if_neg (by omega),if_neg (by omega),if_pos h]
theorem WS.acc5 (h:s.next=5):s.acc=some s.ahead:=by unfold WS.acc;rw[if_neg (by omega),if_neg (by omega),if_neg (by omega),if_neg (by omega),if_neg (by omega),if_pos h]
theorem WS.acc6 (h:s.next=6):s.acc=none:=by unfold WS.acc;rw[if_neg (by omega),if_neg (by omega),if_neg (by omega),if_neg (by omega),if_neg (by omega),if_neg (by omega)]
theorem WS.Inv.step (h:s.Inv) (hR:∀a,-9223372036854775808<=R a/\R a<=9223372036854775807):(s.step R).Inv:=by
 have i0:=h.toInv0;have rr:=h.rt.step hR;have rc:=h.ch.step h.rt hR
 rcases h.st with ⟨h0,h6⟩|⟨h1,hlv,p,hp,hI,h3⟩|h2|h3|h4|⟨h5,l,ls,hl,hm⟩|h6
 ·by_cases e6:(s.route.step R).next=6
  ·rw[WS.step0e h0 e6]
   refine WS.Inv.look ⟨h.lo0,h.lo1,h.hi0,h.hi1,h.most0,h.most1,rr,rc,fun l hl=> ?_,h.a0,h.a1⟩ (by simp)
   rcases List.mem_cons.1 hl with rfl|hl
   ·have:=rc.ch e6;exact ⟨this.1,this.2,rc.d1⟩
   ·exact h.lv l hl
  ·rw[WS.step0 h0 e6]
   exact ⟨⟨h.lo0,h.lo1,h.hi0,h.hi1,h.most0,h.most1,rr,rc,h.lv,h.a0,h.a1⟩,.inl ⟨h0,e6⟩⟩
 ·have hp2:=hI.step hR;by_cases e3:(p.step R).next=3
  ·rw[WS.step1e h1 hp e3]
   exact WS.Inv.meet (s:={s with peek:=some (p.step R),spots:=s.spots++[(s.slot,(p.step R).word)]}) ⟨h.lo0,h.lo1,h.hi0,h.hi1,h.most0,h.most1,h.rt,h.ch,h.lv,h.a0,h.a1⟩ _
  ·rw[WS.step1 h1 hp e3]
   exact ⟨⟨h.lo0,h.lo1,h.hi0,h.hi1,h.most0,h.most1,h.rt,h.ch,h.lv,h.a0,h.a1⟩,.inr (.inl ⟨h1,hlv,_,rfl,hp2,e3⟩)⟩
 ·rw[WS.step2 h2]
  split
  ·exact WS.Inv.onward (i0.key _)
  ·split
   ·exact ⟨⟨h.lo0,h.lo1,h.hi0,h.hi1,h.most0,h.most1,h.rt,h.ch,h.lv,h.a0,h.a1⟩,.inr (.inr (.inr (.inl rfl)))⟩
   ·exact WS.Inv.found (i0.key _) 0
 ·rw[WS.step3 h3]
  exact WS.Inv.found i0 _
 ·rw[WS.step4 h4]
  exact WS.Inv.enter i0 (Q0D _).1 (Q0D _).2
 ·rw[WS.step5 h5]
  exact WS.Inv.bound i0 l ls hl hm _
 ·rw[WS.step6 h6];exact h
end
theorem IntsAt.of_own {w:World} {base:Nat} {e:TypeId} {A:Option Addr} {n c:Nat} {l:List Int} (h:w.ownsRow base e 1 (.slice A n c) n (l.map (Value.int .i64))):n=l.length/\IntsAt w w.heap.size A l:=by
 have hn:n=l.length:=by have:=h.1;simp at this;omega
 subst hn;exact ⟨rfl,Reads.of_own h⟩
theorem Q35 (a:Addr):a.add 0=a:=by simp[Addr.add]
def Q0p (L:List (Int×Int)):List Value:=L.flatMap fun p=>[.int .i64 p.1,.int .i64 p.2]
theorem Q52:∀L,(Q0p L).length=L.length*2
 |[]=>rfl
 |p::L=>by
  have:=Q52 L;simp[Q0p] at this|-;omega
theorem Q1L (a b:List (Int×Int)):Q0p (a++b)=Q0p a++Q0p b:=by simp[Q0p]
def Q17 (L:List (Int×Int)) (i:Nat):Int:=(L.getD i (0,0)).1
def PairsAt (w:World) (B:Nat) (A:Option Addr) (L:List (Int×Int)):Prop:=Reads w B 2 A L.length (Q0p L)
theorem Q53:∀{L:List (Int×Int)} {i:Nat},i<L.length->(Q0p L)[i*2]? =some (.int .i64 (Q17 L i))
 |[],i,h=>absurd h (by simp)
 |p::L,0,h=>by simp[Q0p,Q17]
 |p::L,i+1,h=>by
  have:=Q53 (L:=L) (i:=i) (by simpa using h);have e:(i+1)*2=i*2+1+1:=by omega
  rw[e]
  simp[Q0p,Q17] at this|-;exact this
theorem PairsAt.key {w:World} {B:Nat} {A:Option Addr} {L:List (Int×Int)} (h:PairsAt w B A L) (hl:0<L.length):∃ad,A=some ad/\ad.block<B/\∀i,i<L.length->w.cell? (ad.add (i*2))=some (.int .i64 (Q17 L i)):=by
 obtain ⟨ad,e,hb,hc⟩:=h.2 hl;exact ⟨ad,e,hb,fun i hi=>hc _ _ (Q53 hi)⟩
def Q0m:List (Int×Int)->Int->Nat
 |[],_=>0
 |p::L,k=>if p.1<k then Q0m L k+1 else 0
theorem Q8H:∀(L:List (Int×Int)) (k:Int),Q0m L k<=L.length
 |[],k=>Nat.le_refl _
 |p::L,k=>by
  have:=Q8H L k;simp only[Q0m,List.length_cons]
  split<;>omega
theorem Q5Y {k:Int}:∀{L:List (Int×Int)} {i:Nat},i<=L.length->(∀x,x<i->Q17 L x<k)->(i<L.length->¬Q17 L i<k)->Q0m L k=i
 |[],i,h,_,_=>by simp at h;simp[Q0m,h]
 |p::L,0,h,h1,h2=>by
  have:=h2 (by simp);simp[Q17] at this;simp only[Q0m]
  rw[if_neg (by omega)]
 |p::L,i+1,h,h1,h2=>by
  have a:=h1 0 (by omega);simp[Q17] at a;simp only[Q0m]
  rw[if_pos a,Q5Y (L:=L) (i:=i) (by simpa using h) (fun x hx=>by have:=h1 (x+1) (by omega);simpa[Q17] using this) (fun hi=>by have:=h2 (by simpa using hi);simpa[Q17] using this)]
theorem Q8G (A:Option Addr) (c:Nat) (L:List (Int×Int)) (k:Int) (w:World) (hq:PairsAt w w.heap.size A L) (hl:L.length<=80):
  Calls Tryz.prog 126 #[.slice A L.length c,.int .i64 k] w fun e w'=>e=.returned (.int .i64 (Q0m L k))/\Drawn w w':=by
 have HQ:=LH hq;clear hq;go_enter Tryz.func126,Tryz.ntmps126;go_wp2_with (fail)
 go_loopw [5] (fun u wr=>∃(i m:Nat),i<=L.length/\u=.int .i64 i/\Hid (∀x,x<i->Q17 L x<k)/\wr=w.drewN m) (fun u _=>L.length-(intOf u).toNat)
 case atStart=>exact ⟨0,0,by omega,rfl,LH (fun x h=>absurd h (by omega)),rfl⟩
 case round=>
  obtain ⟨i,m,i1,rfl,hlow,rfl⟩:=hrel;by_cases hlt:i<L.length
  ·obtain ⟨ad,rfl,hbl,hc⟩:=PairsAt.key HQ.out (by omega);have hcell:(w.drewN m).cell? (ad.add (i*2))=some (.int .i64 (Q17 L i)):=hc i hlt;clear hc;by_cases hk:Q17 L i<k
   ·go_wp2_with (fail)
    go_roundw
    case rel=>exact ⟨i+1,m,by omega,by go_num,LH (fun x h=>by
     by_cases e:x=i
     ·subst e;exact hk
     ·exact hlow.out x (by omega)),rfl⟩
    case measure=>simp[intOf];omega
   ·have E:=LH (Q5Y i1 hlow.out (fun _=>hk));go_wp2_with (fail);go_ret
    rw[E.out]
    exact ⟨rfl,⟨_,rfl⟩⟩
  ·have E:=LH (Q5Y (k:=k) i1 hlow.out (fun h=>absurd h hlt));go_wp2_with (fail);go_ret
   rw[E.out]
   exact ⟨rfl,⟨_,rfl⟩⟩
def Qew (L:List (Int×Int)) (k v:Int):List (Int×Int):=L.take (Q0m L k)++[(k,v)]++L.drop (if Q0m L k<L.length/\Q17 L (Q0m L k)=k then Q0m L k+1 else Q0m L k)
theorem PairsAt.take {w:World} {B:Nat} {A:Option Addr} {L:List (Int×Int)} {n:Nat} (h:PairsAt w B A L) (hn:n<=L.length):Reads w B 2 A n (Q0p (L.take n)):=by
 refine ⟨by rw[Q52,List.length_take];omega,fun h0=> ?_⟩;obtain ⟨ad,e,hb,hc⟩:=h.2 (by omega);refine ⟨ad,e,hb,fun j u hu=>hc j u ?_⟩;have:=Q1L (L.take n) (L.drop n)
 rw[List.take_append_drop] at this
 rw[this,List.getElem?_append_left]
 ·exact hu
 ·rcases Nat.lt_or_ge j (Q0p (L.take n)).length with g|g
  ·exact g
  ·rw[List.getElem?_eq_none g] at hu;cases hu
theorem Q6p:∀(L:List (Int×Int)) (n:Nat),(Q0p L).drop (n*2)=Q0p (L.drop n)
 |L,0=>by simp
 |[],n+1=>by simp[Q0p]
 |p::L,n+1=>by
  have:=Q6p L n;have e:(n+1)*2=n*2+1+1:=by omega
  rw[e]
  simp[Q0p] at this|-;exact this
theorem Q1e {L:List (Int×Int)}:∀u∈Q0p L,u.oneCell'=true:=by
 intro u hu;simp[Q0p] at hu;obtain ⟨a,b,_,rfl|rfl⟩:=hu<;>simp[Value.oneCell']
theorem Q3y:(Tryz.prog.info? 52).map (fun i=>(i.zero,i.size,i.bytes))=some (some (.agg #[.int .i64 0,.int .i64 0]),2,16):=by kernel_rfl
theorem Q4o {P:Program} {w:World} (a:Addr):(storeCells a []).run P w=.ok () w:=by simp[storeCells]
theorem Q2f (w:World) (t:TypeId) (a b:Value):Reads (w.alloc (.cells #[a,b] t)) (w.heap.size+1) 2 (some ⟨w.heap.size,0,none⟩) 1 [a,b]:=by
 refine ⟨rfl,fun _=>⟨_,rfl,Nat.lt_succ_self _,fun j u hu=> ?_⟩⟩
 rcases j with _|_|j
 ·simp at hu;subst hu;rw[Q35,World.cell?_alloc_at _ _ _ _ rfl]<;>rfl
 ·simp at hu;subst hu;simp[Addr.add];try (rw[World.cell?_alloc_at _ _ _ _ rfl]<;>rfl)
 ·simp at hu
theorem PairsAt.keyAt {w:World} {B:Nat} {ad:Addr} {L:List (Int×Int)} (h:PairsAt w B (some ad) L) {i:Nat} (hi:i<L.length):w.cell? (ad.add (i*2))=some (.int .i64 (Q17 L i)):=by
 obtain ⟨ad',e,hb,hc⟩:=PairsAt.key h (by omega);injection e with e;subst e;exact hc i hi
theorem PairsAt.cut {w:World} {B n:Nat} {ad:Addr} {L:List (Int×Int)} (h:PairsAt w B (some ad) L) (hn:n<=L.length):Reads w B 2 (some (ad.add (n*2))) (L.length-n) (Q0p (L.drop n)):=by
 have:=Reads.cut h (k:=n) (cap:=L.length+n+1) hn (by omega)
 rw[if_neg (by omega),Q6p] at this
 exact this
theorem PairsAt.cut0 {w:World} {B n:Nat} {A:Option Addr} {L:List (Int×Int)} (h:PairsAt w B A L) (hn:n<=L.length) (he:L.length<=n):Reads w B 2 A (L.length-n) (Q0p (L.drop n)):=by
 have e:L.length-n=0:=by omega
 rw[e,List.drop_eq_nil_of_le he]
 exact ⟨rfl,fun h=>absurd h (by omega)⟩
theorem Q5W {L:List (Int×Int)} {k v:Int} {n:Nat} (h:(if Q0m L k<L.length/\Q17 L (Q0m L k)=k then Q0m L k+1 else Q0m L k)=n):Q0p (L.take (Q0m L k))++[.int .i64 k,.int .i64 v]++Q0p (L.drop n)=Q0p (Qew L k v):=by
 subst h;unfold Qew;simp[Q1L,Q0p]
def Q6y (L:List Int) (w:World) (e:Ending) (w':World):Prop:=∃v,e=.returned v/\w'.ownsRow w.heap.size 2 1 v L.length (L.map (Value.int .i64))/\Below w.heap.size w w'
theorem Q9M (n:Nat) (w:World) (hn:n<=1000000):
  Calls Tryz.prog 190 #[.slice none 0 0,.int .i64 n] w (Q6y [] w):=by
 obtain ⟨i0,hi0,hz0,hz1,hz2⟩:=info_parts Q1h
 rcases Nat.eq_zero_or_pos n with h0|h0
 ·subst h0;go_enter Tryz.func190,Tryz.ntmps190;go_wp2_with (fail);go_ret;exact ⟨_,rfl,World.ownsRow_nil _ _ _ _,Below.refl _ _⟩
 ·have hr:=Lib.run_append_nil_zeros (P:=Tryz.prog) w 22 3 0 2 i0 (.int .i64 0) .i64 .i64 Tryz.underlying22 Tryz.underlying3 hi0 hz0 n h0 (by rw[hz1];omega) (by omega) (by rw[hz2];omega);have h1:¬((n:Int)<0):=by omega
  have h2:(0:Int)<n:=by omega
  have hge:=grownCap_ge w n 0 2;have hle:=grownCap_le_maxLen w n 0 2 (by simp only[maxLen];omega);have HR:=LH hr;clear hr;go_enter Tryz.func190,Tryz.ntmps190;go_wp2_with (at_builtin;refine Lib.wpList_append_run w rfl _ _ 22 3 rfl (.slice none 0 0) (.int .i64 n) rfl rfl _ _ HR.out ?_);go_ret;refine ⟨_,rfl,⟨rfl,.inr ⟨w.heap.size,grownCap w n 0 2,_,rfl,Nat.le_refl _,heap_alloc_new w _,Nat.zero_le _,hle, ?_,by simp⟩⟩,((Below.refl _ w).alloc (Nat.le_refl _) _).trans (Q08 (Drawn.of _ 1) _)⟩;simp[Builtin.zeroCells];omega
theorem Q3T (L:List Int):∀u∈L.map (Value.int .i64),u.oneCell'=true:=fun u hu=>by
 obtain ⟨x,_,rfl⟩:=List.mem_map.1 hu;rfl
def QgL (r:Option Addr×Nat×List Int):Value:=.slice r.1 r.2.2.length r.2.1
structure RowsAt (w:World) (B:Nat) (A:Option Addr) (R:List (Option Addr×Nat×List Int)):Prop where
 outer:Reads w B 1 A R.length (R.map QgL)
 inner:∀r∈R,IntsAt w B r.1 r.2.2
def Q2d (R:List (Option Addr×Nat×List Int)):List Int:=R.flatMap (·.2.2)
theorem RowsAt.below {w w':World} {B:Nat} {A:Option Addr} {R:List (Option Addr×Nat×List Int)} (h:RowsAt w B A R) (hb:Below B w w'):RowsAt w' B A R:=
 ⟨h.outer.below hb,fun r hr=>(h.inner r hr).below hb⟩
theorem Q75 {R:List (Option Addr×Nat×List Int)} {k:Nat} (h:k<R.length):Q2d (R.take (k+1))=Q2d (R.take k)++R[k].2.2:=by
 unfold Q2d
 rw[List.take_add_one,List.getElem?_eq_getElem h,List.flatMap_append]
 simp only[Option.toList_some,List.flatMap_cons,List.flatMap_nil,List.append_nil]
theorem Q7U (R:List (Option Addr×Nat×List Int)) (k:Nat):(Q2d (R.take k)).length<=(Q2d R).length:=by
 have:Q2d R=Q2d (R.take k)++Q2d (R.drop k):=by
  unfold Q2d;rw[<-List.flatMap_append,List.take_append_drop]
 rw[this,List.length_append]
 omega
def Qe4 (R:List (Option Addr×Nat×List Int)) (w:World) (v i:Value) (wr:World):Prop:=∃k:Nat,k<=R.length/\i=.int .i64 k/\wr.ownsRow w.heap.size 2 1 v (Q2d (R.take k)).length ((Q2d (R.take k)).map (Value.int .i64))/\Below w.heap.size w wr
theorem QbO (A:Option Addr) (c N:Nat) (R:List (Option Addr×Nat×List Int)) (w:World) (hN:N=R.length) (h:RowsAt w w.heap.size A R) (hl:R.length<=100) (ht:(Q2d R).length<=1000000):
  Calls Tryz.prog 147 #[.slice A N c] w (Q6y (Q2d R) w):=by
 subst hN;obtain ⟨i0,hi0,hz0,hz1,hz2⟩:=info_parts Q1h;have H:=LH h;have HT:=LH ht;clear h ht;go_enter Tryz.func147,Tryz.ntmps147;go_wp2_with (fail)
 go_loop [3,11] (fun t i=>∃k:Nat,k<=R.length/\i=.int .i64 k/\t=.int .i64 ((Q2d (R.take k)).length:Nat)) (fun _ i=>R.length-(intOf i).toNat)
 case atStart=>exact ⟨0,by omega,rfl,rfl⟩
 case round=>
  obtain ⟨k,k1,rfl,rfl⟩:=hrel;have hle:=Q7U R k;have ht1:=HT.out;by_cases hlt:k<R.length
  ·obtain ⟨ad,hA,hbl,hcc⟩:=H.out.outer.2 (by omega);have hx0:=hcc k (QgL R[k]) (by rw[List.getElem?_map,List.getElem?_eq_getElem hlt];rfl);have e1:=LH (Q75 hlt);have hle2:=Q7U R (k+1);subst hA;obtain ⟨⟨A1,c1,L1⟩,hr⟩:∃r,R[k]=r:=⟨_,rfl⟩
   rw[hr] at hx0 e1
   have hx1:w.cell? (ad.add k)=some (.slice A1 L1.length c1):=hx0
   rw[e1.out,List.length_append] at hle2
   have hle3:(Q2d (R.take k)).length+L1.length<=1000000:=by simp only[] at hle2;omega
   have e2:(Q2d (R.take (k+1))).length=(Q2d (R.take k)).length+L1.length:=by rw[e1.out,List.length_append]
   have E2:=LH e2;clear hcc hx0 hr hle2 e2;generalize (Q2d (R.take k)).length=z at hle hle3 E2|-;go_wp2_with (fail)
   go_round
   case rel=>exact ⟨k+1,by omega,by go_num,by rw[E2.out];go_num⟩
   case measure=>simp[intOf];omega
  ·have ek:k=R.length:=by omega
   subst ek
   rw[List.take_of_length_le (Nat.le_refl _)]
   go_wp2_with (fail);with_reducible refine (Q9M (Q2d R).length _ ht1).mono ?_
   rintro e w1 ⟨v1,rfl,hO1,hB1⟩;have HO1:=LH hO1;have HB1:=LH hB1;clear hO1 hB1 hle;obtain ⟨A0,c0,rfl⟩:=Q03 HO1.out;go_wp2_with (fail)
   go_loopw [6,27] (fun v i wr=>Qe4 R w v i wr) (fun _ i _=>R.length-(intOf i).toNat)
   case atStart=>unfold Qe4;exact ⟨0,by omega,rfl,HO1.out,HB1.out⟩
   case round=>
    obtain ⟨j,j1,rfl,hO,hB⟩:=hrel;by_cases hj:j<R.length
    ·obtain ⟨ad,hA,hbl,hcc⟩:=(H.out.below hB).outer.2 (by omega);have hx0:=hcc j (QgL R[j]) (by rw[List.getElem?_map,List.getElem?_eq_getElem hj];rfl);have hin:=(H.out.below hB).inner R[j] (List.getElem_mem _);have e1:=LH (Q75 hj);have hle2:=Q7U R (j+1);subst hA;obtain ⟨⟨A1,c1,L1⟩,hr⟩:∃r,R[j]=r:=⟨_,rfl⟩
     rw[hr] at hx0 e1 hin
     have hx1:wr.cell? (ad.add j)=some (.slice A1 L1.length c1):=hx0
     rw[e1.out,List.length_append] at hle2
     have hle3:(Q2d (R.take j)).length+L1.length<=1000000:=by simp only[] at hle2;omega
     have hsz:=hB.size;clear hcc hx0 hr hle2;obtain ⟨M,hM⟩:∃M,Q2d (R.take j)=M:=⟨_,rfl⟩
     rw[hM] at hO e1 hle3
     clear hM;go_wp2_with (at_builtin;refine Q09 _ rfl _ _ 22 rfl w.heap.size 2 i0 (.int .i64 0) 1 8 Tryz.underlying22 hi0 hz0 hz1 hz2 rfl (by decide) _ M.length (M.map (Value.int .i64)) rfl hO w.heap.size A1 L1.length c1 (L1.map (Value.int .i64)) rfl hin (Q3T L1) ?p1 ?p2 ?p3 ?_;(case p1=>(unfold maxLen;omega));(case p2=>omega);(case p3=>exact hsz);intro v' w2 hO2 hg hvb);have hB2:Below w.heap.size w w2:=hB.grown hg hsz (fun g h=>(hO.lt g h).1)
     go_roundw
     case rel=>
      unfold Qe4;refine ⟨j+1,by omega,by go_num, ?_,hB2⟩
      rw[e1.out,List.map_append,List.length_append]
      exact hO2
     case measure=>simp[intOf];omega
    ·have ej:j=R.length:=by omega
     subst ej
     rw[List.take_of_length_le (Nat.le_refl _)] at hO
     go_wp2_with (fail);go_ret;exact ⟨_,rfl,hO,hB⟩
theorem IntsAt.far {w:World} {B:Nat} {A:Option Addr} {q:List Int} (h:IntsAt w B A q) {p:Addr} (hp:∀ad,A=some ad->ad.block≠p.block) (u:Value):IntsAt (w.setCell p u) B A q:=
 ⟨h.1,fun hn=>by
  obtain ⟨ad,e,hb,hc⟩:=h.2 hn;refine ⟨ad,e,hb,fun j x hx=>(World.cell?_setCell_other w p (ad.add j) u (fun e2=> ?_)).trans (hc j x hx)⟩;have h1:=congrArg Addr.block e2
  rw[Q0O] at h1
  exact hp ad e h1.symm⟩
theorem Mv.wide {b:Nat} {w w':World} (h:Mv b none w w') (r:Option Nat):Mv b r w w':=⟨h.os,h.tape,h.output,h.size,fun k hk h1 _=>h.block k hk h1 (by simp)⟩
theorem Q7G (B b:Nat) (v:Value) (C:List Int) (size count odd ref:Int) (w:World) (h:MemP B b v C size count odd ref w) (hs:(C.length:Int)<=size) (hs2:size<=65536) (A:Option Addr) (c:Nat) (q:List Int) (N:Nat) (hN:N=q.length) (hq:IntsAt w w.heap.size A q) (hA:∀ad,A=some ad->ad.block≠b) (h0:0<q.length) (h1:(q.length:Int)<=size-C.length):
  Calls Tryz.prog 80 #[.pointer (some ⟨b,0,none⟩),.slice A N c] w fun e w'=>e=.returned (.tuple #[.int .i64 ((C.length:Int)+1),.bool true])/\∃v',MemP B b v' (C++q) size (Q2m count) odd ref w'/\Mv b v.ownBlock w w'/\(v'.ownBlock=v.ownBlock\/∃g,v'.ownBlock=some g/\w.heap.size<=g):=by
 subst hN;obtain ⟨i0,hi0,hz0,hz1,hz2⟩:=info_parts Q1h;obtain ⟨A0,c0',rfl⟩:=Q03 h.own;have h1':=(h.set 2 (by decide) (.int .i64 (Q2m count)) rfl);have c2:w.cell? ⟨b,2,none⟩=some (.int .i64 count):=h.blk.cell 2;have f2:=h.blk.frozen 2;have M1:=LH (Mv.set1 w b 2 (.int .i64 (Q2m count)));have eb:wrap64 (count+1)=Q2m count:=rfl;have HQ:=LH (hq.far (p:=⟨b,2,none⟩) hA (.int .i64 (Q2m count)));have hsz:(w.setCell ⟨b,2,none⟩ (.int .i64 (Q2m count))).heap.size=w.heap.size:=by simp
 have hB:B<=w.heap.size:=by have:=h.base;have:=h.blk.lt;omega
 have e0:((q.length:Int)==0)=false:=by rw[beq_eq_false_iff_ne];omega
 have hlt:¬size-(C.length:Int)<q.length:=by omega
 have SZ:=LH hsz;clear hq h hsz;go_enter Tryz.func80,Tryz.ntmps80;go_wp2_with (fail)
 try rw[eb]
 clear eb c2 f2;generalize w.setCell ⟨b,2,none⟩ (.int .i64 (Q2m count))=w1 at h1' M1 HQ SZ|-;have c0:w1.cell? ⟨b,0,none⟩=some (.slice A0 C.length c0'):=h1'.blk.cell 0;have c1:w1.cell? ⟨b,1,none⟩=some (.int .i64 size):=h1'.blk.cell 1;have H1:=LH h1';clear h1'
 go_quiet (fail)
 rename_i nq;have D1:=LH (Q08 (Drawn.of w1 nq) w1.heap.size);have h1q:=H1.out.below D1.out;have HQ2:=LH (show IntsAt (w1.drewN nq) w.heap.size A q from HQ.out);have hz3:w.heap.size<=(w1.drewN nq).heap.size:=by have:=SZ.out;show w.heap.size<=w1.heap.size;omega
 clear c0 c1;generalize w1.drewN nq=w2 at D1 h1q HQ2 hz3|-;have c0:w2.cell? ⟨b,0,none⟩=some (.slice A0 C.length c0'):=h1q.blk.cell 0;have f0:=h1q.blk.frozen 0;have H2:=LH h1q;have hown:=h1q.own;clear h1q;go_wp2_with (at_builtin;refine Q09 _ rfl _ _ 22 rfl B 2 i0 (.int .i64 0) 1 8 Tryz.underlying22 hi0 hz0 hz1 hz2 rfl (by decide) _ C.length (C.map (Value.int .i64)) rfl hown w.heap.size A q.length c (q.map (Value.int .i64)) rfl HQ2.out (Q3T q) ?p1 ?p2 ?p3 ?_;(case p1=>(unfold maxLen;omega));(case p2=>omega);(case p3=>omega);intro v' w3 hO' hg hvb;obtain ⟨A1,c1',rfl⟩:=Q03 hO';have HV:=LH hvb;clear hvb;have hb3:=H2.out.blk.grown hg (fun e=>H2.out.apart e.symm);have HB3:=LH hb3;have HO:=LH hO';have c3:w3.cell? ⟨b,0,none⟩=some (.slice A0 C.length c0'):=hb3.cell 0;have f3:=hb3.frozen 0;clear hb3 hO')
 go_ret2
 have hb3:=HB3.out;have hO':=HO.out;refine ⟨rfl,.slice A1 (C.length+q.length) c1',⟨?_, ?_,H2.out.base⟩, ?_, ?_⟩
 ·exact hb3.set_ 0 _
 ·have hap:=Q0o hO' hb3 (by decide);have:=ownsRow_setCell_other hO' (a:=⟨b,0,none⟩) (fun e=>hap (by simpa using e)) (Value.slice A1 (C.length+q.length) c1')
  rw[List.map_append,List.length_append]
  exact this
 ·exact Mv.trans_ (M1.out.wide _) (Mv.after D1.out (Mv.of_grown hg _))
 ·rcases HV.out with e|e
  ·exact .inl e
  ·exact .inr ⟨_,e,by omega⟩
theorem Only.grow {S T:List Nat} {w w1 w2:World} (h:Only S w w1) (k:Only T w1 w2) (hT:∀x∈T,x∈S\/w.heap.size<=x):Only S w w2:=
 ⟨k.os.trans h.os,k.tape.trans h.tape,k.output.trans h.output,Nat.le_trans h.size k.size,fun i hi h1=>(k.block i (Nat.lt_of_lt_of_le hi h.size) (fun hm=>by
  rcases hT i hm with h2|h2
  ·exact h1 h2
  ·omega)).trans (h.block i hi h1)⟩
theorem Qey {w:World} {base base' n:Nat} {e:TypeId} {size:Nat} {v:Value} {xs:List Value} (h:w.ownsRow base e size v n xs) (hb:base'<=base):w.ownsRow base' e size v n xs:=by
 refine ⟨h.1, ?_⟩
 rcases h.2 with h0|⟨g,cap,cur,rfl,hg,rest⟩
 ·exact .inl h0
 ·exact .inr ⟨g,cap,cur,rfl,Nat.le_trans hb hg,rest⟩
theorem IntsAt.nil (w:World) (B:Nat):IntsAt w B none []:=Reads.none_
theorem RowsAt.at_ {w:World} {B B':Nat} {A:Option Addr} {R:List (Option Addr×Nat×List Int)} (h:RowsAt w B A R) (hb:B'=B):RowsAt w B' A R:=hb▸h
theorem Q6U (n:Int) (w:World) (h0:1<=n) (h1:n<=65536):
  Calls Tryz.prog 36 #[.int .i64 n] w fun e w'=>e=.returned (.tuple #[.pointer (some ⟨w.heap.size,0,none⟩),.int .i64 0])/\MemP w.heap.size w.heap.size (.slice none 0 0) [] n 0 0 0 w'/\Below w.heap.size w w':=by
 have H:Hid (MemP w.heap.size w.heap.size (.slice none 0 0) [] n 0 0 0 (w.alloc (.cells #[.slice none 0 0,.int .i64 n,.int .i64 0,.int .i64 0,.int .i64 0] 134))):=LH ⟨Blk.new w _ _,World.ownsRow_nil _ _ _ _,Nat.le_refl _⟩;go_enter Tryz.func36,Tryz.ntmps36;go_wp2_with (fail)
 go_ret2
 exact ⟨rfl,H.out,(Below.refl _ _).alloc (Nat.le_refl _) _⟩
section
variable (B b:Nat) (v:Value) (C:List Int) (size count odd ref:Int) (w:World) (h:MemP B b v C size count odd ref w)
include h in
include h in
include h in
theorem Q7m:Calls Tryz.prog 47 #[.pointer (some ⟨b,0,none⟩)] w fun e w'=>e=.returned (.int .i64 C.length)/\w=w':=by
 obtain ⟨A,c,rfl⟩:=Q03 h.own;have c2:w.cell? ⟨b,0,none⟩=some (.slice A C.length c):=h.blk.cell 0;clear h;go_enter Tryz.func47,Tryz.ntmps47;go_wp2_with (fail);go_ret;exact ⟨rfl,rfl⟩
include h in
theorem Qa8:Calls Tryz.prog 98 #[.pointer (some ⟨b,0,none⟩)] w fun e w'=>e=.returned (.int .i64 size)/\w=w':=by
 have c2:w.cell? ⟨b,1,none⟩=some (.int .i64 size):=h.blk.cell 1;clear h;go_enter Tryz.func98,Tryz.ntmps98;go_wp2_with (fail);go_ret;exact ⟨rfl,rfl⟩
end
theorem Qbv (n:Int) (Aq:Option Addr) (cq:Nat) (q:List Int) (Ac:Option Addr) (cc:Nat) (ch:List Int) (Nq Nc:Nat) (w:World) (hNq:Nq=q.length) (hNc:Nc=ch.length) (hq:IntsAt w w.heap.size Aq q) (hc:IntsAt w w.heap.size Ac ch) (hl:ch.length=q.length+1) (hq2:q.length<=100000):
  Calls Tryz.prog 88 #[.int .i64 n,.slice Aq Nq cq,.slice Ac Nc cc] w (Q6y ([(ch.length:Int),n,0,0,0]++q++ch) w):=by
 subst hNq hNc;have e0:((ch.length:Int) !=(q.length:Int)+1)=false:=by rw[hl];simp
 have hl2:ch.length<=100001:=by omega
 have hsz1:(w.alloc (.cells #[.int .i64 ch.length,.int .i64 n,.int .i64 0,.int .i64 0,.int .i64 0] 2)).heap.size=w.heap.size+1:=by simp
 have hrows:RowsAt ((w.alloc (.cells #[.int .i64 ch.length,.int .i64 n,.int .i64 0,.int .i64 0,.int .i64 0] 2)).alloc (.cells #[.slice (some ⟨w.heap.size,0,none⟩) 5 5,.slice Aq q.length cq,.slice Ac ch.length cc] 22)) (w.heap.size+1+1) (some ⟨w.heap.size+1,0,none⟩) [(some ⟨w.heap.size,0,none⟩,5,[(ch.length:Int),n,0,0,0]),(Aq,cq,q),(Ac,cc,ch)]:=by
  refine ⟨⟨rfl,fun _=>⟨_,rfl,by simp,fun j u hu=> ?_⟩⟩, ?_⟩
  ·have e:(⟨w.heap.size+1,0,none⟩:Addr).add j=⟨w.heap.size+1,j,none⟩:=by unfold Addr.add;split<;>simp_all
   rw[e]
   have:=(Blk.new (w.alloc (.cells #[.int .i64 ch.length,.int .i64 n,.int .i64 0,.int .i64 0,.int .i64 0] 2)) 22 #[.slice (some ⟨w.heap.size,0,none⟩) 5 5,.slice Aq q.length cq,.slice Ac ch.length cc]).cell j
   rw[hsz1] at this
   rw[this]
   simpa[QgL] using hu
  ·intro r hr;simp at hr
   rcases hr with rfl|rfl|rfl
   ·exact ((Q2a w 2 [(ch.length:Int),n,0,0,0]).alloc (by simp) _).more (by omega)
   ·exact ((hq.alloc (Nat.le_refl _) _).alloc (by simp) _).more (by omega)
   ·exact ((hc.alloc (Nat.le_refl _) _).alloc (by simp) _).more (by omega)
 have HR:=LH hrows;have hB:=LH (((Below.refl w.heap.size w).alloc (Nat.le_refl _) (.cells #[.int .i64 ch.length,.int .i64 n,.int .i64 0,.int .i64 0,.int .i64 0] 2)).alloc (by simp) (.cells #[.slice (some ⟨w.heap.size,0,none⟩) 5 5,.slice Aq q.length cq,.slice Ac ch.length cc] 22));clear hq hc hl hsz1 hrows;go_enter Tryz.func88,Tryz.ntmps88;go_wp2_with (fail);with_reducible refine (QbO _ _ 3 _ _ (by kernel_rfl) (HR.out.at_ (by simp)) (by simp) (by simp[Q2d];omega)).mono ?_
 rintro e w1 ⟨v1,rfl,hO,hb⟩;have hB1:=hB.out.trans (hb.mono (by simp;omega))
 have hO1:w1.ownsRow w.heap.size 2 1 v1 ([(ch.length:Int),n,0,0,0]++q++ch).length (([(ch.length:Int),n,0,0,0]++q++ch).map (Value.int .i64)):=by
  have e:Q2d [(some (⟨w.heap.size,0,none⟩:Addr),5,[(ch.length:Int),n,0,0,0]),(Aq,cq,q),(Ac,cc,ch)]=[(ch.length:Int),n,0,0,0]++q++ch:=by simp[Q2d]
  rw[e] at hO
  exact Qey hO (by simp;omega)
 have HO:=LH hO1;clear hO hb hO1;go_wp2_with (fail);go_ret;exact ⟨_,rfl,HO.out,hB1⟩
theorem QbH (w:World):Calls Tryz.prog 81 #[] w fun e w'=>e=.returned (.slice (some ⟨w.heap.size,0,none⟩) 1 1)/\IntsAt w' (w.heap.size+1) (some ⟨w.heap.size,0,none⟩) [0]/\Below w.heap.size w w':=by
 have H:Hid (IntsAt (w.alloc (.cells #[.int .i64 0] 2)) (w.heap.size+1) (some ⟨w.heap.size,0,none⟩) [0]):=LH (Q2a w 2 [0]);go_enter Tryz.func81,Tryz.ntmps81;go_wp2_with (fail);go_ret;exact ⟨rfl,H.out,(Below.refl _ _).alloc (Nat.le_refl _) _⟩
theorem QgW (w:World):Calls Tryz.prog 144 #[.int .i64 1,.int .i64 7] w fun e w'=>e=.returned (.bool true)/\w=w':=by
 go_enter Tryz.func144,Tryz.ntmps144;go_wp2_with (fail);go_ret;exact ⟨rfl,rfl⟩
theorem Qhl (w:World):Calls Tryz.prog 82 #[.int .i64 1,.int .i64 7] w fun e w'=>e=.returned (.int .i64 57)/\w=w':=by
 go_enter Tryz.func82,Tryz.ntmps82;go_wp2_with (fail);with_reducible refine (QgW _).mono ?_
 rintro e w1 ⟨rfl,rfl⟩;go_wp2_with (fail);go_ret;exact ⟨by rfl,rfl⟩
def beginL:List Int:=[1,0,0,0,0,57,0]
theorem QdT (B b:Nat) (size count odd ref:Int) (w:World) (h:MemP B b (.slice none 0 0) [] size count odd ref w) (h0:7<=size) (h1:size<=65536):
  Calls Tryz.prog 37 #[.pointer (some ⟨b,0,none⟩)] w fun e w'=>e=.returned (.bool true)/\∃v',MemP B b v' beginL size (Q2m (Q2m count)) odd ref w'/\Only [b] w w'/\(∀g,v'.ownBlock=some g->w.heap.size<=g):=by
 have H:=LH h;clear h;go_enter Tryz.func37,Tryz.ntmps37;go_wp2_with (fail);with_reducible refine (Q7m B b _ [] size count odd ref _ H.out).mono ?_
 rintro e w1 ⟨rfl,rfl⟩;go_wp2_with (fail);with_reducible refine (Qa8 B b _ [] size count odd ref _ H.out).mono ?_
 rintro e w1 ⟨rfl,rfl⟩;go_wp2_with (fail);with_reducible refine (Qhl _).mono ?_
 rintro e w1 ⟨rfl,rfl⟩;have hq0:IntsAt (w.alloc (.cells #[.int .i64 57] 2)) (w.alloc (.cells #[.int .i64 57] 2)).heap.size (some ⟨w.heap.size,0,none⟩) [57]:=(Q2a w 2 [57]).more (by simp);have HQ:=LH hq0;have hb1:=(Below.refl w.heap.size w).alloc (Nat.le_refl _) (.cells #[.int .i64 57] 2);have H1:=LH (H.out.below hb1);have O1:=LH (Only.of_below (S:=[b]) hb1);have hsz1:w.heap.size+1=(w.alloc (.cells #[.int .i64 57] 2)).heap.size:=by simp
 have Z1:=LH hsz1;have hblt:b<w.heap.size:=H.out.blk.lt;clear hq0 hb1 H hsz1;go_wp2_with (fail);with_reducible refine (Qbv 0 none 0 [] _ _ [57] 0 1 _ (by kernel_rfl) (by kernel_rfl) (IntsAt.nil _ _) HQ.out (by simp) (by simp)).mono ?_
 rintro e w2 ⟨v2,rfl,hO2,hb2⟩;have H2:=LH (H1.out.below hb2);have O2:=LH (O1.out.trans (Only.of_below hb2));have Z2:=LH (show w.heap.size+1<=w2.heap.size by have:=hb2.size;rw[<-Z1.out] at this;exact this)
 replace hO2:w2.ownsRow (w.alloc (.cells #[.int .i64 57] 2)).heap.size 2 1 v2 6 (([1,0,0,0,0,57]:List Int).map (Value.int .i64)):=hO2
 obtain ⟨A2,c2,rfl⟩:=Q03 hO2
 have hA2:∀ad,A2=some ad->ad.block≠b:=by
  intro ad ha;subst ha;have:=(hO2.lt ad.block rfl).1;rw[<-Z1.out] at this;omega
 have HQ2:Hid (IntsAt w2 w2.heap.size A2 ([1,0,0,0,0,57]:List Int)):=LH (Reads.of_own hO2);clear hO2 hb2 H1 O1 HQ;go_wp2_with (fail);with_reducible refine (Q7G B b _ [] size count odd ref _ H2.out (by simp;omega) h1 A2 c2 ([1,0,0,0,0,57]:List Int) 6 (by kernel_rfl) HQ2.out hA2 (by simp) (by simp;omega)).mono ?_
 rintro e w3 ⟨rfl,v3,h3,m3,o3⟩;have h3':MemP B b v3 ([1,0,0,0,0,57]:List Int) size (Q2m count) odd ref w3:=h3
 have g3:∀g,v3.ownBlock=some g->w.heap.size<=g:=by
  intro g hg
  rcases o3 with e|⟨g',e,hge⟩
  ·rw[e] at hg;simp[Value.ownBlock] at hg
  ·rw[e] at hg;injection hg with hg;have:=Z2.out;omega
 have H3:=LH h3';have O3:=LH (O2.out.trans (Only.of_mvr (S:=[b]) m3 (by simp) (fun g hg=>by simp[Value.ownBlock] at hg)));have G3:=LH g3;have Z3:=LH (show w.heap.size+1<=w3.heap.size by have:=m3.size;have:=Z2.out;omega);clear h3 h3' m3 o3 H2 O2 Z2 HQ2 g3 Z1;go_wp2_with (fail);with_reducible refine (QbH _).mono ?_
 rintro e w4 ⟨rfl,hq4,hb4⟩;have H4:=LH (H3.out.below hb4);have O4:=LH (O3.out.trans (Only.of_below hb4))
 have HQ4:=LH (show IntsAt w4 w4.heap.size (some ⟨w3.heap.size,0,none⟩) [0] from hq4.more (by
  obtain ⟨ad,e,h1,h2⟩:=hq4.2 (by simp);injection e with e;subst e;have:=World.block_lt_of_cell? w4 _ (h2 0 _ rfl)
  rw[Q0O] at this
  exact this))
 have Z4:=LH (show w3.heap.size<=w4.heap.size from hb4.size);have hbl:b<w3.heap.size:=H3.out.blk.lt;clear hq4 hb4 H3 O3;go_wp2_with (fail);with_reducible refine (Q7G B b v3 ([1,0,0,0,0,57]:List Int) size (Q2m count) odd ref _ H4.out (by simp;omega) h1 (some ⟨w3.heap.size,0,none⟩) 1 ([0]:List Int) 1 (by kernel_rfl) HQ4.out (fun ad ha=>by injection ha with ha;subst ha;show w3.heap.size≠b;omega) (by simp) (by simp;omega)).mono ?_
 rintro e w5 ⟨rfl,v5,h5,m5,o5⟩;have h5':MemP B b v5 beginL size (Q2m (Q2m count)) odd ref w5:=h5;have H5:=LH h5'
 have O5:=LH (O4.out.grow (Only.of_mvr (S:=b::v3.ownBlock.toList) m5 (by simp) (fun g hg=>by simp[hg])) (fun x hx=>by
  rcases List.mem_cons.1 hx with rfl|hx
  ·exact .inl (by simp)
  ·exact .inr (G3.out x (by simpa using hx))))
 have G5:∀g,v5.ownBlock=some g->w.heap.size<=g:=by
  intro g hg
  rcases o5 with e|⟨g',e,hge⟩
  ·rw[e] at hg;exact G3.out g hg
  ·rw[e] at hg;injection hg with hg;have:=Z3.out;have:=Z4.out;omega
 have HG:=LH G5;clear h5 h5' m5 o5 G5 H4 O4 HQ4;go_wp2_with (fail);go_ret;exact ⟨rfl,v5,H5.out,O5.out,HG.out⟩
structure Chg (F:Nat->Prop) (w w':World):Prop where
 os:w'.os=w.os
 tape:w'.tape=w.tape
 output:w'.output=w.output
 size:w.heap.size<=w'.heap.size
 block:∀k,k<w.heap.size->¬F k->w'.heap[k]? =w.heap[k]?
section
variable {F G:Nat->Prop} {S:List Nat} {w w1 w':World}
theorem Chg.refl (F:Nat->Prop) (w:World):Chg F w w:=⟨rfl,rfl,rfl,Nat.le_refl _,fun _ _ _=>rfl⟩
theorem Chg.trans (h:Chg F w w1) (k:Chg F w1 w'):Chg F w w':=
 ⟨k.os.trans h.os,k.tape.trans h.tape,k.output.trans h.output,Nat.le_trans h.size k.size,fun i hi h1=>(k.block i (Nat.lt_of_lt_of_le hi h.size) h1).trans (h.block i hi h1)⟩
theorem Chg.grow (h:Chg F w w1) (k:Chg G w1 w') (hG:∀x,G x->F x\/w.heap.size<=x):Chg F w w':=
 ⟨k.os.trans h.os,k.tape.trans h.tape,k.output.trans h.output,Nat.le_trans h.size k.size,fun i hi h1=>(k.block i (Nat.lt_of_lt_of_le hi h.size) (fun hg=>by
  rcases hG i hg with h2|h2
  ·exact h1 h2
  ·omega)).trans (h.block i hi h1)⟩
theorem Chg.mono (h:Chg F w w') (hs:∀x,F x->G x):Chg G w w':=⟨h.os,h.tape,h.output,h.size,fun k hk hn=>h.block k hk (fun hm=>hn (hs k hm))⟩
theorem Chg.of_below (h:Below w.heap.size w w'):Chg F w w':=⟨h.os,h.tape,h.output,h.size,fun k hk _=>h.block k hk⟩
theorem Chg.of_only (h:Only S w w') (hs:∀x∈S,F x):Chg F w w':=⟨h.os,h.tape,h.output,h.size,fun k hk hn=>h.block k hk (fun hm=>hn (hs k hm))⟩
theorem Chg.of_mv {b:Nat} (h:Mv b none w w') (hb:F b):Chg F w w':=Chg.of_only (Only.of_mv (S:=[b]) h (by simp)) (by simpa using hb)
theorem Chg.below {B:Nat} (h:Chg F w w') (hS:∀x,F x->B<=x) (hB:B<=w.heap.size):Below B w w':=⟨h.os,h.tape,h.output,h.size,fun k hk=>h.block k (by omega) (fun hm=>by have:=hS k hm;omega)⟩
theorem Chg.blk (h:Chg F w w') {g:Nat} {t:TypeId} {cs:Array Value} (hg:Blk w g t cs) (hn:¬F g):Blk w' g t cs:=(h.block g hg.lt hn).trans hg
theorem Chg.own (h:Chg F w w') {base n:Nat} {e:TypeId} {size:Nat} {v:Value} {xs:List Value} (hO:w.ownsRow base e size v n xs) (hn:∀g,v.ownBlock=some g->¬F g):w'.ownsRow base e size v n xs:=by
 refine ⟨hO.1, ?_⟩
 rcases hO.2 with h0|⟨g,cap,cur,rfl,hb,hgg,rest⟩
 ·exact .inl h0
 ·refine .inr ⟨g,cap,cur,rfl,hb, ?_,rest⟩
  rw[h.block g (Array.getElem?_eq_some_iff.1 hgg).1 (hn g rfl)]
  exact hgg
theorem MemP.chg {B b:Nat} {v:Value} {C:List Int} {size count odd ref:Int} (h:MemP B b v C size count odd ref w) (m:Chg F w w') (h1:¬F b) (h2:∀g,v.ownBlock=some g->¬F g):MemP B b v C size count odd ref w':=
 ⟨m.blk h.blk h1,m.own h.own h2,h.base⟩
theorem Q0t {base:Nat} {e t:TypeId} {size n g:Nat} {v:Value} {xs:List Value} {cs:Array Value} (h:w.ownsRow base e size v n xs) (hg:Blk w g t cs) (hne:e≠t):∀x,v.ownBlock=some x->x≠g:=fun x hx e=>Q0o h hg hne (by rw[hx,e])
end
theorem Q3E {w w1:World} (hb:Below w.drew.heap.size w.drew w1):Below w.heap.size w w1:=⟨hb.os,hb.tape,hb.output,hb.size,hb.block⟩
theorem Q0T {w:World} {base n:Nat} {e:TypeId} {size:Nat} {v:Value} {xs:List Value} (h:w.ownsRow base e size v n xs):∀g,v.ownBlock=some g->g<w.heap.size:=fun g hg=>(h.lt g hg).2
theorem Chg.of_grown {w w':World} {r:Option Nat} (h:w.grownBy w' r):Chg (fun x=>r=some x) w w':=⟨h.os,h.tape,h.output,h.size,fun k hk hn=>h.block k hk (fun e=>hn e.symm)⟩
def Q4b (L:List (Int×Int)) (i:Nat):Int:=(L.getD i (0,0)).2
theorem Q7f:∀{L:List (Int×Int)} {i:Nat},i<L.length->(Q0p L)[i*2+1]? =some (.int .i64 (Q4b L i))
 |[],i,h=>absurd h (by simp)
 |p::L,0,h=>by simp[Q0p,Q4b]
 |p::L,i+1,h=>by
  have:=Q7f (L:=L) (i:=i) (by simpa using h);have e:(i+1)*2+1=i*2+1+1+1:=by omega
  rw[e]
  simp[Q0p,Q4b] at this|-;exact this
theorem PairsAt.nil (w:World) (B:Nat):PairsAt w B none []:=Reads.none_
theorem QbV {L:List Int} (h:∀x∈L,-9223372036854775808<=x/\x<=9223372036854775807):∀i,i<L.length->-9223372036854775808<=keyAt L i/\keyAt L i<=9223372036854775807:=fun i hi=>h _ (by
 unfold keyAt
 rw[List.getD_eq_getElem?_getD,List.getElem?_eq_getElem hi]
 exact List.getElem_mem _)
def SomeOwnP (T:TypeId) (L:List (Int×Int)) (w:World) (e:Ending) (w':World):Prop:=∃v,e=.returned v/\w'.ownsRow w.heap.size T 2 v L.length (Q0p L)/\Below w.heap.size w w'
theorem Q4x:(Tryz.prog.info? 114).map (fun i=>(i.zero,i.size,i.bytes))=some (some (.agg #[.int .i64 0,.int .i64 0]),2,16):=by kernel_rfl
theorem QbP (A:Option Addr) (c N:Nat) (L:List (Int×Int)) (w:World) (hN:N=L.length) (h:PairsAt w w.heap.size A L) (hl:L.length<=1000000):
  Calls Tryz.prog 136 #[.slice A N c] w (SomeOwnP 114 L w):=by
 subst hN;have qT:∀(w:World) (a:Option Addr) (n c n' c':Nat),(binOp .eql 41 (.slice a n c) (.slice none n' c')).run Tryz.prog w=.ok (.bool a.isNone) w:=fun w a n c n' c'=>Lib.run_eql_slice_nil w _ _ a n c n' c' Tryz.underlying41;obtain ⟨i0,hi0,hz0,hz1,hz2⟩:=info_parts Q4x
 rcases A with _|ad
 ·have h0:L=[]:=by
   rcases L with _|⟨x,L⟩
   ·rfl
   ·obtain ⟨ad,e,_⟩:=h.2 (by simp)
    cases e
  subst h0;clear h;go_enter Tryz.func136,Tryz.ntmps136;go_wp2_with (fail);go_ret;exact ⟨_,rfl,World.ownsRow_nil _ _ _ _,Below.refl _ _⟩
 ·have H:=LH h;clear h;go_enter Tryz.func136,Tryz.ntmps136;have hO:=LH (World.ownsRow_lit (base:=w.heap.size) (e:=114) (size:=2) w #[] 0 (Nat.le_refl _) (by simp[maxLen]) rfl);have hB:=(Below.refl w.heap.size w).alloc (Nat.le_refl _) (.cells #[] 114);have hin:=H.out.below hB;have hsz:=hB.size;go_wp2_with (at_builtin;refine Q09 _ rfl _ _ 41 rfl w.heap.size 114 i0 (.agg #[.int .i64 0,.int .i64 0]) 2 16 Tryz.underlying41 hi0 hz0 hz1 hz2 rfl (by decide) _ 0 [] rfl hO.out w.heap.size (some ad) L.length c (Q0p L) rfl hin Q1e ?p1 ?p2 ?p3 ?_;(case p1=>(unfold maxLen;omega));(case p2=>omega);(case p3=>exact hsz);intro v' w2 hO2 hg hvb);have hB2:Below w.heap.size w w2:=hB.grown hg hsz (fun g h=>(hO.out.lt g h).1);go_wp2_with (fail);go_ret;refine ⟨_,rfl, ?_,hB2⟩
  simpa using hO2
theorem QbQ (A:Option Addr) (c N:Nat) (L:List (Int×Int)) (w:World) (hN:N=L.length) (h:PairsAt w w.heap.size A L) (hl:L.length<=1000000):
  Calls Tryz.prog 108 #[.slice A N c] w (SomeOwnP 52 L w):=by
 subst hN;have qT:∀(w:World) (a:Option Addr) (n c n' c':Nat),(binOp .eql 40 (.slice a n c) (.slice none n' c')).run Tryz.prog w=.ok (.bool a.isNone) w:=fun w a n c n' c'=>Lib.run_eql_slice_nil w _ _ a n c n' c' Tryz.underlying40;obtain ⟨i0,hi0,hz0,hz1,hz2⟩:=info_parts Q3y
 rcases A with _|ad
 ·have h0:L=[]:=by
   rcases L with _|⟨x,L⟩
   ·rfl
   ·obtain ⟨ad,e,_⟩:=h.2 (by simp)
    cases e
  subst h0;clear h;go_enter Tryz.func108,Tryz.ntmps108;go_wp2_with (fail);go_ret;exact ⟨_,rfl,World.ownsRow_nil _ _ _ _,Below.refl _ _⟩
 ·have H:=LH h;clear h;go_enter Tryz.func108,Tryz.ntmps108;have hO:=LH (World.ownsRow_lit (base:=w.heap.size) (e:=52) (size:=2) w #[] 0 (Nat.le_refl _) (by simp[maxLen]) rfl);have hB:=(Below.refl w.heap.size w).alloc (Nat.le_refl _) (.cells #[] 52);have hin:=H.out.below hB;have hsz:=hB.size;go_wp2_with (at_builtin;refine Q09 _ rfl _ _ 40 rfl w.heap.size 52 i0 (.agg #[.int .i64 0,.int .i64 0]) 2 16 Tryz.underlying40 hi0 hz0 hz1 hz2 rfl (by decide) _ 0 [] rfl hO.out w.heap.size (some ad) L.length c (Q0p L) rfl hin Q1e ?p1 ?p2 ?p3 ?_;(case p1=>(unfold maxLen;omega));(case p2=>omega);(case p3=>exact hsz);intro v' w2 hO2 hg hvb);have hB2:Below w.heap.size w w2:=hB.grown hg hsz (fun g h=>(hO.out.lt g h).1);go_wp2_with (fail);go_ret;refine ⟨_,rfl, ?_,hB2⟩
  simpa using hO2
def PeekO (F:Nat->Prop) (pv:Value) (o:Option PS) (w:World):Prop:=match o with
 |none=>pv=.pointer none
 |some p=>∃pb,pv=.pointer (some ⟨pb,0,none⟩)/\F pb/\PeekP pb p w
section
variable {F G:Nat->Prop} {o:Option PS} {pv:Value} {w w':World}
theorem PeekO.mono (h:PeekO F pv o w) (hs:∀x,F x->G x):PeekO G pv o w:=by
 cases o with
 |none=>exact h
 |some p=>obtain ⟨pb,h1,h2,h3⟩:=h;exact ⟨pb,h1,hs _ h2,h3⟩
theorem PeekO.chg (h:PeekO F pv o w) (m:Chg G w w') (hd:∀x,F x->G x->False):PeekO F pv o w':=by
 cases o with
 |none=>exact h
 |some p=>obtain ⟨pb,h1,h2,h3⟩:=h;exact ⟨pb,h1,h2,m.blk h3 (fun hg=>hd _ h2 hg)⟩
end
def RouteO (F:Nat->Prop) (rv:Value) (r:RS) (w:World):Prop:=∃rb,rv=.pointer (some ⟨rb,0,none⟩)/\F rb/\RouteP rb r w
section
variable {F G:Nat->Prop} {b:Nat} {s:SS} {rv pv:Value} {r:RS} {o:Option PS} {w w':World}
theorem RouteO.mono (h:RouteO F rv r w) (hs:∀x,F x->G x):RouteO G rv r w:=by
 obtain ⟨rb,h1,h2,h3⟩:=h;exact ⟨rb,h1,hs _ h2,h3⟩
theorem RouteO.chg (h:RouteO F rv r w) (m:Chg G w w') (hd:∀x,F x->G x->False):RouteO F rv r w':=by
 obtain ⟨rb,h1,h2,h3⟩:=h;exact ⟨rb,h1,h2,m.blk h3 (fun hg=>hd _ h2 hg)⟩
theorem RouteO.within (h:RouteO F rv r w):RouteO (fun x=>F x/\x<w.heap.size) rv r w:=by
 obtain ⟨rb,h1,h2,h3⟩:=h;exact ⟨rb,h1,⟨h2,h3.blk.lt⟩,h3⟩
theorem RouteO.keep (h:RouteO F rv r w) (m:Chg G w w') (hG:∀x,G x->∃t cs,Blk w x t cs/\t≠136):RouteO F rv r w':=by
 obtain ⟨rb,h1,h2,h3⟩:=h;exact ⟨rb,h1,h2,m.blk h3 (fun hg=>by obtain ⟨t,cs,hb,ht⟩:=hG _ hg;exact hb.ne_ h3.blk ht rfl)⟩
theorem PeekO.keep (h:PeekO F pv o w) (m:Chg G w w') (hG:∀x,G x->∃t cs,Blk w x t cs/\t≠221):PeekO F pv o w':=by
 cases o with
 |none=>exact h
 |some p=>
  obtain ⟨rb,h1,h2,h3⟩:=h;exact ⟨rb,h1,h2,m.blk h3 (fun hg=>by obtain ⟨t,cs,hb,ht⟩:=hG _ hg;exact hb.ne_ h3.blk ht rfl)⟩
end
def wrC (C:List Int) (a x:Int):List Int:=if 1<=a/\a<=C.length then C.set (a.toNat-1) x else C
theorem Q21 (C:List Int) (a x:Int):(wrC C a x).length=C.length:=by unfold wrC;split<;>simp
theorem Qc8 (B b:Nat) (v:Value) (C:List Int) (size count odd ref a x:Int) (w:World) (h:MemP B b v C size count odd ref w) (hC:C.length<=1000000) (a0:-9223372036854775808<=a) (a1:a<=9223372036854775807):
  Calls Tryz.prog 40 #[.pointer (some ⟨b,0,none⟩),.int .i64 a,.int .i64 x] w fun e w'=>e=.returned (.tuple #[])/\MemP B b v (wrC C a x) size (Q2m count) (if 1<=a/\a<=C.length then odd else Q2m odd) ref w'/\Mv b v.ownBlock w w':=by
 by_cases ha:1<=a/\a<=C.length
 ·obtain ⟨k,rfl⟩:∃k:Nat,a=k:=⟨a.toNat,by omega⟩;have HR:=LH (show wrC C k x=C.set (k-1) x from if_pos ha)
  rw[if_pos ha]
  have HH:=LH h;obtain ⟨k1,k2⟩:=ha;clear h;go_enter Tryz.func40,Tryz.ntmps40;go_wp2_with (fail);with_reducible refine (QdN B b v C size count odd ref k w HH.out hC (by omega) (by omega)).mono ?_
  rintro e w1 ⟨g,rfl,hv,h1,m1⟩;obtain ⟨g',c,rfl,_,_⟩:=h1.own.form (by omega);have hg:g'=g:=by simpa[Value.ownBlock] using hv
  subst hg
  have hx:w1.cell? ⟨g',k-1,none⟩=some (.int .i64 (keyAt C (k-1))):=by
   rw[h1.own.cellAt (k-1) (by simp;omega)]
   rw[List.getElem?_map,List.getElem?_eq_getElem (by omega)]
   simp[keyAt,List.getD_eq_getElem?_getD,List.getElem?_eq_getElem (show k-1<C.length by omega)]
  have hf:=h1.own.frozenAt (k-1);obtain ⟨hs,hs2⟩:=h1.own.stored (k-1) (.int .i64 x);have hne:b≠g':=fun e=>h1.apart (by simp[Value.ownBlock,e]);have HM:Hid (MemP B b (.slice (some ⟨g',0,none⟩) C.length c) (C.set (k-1) x) size (Q2m count) odd ref (w1.setCell ⟨g',k-1,none⟩ (.int .i64 x))):=LH ⟨h1.blk.far (p:=⟨g',k-1,none⟩) hne _,(by rw[List.length_set,List.map_set];exact hs),h1.base⟩;have HV:Hid (Mv b (some g') w (w1.setCell ⟨g',k-1,none⟩ (.int .i64 x))):=LH ((m1.wide _).trans_ ⟨rfl,rfl,rfl,by simp,fun i _ _ hi=>Below.heap_setCell w1 _ _ i (fun e=>hi (by simpa using e))⟩);clear h1 m1 hv hs hs2 hne;go_wp2_with (fail)
  go_end0
  rw[HR.out]
  exact ⟨rfl,HM.out,HV.out⟩
 ·have HR:=LH (show wrC C a x=C from if_neg ha)
  rw[if_neg ha]
  have HH:=LH h;clear h;go_enter Tryz.func40,Tryz.ntmps40;go_wp2_with (fail);with_reducible refine (QaC B b v C size count odd ref a w HH.out hC a0 a1 (by omega)).mono ?_
  rintro e w1 ⟨rfl,h1,m1⟩;have H1:=LH h1;have M1:=LH (m1.wide v.ownBlock);clear h1 m1 ha;go_wp2_with (fail)
  go_end0
  rw[HR.out]
  exact ⟨rfl,H1.out,M1.out⟩
theorem QcX (B b:Nat) (v:Value) (C:List Int) (size count odd ref a:Int) (w:World) (h:MemP B b v C size count odd ref w) (hC:C.length<=1000000) (a0:-9223372036854775808<=a) (a1:a<=9223372036854775807):
  Calls Tryz.prog 79 #[.pointer (some ⟨b,0,none⟩),.int .i64 a] w fun e w'=>e=.returned (.int .i64 (rdC C a))/\w=w':=by
 by_cases h1:a<1
 ·have HR:=LH (Q4a (C:=C) (a:=a) (.inl h1));clear h;go_enter Tryz.func79,Tryz.ntmps79;go_wp2_with (fail);go_ret
  rw[HR.out]
  exact ⟨rfl,rfl⟩
 ·obtain ⟨A,c,rfl⟩:=Q03 h.own;have c0:w.cell? ⟨b,0,none⟩=some (.slice A C.length c):=h.blk.cell 0;by_cases h2:(C.length:Int)<a
  ·have HR:=LH (Q4a (C:=C) (a:=a) (.inr h2));clear h;go_enter Tryz.func79,Tryz.ntmps79;go_wp2_with (fail);go_ret
   rw[HR.out]
   exact ⟨rfl,rfl⟩
  ·obtain ⟨k,rfl⟩:∃k:Nat,a=(k:Int)+1:=⟨(a-1).toNat,by omega⟩;have HR:=LH (show rdC C ((k:Int)+1)=keyAt C k from Q5U (C:=C) (a:=k+1) (by omega) (by omega));obtain ⟨ad,rfl,_,hc⟩:=(IntsAt.of_own h.own).2.cells (by omega);have hx:=hc k (by omega);have e1:(k:Int)+1-1=k:=by omega
   have hk1:(k:Int)<C.length:=by omega
   have hk2:k<C.length:=by omega
   clear h hc;generalize keyAt C k=x at hx HR;go_enter Tryz.func79,Tryz.ntmps79;go_wp2_with (fail);go_ret
   rw[HR.out]
   exact ⟨rfl,rfl⟩
def Q25 (L:List (Int×Int×Int)):List Value:=L.flatMap fun p=>[.int .i64 p.1,.int .i64 p.2.1,.int .i64 p.2.2]
theorem Q55:∀L,(Q25 L).length=L.length*3
 |[]=>rfl
 |p::L=>by
  have:=Q55 L;simp[Q25] at this|-;omega
theorem Q7Z (a b:List (Int×Int×Int)):Q25 (a++b)=Q25 a++Q25 b:=by simp[Q25]
theorem Q54 (L:List (Int×Int×Int)) (x:Int×Int×Int):Q25 (x::L).reverse=Q25 L.reverse++[.int .i64 x.1,.int .i64 x.2.1,.int .i64 x.2.2]:=by
 rw[List.reverse_cons,Q7Z];rfl
theorem Qbx:(Tryz.prog.info? 184).map (fun i=>(i.zero,i.size,i.bytes))=some (some (.agg #[.int .i64 0,.int .i64 0,.int .i64 0]),3,24):=by kernel_rfl
def LvP (F:Nat->Prop) (lv:Value) (L:List (Int×Int×Int)) (w:World):Prop:=w.ownsRow 0 184 3 lv L.length (Q25 L.reverse)/\∀g,lv.ownBlock=some g->F g
theorem LvP.head {F:Nat->Prop} {lv:Value} {L:List (Int×Int×Int)} {x:Int×Int×Int} {w:World} (h:LvP F lv (x::L) w):∃g c,lv=.slice (some ⟨g,0,none⟩) (L.length+1) c/\F g/\g<w.heap.size/\L.length+1<=c/\w.cell? ⟨g,L.length*3,none⟩=some (.int .i64 x.1)/\w.cell? ⟨g,L.length*3+1,none⟩=some (.int .i64 x.2.1)/\w.cell? ⟨g,L.length*3+2,none⟩=some (.int .i64 x.2.2):=by
 obtain ⟨hO,hF⟩:=h;obtain ⟨g,c,rfl,_,hlt⟩:=hO.form (by simp);have hl:(Q25 L.reverse).length=L.length*3:=by rw[Q55,List.length_reverse]
 have at_:∀j u,[Value.int .i64 x.1,.int .i64 x.2.1,.int .i64 x.2.2][j]? =some u->w.cell? ⟨g,L.length*3+j,none⟩=some u:=fun j u hu=>by
  have hj:j<3:=by
   rcases Nat.lt_or_ge j 3 with h|h
   ·exact h
   ·rw[List.getElem?_eq_none (by simpa using h)] at hu;cases hu
  rw[hO.cellAt (L.length*3+j) (by simp;omega),Q54,List.getElem?_append_right (by omega),hl,Nat.add_sub_cancel_left]
  exact hu
 have hc:=QfU hO;exact ⟨g,c,by simp,hF g (by simp[Value.ownBlock]),hlt,by simpa using hc,at_ 0 _ rfl,at_ 1 _ rfl,at_ 2 _ rfl⟩
def Qa0 (x:Int×Int×Int) (ok:Bool) (w:World) (e:Ending) (w':World):Prop:=e=.returned (.tuple #[.agg #[.int .i64 x.1,.int .i64 x.2.1,.int .i64 x.2.2],.bool ok])/\Below w.heap.size w w'
theorem Qej (b o:Nat) (lv:Value) (w:World) (F:Nat->Prop) (hc:w.cell? ⟨b,o,none⟩=some lv) (h:LvP F lv [] w):
  Calls Tryz.prog 183 #[.pointer (some ⟨b,o,none⟩)] w (Qa0 (0,0,0) false w):=by
 obtain ⟨A,c,rfl⟩:=Q03 h.1;have hlt:b<w.heap.size:=World.block_lt_of_cell? w _ hc;clear h;go_enter Tryz.func183,Tryz.ntmps183;go_wp2_with (fail);exact bodyPost_ret (v:=.tuple #[.agg #[.int .i64 0,.int .i64 0,.int .i64 0],.bool false]) (by simp[results,Tryz.results183,go_sem]) rfl ⟨rfl,((Below.refl _ _).alloc (Nat.le_refl _) _).alloc (by simp) _⟩
theorem Q3o (b o:Nat) (lv:Value) (x:Int×Int×Int) (L:List (Int×Int×Int)) (w:World) (F:Nat->Prop) (hc:w.cell? ⟨b,o,none⟩=some lv) (h:LvP F lv (x::L) w) (hl:L.length<=1000000):
  Calls Tryz.prog 183 #[.pointer (some ⟨b,o,none⟩)] w (Qa0 x true w):=by
 obtain ⟨g,c,rfl,_,hlt,hlc,c0,c1,c2⟩:=h.head;have hbl:b<w.heap.size:=World.block_lt_of_cell? w _ hc;have n1:=World.new_ne w ⟨b,o,none⟩ hc;have n2:=World.new_ne w _ c0;have e1:((L.length:Int)+1==0)=false:=by rw[beq_eq_false_iff_ne];omega
 have e2:(L.length:Int)+1-1=L.length:=by omega
 have e3:(0:Int)<=L.length:=by omega
 have e4:(L.length:Int)<(L.length:Int)+1:=by omega
 have ew:IntKind.i64.wrap ((L.length:Int)+1-1)=L.length:=by rw[e2];exact IntWalk.i64_in _ ⟨by omega,by omega⟩
 have ew2:IntKind.i64.wrap (L.length:Int)=L.length:=IntWalk.i64_in _ ⟨by omega,by omega⟩;clear h;go_enter Tryz.func183,Tryz.ntmps183;go_wp2_with (fail)
 go_region_held3 (fun w'=>w'.cell? ⟨b,o,none⟩=some (.slice (some ⟨g,0,none⟩) (L.length+1) c)/\w'.cell? ⟨g,L.length*3,none⟩=some (.int .i64 x.1)/\w'.cell? ⟨g,L.length*3+1,none⟩=some (.int .i64 x.2.1)/\w'.cell? ⟨g,L.length*3+2,none⟩=some (.int .i64 x.2.2)) (go_keep) (fail)
 have hB:Below w.heap.size w (w.alloc (.cells #[.int .i64 x.1,.int .i64 x.2.1,.int .i64 x.2.2] 184)).drew:=QfB ((Below.refl w.heap.size w).alloc (Nat.le_refl _) _) 1;go_wp2_with (fail);exact bodyPost_ret (v:=.tuple #[.agg #[.int .i64 x.1,.int .i64 x.2.1,.int .i64 x.2.2],.bool true]) (by simp[results,Tryz.results183,go_sem]) rfl ⟨rfl,hB⟩
def Qgj (F:Nat->Prop) (b o:Nat) (T:TypeId) (cs:Array Value) (lv:Value) (x:Int×Int×Int) (L:List (Int×Int×Int)) (w:World) (e:Ending) (w':World):Prop:=
 e=.returned (.tuple #[.agg #[.int .i64 x.1,.int .i64 x.2.1,.int .i64 x.2.2],.bool true])/\∃lv',Blk w' b T (cs.setIfInBounds o lv')/\LvP F lv' L w'/\lv'.ownBlock=lv.ownBlock/\Chg (fun y=>y=b\/lv.ownBlock=some y) w w'
theorem QcK (F:Nat->Prop) (b o:Nat) (T:TypeId) (cs:Array Value) (lv:Value) (x:Int×Int×Int) (L:List (Int×Int×Int)) (w:World) (hb:Blk w b T cs) (hT:184≠T) (ho:cs[o]? =some lv) (h:LvP F lv (x::L) w) (hl:L.length<=1000000):
  Calls Tryz.prog 184 #[.pointer (some ⟨b,o,none⟩)] w (Qgj F b o T cs lv x L w):=by
 have hB0:=(Below.refl w.heap.size w).alloc (Nat.le_refl _) (.cells #[.int .i64 0,.int .i64 0,.int .i64 0] 184);have HG0:=LH (Q0T h.1);have H0:=LH (show LvP F lv (x::L) (w.alloc (.cells #[.int .i64 0,.int .i64 0,.int .i64 0] 184)) from ⟨Q0n h.1 hB0,h.2⟩);have HBl:=LH (hb.below hB0 hb.lt);have c9:(w.alloc (.cells #[.int .i64 0,.int .i64 0,.int .i64 0] 184)).cell? ⟨b,o,none⟩=some lv:=(HBl.out.cell o).trans ho;have C9:=LH c9;have hR:=Blk.new w 184 #[.int .i64 0,.int .i64 0,.int .i64 0];have HR:=LH hR;clear hR;have hzz:(w.alloc (.cells #[.int .i64 0,.int .i64 0,.int .i64 0] 184)).heap.size=w.heap.size+1:=by simp
 have HZZ:=LH hzz;have HO:=LH ho;have HT:=LH hT;clear hzz ho hT;clear h hb c9;go_enter Tryz.func184,Tryz.ntmps184;go_wp2_with (fail);generalize w.alloc (.cells #[.int .i64 0,.int .i64 0,.int .i64 0] 184)=w0 at H0 HBl C9 HZZ HR hB0|-;with_reducible refine (Q3o b o lv x L _ F C9.out H0.out hl).mono ?_
 rintro e w1 ⟨rfl,hb1⟩;have HB1:=LH (hB0.trans (hb1.mono (by rw[HZZ.out];omega)));have HL1:=LH (show LvP F lv (x::L) w1 from ⟨Q0n H0.out.1 hb1,H0.out.2⟩);have HBl1:=LH (HBl.out.below hb1 HBl.out.lt);have hz1:=hb1.size;have HR1:=LH (HR.out.below hb1 HR.out.lt);clear hb1 H0 HBl C9 hB0 HR;have hx:=Blk.new w1 184 #[.int .i64 x.1,.int .i64 x.2.1,.int .i64 x.2.2];have ha1:=(Below.refl w1.heap.size w1).alloc (Nat.le_refl _) (.cells #[.int .i64 x.1,.int .i64 x.2.1,.int .i64 x.2.2] 184);have hs1:(w1.alloc (.cells #[.int .i64 x.1,.int .i64 x.2.1,.int .i64 x.2.2] 184)).heap.size=w1.heap.size+1:=by simp
 have hn:=Blk.new (w1.alloc (.cells #[.int .i64 x.1,.int .i64 x.2.1,.int .i64 x.2.2] 184)) 184 #[.int .i64 0,.int .i64 0,.int .i64 0];have ha2:=ha1.alloc (by rw[hs1];omega) (.cells #[.int .i64 0,.int .i64 0,.int .i64 0] 184)
 rw[hs1] at hn
 have HX3:=LH (hx.alloc (.cells #[.int .i64 0,.int .i64 0,.int .i64 0] 184));have HN3:=LH hn;have HL3:=LH (show LvP F lv (x::L) ((w1.alloc (.cells #[.int .i64 x.1,.int .i64 x.2.1,.int .i64 x.2.2] 184)).alloc (.cells #[.int .i64 0,.int .i64 0,.int .i64 0] 184)) from ⟨Q0n HL1.out.1 ha2,HL1.out.2⟩);have HBl3:=LH (HBl1.out.below ha2 HBl1.out.lt);have HR3:=LH (HR1.out.below ha2 HR1.out.lt);have HB3:=LH (HB1.out.trans (ha2.mono HB1.out.size));have hbw:b<w1.heap.size:=HBl1.out.lt;have hrw:w.heap.size<w1.heap.size:=HR1.out.lt;have hbne:w.heap.size≠b:=HR1.out.ne_ HBl1.out HT.out;obtain ⟨g,c,rfl,hFg,hgl,hlc,_,_,_⟩:=HL3.out.head;have c9:((w1.alloc (.cells #[.int .i64 x.1,.int .i64 x.2.1,.int .i64 x.2.2] 184)).alloc (.cells #[.int .i64 0,.int .i64 0,.int .i64 0] 184)).cell? ⟨b,o,none⟩=some (.slice (some ⟨g,0,none⟩) (L.length+1) c):=(HBl3.out.cell o).trans HO.out;have hbg:g≠b:=fun e=>Q0o HL3.out.1 HBl3.out HT.out (by simp[Value.ownBlock,e]);have hg0:g<w.heap.size:=HG0.out g rfl;have hgw:g<w1.heap.size:=Q0T HL1.out.1 g rfl;have e2:(L.length:Int)+1-1=L.length:=by omega
 have e3:(0:Int)<=L.length:=by omega
 have e4:(L.length:Int)<(L.length:Int)+1:=by omega
 have ew2:IntKind.i64.wrap (L.length:Int)=L.length:=IntWalk.i64_in _ ⟨by omega,by omega⟩;have hlc2:(L.length:Int)<=c:=by omega
 clear hx hn ha1 ha2 hs1 HL1 HBl1 HR1 HB1;go_wp2_with (fail);generalize (w1.alloc (.cells #[.int .i64 x.1,.int .i64 x.2.1,.int .i64 x.2.2] 184)).alloc (.cells #[.int .i64 0,.int .i64 0,.int .i64 0] 184)=w3 at HX3 HN3 HL3 HBl3 HR3 HB3 c9 hgl|-;have n0:w3.cell? ⟨w1.heap.size+1,0,none⟩=some (.int .i64 0):=HN3.out.cell 0;have n1:w3.cell? ⟨w1.heap.size+1,1,none⟩=some (.int .i64 0):=HN3.out.cell 1;have n2:w3.cell? ⟨w1.heap.size+1,2,none⟩=some (.int .i64 0):=HN3.out.cell 2;obtain ⟨g',c',hge,_,_,_,k0,k1,k2⟩:=HL3.out.head;have hgg:g=g':=by injection hge with a;injection a with a;injection a
 subst hgg;clear hge;have hgf0:=HL3.out.1.frozenAt (L.length*3);have hgf1:=HL3.out.1.frozenAt (L.length*3+1);have hgf2:=HL3.out.1.frozenAt (L.length*3+2);generalize w1.heap.size=z at n0 n1 n2 hbw hrw hgw HX3 HN3 hz1|-;have far:∀(q:Nat) (t:TypeId) (us:Array Value),Blk w3 q t us->q≠g->Blk (((w3.setCell ⟨g,L.length*3,none⟩ (.int .i64 0)).setCell ⟨g,L.length*3+1,none⟩ (.int .i64 0)).setCell ⟨g,L.length*3+2,none⟩ (.int .i64 0)) q t us:=fun q t us h hq=>((h.far (p:=⟨g,L.length*3,none⟩) hq _).far (p:=⟨g,L.length*3+1,none⟩) hq _).far (p:=⟨g,L.length*3+2,none⟩) hq _;have HN5:=LH (far _ _ _ HN3.out (by omega));have HX5:=LH (far _ _ _ HX3.out (by omega));have HR5:=LH (far _ _ _ HR3.out (by omega));have HBl5:=LH (far _ _ _ HBl3.out (fun e=>hbg e.symm))
 have HL5:Hid (LvP F (.slice (some ⟨g,0,none⟩) L.length c) L (((w3.setCell ⟨g,L.length*3,none⟩ (.int .i64 0)).setCell ⟨g,L.length*3+1,none⟩ (.int .i64 0)).setCell ⟨g,L.length*3+2,none⟩ (.int .i64 0))):=LH ⟨by
  obtain ⟨a1,_⟩:=HL3.out.1.stored (L.length*3) (.int .i64 0);obtain ⟨a2,_⟩:=a1.stored (L.length*3+1) (.int .i64 0);obtain ⟨a3,_⟩:=a2.stored (L.length*3+2) (.int .i64 0);have hl:(Q25 L.reverse).length=L.length*3:=by rw[Q55,List.length_reverse]
  have hset:(((Q25 (x::L).reverse).set (L.length*3) (.int .i64 0)).set (L.length*3+1) (.int .i64 0)).set (L.length*3+2) (.int .i64 0)=Q25 L.reverse++[.int .i64 0,.int .i64 0,.int .i64 0]:=by
   rw[Q54,<-hl,List.set_append_right _ _ (by omega),List.set_append_right _ _ (by omega),List.set_append_right _ _ (by omega)]
   simp
  rw[hset] at a3
  exact ownsRow_pop hl a3,fun q hq=>HL3.out.2 q hq⟩
 have HC5:Hid (Chg (fun y=>y=b\/some g=some y) w3 (((w3.setCell ⟨g,L.length*3,none⟩ (.int .i64 0)).setCell ⟨g,L.length*3+1,none⟩ (.int .i64 0)).setCell ⟨g,L.length*3+2,none⟩ (.int .i64 0))):=LH ((Chg.of_mv (Mv.set1 w3 g _ _) (.inr rfl)).trans ((Chg.of_mv (Mv.set1 _ g _ _) (.inr rfl)).trans (Chg.of_mv (Mv.set1 _ g _ _) (.inr rfl))));clear far HX3 HN3 HR3 HL3 HBl3
 go_region_held3 (fun w'=>w'.cell? ⟨b,o,none⟩=some (.slice (some ⟨g,0,none⟩) (L.length+1) c)/\w'.cell? ⟨z+1,0,none⟩=some (.int .i64 0)/\w'.cell? ⟨z+1,1,none⟩=some (.int .i64 0)/\w'.cell? ⟨z+1,2,none⟩=some (.int .i64 0)) (first|exact ⟨(HBl5.out.cell o).trans HO.out,HN5.out.cell 0,HN5.out.cell 1,HN5.out.cell 2⟩|go_keep) (fail)
 have HX6:Hid (Blk (((w3.setCell ⟨g,L.length*3,none⟩ (.int .i64 0)).setCell ⟨g,L.length*3+1,none⟩ (.int .i64 0)).setCell ⟨g,L.length*3+2,none⟩ (.int .i64 0)).drew z 184 #[.int .i64 x.1,.int .i64 x.2.1,.int .i64 x.2.2]):=LH HX5.out;have HR6:Hid (Blk (((w3.setCell ⟨g,L.length*3,none⟩ (.int .i64 0)).setCell ⟨g,L.length*3+1,none⟩ (.int .i64 0)).setCell ⟨g,L.length*3+2,none⟩ (.int .i64 0)).drew w.heap.size 184 #[.int .i64 0,.int .i64 0,.int .i64 0]):=LH HR5.out;have HBl6:Hid (Blk (((w3.setCell ⟨g,L.length*3,none⟩ (.int .i64 0)).setCell ⟨g,L.length*3+1,none⟩ (.int .i64 0)).setCell ⟨g,L.length*3+2,none⟩ (.int .i64 0)).drew b T cs):=LH HBl5.out;have HL6:Hid (LvP F (.slice (some ⟨g,0,none⟩) L.length c) L (((w3.setCell ⟨g,L.length*3,none⟩ (.int .i64 0)).setCell ⟨g,L.length*3+1,none⟩ (.int .i64 0)).setCell ⟨g,L.length*3+2,none⟩ (.int .i64 0)).drew):=LH ⟨Q0n HL5.out.1 (Q08 (Drawn.of _ 1) _),HL5.out.2⟩;have HC6:Hid (Chg (fun y=>y=b\/some g=some y) w (((w3.setCell ⟨g,L.length*3,none⟩ (.int .i64 0)).setCell ⟨g,L.length*3+1,none⟩ (.int .i64 0)).setCell ⟨g,L.length*3+2,none⟩ (.int .i64 0)).drew):=LH ((Chg.of_below HB3.out).trans (HC5.out.trans (Chg.of_below (Q08 (Drawn.of _ 1) _))));clear HX5 HR5 HBl5 HL5 HC5 HN5 HB3 n0 n1 n2 k0 k1 k2 hgf0 hgf1 hgf2;generalize (((w3.setCell ⟨g,L.length*3,none⟩ (.int .i64 0)).setCell ⟨g,L.length*3+1,none⟩ (.int .i64 0)).setCell ⟨g,L.length*3+2,none⟩ (.int .i64 0)).drew=w6 at HX6 HR6 HBl6 HL6 HC6|-;have c9':w6.cell? ⟨b,o,none⟩=some (.slice (some ⟨g,0,none⟩) (L.length+1) c):=(HBl6.out.cell o).trans HO.out;have f9':=HBl6.out.frozen o;have hzb:z≠b:=fun e=>HX6.out.ne_ HBl6.out HT.out e;have hzr:z≠w.heap.size:=by omega
 have HX7:=LH (HX6.out.far (p:=⟨b,o,none⟩) hzb (.slice (some ⟨g,0,none⟩) L.length c));have HR7:=LH (HR6.out.far (p:=⟨b,o,none⟩) hbne (.slice (some ⟨g,0,none⟩) L.length c));have HBl7:=LH (HBl6.out.set_ o (.slice (some ⟨g,0,none⟩) L.length c));have HL7:Hid (LvP F (.slice (some ⟨g,0,none⟩) L.length c) L (w6.setCell ⟨b,o,none⟩ (.slice (some ⟨g,0,none⟩) L.length c))):=LH ⟨ownsRow_setCell_other HL6.out.1 (a:=⟨b,o,none⟩) (fun e=>hbg (by simpa[Value.ownBlock] using e)) _,HL6.out.2⟩;have HC7:Hid (Chg (fun y=>y=b\/some g=some y) w (w6.setCell ⟨b,o,none⟩ (.slice (some ⟨g,0,none⟩) L.length c))):=LH (HC6.out.trans (Chg.of_mv (Mv.set1 _ b _ _) (.inl rfl)));have x0:(w6.setCell ⟨b,o,none⟩ (.slice (some ⟨g,0,none⟩) L.length c)).cell? ⟨z,0,none⟩=some (.int .i64 x.1):=HX7.out.cell 0;have x1:(w6.setCell ⟨b,o,none⟩ (.slice (some ⟨g,0,none⟩) L.length c)).cell? ⟨z,1,none⟩=some (.int .i64 x.2.1):=HX7.out.cell 1;have x2:(w6.setCell ⟨b,o,none⟩ (.slice (some ⟨g,0,none⟩) L.length c)).cell? ⟨z,2,none⟩=some (.int .i64 x.2.2):=HX7.out.cell 2;have r0:(w6.setCell ⟨b,o,none⟩ (.slice (some ⟨g,0,none⟩) L.length c)).cell? ⟨w.heap.size,0,none⟩=some (.int .i64 0):=HR7.out.cell 0;have r1:(w6.setCell ⟨b,o,none⟩ (.slice (some ⟨g,0,none⟩) L.length c)).cell? ⟨w.heap.size,1,none⟩=some (.int .i64 0):=HR7.out.cell 1;have r2:(w6.setCell ⟨b,o,none⟩ (.slice (some ⟨g,0,none⟩) L.length c)).cell? ⟨w.heap.size,2,none⟩=some (.int .i64 0):=HR7.out.cell 2;have q0:=HR7.out.frozen 0;have q1:=HR7.out.frozen 1;have q2:=HR7.out.frozen 2;clear HX6 HR6 HBl6 HL6 HC6;go_wp2_with (fail);have hRf:Blk ((((w6.setCell ⟨b,o,none⟩ (.slice (some ⟨g,0,none⟩) L.length c)).setCell ⟨w.heap.size,0,none⟩ (.int .i64 x.1)).setCell ⟨w.heap.size,1,none⟩ (.int .i64 x.2.1)).setCell ⟨w.heap.size,2,none⟩ (.int .i64 x.2.2)) w.heap.size 184 #[.int .i64 x.1,.int .i64 x.2.1,.int .i64 x.2.2]:=((HR7.out.set_ 0 _).set_ 1 _).set_ 2 _;have hBf:Blk ((((w6.setCell ⟨b,o,none⟩ (.slice (some ⟨g,0,none⟩) L.length c)).setCell ⟨w.heap.size,0,none⟩ (.int .i64 x.1)).setCell ⟨w.heap.size,1,none⟩ (.int .i64 x.2.1)).setCell ⟨w.heap.size,2,none⟩ (.int .i64 x.2.2)) b T (cs.setIfInBounds o (.slice (some ⟨g,0,none⟩) L.length c)):=((HBl7.out.far (p:=⟨w.heap.size,0,none⟩) (fun e=>hbne e.symm) _).far (p:=⟨w.heap.size,1,none⟩) (fun e=>hbne e.symm) _).far (p:=⟨w.heap.size,2,none⟩) (fun e=>hbne e.symm) _;have hcf:Chg (fun y=>y=w.heap.size) (w6.setCell ⟨b,o,none⟩ (.slice (some ⟨g,0,none⟩) L.length c)) ((((w6.setCell ⟨b,o,none⟩ (.slice (some ⟨g,0,none⟩) L.length c)).setCell ⟨w.heap.size,0,none⟩ (.int .i64 x.1)).setCell ⟨w.heap.size,1,none⟩ (.int .i64 x.2.1)).setCell ⟨w.heap.size,2,none⟩ (.int .i64 x.2.2)):=(Chg.of_mv (F:=fun y=>y=w.heap.size) (Mv.set1 _ w.heap.size _ _) rfl).trans ((Chg.of_mv (F:=fun y=>y=w.heap.size) (Mv.set1 _ w.heap.size _ _) rfl).trans (Chg.of_mv (F:=fun y=>y=w.heap.size) (Mv.set1 _ w.heap.size _ _) rfl))
 have hLf:LvP F (.slice (some ⟨g,0,none⟩) L.length c) L ((((w6.setCell ⟨b,o,none⟩ (.slice (some ⟨g,0,none⟩) L.length c)).setCell ⟨w.heap.size,0,none⟩ (.int .i64 x.1)).setCell ⟨w.heap.size,1,none⟩ (.int .i64 x.2.1)).setCell ⟨w.heap.size,2,none⟩ (.int .i64 x.2.2)):=⟨hcf.own HL7.out.1 (fun q hq e=>by
  have h1:g=q:=by simpa[Value.ownBlock] using hq
  omega),HL7.out.2⟩
 have hCf:=HC7.out.grow hcf (fun y hy=>.inr (by omega));have rc0:=hRf.cell 0;have rc1:=hRf.cell 1;have rc2:=hRf.cell 2;have HBf:=LH hBf;have HLf:=LH hLf;have HCf:=LH hCf;clear hBf hLf hCf;clear hRf hcf HR7 HBl7 HL7 HC7 HX7 x0 x1 x2 r0 r1 r2 q0 q1 q2 c9' f9';generalize ((((w6.setCell ⟨b,o,none⟩ (.slice (some ⟨g,0,none⟩) L.length c)).setCell ⟨w.heap.size,0,none⟩ (.int .i64 x.1)).setCell ⟨w.heap.size,1,none⟩ (.int .i64 x.2.1)).setCell ⟨w.heap.size,2,none⟩ (.int .i64 x.2.2))=wf at rc0 rc1 rc2 HBf HLf HCf|-;have rd0:wf.cell? ⟨w.heap.size,0,none⟩=some (.int .i64 x.1):=rc0;have rd1:wf.cell? ⟨w.heap.size,1,none⟩=some (.int .i64 x.2.1):=rc1;have rd2:wf.cell? ⟨w.heap.size,2,none⟩=some (.int .i64 x.2.2):=rc2;exact bodyPost_ret (v:=.tuple #[.agg #[.int .i64 x.1,.int .i64 x.2.1,.int .i64 x.2.2],.bool true]) (by simp[results,Tryz.results184,go_sem,rd0,rd1,rd2]) rfl ⟨rfl,_,HBf.out,HLf.out,rfl,HCf.out⟩
def Qfe (F:Nat->Prop) (b o:Nat) (T:TypeId) (cs:Array Value) (lv:Value) (x:Int×Int×Int) (L:List (Int×Int×Int)) (w:World) (e:Ending) (w':World):Prop:=
 e=.returned (.tuple #[])/\∃lv',Blk w' b T (cs.setIfInBounds o lv')/\LvP (fun y=>F y\/w.heap.size<=y) lv' (x::L) w'/\Chg (fun y=>y=b\/lv.ownBlock=some y) w w'
theorem Q8E (F:Nat->Prop) (b o:Nat) (T:TypeId) (cs:Array Value) (lv:Value) (n d i:Int) (L:List (Int×Int×Int)) (w:World) (hb:Blk w b T cs) (hT:184≠T) (ho:cs[o]? =some lv) (h:LvP F lv L w) (hl:L.length<=1000000):
  Calls Tryz.prog 128 #[.pointer (some ⟨b,o,none⟩),.agg #[.int .i64 n,.int .i64 d,.int .i64 i]] w (Qfe F b o T cs lv (n,d,i) L w):=by
 obtain ⟨i0,hi0,hz0,hz1,hz2⟩:=info_parts Qbx;have ha:=(Below.refl w.heap.size w).alloc (Nat.le_refl _) (.cells #[.int .i64 n,.int .i64 d,.int .i64 i] 184);have c9:(w.alloc (.cells #[.int .i64 n,.int .i64 d,.int .i64 i] 184)).cell? ⟨b,o,none⟩=some lv:=((hb.below ha hb.lt).cell o).trans ho;have f9:(w.alloc (.cells #[.int .i64 n,.int .i64 d,.int .i64 i] 184)).frozen? ⟨b,o,none⟩=false:=(hb.below ha hb.lt).frozen o;have HX:=LH (Blk.new w 184 #[.int .i64 n,.int .i64 d,.int .i64 i]);have HL:=LH (show LvP F lv L (w.alloc (.cells #[.int .i64 n,.int .i64 d,.int .i64 i] 184)) from ⟨Q0n h.1 ha,h.2⟩);have HB:=LH (hb.below ha hb.lt);have HC:Hid (Chg (fun y=>y=b\/lv.ownBlock=some y) w (w.alloc (.cells #[.int .i64 n,.int .i64 d,.int .i64 i] 184))):=LH (Chg.of_below ha);have hbl:=hb.lt;have hzs:(w.alloc (.cells #[.int .i64 n,.int .i64 d,.int .i64 i] 184)).heap.size=w.heap.size+1:=by simp
 have HZ:=LH hzs;have HT:=LH hT;have HO:=LH ho;have HG0:=LH (Q0T h.1);have hsl:lv=lv:=rfl;obtain ⟨A,c,rfl⟩:=Q03 h.1;clear ha hb h ho hzs hT hsl;go_enter Tryz.func128,Tryz.ntmps128;go_wp2_with (fail);generalize w.alloc (.cells #[.int .i64 n,.int .i64 d,.int .i64 i] 184)=w1 at c9 f9 HX HL HB HC HZ|-;have x0:w1.cell? ⟨w.heap.size,0,none⟩=some (.int .i64 n):=HX.out.cell 0;have x1:w1.cell? ⟨w.heap.size,1,none⟩=some (.int .i64 d):=HX.out.cell 1;have x2:w1.cell? ⟨w.heap.size,2,none⟩=some (.int .i64 i):=HX.out.cell 2;have n1:=World.new_ne w1 ⟨b,o,none⟩ c9;have n2:=World.new_ne w1 _ x0;have hbl1:=HB.out.lt;have HAl:=LH ((Below.refl w1.heap.size w1).alloc (Nat.le_refl _) (.cells #[.int .i64 n,.int .i64 d,.int .i64 i] 184));have HLd:Hid ((w1.alloc (.cells #[.int .i64 n,.int .i64 d,.int .i64 i] 184)).drew.ownsRow 0 184 3 (.slice A L.length c) L.length (Q25 L.reverse)):=LH (Q0n (Q0n HL.out.1 HAl.out) (Q08 (Drawn.of _ 1) _));have HAd:Hid (Below w1.heap.size w1 (w1.alloc (.cells #[.int .i64 n,.int .i64 d,.int .i64 i] 184)).drew):=LH (HAl.out.trans (Q08 (Drawn.of _ 1) _))
 have HRd:Hid (∀(j:Nat) (u:Value),([.int .i64 n,.int .i64 d,.int .i64 i]:List Value)[j]? =some u->(w1.alloc (.cells #[.int .i64 n,.int .i64 d,.int .i64 i] 184)).drew.cell? ((⟨w1.heap.size,0,none⟩:Addr).add j)=some u):=LH (fun j u hu=>by
  have e:(⟨w1.heap.size,0,none⟩:Addr).add j=⟨w1.heap.size,j,none⟩:=by unfold Addr.add;split<;>simp_all
  rw[e]
  have:=(Blk.new w1 184 #[.int .i64 n,.int .i64 d,.int .i64 i]).cell j;exact this.trans (by simpa using hu))
 have F5:Hid (∀w5:World,(w1.alloc (.cells #[.int .i64 n,.int .i64 d,.int .i64 i] 184)).drew.grownBy w5 (Value.slice A L.length c).ownBlock->Blk w5 b T cs/\Blk w5 w.heap.size 184 #[.int .i64 n,.int .i64 d,.int .i64 i]/\Chg (fun y=>(Value.slice A L.length c).ownBlock=some y) w1 w5):=LH (fun w5 hg5=>by
  have hc:=(Chg.of_below (F:=fun y=>(Value.slice A L.length c).ownBlock=some y) HAd.out).trans (Chg.of_grown hg5);exact ⟨hc.blk HB.out (fun e=>Q0o HL.out.1 HB.out HT.out e),hc.blk HX.out (fun e=>absurd (HG0.out _ e) (Nat.lt_irrefl _)),hc⟩)
 go_region_law (first|(refine step_append_lies _ (by rfl) _ _ _ (by rfl) 0 184 i0 _ 3 24 Tryz.underlying177 hi0 hz0 hz1 hz2 rfl (by omega) (.slice A L.length c) L.length (Q25 L.reverse) (by rfl) HLd.out ⟨w1.heap.size,0,none⟩ 1 1 [.int .i64 n,.int .i64 d,.int .i64 i] (by rfl) (by rfl) HRd.out (by simp[Value.oneCell']) (by omega) (by unfold maxLen;omega) (by omega) (by omega) (w1.heap.size+1) (by simp) ?_;intro gg cap w5 hO5 hg5 hat hlt5;have K5:=LH (F5.out w5 hg5);have HO5:=LH hO5;have HV5:=LH hat;have f5:=K5.out.1.frozen o;have c5:=(K5.out.1.cell o).trans HO.out;clear hO5 hg5 hat hlt5))
 all_goals
  have hLv:LvP (fun y=>F y\/w.heap.size<=y) (.slice (some ⟨gg,0,none⟩) (L.length+1) cap) ((n,d,i)::L) (w5.setCell ⟨b,o,none⟩ (.slice (some ⟨gg,0,none⟩) (L.length+1) cap)):=by
   have hO:=HO5.out;refine ⟨?_,fun g hg=> ?_⟩
   ·have h1:w5.ownsRow 0 184 3 (.slice (some ⟨gg,0,none⟩) (L.length+1) cap) ((n,d,i)::L).length (Q25 ((n,d,i)::L).reverse):=by
     rw[Q54];exact hO
    exact ownsRow_setCell_other h1 (a:=⟨b,o,none⟩) (fun e=>Q0o hO K5.out.1 HT.out (by simpa using e)) _
   ·have hgg:gg=g:=by simpa[Value.ownBlock] using hg
    subst hgg
    rcases HV5.out with e|e
    ·exact .inl (HL.out.2 gg e)
    ·exact .inr (by have:=HZ.out;omega)
  have hCf:Chg (fun y=>y=b\/(Value.slice A L.length c).ownBlock=some y) w (w5.setCell ⟨b,o,none⟩ (.slice (some ⟨gg,0,none⟩) (L.length+1) cap)):=HC.out.trans ((K5.out.2.2.mono (fun y hy=>.inr hy)).trans (Chg.of_mv (Mv.set1 _ b _ _) (.inl rfl)));have HBf:=LH (K5.out.1.set_ o (.slice (some ⟨gg,0,none⟩) (L.length+1) cap));have HLv:=LH hLv;have HCf:=LH hCf;clear hLv hCf
  go_end0
  exact ⟨rfl,_,HBf.out,HLv.out,HCf.out⟩
theorem Q1r {w:World} {base n:Nat} {e:TypeId} {size:Nat} {v:Value} {xs:List Value} (h:w.ownsRow base e size v n xs) {g:Nat} (hg:v.ownBlock=some g):∃cs,Blk w g e cs:=by
 rcases h.2 with ⟨rfl,_⟩|⟨g',cap,cur,rfl,_,hh,_⟩
 ·simp[Value.ownBlock] at hg
 ·have:g'=g:=by simpa[Value.ownBlock] using hg
  subst this;exact ⟨_,hh⟩
def PrP (F:Nat->Prop) (T:TypeId) (v:Value) (L:List (Int×Int)) (w:World):Prop:=w.ownsRow 0 T 2 v L.length (Q0p L)/\∀g,v.ownBlock=some g->F g
structure WalkQ (F:Nat->Prop) (b:Nat) (s:WS) (rv pv lv prv sv:Value) (w:World):Prop where
 fb:F b
 blk:Blk w b 181 #[.int .i64 s.next,.int .i64 s.lo,.int .i64 s.hi,.bool s.back,.bool s.values,.int .i64 s.most,.int .i64 s.n,rv,pv,lv,.int .i64 s.at_,.int .i64 s.key,prv,sv]
 route:RouteO F rv s.route w
 peek:PeekO F pv s.peek w
 lev:LvP F lv s.levels w
 prs:PrP F 52 prv s.pairs w
 sps:PrP F 114 sv s.spots w
def WalkP (F:Nat->Prop) (b:Nat) (s:WS) (w:World):Prop:=∃rv pv lv prv sv,WalkQ F b s rv pv lv prv sv w
section
variable {F G:Nat->Prop} {b:Nat} {s:WS} {rv pv lv prv sv v:Value} {T:TypeId} {L:List (Int×Int)} {Ls:List (Int×Int×Int)} {w w':World}
theorem PrP.mono (h:PrP F T v L w) (hs:∀x,F x->G x):PrP G T v L w:=⟨h.1,fun g hg=>hs g (h.2 g hg)⟩
theorem PrP.chg (h:PrP F T v L w) (m:Chg G w w') (hd:∀x,F x->G x->False):PrP F T v L w':=⟨m.own h.1 (fun g hg hG=>hd g (h.2 g hg) hG),h.2⟩
theorem PrP.keep (h:PrP F T v L w) (m:Chg G w w') (hG:∀x,G x->∃t cs,Blk w x t cs/\t≠T):PrP F T v L w':=⟨m.own h.1 (fun g hg hG'=>by
 obtain ⟨t,cs,hb,ht⟩:=hG g hG';obtain ⟨cs',hb'⟩:=Q1r h.1 hg;exact hb.ne_ hb' ht rfl),h.2⟩
theorem PrP.within (h:PrP F T v L w):PrP (fun x=>F x/\x<w.heap.size) T v L w:=⟨h.1,fun g hg=>⟨h.2 g hg,Q0T h.1 g hg⟩⟩
theorem LvP.mono (h:LvP F lv Ls w) (hs:∀x,F x->G x):LvP G lv Ls w:=⟨h.1,fun g hg=>hs g (h.2 g hg)⟩
theorem LvP.chg (h:LvP F lv Ls w) (m:Chg G w w') (hd:∀x,F x->G x->False):LvP F lv Ls w':=⟨m.own h.1 (fun g hg hG=>hd g (h.2 g hg) hG),h.2⟩
theorem LvP.keep (h:LvP F lv Ls w) (m:Chg G w w') (hG:∀x,G x->∃t cs,Blk w x t cs/\t≠184):LvP F lv Ls w':=⟨m.own h.1 (fun g hg hG'=>by
 obtain ⟨t,cs,hb,ht⟩:=hG g hG';obtain ⟨cs',hb'⟩:=Q1r h.1 hg;exact hb.ne_ hb' ht rfl),h.2⟩
theorem LvP.within (h:LvP F lv Ls w):LvP (fun x=>F x/\x<w.heap.size) lv Ls w:=⟨h.1,fun g hg=>⟨h.2 g hg,Q0T h.1 g hg⟩⟩
theorem WalkQ.mono (h:WalkQ F b s rv pv lv prv sv w) (hs:∀x,F x->G x):WalkQ G b s rv pv lv prv sv w:=⟨hs _ h.fb,h.blk,h.route.mono hs,h.peek.mono hs,h.lev.mono hs,h.prs.mono hs,h.sps.mono hs⟩
theorem WalkQ.chg (h:WalkQ F b s rv pv lv prv sv w) (m:Chg G w w') (hd:∀x,F x->G x->False):WalkQ F b s rv pv lv prv sv w':=⟨h.fb,m.blk h.blk (fun hg=>hd _ h.fb hg),h.route.chg m hd,h.peek.chg m hd,h.lev.chg m hd,h.prs.chg m hd,h.sps.chg m hd⟩
theorem WalkQ.below (h:WalkQ F b s rv pv lv prv sv w) (hb:Below w.heap.size w w'):WalkQ F b s rv pv lv prv sv w':=h.chg (G:=fun _=>False) (Chg.of_below hb) (fun _ _ hg=>hg)
theorem WalkP.mono (h:WalkP F b s w) (hs:∀x,F x->G x):WalkP G b s w:=by
 obtain ⟨rv,pv,lv,prv,sv,h⟩:=h;exact ⟨rv,pv,lv,prv,sv,h.mono hs⟩
theorem WalkP.chg (h:WalkP F b s w) (m:Chg G w w') (hd:∀x,F x->G x->False):WalkP F b s w':=by
 obtain ⟨rv,pv,lv,prv,sv,h⟩:=h;exact ⟨rv,pv,lv,prv,sv,h.chg m hd⟩
theorem WalkP.below (h:WalkP F b s w) (hb:Below w.heap.size w w'):WalkP F b s w':=h.chg (G:=fun _=>False) (Chg.of_below hb) (fun _ _ hg=>hg)
theorem WalkP.within (h:WalkP F b s w):WalkP (fun x=>F x/\x<w.heap.size) b s w:=by
 obtain ⟨rv,pv,lv,prv,sv,h⟩:=h;refine ⟨rv,pv,lv,prv,sv,⟨h.fb,h.blk.lt⟩,h.blk,h.route.within, ?_,h.lev.within,h.prs.within,h.sps.within⟩;have hp:=h.peek;generalize s.peek=o at hp
 cases o with
 |none=>exact hp
 |some p=>obtain ⟨pb,h1,h2,h3⟩:=hp;exact ⟨pb,h1,⟨h2,h3.blk.lt⟩,h3⟩
theorem WalkQ.rest (h:WalkQ F b s rv pv lv prv sv w) (m:Chg G w w') (hG:∀x,G x->∃t cs,Blk w x t cs/\(t=181\/t=134)):RouteO F rv s.route w'/\PeekO F pv s.peek w'/\LvP F lv s.levels w'/\PrP F 52 prv s.pairs w'/\PrP F 114 sv s.spots w':=by
 have k:∀T:TypeId,181≠T->134≠T->∀x,G x->∃t cs,Blk w x t cs/\t≠T:=fun T h1 h2 x hx=>by
  obtain ⟨t,cs,hb,e|e⟩:=hG x hx
  ·exact ⟨t,cs,hb,by rw[e];exact h1⟩
  ·exact ⟨t,cs,hb,by rw[e];exact h2⟩
 exact ⟨h.route.keep m (k _ (by decide) (by decide)),h.peek.keep m (k _ (by decide) (by decide)),h.lev.keep m (k _ (by decide) (by decide)),h.prs.keep m (k _ (by decide) (by decide)),h.sps.keep m (k _ (by decide) (by decide))⟩
theorem WalkQ.own (h:WalkQ F b s rv pv lv prv sv w) (m:Chg (fun y=>y=b) w w') {s':WS} (hb:Blk w' b 181 #[.int .i64 s'.next,.int .i64 s'.lo,.int .i64 s'.hi,.bool s'.back,.bool s'.values,.int .i64 s'.most,.int .i64 s'.n,rv,pv,lv,.int .i64 s'.at_,.int .i64 s'.key,prv,sv]) (h1:s'.route=s.route) (h2:s'.peek=s.peek) (h3:s'.levels=s.levels) (h4:s'.pairs=s.pairs) (h5:s'.spots=s.spots):WalkQ F b s' rv pv lv prv sv w':=by
 obtain ⟨a1,a2,a3,a4,a5⟩:=h.rest m (fun x hx=>by subst hx;exact ⟨_,_,h.blk,.inl rfl⟩);exact ⟨h.fb,hb,h1▸a1,h2▸a2,h3▸a3,h4▸a4,h5▸a5⟩
end
section
variable (F:Nat->Prop) (b:Nat) (s:WS) (w:World)
theorem Q0V (h:WalkP F b s w):Calls Tryz.prog 62 #[.pointer (some ⟨b,0,none⟩)] w fun e w'=>e=.returned (.bool (s.next==6))/\w=w':=by
 obtain ⟨rv,pv,lv,prv,sv,h⟩:=h;have c0:w.cell? ⟨b,0,none⟩=some (.int .i64 s.next):=h.blk.cell 0;clear h;go_enter Tryz.func62,Tryz.ntmps62;go_wp2_with (fail);go_ret;exact ⟨rfl,rfl⟩
theorem Q6T (h:WalkP F b s w) (hn:s.next=6) (hl:s.pairs.length<=1000000):Calls Tryz.prog 64 #[.pointer (some ⟨b,0,none⟩)] w (SomeOwnP 52 s.pairs w):=by
 have HH:=LH h;obtain ⟨rv,pv,lv,prv,sv,h⟩:=h;obtain ⟨A,c,rfl⟩:=Q03 h.prs.1;have c12:w.cell? ⟨b,12,none⟩=some (.slice A s.pairs.length c):=h.blk.cell 12;have HR:Hid (PairsAt w w.heap.size A s.pairs):=LH (Reads.of_own h.prs.1);have e1:(s.next==6)=true:=by simpa using hn
 clear h hn;go_enter Tryz.func64,Tryz.ntmps64;go_wp2_with (fail);with_reducible refine (Q0V F b s _ HH.out).mono ?_
 rintro e w1 ⟨rfl,rfl⟩;go_wp2_with (fail);with_reducible refine (QbQ A c _ s.pairs _ rfl HR.out hl).mono ?_
 rintro e w1 ⟨v,rfl,hO,hb⟩;have HO:=LH hO;have HB:=LH hb;clear hO hb;go_wp2_with (fail);go_ret;exact ⟨v,rfl,HO.out,HB.out⟩
theorem Q6K (h:WalkP F b s w) (hn:s.next=6) (hl:s.spots.length<=1000000):Calls Tryz.prog 66 #[.pointer (some ⟨b,0,none⟩)] w (SomeOwnP 114 s.spots w):=by
 have HH:=LH h;obtain ⟨rv,pv,lv,prv,sv,h⟩:=h;obtain ⟨A,c,rfl⟩:=Q03 h.sps.1;have c13:w.cell? ⟨b,13,none⟩=some (.slice A s.spots.length c):=h.blk.cell 13;have HR:Hid (PairsAt w w.heap.size A s.spots):=LH (Reads.of_own h.sps.1);have e1:(s.next==6)=true:=by simpa using hn
 clear h hn;go_enter Tryz.func66,Tryz.ntmps66;go_wp2_with (fail);with_reducible refine (Q0V F b s _ HH.out).mono ?_
 rintro e w1 ⟨rfl,rfl⟩;go_wp2_with (fail);with_reducible refine (QbP A c _ s.spots _ rfl HR.out hl).mono ?_
 rintro e w1 ⟨v,rfl,hO,hb⟩;have HO:=LH hO;have HB:=LH hb;clear hO hb;go_wp2_with (fail);go_ret;exact ⟨v,rfl,HO.out,HB.out⟩
end
def Q9l (b:Nat) (s:WS) (pv lv prv sv:Value) (n:Int) (w:World) (e:Ending) (w':World):Prop:=
 e=.returned (.tuple #[])/\Blk w' b 181 #[.int .i64 0,.int .i64 s.lo,.int .i64 s.hi,.bool s.back,.bool s.values,.int .i64 s.most,.int .i64 n,.pointer (some ⟨w.heap.size,0,none⟩),pv,lv,.int .i64 s.at_,.int .i64 s.key,prv,sv]/\RouteP w.heap.size (RS.init n s.start) w'/\Chg (fun x=>x=b) w w'
theorem Q76 (b:Nat) (s:WS) (rv pv lv prv sv:Value) (n:Int) (w:World) (h:Blk w b 181 #[.int .i64 s.next,.int .i64 s.lo,.int .i64 s.hi,.bool s.back,.bool s.values,.int .i64 s.most,.int .i64 s.n,rv,pv,lv,.int .i64 s.at_,.int .i64 s.key,prv,sv]) (hrv:∃a,rv=.pointer a):
  Calls Tryz.prog 127 #[.pointer (some ⟨b,0,none⟩),.int .i64 n] w (Q9l b s pv lv prv sv n w):=by
 obtain ⟨ra,rfl⟩:=hrv;have c1:w.cell? ⟨b,1,none⟩=some (.int .i64 s.lo):=h.cell 1;have c2:w.cell? ⟨b,2,none⟩=some (.int .i64 s.hi):=h.cell 2;have c3:w.cell? ⟨b,3,none⟩=some (.bool s.back):=h.cell 3;have H:=LH h;clear h
 have post:∀k:Int,s.start=k->∀w1:World,RouteP w.heap.size (RS.init n k) w1->Below w.heap.size w w1->∃x0 x6 x7,(w1.cell? ⟨b,0,none⟩=some x0/\w1.cell? ⟨b,6,none⟩=some x6/\w1.cell? ⟨b,7,none⟩=some x7/\w1.frozen? ⟨b,0,none⟩=false/\w1.frozen? ⟨b,6,none⟩=false/\w1.frozen? ⟨b,7,none⟩=false)/\Q9l b s pv lv prv sv n w (.returned (.tuple #[])) (((w1.setCell ⟨b,0,none⟩ (.int .i64 0)).setCell ⟨b,6,none⟩ (.int .i64 n)).setCell ⟨b,7,none⟩ (.pointer (some ⟨w.heap.size,0,none⟩))):=by
  intro k hk w1 hr hb;have hB:=H.out.below hb H.out.lt;have hne:w.heap.size≠b:=by have:=H.out.lt;omega
  refine ⟨_,_,_,⟨hB.cell 0,hB.cell 6,hB.cell 7,hB.frozen 0,hB.frozen 6,hB.frozen 7⟩,rfl,((hB.set_ 0 _).set_ 6 _).set_ 7 _, ?_, ?_⟩
  ·rw[hk]
   exact ((hr.blk.far (p:=⟨b,0,none⟩) hne _).far (p:=⟨b,6,none⟩) hne _).far (p:=⟨b,7,none⟩) hne _
  ·exact (Chg.of_below (F:=fun x=>x=b) hb).trans (Chg.of_mv (F:=fun x=>x=b) (((Mv.set1 w1 b 0 _).trans_ (Mv.set1 _ b 6 _)).trans_ (Mv.set1 _ b 7 _)) rfl)
 have POST:=LH post;clear post
 cases hbk:s.back with
 |true=>
  have HK:=LH (show s.start=s.hi from if_pos hbk)
  rw[hbk] at c3
  clear hbk;go_enter Tryz.func127,Tryz.ntmps127;go_wp2_with (fail);with_reducible refine (Qah n s.hi _).mono ?_
  rintro e w1 ⟨rfl,hr,hb⟩;obtain ⟨x0,x6,x7,⟨c0,c6,c7,f0,f6,f7⟩,hp⟩:=POST.out s.hi HK.out w1 hr hb;have HP:=LH hp;clear hp;clear hr hb;go_wp2_with (fail)
  go_end0
  exact HP.out
 |false=>
  have HK:=LH (show s.start=s.lo from if_neg (by rw[hbk];exact Bool.false_ne_true))
  rw[hbk] at c3
  clear hbk;go_enter Tryz.func127,Tryz.ntmps127;go_wp2_with (fail);with_reducible refine (Qah n s.lo _).mono ?_
  rintro e w1 ⟨rfl,hr,hb⟩;obtain ⟨x0,x6,x7,⟨c0,c6,c7,f0,f6,f7⟩,hp⟩:=POST.out s.lo HK.out w1 hr hb;have HP:=LH hp;clear hp;clear hr hb;go_wp2_with (fail)
  go_end0
  exact HP.out
def WPost (F:Nat->Prop) (b:Nat) (s':WS) (w:World) (e:Ending) (w':World):Prop:=e=.returned (.tuple #[])/\WalkP (fun x=>F x\/w.heap.size<=x) b s' w'/\Chg (fun x=>F x) w w'
theorem Q77 (F:Nat->Prop) (b:Nat) (s:WS) (n:Int) (w:World) (h:WalkP F b s w):
  Calls Tryz.prog 127 #[.pointer (some ⟨b,0,none⟩),.int .i64 n] w (WPost F b (s.enter n) w):=by
 obtain ⟨rv,pv,lv,prv,sv,h⟩:=h;obtain ⟨rb,hrv,_⟩:=h.route;refine (Q76 b s rv pv lv prv sv n w h.blk ⟨_,hrv⟩).mono fun e w' ⟨he,hb,hr,hc⟩=>⟨he, ?_,hc.mono (fun x hx=>hx▸h.fb)⟩;obtain ⟨a1,a2,a3,a4,a5⟩:=h.rest hc (fun x hx=>by subst hx;exact ⟨_,_,h.blk,.inl rfl⟩);exact ⟨_,pv,lv,prv,sv,.inl h.fb,hb,⟨_,rfl,.inr (Nat.le_refl _),hr⟩,a2.mono (fun _=>.inl),a3.mono (fun _=>.inl),a4.mono (fun _=>.inl),a5.mono (fun _=>.inl)⟩
def Qff (lo hi:Int) (back:Bool) (most:Int) (values:Bool) (w:World) (e:Ending) (w':World):Prop:=e=.returned (.pointer (some ⟨w.heap.size,0,none⟩))/\WalkP (fun x=>w.heap.size<=x) w.heap.size (WS.init lo hi back most values) w'/\Below w.heap.size w w'
theorem Qag (lo hi:Int) (back:Bool) (most:Int) (values:Bool) (w:World):Calls Tryz.prog 59 #[.int .i64 lo,.int .i64 hi,.bool back,.int .i64 most,.bool values] w (Qff lo hi back most values w):=by
 have h0:=Blk.new w 181 #[.int .i64 0,.int .i64 lo,.int .i64 hi,.bool back,.bool values,.int .i64 most,.int .i64 0,.pointer none,.pointer none,.slice none 0 0,.int .i64 0,.int .i64 0,.slice none 0 0,.slice none 0 0];have hb0:=(Below.refl w.heap.size w).alloc (Nat.le_refl _) (.cells #[.int .i64 0,.int .i64 lo,.int .i64 hi,.bool back,.bool values,.int .i64 most,.int .i64 0,.pointer none,.pointer none,.slice none 0 0,.int .i64 0,.int .i64 0,.slice none 0 0,.slice none 0 0] 181);have hz0:(w.alloc (.cells #[.int .i64 0,.int .i64 lo,.int .i64 hi,.bool back,.bool values,.int .i64 most,.int .i64 0,.pointer none,.pointer none,.slice none 0 0,.int .i64 0,.int .i64 0,.slice none 0 0,.slice none 0 0] 181)).heap.size=w.heap.size+1:=by simp
 have H0:=LH h0;have HB0:=LH hb0;have HZ:=LH hz0;clear h0 hb0 hz0;go_enter Tryz.func59,Tryz.ntmps59;go_wp2_with (fail);generalize w.alloc (.cells #[.int .i64 0,.int .i64 lo,.int .i64 hi,.bool back,.bool values,.int .i64 most,.int .i64 0,.pointer none,.pointer none,.slice none 0 0,.int .i64 0,.int .i64 0,.slice none 0 0,.slice none 0 0] 181)=w1 at H0 HB0 HZ|-;with_reducible refine (Q76 w.heap.size ⟨0,lo,hi,back,values,most,0,RS.init 0 0,none,[],0,0,[],[]⟩ (.pointer none) (.pointer none) (.slice none 0 0) (.slice none 0 0) (.slice none 0 0) 1 _ H0.out ⟨_,rfl⟩).mono ?_
 rintro e w2 ⟨rfl,hb,hr,ho⟩;have HS:Hid (WalkP (fun x=>w.heap.size<=x) w.heap.size (WS.init lo hi back most values) w2):=LH ⟨_,_,_,_,_,Nat.le_refl _,hb,⟨_,rfl,by rw[HZ.out];omega,hr⟩,rfl,⟨World.ownsRow_nil _ _ _ _,fun g hg=>by simp[Value.ownBlock] at hg⟩,⟨World.ownsRow_nil _ _ _ _,fun g hg=>by simp[Value.ownBlock] at hg⟩,⟨World.ownsRow_nil _ _ _ _,fun g hg=>by simp[Value.ownBlock] at hg⟩⟩;have HB:=LH (HB0.out.trans (ho.below (B:=w.heap.size) (fun x hx=>by omega) (by rw[HZ.out];omega)));clear hb hr ho;go_wp2_with (fail);go_ret;exact ⟨rfl,HS.out,HB.out⟩
theorem Q8m (F:Nat->Prop) (b:Nat) (s:WS) (w:World) (h:WalkP F b s w) (hl:s.levels≠[]) (hll:s.levels.length<=1000000):
  Calls Tryz.prog 130 #[.pointer (some ⟨b,0,none⟩)] w fun e w'=>e=.returned (.int .i64 s.slot)/\Below w.heap.size w w':=by
 obtain ⟨rv,pv,lv,prv,sv,h⟩:=h;obtain ⟨x,L,hL⟩:=List.exists_cons_of_ne_nil hl;have hS:s.slot=Q06 x.1 x.2.1 x.2.2:=by unfold WS.slot WS.top;rw[hL];rfl
 have hlev:=h.lev
 rw[hL] at hlev hll
 have c9:w.cell? ⟨b,9,none⟩=some lv:=h.blk.cell 9;have HS:=LH hS;have HL:=LH hlev;have C9:=LH c9;clear hS hlev c9;clear h hl hL;go_enter Tryz.func130,Tryz.ntmps130;go_wp2_with (fail);with_reducible refine (Q3o b 9 lv x L _ F C9.out HL.out (by simp at hll;omega)).mono ?_
 rintro e w1 ⟨rfl,hb1⟩;have hx:=Blk.new w1 184 #[.int .i64 x.1,.int .i64 x.2.1,.int .i64 x.2.2];have hb2:=hb1.alloc hb1.size (.cells #[.int .i64 x.1,.int .i64 x.2.1,.int .i64 x.2.2] 184);have x0:(w1.alloc (.cells #[.int .i64 x.1,.int .i64 x.2.1,.int .i64 x.2.2] 184)).cell? ⟨w1.heap.size,0,none⟩=some (.int .i64 x.1):=hx.cell 0;have x1:(w1.alloc (.cells #[.int .i64 x.1,.int .i64 x.2.1,.int .i64 x.2.2] 184)).cell? ⟨w1.heap.size,1,none⟩=some (.int .i64 x.2.1):=hx.cell 1;have x2:(w1.alloc (.cells #[.int .i64 x.1,.int .i64 x.2.1,.int .i64 x.2.2] 184)).cell? ⟨w1.heap.size,2,none⟩=some (.int .i64 x.2.2):=hx.cell 2;have HB2:=LH hb2;clear hb2;clear hb1 hx;go_wp2_with (fail);with_reducible refine (Q9S _ _ _ _).mono ?_
 rintro e w3 ⟨rfl,hb3⟩;have HB3:=LH (HB2.out.trans (hb3.mono HB2.out.size));clear hb3;go_wp2_with (fail);go_ret
 rw[HS.out]
 exact ⟨rfl,HB3.out⟩
theorem Q64 (F:Nat->Prop) (b:Nat) (s:WS) (w:World) (h:WalkP F b s w) (hl:s.levels≠[]) (hll:s.levels.length<=1000000):
  Calls Tryz.prog 129 #[.pointer (some ⟨b,0,none⟩)] w (WPost F b s.look w):=by
 have H:=LH h;clear h;go_enter Tryz.func129,Tryz.ntmps129;go_wp2_with (fail);with_reducible refine (Q8m F b s _ H.out hl hll).mono ?_
 rintro e w1 ⟨rfl,hb1⟩;go_wp2_with (fail);with_reducible refine (QcQ _ _).mono ?_
 rintro e w2 ⟨rfl,hp,hb2,_⟩;have hb:=hb1.trans (hb2.mono hb1.size);obtain ⟨rv,pv,lv,prv,sv,h2⟩:=H.out.below hb
 have hpo:∃a,pv=.pointer a:=by
  have:=h2.peek;generalize s.peek=o at this
  cases o with
  |none=>exact ⟨_,this⟩
  |some p=>obtain ⟨pb,e,_⟩:=this;exact ⟨_,e⟩
 obtain ⟨pa,rfl⟩:=hpo;have c0:w2.cell? ⟨b,0,none⟩=some (.int .i64 s.next):=h2.blk.cell 0;have c8:w2.cell? ⟨b,8,none⟩=some (.pointer pa):=h2.blk.cell 8;have f0:=h2.blk.frozen 0;have f8:=h2.blk.frozen 8;have hz1:=hb1.size;have o3:Chg (fun y=>y=b) w2 ((w2.setCell ⟨b,0,none⟩ (.int .i64 1)).setCell ⟨b,8,none⟩ (.pointer (some ⟨w1.heap.size,0,none⟩))):=Chg.of_mv (F:=fun y=>y=b) ((Mv.set1 w2 b 0 _).trans_ (Mv.set1 _ b 8 _)) rfl
 have HX:Hid (WalkP (fun x=>F x\/w.heap.size<=x) b s.look ((w2.setCell ⟨b,0,none⟩ (.int .i64 1)).setCell ⟨b,8,none⟩ (.pointer (some ⟨w1.heap.size,0,none⟩)))):=LH (by
  obtain ⟨a1,a2,a3,a4,a5⟩:=h2.rest o3 (fun x hx=>by subst hx;exact ⟨_,_,h2.blk,.inl rfl⟩);exact ⟨rv,_,lv,prv,sv,.inl h2.fb,(h2.blk.set_ 0 _).set_ 8 _,a1.mono (fun _=>.inl),⟨_,rfl,.inr hz1,o3.blk hp (fun e=>hp.blk.ne_ h2.blk (by decide) e)⟩,a3.mono (fun _=>.inl),a4.mono (fun _=>.inl),a5.mono (fun _=>.inl)⟩)
 have HC:Hid (Chg (fun x=>F x) w ((w2.setCell ⟨b,0,none⟩ (.int .i64 1)).setCell ⟨b,8,none⟩ (.pointer (some ⟨w1.heap.size,0,none⟩)))):=LH ((Chg.of_below hb).trans (o3.mono (fun x hx=>hx▸h2.fb)));clear hb1 hp hb2 hb h2 o3 H;go_wp2_with (fail)
 go_end0
 exact ⟨rfl,HX.out,HC.out⟩
theorem QaX (b bm:Nat) (s:RS) (B:Nat) (v:Value) (C:List Int) (size count odd ref:Int) (w:World) (h:RouteP b s w) (hm:MemP B bm v C size count odd ref w) (hI:s.Inv) (hC:C.length<=1000000) (hw:∀i,i<C.length->-9223372036854775808<=keyAt C i/\keyAt C i<=9223372036854775807):
  Calls Tryz.prog 30 #[.pointer (some ⟨b,0,none⟩),.pointer (some ⟨bm,0,none⟩)] w fun e w'=>e=.returned (.bool ((s.step (rdC C)).next==6))/\RouteP b (s.step (rdC C)) w'/\MemP B bm v C size (QgO s.acc count) (QgN C s.acc odd) ref w'/\Only [b,bm] w w':=
 (Qcq b bm s B v C size count odd ref w h hm hI hC hw).mono fun e w' ⟨h1,h2,h3,h4⟩=>⟨h1,h2,by
  unfold RS.acc;by_cases h6:s.next=6
  ·rw[if_pos h6];rw[if_pos h6,if_pos (.inl h6)] at h3;exact h3
  ·rw[if_neg h6]
   rw[if_neg h6] at h3
   have e:(s.next=6\/(1<=s.addr/\s.addr<=C.length))↔(1<=s.addr/\s.addr<=C.length):=⟨fun h=>h.resolve_left h6,.inr⟩;simp only[e] at h3;exact h3,h4⟩
def lenAt (w:World) (b o:Nat):Nat:=match w.cell? ⟨b,o,none⟩ with
 |some (.slice _ n _)=>n
 |_=>0
theorem LvP.lenAt {F:Nat->Prop} {lv:Value} {L:List (Int×Int×Int)} {w:World} {b o:Nat} (h:LvP F lv L w) (hc:w.cell? ⟨b,o,none⟩=some lv):lenAt w b o=L.length:=by
 obtain ⟨A,c,rfl⟩:=Q03 h.1;unfold Go.Proofs.YtblajeildolloaaGreat.lenAt
 rw[hc]
def Q40:List (Int×Int×Int)->Int×Int×Int
 |[]=>(0,0,0)
 |x::_=>x
def Qgx:List (Int×Int×Int)->Bool
 |[]=>false
 |_::_=>true
def Qfl (L:List (Int×Int×Int)):Array Value:=#[.int .i64 (Q40 L).1,.int .i64 (Q40 L).2.1,.int .i64 (Q40 L).2.2]
theorem Q7n (b o:Nat) (lv:Value) (L:List (Int×Int×Int)) (w:World) (F:Nat->Prop) (hc:w.cell? ⟨b,o,none⟩=some lv) (h:LvP F lv L w) (hl:L.length<=1000000):
  Calls Tryz.prog 183 #[.pointer (some ⟨b,o,none⟩)] w (Qa0 (Q40 L) (Qgx L) w):=by
 cases L with
 |nil=>exact Qej b o lv w F hc h
 |cons x L=>exact Q3o b o lv x L w F hc h (by simp at hl;omega)
theorem WalkQ.within {F:Nat->Prop} {b:Nat} {s:WS} {rv pv lv prv sv:Value} {w:World} (h:WalkQ F b s rv pv lv prv sv w):WalkQ (fun x=>F x/\x<w.heap.size) b s rv pv lv prv sv w:=by
 refine ⟨⟨h.fb,h.blk.lt⟩,h.blk,h.route.within, ?_,h.lev.within,h.prs.within,h.sps.within⟩;have hp:=h.peek;generalize s.peek=o at hp
 cases o with
 |none=>exact hp
 |some p=>obtain ⟨pb,h1,h2,h3⟩:=hp;exact ⟨pb,h1,⟨h2,h3.blk.lt⟩,h3⟩
theorem WalkQ.turned {F:Nat->Prop} {b:Nat} {s:WS} {rv pv lv prv sv lv':Value} {L:List (Int×Int×Int)} {w w':World} (h:WalkQ F b s rv pv lv prv sv w) (hb:Blk w' b 181 #[.int .i64 s.next,.int .i64 s.lo,.int .i64 s.hi,.bool s.back,.bool s.values,.int .i64 s.most,.int .i64 s.n,rv,pv,lv',.int .i64 s.at_,.int .i64 s.key,prv,sv]) (hlv:LvP F lv' L w') (hc:Chg (fun y=>y=b\/lv.ownBlock=some y) w w'):WalkQ F b {s with levels:=L} rv pv lv' prv sv w':=by
 have k:∀T:TypeId,181≠T->184≠T->∀x,(x=b\/lv.ownBlock=some x)->∃t cs,Blk w x t cs/\t≠T:=fun T h1 h2 x hx=>by
  rcases hx with rfl|hx
  ·exact ⟨_,_,h.blk,h1⟩
  ·obtain ⟨cs,hb⟩:=Q1r h.lev.1 hx;exact ⟨_,cs,hb,h2⟩
 exact ⟨h.fb,hb,h.route.keep hc (k _ (by decide) (by decide)),h.peek.keep hc (k _ (by decide) (by decide)),hlv,h.prs.keep hc (k _ (by decide) (by decide)),h.sps.keep hc (k _ (by decide) (by decide))⟩
def Qhn (F:Nat->Prop) (b:Nat) (s:WS) (rv pv lv prv sv:Value) (l:Int×Int×Int) (L:List (Int×Int×Int)) (w:World) (e:Ending) (w':World):Prop:=
 e=.returned (.tuple #[.agg #[.int .i64 l.1,.int .i64 l.2.1,.int .i64 l.2.2],.bool true])/\∃lv',WalkQ F b {s with levels:=L} rv pv lv' prv sv w'/\lv'.ownBlock=lv.ownBlock/\Chg (fun y=>y=b\/lv.ownBlock=some y) w w'
theorem Q7A (F:Nat->Prop) (b:Nat) (s:WS) (rv pv lv prv sv:Value) (l:Int×Int×Int) (L:List (Int×Int×Int)) (w:World) (h:WalkQ F b s rv pv lv prv sv w) (hs:s.levels=l::L) (hl:L.length<=1000000):
  Calls Tryz.prog 184 #[.pointer (some ⟨b,9,none⟩)] w (Qhn F b s rv pv lv prv sv l L w):=by
 refine (QcK F b 9 181 _ lv l L w h.blk (by decide) rfl (hs▸h.lev) hl).mono ?_;rintro e w' ⟨he,lv',hb,hlv,ho,hc⟩;exact ⟨he,lv',h.turned hb hlv hc,ho,hc⟩
def QgJ (F:Nat->Prop) (b:Nat) (s:WS) (w:World) (p ok:Value) (wr:World):Prop:=∃(L:List (Int×Int×Int)) (z:Nat) (rv pv lv prv sv:Value),p=.pointer (some ⟨z,0,none⟩)/\ok=.bool (Qgx L)/\Blk wr z 184 (Qfl L)/\WalkQ F b {s with levels:=L} rv pv lv prv sv wr/\(∀g,lv.ownBlock=some g->g≠z)/\Q1F s.back L=Q1F s.back s.levels/\L.length<=1000000/\(∀l∈L,Q3v l)/\w.heap.size<=z/\Chg (fun x=>F x) w wr
theorem Q1z (F:Nat->Prop) (b:Nat) (s:WS) (w:World) (h:WalkP F b s w) (hll:s.levels.length<=1000000) (hlv:∀l∈s.levels,Q3v l):
  Calls Tryz.prog 132 #[.pointer (some ⟨b,0,none⟩)] w (WPost F b s.onward w):=by
 obtain ⟨rv,pv,lv,prv,sv,h⟩:=h;have c9:w.cell? ⟨b,9,none⟩=some lv:=h.blk.cell 9;have H:=LH h;have C9:=LH c9;clear h c9;go_enter Tryz.func132,Tryz.ntmps132;go_wp2_with (fail);with_reducible refine (Q7n b 9 lv s.levels _ F C9.out H.out.lev hll).mono ?_
 rintro e w1 ⟨rfl,hb1⟩;have hx:=Blk.new w1 184 (Qfl s.levels);have hb2:=hb1.alloc hb1.size (.cells (Qfl s.levels) 184);have hR:QgJ F b s w (.pointer (some ⟨w1.heap.size,0,none⟩)) (.bool (Qgx s.levels)) (w1.alloc (.cells (Qfl s.levels) 184)):=⟨s.levels,w1.heap.size,rv,pv,lv,prv,sv,rfl,rfl,hx,H.out.below hb2,fun g hg=>by have:=Q0T H.out.lev.1 g hg;have:=hb1.size;omega,rfl,hll,hlv,hb1.size,Chg.of_below hb2⟩;have HR:=LH hR;clear hR;clear hx hb1 hb2 H C9;go_wp2_with (fail);change Code.wp _ _ _ _ (w1.alloc (.cells (Qfl s.levels) 184));generalize w1.alloc (.cells (Qfl s.levels) 184)=w2 at HR|-
 go_loopw [2,3] (fun p ok wr=>QgJ F b s w p ok wr) (fun _ _ wr=>lenAt wr b 9)
 case atStart=>exact HR.out
 case round=>
  obtain ⟨L,z,rv,pv,lv,prv,sv,rfl,rfl,hz,hq,hne,hpo,hle,hlb,hzw,hch⟩:=hrel;clear HR;have c9:wr.cell? ⟨b,9,none⟩=some lv:=hq.blk.cell 9
  cases L with
  |nil=>
   have hpe:Q1F s.back s.levels=[]:=hpo.symm;have HS:=LH (show s.onward={s with levels:=[],next:=6} by unfold WS.onward;rw[hpe];rfl);have c0:wr.cell? ⟨b,0,none⟩=some (.int .i64 s.next):=hq.blk.cell 0;have f0:=hq.blk.frozen 0;have o1:Chg (fun y=>y=b) wr (wr.setCell ⟨b,0,none⟩ (.int .i64 6)):=Chg.of_mv (F:=fun y=>y=b) (Mv.set1 wr b 0 _) rfl;have HX:Hid (WalkP (fun x=>F x\/w.heap.size<=x) b {s with levels:=[],next:=6} (wr.setCell ⟨b,0,none⟩ (.int .i64 6))):=LH ⟨rv,pv,lv,prv,sv,(hq.own o1 (s':={s with levels:=[],next:=6}) (hq.blk.set_ 0 _) rfl rfl rfl rfl rfl).mono (fun _=>.inl)⟩;have HC:=LH (hch.trans (o1.mono (fun x hx=>hx▸hq.fb)));have hok:Qgx ([]:List (Int×Int×Int))=false:=rfl
   rw[hok]
   clear hq hch o1 hz hne hpo hpe hok;go_wp2_with (fail)
   go_end0
   rw[HS.out]
   exact ⟨rfl,HX.out,HC.out⟩
  |cons l L=>
   have hok:Qgx (l::L)=true:=rfl;have z0:wr.cell? ⟨z,0,none⟩=some (.int .i64 l.1):=hz.cell 0;have z1:wr.cell? ⟨z,1,none⟩=some (.int .i64 l.2.1):=hz.cell 1;have z2:wr.cell? ⟨z,2,none⟩=some (.int .i64 l.2.2):=hz.cell 2;have c3:wr.cell? ⟨b,3,none⟩=some (.bool s.back):=hq.blk.cell 3;obtain ⟨l0,l1,l2⟩:=hlb l (by simp)
   rw[hok]
   cases hm:more s.back l with
   |true=>
    have hpe:Q1F s.back s.levels=l::L:=by rw[<-hpo];unfold Q1F;rw[if_pos hm]
    have HS:=LH (show s.onward={s with levels:=l::L,next:=5} by unfold WS.onward;rw[hpe];rfl);have c0:wr.cell? ⟨b,0,none⟩=some (.int .i64 s.next):=hq.blk.cell 0;have f0:=hq.blk.frozen 0;have o1:Chg (fun y=>y=b) wr (wr.setCell ⟨b,0,none⟩ (.int .i64 5)):=Chg.of_mv (F:=fun y=>y=b) (Mv.set1 wr b 0 _) rfl;have HX:Hid (WalkP (fun x=>F x\/w.heap.size<=x) b {s with levels:=l::L,next:=5} (wr.setCell ⟨b,0,none⟩ (.int .i64 5))):=LH ⟨rv,pv,lv,prv,sv,(hq.own o1 (s':={s with levels:=l::L,next:=5}) (hq.blk.set_ 0 _) rfl rfl rfl rfl rfl).mono (fun _=>.inl)⟩;have HC:=LH (hch.trans (o1.mono (fun x hx=>hx▸hq.fb)));unfold more at hm;clear hq hch o1 hz hne hpo hpe hok
    cases hbk:s.back with
    |true=>
     rw[hbk] at c3 hm
     have hm2:0<l.2.2:=of_decide_eq_true (by simpa using hm);clear hbk hm;go_wp2_with (fail);refine bodyPost_ret (results_none rfl _ _ _) rfl ?_
     rw[HS.out]
     exact ⟨rfl,HX.out,HC.out⟩
    |false=>
     rw[hbk] at c3 hm
     have hm2:l.2.2+1<l.2.1:=of_decide_eq_true (by simpa using hm);clear hbk hm;go_wp2_with (fail);refine bodyPost_ret (results_none rfl _ _ _) rfl ?_
     rw[HS.out]
     exact ⟨rfl,HX.out,HC.out⟩
   |false=>
    have hpe:Q1F s.back L=Q1F s.back s.levels:=by
     rw[<-hpo];show _=(if more s.back l=true then l::L else Q1F s.back L)
     rw[if_neg (by rw[hm];exact Bool.false_ne_true)]
    unfold more at hm;have HQ:=LH hq;have HZ:=LH hz;have HLe:=LH (hq.lev.lenAt c9);have HPE:=LH hpe;have HCH:=LH hch;have HNE:=LH hne;have HLB:=LH hlb;clear hpe hch hne hlb;clear hq hz hpo hok;have hll3:L.length<=1000000:=by simp at hle;omega
    cases hbk:s.back with
    |true=>
     rw[hbk] at c3 hm
     have hm2:¬0<l.2.2:=of_decide_eq_false (by simpa using hm);clear hm;go_wp2_with (fail);with_reducible refine (Q7A F b _ rv pv lv prv sv l L _ HQ.out rfl hll3).mono ?_
     rintro e w3 ⟨rfl,lv3,hq3,ho3,hc3⟩;have HQ3:=LH hq3;clear hq3
     have hz3:Blk w3 z 184 (Qfl (l::L)):=hc3.blk HZ.out (fun e=>by
      rcases e with e|e
      ·exact HZ.out.ne_ HQ.out.blk (by decide) e
      ·exact HNE.out _ e rfl)
     have hC3:=HCH.out.trans (hc3.mono (fun y hy=>by
      rcases hy with rfl|e
      ·exact HQ.out.fb
      ·exact HQ.out.lev.2 _ e))
     have y0:w3.cell? ⟨z,0,none⟩=some (.int .i64 l.1):=hz3.cell 0;have y1:w3.cell? ⟨z,1,none⟩=some (.int .i64 l.2.1):=hz3.cell 1;have y2:w3.cell? ⟨z,2,none⟩=some (.int .i64 l.2.2):=hz3.cell 2;have hzl:=hz3.lt;have HC3:=LH hC3;have HO3:=LH ho3;clear hC3 ho3;clear z0 z1 z2 c3 c9 hz3 hc3;go_wp2_with (fail);have hn4:=Blk.new w3 184 #[.int .i64 l.1,.int .i64 l.2.1,.int .i64 l.2.2];have hb4:=(Below.refl w3.heap.size w3).alloc (Nat.le_refl _) (.cells #[.int .i64 l.1,.int .i64 l.2.1,.int .i64 l.2.2] 184);have HQ4:=LH (HQ3.out.below hb4);have hs4:(w3.alloc (.cells #[.int .i64 l.1,.int .i64 l.2.1,.int .i64 l.2.2] 184)).heap.size=w3.heap.size+1:=by simp
     with_reducible refine (Q7n b 9 lv3 L _ F (HQ4.out.blk.cell 9) HQ4.out.lev hll3).mono ?_
     rintro e w5 ⟨rfl,hb5⟩;have HQ5:=LH (HQ4.out.below hb5);have hn5:=hn4.below hb5 (by rw[hs4];omega);have HB5:=LH (hb4.trans (hb5.mono (by rw[hs4];omega)));have HN5:=LH hn5;have v0:w5.cell? ⟨w3.heap.size,0,none⟩=some (.int .i64 l.1):=hn5.cell 0;have v1:w5.cell? ⟨w3.heap.size,1,none⟩=some (.int .i64 l.2.1):=hn5.cell 1;have v2:w5.cell? ⟨w3.heap.size,2,none⟩=some (.int .i64 l.2.2):=hn5.cell 2;have g0:=hn5.frozen 0;have g1:=hn5.frozen 1;have g2:=hn5.frozen 2;clear hn4 hb4 HQ4 hb5 hn5 hs4 y0 y1 y2 hzl;go_wp2_with (fail);have hz3:=HC3.out.size;have hch6:Chg (fun y=>y=w3.heap.size) w5 (((w5.setCell ⟨w3.heap.size,0,none⟩ (.int .i64 (Q40 L).1)).setCell ⟨w3.heap.size,1,none⟩ (.int .i64 (Q40 L).2.1)).setCell ⟨w3.heap.size,2,none⟩ (.int .i64 (Q40 L).2.2)):=Chg.of_mv (F:=fun y=>y=w3.heap.size) (((Mv.set1 w5 w3.heap.size 0 _).trans_ (Mv.set1 _ w3.heap.size 1 _)).trans_ (Mv.set1 _ w3.heap.size 2 _)) rfl;have hq6:=((HQ3.out.within.below HB5.out).chg hch6 (fun x hx e=>by have:=hx.2;omega)).mono (fun x hx=>hx.1);have hb6:=((HN5.out.set_ 0 (.int .i64 (Q40 L).1)).set_ 1 (.int .i64 (Q40 L).2.1)).set_ 2 (.int .i64 (Q40 L).2.2);refine ⟨⟨L,w3.heap.size,rv,pv,lv3,prv,sv,rfl,rfl,hb6,hq6,fun g hg=> ?_,HPE.out,hll3,fun x hx=>HLB.out x (List.mem_cons_of_mem _ hx),hz3, ?_⟩, ?_⟩
     ·have:=Q0T HQ3.out.lev.1 g hg;omega
     ·exact (HC3.out.trans (Chg.of_below HB5.out)).grow hch6 (fun x hx=>.inr (by omega))
     ·rw[HLe.out,hq6.lev.lenAt (hq6.blk.cell 9)]
      exact Nat.lt_succ_self _
    |false=>
     rw[hbk] at c3 hm
     have hm2:¬l.2.2+1<l.2.1:=of_decide_eq_false (by simpa using hm);clear hm;go_wp2_with (fail);with_reducible refine (Q7A F b _ rv pv lv prv sv l L _ HQ.out rfl hll3).mono ?_
     rintro e w3 ⟨rfl,lv3,hq3,ho3,hc3⟩;have HQ3:=LH hq3;clear hq3
     have hz3:Blk w3 z 184 (Qfl (l::L)):=hc3.blk HZ.out (fun e=>by
      rcases e with e|e
      ·exact HZ.out.ne_ HQ.out.blk (by decide) e
      ·exact HNE.out _ e rfl)
     have hC3:=HCH.out.trans (hc3.mono (fun y hy=>by
      rcases hy with rfl|e
      ·exact HQ.out.fb
      ·exact HQ.out.lev.2 _ e))
     have y0:w3.cell? ⟨z,0,none⟩=some (.int .i64 l.1):=hz3.cell 0;have y1:w3.cell? ⟨z,1,none⟩=some (.int .i64 l.2.1):=hz3.cell 1;have y2:w3.cell? ⟨z,2,none⟩=some (.int .i64 l.2.2):=hz3.cell 2;have hzl:=hz3.lt;have HC3:=LH hC3;have HO3:=LH ho3;clear hC3 ho3;clear z0 z1 z2 c3 c9 hz3 hc3;go_wp2_with (fail);have hn4:=Blk.new w3 184 #[.int .i64 l.1,.int .i64 l.2.1,.int .i64 l.2.2];have hb4:=(Below.refl w3.heap.size w3).alloc (Nat.le_refl _) (.cells #[.int .i64 l.1,.int .i64 l.2.1,.int .i64 l.2.2] 184);have HQ4:=LH (HQ3.out.below hb4);have hs4:(w3.alloc (.cells #[.int .i64 l.1,.int .i64 l.2.1,.int .i64 l.2.2] 184)).heap.size=w3.heap.size+1:=by simp
     with_reducible refine (Q7n b 9 lv3 L _ F (HQ4.out.blk.cell 9) HQ4.out.lev hll3).mono ?_
     rintro e w5 ⟨rfl,hb5⟩;have HQ5:=LH (HQ4.out.below hb5);have hn5:=hn4.below hb5 (by rw[hs4];omega);have HB5:=LH (hb4.trans (hb5.mono (by rw[hs4];omega)));have HN5:=LH hn5;have v0:w5.cell? ⟨w3.heap.size,0,none⟩=some (.int .i64 l.1):=hn5.cell 0;have v1:w5.cell? ⟨w3.heap.size,1,none⟩=some (.int .i64 l.2.1):=hn5.cell 1;have v2:w5.cell? ⟨w3.heap.size,2,none⟩=some (.int .i64 l.2.2):=hn5.cell 2;have g0:=hn5.frozen 0;have g1:=hn5.frozen 1;have g2:=hn5.frozen 2;clear hn4 hb4 HQ4 hb5 hn5 hs4 y0 y1 y2 hzl;go_wp2_with (fail);have hz3:=HC3.out.size;have hch6:Chg (fun y=>y=w3.heap.size) w5 (((w5.setCell ⟨w3.heap.size,0,none⟩ (.int .i64 (Q40 L).1)).setCell ⟨w3.heap.size,1,none⟩ (.int .i64 (Q40 L).2.1)).setCell ⟨w3.heap.size,2,none⟩ (.int .i64 (Q40 L).2.2)):=Chg.of_mv (F:=fun y=>y=w3.heap.size) (((Mv.set1 w5 w3.heap.size 0 _).trans_ (Mv.set1 _ w3.heap.size 1 _)).trans_ (Mv.set1 _ w3.heap.size 2 _)) rfl;have hq6:=((HQ3.out.within.below HB5.out).chg hch6 (fun x hx e=>by have:=hx.2;omega)).mono (fun x hx=>hx.1);have hb6:=((HN5.out.set_ 0 (.int .i64 (Q40 L).1)).set_ 1 (.int .i64 (Q40 L).2.1)).set_ 2 (.int .i64 (Q40 L).2.2);refine ⟨⟨L,w3.heap.size,rv,pv,lv3,prv,sv,rfl,rfl,hb6,hq6,fun g hg=> ?_,HPE.out,hll3,fun x hx=>HLB.out x (List.mem_cons_of_mem _ hx),hz3, ?_⟩, ?_⟩
     ·have:=Q0T HQ3.out.lev.1 g hg;omega
     ·exact (HC3.out.trans (Chg.of_below HB5.out)).grow hch6 (fun x hx=>.inr (by omega))
     ·rw[HLe.out,hq6.lev.lenAt (hq6.blk.cell 9)]
      exact Nat.lt_succ_self _
theorem WPost.pre {F:Nat->Prop} {b:Nat} {s':WS} {w w1:World} (hc:Chg (fun x=>F x) w w1) {e:Ending} {w':World} (h:WPost F b s' w1 e w'):WPost F b s' w e w':=
 ⟨h.1,h.2.1.mono (fun x hx=>hx.imp id (fun y=>Nat.le_trans hc.size y)),hc.trans h.2.2⟩
theorem WPost.grown {F:Nat->Prop} {b:Nat} {s':WS} {w w1:World} {e:Ending} {w':World} (h:WPost (fun x=>F x\/w.heap.size<=x) b s' w1 e w') (hc:Chg (fun x=>F x) w w1):WPost F b s' w e w':=
 ⟨h.1,h.2.1.mono (fun x hx=>hx.elim id (fun y=>.inr (Nat.le_trans hc.size y))),hc.grow h.2.2 (fun x hx=>hx)⟩
theorem WalkP.fin {F:Nat->Prop} {b:Nat} {s:WS} {w:World} (h:WalkP F b s w) (n:Int):WPost F b {s with next:=n} w (.returned (.tuple #[])) (w.setCell ⟨b,0,none⟩ (.int .i64 n)):=by
 obtain ⟨rv,pv,lv,prv,sv,h⟩:=h;have o:=Chg.of_mv (F:=fun y=>y=b) (Mv.set1 w b 0 (.int .i64 n)) rfl;exact ⟨rfl,⟨rv,pv,lv,prv,sv,(h.own o (s':={s with next:=n}) (h.blk.set_ 0 _) rfl rfl rfl rfl rfl).mono (fun _=>.inl)⟩,o.mono (fun x hx=>hx▸h.fb)⟩
section
variable (F:Nat->Prop) (b:Nat) (s:WS) (w:World)
theorem QbZ (h:WalkP F b s w) (hl:s.levels≠[]) (hll:s.levels.length<=1000000) (hlv:∀l∈s.levels,Q3v l):
  Calls Tryz.prog 135 #[.pointer (some ⟨b,0,none⟩)] w fun e w'=>e=.returned (.int .i64 s.ahead)/\Below w.heap.size w w':=by
 obtain ⟨rv,pv,lv,prv,sv,h⟩:=h;obtain ⟨x,L,hL⟩:=List.exists_cons_of_ne_nil hl;have hS:s.ahead=if s.back=true then Q0j x.1 x.2.2 else Q0j x.1 (x.2.2+1):=by unfold WS.ahead WS.top;rw[hL];rfl
 have hlev:=h.lev
 rw[hL] at hlev hll hlv
 obtain ⟨l0,l1,l2⟩:=hlv x (by simp);have c9:w.cell? ⟨b,9,none⟩=some lv:=h.blk.cell 9;have H:=LH h;have HS:=LH hS;have HL:=LH hlev;have C9:=LH c9;clear h hS hlev c9
 have go:∀w1,Below w.heap.size w w1->Hid (Below w.heap.size w (w1.alloc (.cells #[.int .i64 x.1,.int .i64 x.2.1,.int .i64 x.2.2] 184))/\Blk (w1.alloc (.cells #[.int .i64 x.1,.int .i64 x.2.1,.int .i64 x.2.2] 184)) w1.heap.size 184 #[.int .i64 x.1,.int .i64 x.2.1,.int .i64 x.2.2]/\(w1.alloc (.cells #[.int .i64 x.1,.int .i64 x.2.1,.int .i64 x.2.2] 184)).cell? ⟨b,3,none⟩=some (.bool s.back)):=fun w1 hb1=>by
  have hb2:=hb1.alloc hb1.size (.cells #[.int .i64 x.1,.int .i64 x.2.1,.int .i64 x.2.2] 184);exact LH ⟨hb2,Blk.new w1 184 _,(H.out.blk.below hb2 H.out.blk.lt).cell 3⟩
 have GO:=LH go;clear hl hL hlv go
 cases hbk:s.back with
 |true=>
  rw[hbk] at GO HS
  go_enter Tryz.func135,Tryz.ntmps135;go_wp2_with (fail);with_reducible refine (Q3o b 9 lv x L _ F C9.out HL.out (by simp at hll;omega)).mono ?_
  rintro e w1 ⟨rfl,hb1⟩;obtain ⟨hb2,hx,c3⟩:=(GO.out w1 hb1).out;have x0:=hx.cell 0;have x2:=hx.cell 2;simp only[List.getElem?_toArray,List.getElem?_cons_zero,List.getElem?_cons_succ] at x0 x2;have HB2:=LH hb2;clear hb2;clear hx hb1;go_wp2_with (fail);with_reducible refine (Q69 _ _ _).mono ?_
  rintro e w3 ⟨rfl,hb3⟩;have HB3:=LH (HB2.out.trans (hb3.mono HB2.out.size));clear hb3;go_wp2_with (fail);go_ret
  rw[HS.out]
  exact ⟨rfl,HB3.out⟩
 |false=>
  rw[hbk] at GO HS
  go_enter Tryz.func135,Tryz.ntmps135;go_wp2_with (fail);with_reducible refine (Q3o b 9 lv x L _ F C9.out HL.out (by simp at hll;omega)).mono ?_
  rintro e w1 ⟨rfl,hb1⟩;obtain ⟨hb2,hx,c3⟩:=(GO.out w1 hb1).out;have x0:=hx.cell 0;have x2:=hx.cell 2;simp only[List.getElem?_toArray,List.getElem?_cons_zero,List.getElem?_cons_succ] at x0 x2;have HB2:=LH hb2;clear hb2;clear hx hb1;go_wp2_with (fail);with_reducible refine (Q69 _ _ _).mono ?_
  rintro e w3 ⟨rfl,hb3⟩;have HB3:=LH (HB2.out.trans (hb3.mono HB2.out.size));clear hb3;go_wp2_with (fail);go_ret
  rw[HS.out]
  exact ⟨rfl,HB3.out⟩
theorem QcY (x:Int) (h:WalkP F b s w) (hll:s.levels.length<=1000000) (hlv:∀l∈s.levels,Q3v l) (x0:-9223372036854775808<=x) (x1:x<=9223372036854775807):
  Calls Tryz.prog 131 #[.pointer (some ⟨b,0,none⟩),.int .i64 x] w (WPost F b (s.meet x) w):=by
 obtain ⟨rv,pv,lv,prv,sv,h⟩:=h;have c0:w.cell? ⟨b,0,none⟩=some (.int .i64 s.next):=h.blk.cell 0;have c10:w.cell? ⟨b,10,none⟩=some (.int .i64 s.at_):=h.blk.cell 10;have f0:=h.blk.frozen 0;have f10:=h.blk.frozen 10;have o:=Chg.of_mv (F:=fun y=>y=b) (Mv.set1 w b 10 (.int .i64 (wAt x))) rfl;have H5:Hid (WalkP F b {s with at_:=wAt x} (w.setCell ⟨b,10,none⟩ (.int .i64 (wAt x)))):=LH ⟨rv,pv,lv,prv,sv,h.own o (s':={s with at_:=wAt x}) (h.blk.set_ 10 _) rfl rfl rfl rfl rfl⟩;have O5:=LH (o.mono (fun x hx=>hx▸h.fb):Chg (fun x=>F x) w _);clear o h;by_cases k2:Q05 x=2
 ·have HM:=LH (show s.meet x={s with at_:=wAt x,next:=2} from if_pos k2);have e2:(Q05 x==2)=true:=by simpa using k2
  clear k2;go_enter Tryz.func131,Tryz.ntmps131;go_wp2_with (fail);with_reducible refine (Q2U x _ x0 x1).mono ?_
  rintro e w1 ⟨rfl,rfl⟩;go_wp2_with (fail);with_reducible refine (Q3R x _ x0 x1).mono ?_
  rintro e w1 ⟨rfl,rfl⟩;go_wp2_with (fail)
  go_end0
  rw[HM.out]
  exact (H5.out.fin 2).pre O5.out
 ·have e2:(Q05 x==2)=false:=by simpa using k2
  by_cases k3:Q05 x=3
  ·have HM:=LH (show s.meet x=WS.enter {s with at_:=wAt x} (wAt x) by unfold WS.meet;rw[if_neg k2,if_pos k3]);have e3:(Q05 x==3)=true:=by simpa using k3
   clear k2 k3;go_enter Tryz.func131,Tryz.ntmps131;go_wp2_with (fail);with_reducible refine (Q2U x _ x0 x1).mono ?_
   rintro e w1 ⟨rfl,rfl⟩;go_wp2_with (fail);with_reducible refine (Q3R x _ x0 x1).mono ?_
   rintro e w1 ⟨rfl,rfl⟩;go_wp2_with (fail);with_reducible refine (Q77 F b _ (wAt x) _ H5.out).mono ?_
   rintro e w2 hp;have HP:=LH hp;obtain ⟨rfl,_,_⟩:=hp;go_wp2_with (fail)
   go_end0
   rw[HM.out]
   exact HP.out.pre O5.out
  ·have e3:(Q05 x==3)=false:=by simpa using k3
   by_cases k4:Q05 x=4
   ·have HM:=LH (show s.meet x={s with at_:=wAt x,next:=4} by unfold WS.meet;rw[if_neg k2,if_neg k3,if_pos k4]);have e4:(Q05 x==4)=true:=by simpa using k4
    clear k2 k3 k4;go_enter Tryz.func131,Tryz.ntmps131;go_wp2_with (fail);with_reducible refine (Q2U x _ x0 x1).mono ?_
    rintro e w1 ⟨rfl,rfl⟩;go_wp2_with (fail);with_reducible refine (Q3R x _ x0 x1).mono ?_
    rintro e w1 ⟨rfl,rfl⟩;go_wp2_with (fail)
    go_end0
    rw[HM.out]
    exact (H5.out.fin 4).pre O5.out
   ·have HM:=LH (show s.meet x=WS.onward {s with at_:=wAt x} by unfold WS.meet;rw[if_neg k2,if_neg k3,if_neg k4]);have e4:(Q05 x==4)=false:=by simpa using k4
    clear k2 k3 k4;go_enter Tryz.func131,Tryz.ntmps131;go_wp2_with (fail);with_reducible refine (Q2U x _ x0 x1).mono ?_
    rintro e w1 ⟨rfl,rfl⟩;go_wp2_with (fail);with_reducible refine (Q3R x _ x0 x1).mono ?_
    rintro e w1 ⟨rfl,rfl⟩;go_wp2_with (fail);with_reducible refine (Q1z F b _ _ H5.out hll hlv).mono ?_
    rintro e w2 hp;have HP:=LH hp;obtain ⟨rfl,_,_⟩:=hp;go_wp2_with (fail)
    go_end0
    rw[HM.out]
    exact HP.out.pre O5.out
theorem Q6o (L:List (Int×Int)) (x:Int×Int):Q0p (L++[x])=Q0p L++[.int .i64 x.1,.int .i64 x.2]:=by simp[Q0p]
def Qhk (F:Nat->Prop) (b:Nat) (s:WS) (v:Int) (rv pv lv sv:Value) (w:World) (gg cap:Nat) (w5:World):Prop:=
 WalkQ (fun x=>F x\/w.heap.size<=x) b {s with pairs:=s.pairs++[(s.key,v)]} rv pv lv (.slice (some ⟨gg,0,none⟩) (s.pairs.length+1) cap) sv (w5.setCell ⟨b,12,none⟩ (.slice (some ⟨gg,0,none⟩) (s.pairs.length+1) cap))/\Chg (fun x=>F x) w (w5.setCell ⟨b,12,none⟩ (.slice (some ⟨gg,0,none⟩) (s.pairs.length+1) cap))
theorem WalkQ.appp {F:Nat->Prop} {b:Nat} {s:WS} {v:Int} {rv pv lv prv sv:Value} {w wd:World} (h:WalkQ F b s rv pv lv prv sv w) (hb:Below w.heap.size w wd) {gg cap:Nat} {w5:World} (hO:w5.ownsRow 0 52 2 (.slice (some ⟨gg,0,none⟩) (s.pairs.length+1) cap) (s.pairs.length+1) (Q0p s.pairs++[.int .i64 s.key,.int .i64 v])) (hg:wd.grownBy w5 prv.ownBlock) (hat:prv.ownBlock=some gg\/w.heap.size<=gg):
  Hid (w5.cell? ⟨b,12,none⟩=some prv/\w5.frozen? ⟨b,12,none⟩=false/\Qhk F b s v rv pv lv sv w gg cap w5):=by
 have hc:=(Chg.of_below (F:=fun y=>prv.ownBlock=some y) hb).trans (Chg.of_grown hg);have hbl:=hc.blk h.blk (fun e=>Q0o h.prs.1 h.blk (by decide) e);have hc6:Chg (fun y=>y=b\/prv.ownBlock=some y) w (w5.setCell ⟨b,12,none⟩ (.slice (some ⟨gg,0,none⟩) (s.pairs.length+1) cap)):=(hc.mono (fun _=>.inr)).trans ((Chg.of_mv (F:=fun y=>y=b) (Mv.set1 w5 b 12 _) rfl).mono (fun _=>.inl))
 have k:∀T:TypeId,181≠T->52≠T->∀x,(x=b\/prv.ownBlock=some x)->∃t cs,Blk w x t cs/\t≠T:=fun T h1 h2 x hx=>by
  rcases hx with rfl|hx
  ·exact ⟨_,_,h.blk,h1⟩
  ·obtain ⟨cs,hb⟩:=Q1r h.prs.1 hx;exact ⟨_,cs,hb,h2⟩
 have hn:PrP (fun x=>F x\/w.heap.size<=x) 52 (.slice (some ⟨gg,0,none⟩) (s.pairs.length+1) cap) (s.pairs++[(s.key,v)]) (w5.setCell ⟨b,12,none⟩ (.slice (some ⟨gg,0,none⟩) (s.pairs.length+1) cap)):=by
  refine ⟨?_,fun g hg=> ?_⟩
  ·rw[Q6o,List.length_append]
   exact ownsRow_setCell_other hO (a:=⟨b,12,none⟩) (fun e=>Q0o hO hbl (by decide) (by simpa using e)) _
  ·have hgg:gg=g:=by simpa[Value.ownBlock] using hg
   subst hgg
   rcases hat with e|e
   ·exact .inl (h.prs.2 gg e)
   ·exact .inr e
 have k':=fun T h1 h2=>k T h1 h2;refine LH ⟨hbl.cell 12,hbl.frozen 12,⟨.inl h.fb,hbl.set_ 12 _,(h.route.keep hc6 (k _ (by decide) (by decide))).mono (fun _=>.inl),(h.peek.keep hc6 (k _ (by decide) (by decide))).mono (fun _=>.inl),(h.lev.keep hc6 (k _ (by decide) (by decide))).mono (fun _=>.inl),hn,(h.sps.keep hc6 (k _ (by decide) (by decide))).mono (fun _=>.inl)⟩,hc6.mono (fun x hx=> ?_)⟩
 rcases hx with rfl|e
 ·exact h.fb
 ·exact h.prs.2 x e
def Qho (F:Nat->Prop) (b:Nat) (s:WS) (x:Int) (rv pv lv prv:Value) (w:World) (gg cap:Nat) (w5:World):Prop:=
 WalkQ (fun x=>F x\/w.heap.size<=x) b {s with spots:=s.spots++[(s.slot,x)]} rv pv lv prv (.slice (some ⟨gg,0,none⟩) (s.spots.length+1) cap) (w5.setCell ⟨b,13,none⟩ (.slice (some ⟨gg,0,none⟩) (s.spots.length+1) cap))/\Chg (fun x=>F x) w (w5.setCell ⟨b,13,none⟩ (.slice (some ⟨gg,0,none⟩) (s.spots.length+1) cap))
theorem WalkQ.apps {F:Nat->Prop} {b:Nat} {s:WS} {x:Int} {rv pv lv prv sv:Value} {w wd:World} (h:WalkQ F b s rv pv lv prv sv w) (hb:Below w.heap.size w wd) {gg cap:Nat} {w5:World} (hO:w5.ownsRow 0 114 2 (.slice (some ⟨gg,0,none⟩) (s.spots.length+1) cap) (s.spots.length+1) (Q0p s.spots++[.int .i64 s.slot,.int .i64 x])) (hg:wd.grownBy w5 sv.ownBlock) (hat:sv.ownBlock=some gg\/w.heap.size<=gg):
  Hid (w5.cell? ⟨b,13,none⟩=some sv/\w5.frozen? ⟨b,13,none⟩=false/\Qho F b s x rv pv lv prv w gg cap w5):=by
 have hc:=(Chg.of_below (F:=fun y=>sv.ownBlock=some y) hb).trans (Chg.of_grown hg);have hbl:=hc.blk h.blk (fun e=>Q0o h.sps.1 h.blk (by decide) e);have hc6:Chg (fun y=>y=b\/sv.ownBlock=some y) w (w5.setCell ⟨b,13,none⟩ (.slice (some ⟨gg,0,none⟩) (s.spots.length+1) cap)):=(hc.mono (fun _=>.inr)).trans ((Chg.of_mv (F:=fun y=>y=b) (Mv.set1 w5 b 13 _) rfl).mono (fun _=>.inl))
 have k:∀T:TypeId,181≠T->114≠T->∀x,(x=b\/sv.ownBlock=some x)->∃t cs,Blk w x t cs/\t≠T:=fun T h1 h2 x hx=>by
  rcases hx with rfl|hx
  ·exact ⟨_,_,h.blk,h1⟩
  ·obtain ⟨cs,hb⟩:=Q1r h.sps.1 hx;exact ⟨_,cs,hb,h2⟩
 have hn:PrP (fun x=>F x\/w.heap.size<=x) 114 (.slice (some ⟨gg,0,none⟩) (s.spots.length+1) cap) (s.spots++[(s.slot,x)]) (w5.setCell ⟨b,13,none⟩ (.slice (some ⟨gg,0,none⟩) (s.spots.length+1) cap)):=by
  refine ⟨?_,fun g hg=> ?_⟩
  ·rw[Q6o,List.length_append]
   exact ownsRow_setCell_other hO (a:=⟨b,13,none⟩) (fun e=>Q0o hO hbl (by decide) (by simpa using e)) _
  ·have hgg:gg=g:=by simpa[Value.ownBlock] using hg
   subst hgg
   rcases hat with e|e
   ·exact .inl (h.sps.2 gg e)
   ·exact .inr e
 have k':=fun T h1 h2=>k T h1 h2;refine LH ⟨hbl.cell 13,hbl.frozen 13,⟨.inl h.fb,hbl.set_ 13 _,(h.route.keep hc6 (k _ (by decide) (by decide))).mono (fun _=>.inl),(h.peek.keep hc6 (k _ (by decide) (by decide))).mono (fun _=>.inl),(h.lev.keep hc6 (k _ (by decide) (by decide))).mono (fun _=>.inl),(h.prs.keep hc6 (k _ (by decide) (by decide))).mono (fun _=>.inl),hn⟩,hc6.mono (fun x hx=> ?_)⟩
 rcases hx with rfl|e
 ·exact h.fb
 ·exact h.sps.2 x e
def WS.full' (s:WS) (n:Nat):Bool:=decide (0<s.most)&&decide (s.most<=(n:Int))
theorem WS.found_split (s:WS) (v:Int):(s.full' (s.pairs.length+1)=true->s.found v={s with pairs:=s.pairs++[(s.key,v)],next:=6})/\(s.full' (s.pairs.length+1)=false->s.found v=WS.onward {s with pairs:=s.pairs++[(s.key,v)]}):=by
 have e:WS.full {s with pairs:=s.pairs++[(s.key,v)]}=s.full' (s.pairs.length+1):=by
  unfold WS.full WS.full';simp only[List.length_append,List.length_cons,List.length_nil]
 unfold WS.found
 rw[e]
 exact ⟨fun h=>if_pos h,fun h=>if_neg (by rw[h];exact Bool.false_ne_true)⟩
theorem Q74 (v:Int) (h:WalkP F b s w) (hll:s.levels.length<=1000000) (hlv:∀l∈s.levels,Q3v l) (hpl:s.pairs.length<=1000000) (hm0:-9223372036854775808<=s.most) (hm1:s.most<=9223372036854775807):
  Calls Tryz.prog 133 #[.pointer (some ⟨b,0,none⟩),.int .i64 v] w (WPost F b (s.found v) w):=by
 obtain ⟨i0,hi0,hz0,hz1,hz2⟩:=info_parts Q3y;obtain ⟨rv,pv,lv,prv,sv,h⟩:=h;have c11:w.cell? ⟨b,11,none⟩=some (.int .i64 s.key):=h.blk.cell 11;have c12:w.cell? ⟨b,12,none⟩=some prv:=h.blk.cell 12;obtain ⟨A,c,rfl⟩:=Q03 h.prs.1;have n1:=World.new_ne w ⟨b,12,none⟩ c12;have hbl:=h.blk.lt;have HAl:=LH ((Below.refl w.heap.size w).alloc (Nat.le_refl _) (.cells #[.int .i64 s.key,.int .i64 v] 52));have HAd:Hid (Below w.heap.size w (w.alloc (.cells #[.int .i64 s.key,.int .i64 v] 52)).drew):=LH (HAl.out.trans (Q08 (Drawn.of _ 1) _));have HLd:Hid ((w.alloc (.cells #[.int .i64 s.key,.int .i64 v] 52)).drew.ownsRow 0 52 2 (.slice A s.pairs.length c) s.pairs.length (Q0p s.pairs)):=LH (Q0n h.prs.1 HAd.out)
 have HRd:Hid (∀(j:Nat) (u:Value),([.int .i64 s.key,.int .i64 v]:List Value)[j]? =some u->(w.alloc (.cells #[.int .i64 s.key,.int .i64 v] 52)).drew.cell? ((⟨w.heap.size,0,none⟩:Addr).add j)=some u):=LH (fun j u hu=>by
  have e:(⟨w.heap.size,0,none⟩:Addr).add j=⟨w.heap.size,j,none⟩:=by unfold Addr.add;split<;>simp_all
  rw[e]
  have:=(Blk.new w 52 #[.int .i64 s.key,.int .i64 v]).cell j;exact this.trans (by simpa using hu))
 have H:=LH h;have hsl:s.pairs=s.pairs:=rfl;clear h hsl;go_enter Tryz.func133,Tryz.ntmps133;go_wp2_with (fail)
 go_region_law (first|(refine step_append_lies _ (by rfl) _ _ _ (by rfl) 0 52 i0 _ 2 16 Tryz.underlying40 hi0 hz0 hz1 hz2 rfl (by omega) (.slice A s.pairs.length c) s.pairs.length (Q0p s.pairs) (by rfl) HLd.out ⟨w.heap.size,0,none⟩ 1 1 [.int .i64 s.key,.int .i64 v] (by rfl) (by rfl) HRd.out (by simp[Value.oneCell']) (by omega) (by unfold maxLen;omega) (by omega) (by omega) (w.heap.size+1) (by simp) ?_;intro gg cap w5 hO5 hg5 hat hlt5;have K5:=H.out.appp HAd.out hO5 hg5 (hat.imp id (fun e=>by omega));have c5:=K5.out.1;have f5:=K5.out.2.1;clear hO5 hg5 hat hlt5))
 all_goals
  have hP:=K5.out.2.2;clear K5 c5 f5 HAl HAd HLd HRd n1 c11 c12 H;revert hP;unfold Qhk;generalize w5.setCell ⟨b,12,none⟩ (.slice (some ⟨gg,0,none⟩) (s.pairs.length+1) cap)=w6;rintro ⟨hq,hc⟩;have d12:w6.cell? ⟨b,12,none⟩=some (.slice (some ⟨gg,0,none⟩) (s.pairs.length+1) cap):=hq.blk.cell 12;have d5:w6.cell? ⟨b,5,none⟩=some (.int .i64 s.most):=hq.blk.cell 5;have d0:w6.cell? ⟨b,0,none⟩=some (.int .i64 s.next):=hq.blk.cell 0;have g0:=hq.blk.frozen 0;have HP:Hid (∀k,WalkP (fun x=>F x\/w.heap.size<=x) b {s with pairs:=s.pairs++[(s.key,v)]} (w6.drewN k)):=LH (fun k=>⟨_,_,_,_,_,hq.below (Q08 ⟨k,rfl⟩ _)⟩);have HC:Hid (∀k,Chg (fun x=>F x) w (w6.drewN k)):=LH (fun k=>hc.trans (Chg.of_below (Q08 ⟨k,rfl⟩ _)));have HF:=LH (WS.found_split s v);clear hq hc;by_cases hm:0<s.most
  ·by_cases hk:s.most<=(s.pairs.length:Int)+1
   ·have HS:=LH (HF.out.1 (by unfold WS.full';simp[hm,hk]));go_wp2_with (fail)
    go_quiet (fail)
    go_wp2_with (fail);refine bodyPost_ret (results_none rfl _ _ _) rfl ?_
    rw[HS.out]
    exact ((HP.out _).fin 6).grown (HC.out _)
   ·have HS:=LH (HF.out.2 (by unfold WS.full';simp[hm,hk]));go_wp2_with (fail)
    go_quiet (fail)
    go_wp2_with (fail);with_reducible refine (Q1z _ b _ _ (HP.out _) hll hlv).mono ?_
    rintro e w8 hp;have HW:=LH (hp.grown (HC.out _));obtain ⟨rfl,_,_⟩:=hp;go_wp2_with (fail)
    go_end0
    rw[HS.out]
    exact HW.out
  ·have HS:=LH (HF.out.2 (by unfold WS.full';simp[hm]));have hm3:decide (0<s.most)=false:=decide_eq_false hm;clear hm;go_wp2_with (fail)
   go_quiet (fail)
   go_wp2_with (fail);with_reducible refine (Q1z _ b _ _ (HP.out _) hll hlv).mono ?_
   rintro e w8 hp;have HW:=LH (hp.grown (HC.out _));obtain ⟨rfl,_,_⟩:=hp;go_wp2_with (fail)
   go_end0
   rw[HS.out]
   exact HW.out
end
theorem WPost.mono {F G:Nat->Prop} {b:Nat} {s':WS} {w:World} {e:Ending} {w':World} (h:WPost F b s' w e w') (hs:∀x,F x->G x):WPost G b s' w e w':=⟨h.1,h.2.1.mono (fun x hx=>hx.imp (hs x) id),h.2.2.mono hs⟩
section
variable (F:Nat->Prop) (b:Nat) (s:WS)
theorem Q8D (n d i:Int) (w:World) (h:WalkP F b s w) (hl:s.levels.length<=1000000):
  Calls Tryz.prog 128 #[.pointer (some ⟨b,9,none⟩),.agg #[.int .i64 n,.int .i64 d,.int .i64 i]] w (WPost F b {s with levels:=(n,d,i)::s.levels} w):=by
 obtain ⟨rv,pv,lv,prv,sv,h⟩:=h;refine (Q8E F b 9 181 _ lv n d i s.levels w h.blk (by decide) rfl h.lev hl).mono ?_;rintro e w' ⟨he,lv',hb,hlv,hc⟩;refine ⟨he,⟨rv,pv,lv',prv,sv,(h.mono (fun x hx=>Or.inl hx)).turned hb hlv hc⟩,hc.mono (fun x hx=> ?_)⟩
 rcases hx with rfl|e
 ·exact h.fb
 ·exact h.lev.2 x e
theorem QdO (w:World) (q:Int) (h:WalkP F b s w) (hF:∀x,F x->x<w.heap.size) (l:Int×Int×Int) (L:List (Int×Int×Int)) (hs:s.levels=l::L) (hll:L.length<1000000) (hlv:∀l∈s.levels,Q3v l) (hm:more s.back l=true):
  Calls Tryz.prog 134 #[.pointer (some ⟨b,0,none⟩),.int .i64 q] w (WPost F b (s.bound q) w):=by
 obtain ⟨rv,pv,lv,prv,sv,h⟩:=h;obtain ⟨l0,l1,l2⟩:=hlv l (by rw[hs];simp);have hlL:∀x∈L,Q3v x:=fun x hx=>hlv x (by rw[hs];exact List.mem_cons_of_mem _ hx);have hbd:s.bound q=if s.back=true then (if s.lo<q then WS.look {s with levels:=(l.1,l.2.1,l.2.2-1)::L} else WS.onward {s with levels:=L}) else (if q<=s.hi then WS.look {s with levels:=(l.1,l.2.1,l.2.2+1)::L} else WS.onward {s with levels:=L}):=by unfold WS.bound WS.top;rw[hs];rfl
 have H:=LH h;have HS:=LH hs;have HLL:=LH hlL;have HBD:=LH hbd;have HF:=LH hF;clear h hs hlL hbd hF;clear hlv;go_enter Tryz.func134,Tryz.ntmps134;go_wp2_with (fail);with_reducible refine (Q7A F b _ rv pv lv prv sv l L _ H.out HS.out (by omega)).mono ?_
 rintro e w1 ⟨rfl,lv',hq,ho,hc⟩
 have hC1:=hc.mono (G:=fun x=>F x) (fun x hx=>by
  rcases hx with rfl|e
  ·exact H.out.fb
  ·exact H.out.lev.2 x e)
 have GO:Hid (∀i:Int,Blk (w1.alloc (.cells #[.int .i64 l.1,.int .i64 l.2.1,.int .i64 i] 184)) w1.heap.size 184 #[.int .i64 l.1,.int .i64 l.2.1,.int .i64 i]/\WalkQ F b {s with levels:=L} rv pv lv' prv sv (w1.alloc (.cells #[.int .i64 l.1,.int .i64 l.2.1,.int .i64 i] 184))):=LH (fun i=>⟨Blk.new w1 184 _,hq.below ((Below.refl w1.heap.size w1).alloc (Nat.le_refl _) _)⟩);have HC2:Hid (∀i:Int,Chg (fun x=>F x) w (w1.alloc (.cells #[.int .i64 l.1,.int .i64 l.2.1,.int .i64 i] 184))):=LH (fun i=>hC1.trans (Chg.of_below ((Below.refl w1.heap.size w1).alloc (Nat.le_refl _) _)));have c1:(w1.alloc (.cells #[.int .i64 l.1,.int .i64 l.2.1,.int .i64 l.2.2] 184)).cell? ⟨b,1,none⟩=some (.int .i64 s.lo):=(GO.out l.2.2).2.blk.cell 1;have c2:(w1.alloc (.cells #[.int .i64 l.1,.int .i64 l.2.1,.int .i64 l.2.2] 184)).cell? ⟨b,2,none⟩=some (.int .i64 s.hi):=(GO.out l.2.2).2.blk.cell 2;have c3:(w1.alloc (.cells #[.int .i64 l.1,.int .i64 l.2.1,.int .i64 l.2.2] 184)).cell? ⟨b,3,none⟩=some (.bool s.back):=(GO.out l.2.2).2.blk.cell 3;have HFz:Hid (¬F w1.heap.size):=LH (fun e=>by have:=HF.out _ e;have:=hc.size;omega);clear hq hc ho hC1 H;unfold more at hm
 cases hbk:s.back with
 |true=>
  rw[hbk] at c3 hm
  have hm2:0<l.2.2:=of_decide_eq_true (by simpa using hm);clear hm;by_cases hq1:s.lo<q
  ·have HS2:=LH (HBD.out.trans ((if_pos hbk).trans (if_pos hq1)));have HQz:=LH ((GO.out (l.2.2-1)).2);have hxz:=(GO.out (l.2.2-1)).1;have HPd:Hid (WalkP (fun x=>F x) b {s with levels:=L} (w1.alloc (.cells #[.int .i64 l.1,.int .i64 l.2.1,.int .i64 (l.2.2-1)] 184)).drew):=LH ⟨_,_,_,_,_,HQz.out.below (Q08 (Drawn.of _ 1) _)⟩;have HBd:Hid (Blk (w1.alloc (.cells #[.int .i64 l.1,.int .i64 l.2.1,.int .i64 (l.2.2-1)] 184)).drew w1.heap.size 184 #[.int .i64 l.1,.int .i64 l.2.1,.int .i64 (l.2.2-1)]):=LH (hxz.below (Q08 (Drawn.of _ 1) _) hxz.lt);have z0:(w1.alloc (.cells #[.int .i64 l.1,.int .i64 l.2.1,.int .i64 (l.2.2-1)] 184)).cell? ⟨w1.heap.size,0,none⟩=some (.int .i64 l.1):=hxz.cell 0;have z1:(w1.alloc (.cells #[.int .i64 l.1,.int .i64 l.2.1,.int .i64 (l.2.2-1)] 184)).cell? ⟨w1.heap.size,1,none⟩=some (.int .i64 l.2.1):=hxz.cell 1;have z2:(w1.alloc (.cells #[.int .i64 l.1,.int .i64 l.2.1,.int .i64 (l.2.2-1)] 184)).cell? ⟨w1.heap.size,2,none⟩=some (.int .i64 (l.2.2-1)):=hxz.cell 2;clear hxz;go_wp2_with (fail)
   go_region_held3 (fun w'=>w'.cell? ⟨w1.heap.size,0,none⟩=some (.int .i64 l.1)/\w'.cell? ⟨w1.heap.size,1,none⟩=some (.int .i64 l.2.1)/\w'.cell? ⟨w1.heap.size,2,none⟩=some (.int .i64 (l.2.2-1))) (first|go_keep|exact ⟨HB3.out.cell 0,HB3.out.cell 1,HB3.out.cell 2⟩) (first|(go_at_call 128;(with_reducible refine (Q8D F b _ l.1 l.2.1 (l.2.2-1) _ HPd.out (by simp;omega)).mono ?_);rintro e w3 ⟨rfl,hp3,hc3⟩;have HB3:=LH (hc3.blk HBd.out HFz.out);have HP3:=LH hp3;have HC3:=LH hc3;clear hp3 hc3))
   have HC4:=LH ((HC2.out (l.2.2-1)).trans ((Chg.of_below (F:=fun x=>F x) (Q08 (Drawn.of _ 1) _)).trans HC3.out));go_wp2_with (fail);with_reducible refine (Q64 _ b _ _ HP3.out (by simp) (by simp;omega)).mono ?_
   rintro e w4 hp;have HC5:=LH (HC4.out.grow hp.2.2 (fun x hx=>hx.imp id (fun y=>by have:=(HC2.out (l.2.2-1)).size;have hdz:(w1.alloc (.cells #[.int .i64 l.1,.int .i64 l.2.1,.int .i64 (l.2.2-1)] 184)).drew.heap.size=(w1.alloc (.cells #[.int .i64 l.1,.int .i64 l.2.1,.int .i64 (l.2.2-1)] 184)).heap.size:=rfl;omega)));have HP4:=LH hp.2.1;obtain ⟨rfl,_,_⟩:=hp;go_wp2_with (fail)
   go_end0
   rw[HS2.out]
   refine ⟨rfl,HP4.out.mono (fun x hx=> ?_),HC5.out⟩
   rcases hx with hx|hx
   ·refine hx.imp id (fun y=> ?_);have:=(HC2.out (l.2.2-1)).size;have hdz:(w1.alloc (.cells #[.int .i64 l.1,.int .i64 l.2.1,.int .i64 (l.2.2-1)] 184)).drew.heap.size=(w1.alloc (.cells #[.int .i64 l.1,.int .i64 l.2.1,.int .i64 (l.2.2-1)] 184)).heap.size:=rfl;omega
   ·exact .inr (Nat.le_trans HC4.out.size hx)
  ·have HS2:=LH (HBD.out.trans ((if_pos hbk).trans (if_neg hq1)));have HPz:Hid (WalkP (fun x=>F x) b {s with levels:=L} (w1.alloc (.cells #[.int .i64 l.1,.int .i64 l.2.1,.int .i64 l.2.2] 184))):=LH ⟨_,_,_,_,_,(GO.out l.2.2).2⟩;go_wp2_with (fail);with_reducible refine (Q1z F b _ _ HPz.out (by simp;omega) HLL.out).mono ?_
   rintro e w4 hp;have HW:=LH (hp.pre (HC2.out l.2.2));obtain ⟨rfl,_,_⟩:=hp;go_wp2_with (fail);refine bodyPost_ret (results_none rfl _ _ _) rfl ?_
   rw[HS2.out]
   exact HW.out
 |false=>
  rw[hbk] at c3 hm
  have hm2:l.2.2+1<l.2.1:=of_decide_eq_true (by simpa using hm);clear hm;by_cases hq1:q<=s.hi
  ·have HS2:=LH (HBD.out.trans ((if_neg (by rw[hbk];exact Bool.false_ne_true)).trans (if_pos hq1)));have HQz:=LH ((GO.out (l.2.2+1)).2);have hxz:=(GO.out (l.2.2+1)).1;have HPd:Hid (WalkP (fun x=>F x) b {s with levels:=L} (w1.alloc (.cells #[.int .i64 l.1,.int .i64 l.2.1,.int .i64 (l.2.2+1)] 184)).drew):=LH ⟨_,_,_,_,_,HQz.out.below (Q08 (Drawn.of _ 1) _)⟩;have HBd:Hid (Blk (w1.alloc (.cells #[.int .i64 l.1,.int .i64 l.2.1,.int .i64 (l.2.2+1)] 184)).drew w1.heap.size 184 #[.int .i64 l.1,.int .i64 l.2.1,.int .i64 (l.2.2+1)]):=LH (hxz.below (Q08 (Drawn.of _ 1) _) hxz.lt);have z0:(w1.alloc (.cells #[.int .i64 l.1,.int .i64 l.2.1,.int .i64 (l.2.2+1)] 184)).cell? ⟨w1.heap.size,0,none⟩=some (.int .i64 l.1):=hxz.cell 0;have z1:(w1.alloc (.cells #[.int .i64 l.1,.int .i64 l.2.1,.int .i64 (l.2.2+1)] 184)).cell? ⟨w1.heap.size,1,none⟩=some (.int .i64 l.2.1):=hxz.cell 1;have z2:(w1.alloc (.cells #[.int .i64 l.1,.int .i64 l.2.1,.int .i64 (l.2.2+1)] 184)).cell? ⟨w1.heap.size,2,none⟩=some (.int .i64 (l.2.2+1)):=hxz.cell 2;clear hxz;go_wp2_with (fail)
   go_region_held3 (fun w'=>w'.cell? ⟨w1.heap.size,0,none⟩=some (.int .i64 l.1)/\w'.cell? ⟨w1.heap.size,1,none⟩=some (.int .i64 l.2.1)/\w'.cell? ⟨w1.heap.size,2,none⟩=some (.int .i64 (l.2.2+1))) (first|go_keep|exact ⟨HB3.out.cell 0,HB3.out.cell 1,HB3.out.cell 2⟩) (first|(go_at_call 128;(with_reducible refine (Q8D F b _ l.1 l.2.1 (l.2.2+1) _ HPd.out (by simp;omega)).mono ?_);rintro e w3 ⟨rfl,hp3,hc3⟩;have HB3:=LH (hc3.blk HBd.out HFz.out);have HP3:=LH hp3;have HC3:=LH hc3;clear hp3 hc3))
   have HC4:=LH ((HC2.out (l.2.2+1)).trans ((Chg.of_below (F:=fun x=>F x) (Q08 (Drawn.of _ 1) _)).trans HC3.out));go_wp2_with (fail);with_reducible refine (Q64 _ b _ _ HP3.out (by simp) (by simp;omega)).mono ?_
   rintro e w4 hp;have HC5:=LH (HC4.out.grow hp.2.2 (fun x hx=>hx.imp id (fun y=>by have:=(HC2.out (l.2.2+1)).size;have hdz:(w1.alloc (.cells #[.int .i64 l.1,.int .i64 l.2.1,.int .i64 (l.2.2+1)] 184)).drew.heap.size=(w1.alloc (.cells #[.int .i64 l.1,.int .i64 l.2.1,.int .i64 (l.2.2+1)] 184)).heap.size:=rfl;omega)));have HP4:=LH hp.2.1;obtain ⟨rfl,_,_⟩:=hp;go_wp2_with (fail)
   go_end0
   rw[HS2.out]
   refine ⟨rfl,HP4.out.mono (fun x hx=> ?_),HC5.out⟩
   rcases hx with hx|hx
   ·refine hx.imp id (fun y=> ?_);have:=(HC2.out (l.2.2+1)).size;have hdz:(w1.alloc (.cells #[.int .i64 l.1,.int .i64 l.2.1,.int .i64 (l.2.2+1)] 184)).drew.heap.size=(w1.alloc (.cells #[.int .i64 l.1,.int .i64 l.2.1,.int .i64 (l.2.2+1)] 184)).heap.size:=rfl;omega
   ·exact .inr (Nat.le_trans HC4.out.size hx)
  ·have HS2:=LH (HBD.out.trans ((if_neg (by rw[hbk];exact Bool.false_ne_true)).trans (if_neg hq1)));have HPz:Hid (WalkP (fun x=>F x) b {s with levels:=L} (w1.alloc (.cells #[.int .i64 l.1,.int .i64 l.2.1,.int .i64 l.2.2] 184))):=LH ⟨_,_,_,_,_,(GO.out l.2.2).2⟩;go_wp2_with (fail);with_reducible refine (Q1z F b _ _ HPz.out (by simp;omega) HLL.out).mono ?_
   rintro e w4 hp;have HW:=LH (hp.pre (HC2.out l.2.2));obtain ⟨rfl,_,_⟩:=hp;go_wp2_with (fail);refine bodyPost_ret (results_none rfl _ _ _) rfl ?_
   rw[HS2.out]
   exact HW.out
theorem QbS (w:World) (q:Int) (h:WalkP F b s w) (l:Int×Int×Int) (L:List (Int×Int×Int)) (hs:s.levels=l::L) (hll:L.length<1000000) (hlv:∀l∈s.levels,Q3v l) (hm:more s.back l=true):
  Calls Tryz.prog 134 #[.pointer (some ⟨b,0,none⟩),.int .i64 q] w (WPost F b (s.bound q) w):=
 (QdO _ b s w q h.within (fun x hx=>hx.2) l L hs hll hlv hm).mono fun e w' h=>h.mono (fun x hx=>hx.1)
end
def Q1E (F:Nat->Prop) (b bm:Nat) (s:WS) (B:Nat) (v:Value) (C:List Int) (size count odd ref:Int) (w:World) (e:Ending) (w':World):Prop:=
 e=.returned (.bool ((s.step (rdC C)).next==6))/\WalkP (fun x=>F x\/w.heap.size<=x) b (s.step (rdC C)) w'/\MemP B bm v C size (QgO s.acc count) (QgN C s.acc odd) ref w'/\Chg (fun x=>F x\/x=bm) w w'
theorem Q6Y {n i:Int}:0<=Q0j n i/\Q0j n i<=3298534883332:=by
 unfold Q0j
 split
 ·rename_i h;have h1:=Q0N h.1;have h2:=Q0N h.2;omega
 ·omega
theorem WS.ahead_bd (s:WS):-9223372036854775808<=s.ahead/\s.ahead<=9223372036854775807:=by
 unfold WS.ahead
 split
 ·have:=Q6Y (n:=s.top.1) (i:=s.top.2.2);omega
 ·have:=Q6Y (n:=s.top.1) (i:=s.top.2.2+1);omega
def Off (F:Nat->Prop) (bm:Nat) (v:Value):Prop:=¬F bm/\∀g,v.ownBlock=some g->¬F g
section
variable {F:Nat->Prop} {b bm:Nat} {s:WS} {B:Nat} {v:Value} {C:List Int} {size count odd ref:Int} {rv pv lv prv sv:Value} {w w1:World}
theorem WalkQ.mem (hm:MemP B bm v C size count odd ref w) (hq:WalkQ F b s rv pv lv prv sv w) (m:Mv bm none w w1):WalkQ F b s rv pv lv prv sv w1:=by
 have k:=Chg.of_mv (F:=fun y=>y=bm) m rfl;obtain ⟨a1,a2,a3,a4,a5⟩:=hq.rest k (fun y hy=>by subst hy;exact ⟨_,_,hm.blk,.inr rfl⟩);exact ⟨hq.fb,k.blk hq.blk (fun e=>hq.blk.ne_ hm.blk (by decide) e),a1,a2,a3,a4,a5⟩
theorem WPost.out {s':WS} {e:Ending} {w':World} (hm:MemP B bm v C size count odd ref w1) (o:Chg (fun x=>F x\/x=bm) w w1) (hO:Off F bm v) (h:WPost F b s' w1 e w'):WalkP (fun x=>F x\/w.heap.size<=x) b s' w'/\MemP B bm v C size count odd ref w'/\Chg (fun x=>F x\/x=bm) w w':=
 ⟨h.2.1.mono (fun x hx=>hx.imp id (fun y=>Nat.le_trans o.size y)),hm.chg h.2.2 hO.1 hO.2,o.trans (h.2.2.mono (fun _=>.inl))⟩
end
section
variable (F:Nat->Prop) (b bm:Nat) (s:WS) (B:Nat) (v:Value) (C:List Int) (size count odd ref:Int) (w:World)
theorem QaP (h:WalkP F b s w) (hm:MemP B bm v C size count odd ref w) (hn:s.next=6):Calls Tryz.prog 61 #[.pointer (some ⟨b,0,none⟩),.pointer (some ⟨bm,0,none⟩)] w (Q1E F b bm s B v C size count odd ref w):=by
 have hs:=LH (WS.step6 (R:=rdC C) hn);have ha:=LH (WS.acc6 hn);have HH:=LH h;obtain ⟨rv,pv,lv,prv,sv,h⟩:=h;have c0:w.cell? ⟨b,0,none⟩=some (.int .i64 6):=by rw[<-hn];exact h.blk.cell 0
 have HM:=LH hm;clear hm;clear h hn;go_enter Tryz.func61,Tryz.ntmps61;go_wp2_with (fail);with_reducible refine (Q0V _ _ _ _ HH.out).mono ?_
 rintro e w2 ⟨rfl,rfl⟩;go_wp2_with (fail);go_ret;unfold Q1E
 rw[hs.out,ha.out]
 exact ⟨rfl,HH.out.mono (fun _=>.inl),HM.out,Chg.refl _ _⟩
variable (h:WalkP F b s w) (hm:MemP B bm v C size count odd ref w) (hO:Off F bm v) (hI:s.Inv) (hC:C.length<=1000000) (hw:∀i,i<C.length->-9223372036854775808<=keyAt C i/\keyAt C i<=9223372036854775807) (hll:s.levels.length<1000000) (hpl:s.pairs.length<=1000000)
include h hm hO hI hC hw hll hpl
omit hll hpl in
theorem QaR (hn:s.next=4):Calls Tryz.prog 61 #[.pointer (some ⟨b,0,none⟩),.pointer (some ⟨bm,0,none⟩)] w (Q1E F b bm s B v C size count odd ref w):=by
 have hs:=LH (WS.step4 (R:=rdC C) hn);have ha:=LH (WS.acc4 hn);obtain ⟨rv,pv,lv,prv,sv,h⟩:=h;have c0:w.cell? ⟨b,0,none⟩=some (.int .i64 4):=by rw[<-hn];exact h.blk.cell 0
 have c10:w.cell? ⟨b,10,none⟩=some (.int .i64 s.at_):=h.blk.cell 10;have a0:=hI.a0;have a1:=hI.a1;have HQ:=LH (fun (w1:World) (m:Mv bm none w w1)=>h.mem hm m);have hR:=Q4t hw;have HM:=LH hm;have HO:=LH hO;clear hm hO;clear hI hn h;go_enter Tryz.func61,Tryz.ntmps61;go_wp2_with (fail);with_reducible refine (Q28 B bm v C size count odd ref s.at_ _ HM.out hC (by omega) (by omega)).mono ?_
 rintro e w2 ⟨rfl,hm2,m2⟩;have H2:Hid (WalkP F b s w2):=LH ⟨_,_,_,_,_,HQ.out w2 m2⟩;have HM2:=LH hm2.read;have O2:Hid (Chg (fun x=>F x\/x=bm) w w2):=LH (Chg.of_mv m2 (.inr rfl));clear hm2 m2 c0 c10 HM HQ;have hr:=hR s.at_;obtain ⟨x,hx⟩:∃x,rdC C s.at_=x:=⟨_,rfl⟩
 rw[hx] at hr hs|-
 clear hx;go_wp2_with (fail);with_reducible refine (Q2U x _ hr.1 hr.2).mono ?_
 rintro e w3 ⟨rfl,rfl⟩;go_wp2_with (fail);with_reducible refine (Q77 F b s (wAt x) _ H2.out).mono ?_
 rintro e w3 hp;have HX:=LH (hp.out HM2.out O2.out HO.out);obtain ⟨rfl,_,_⟩:=hp;go_wp2_with (fail);with_reducible refine (Q0V _ _ _ _ HX.out.1).mono ?_
 rintro e w4 ⟨rfl,rfl⟩;go_wp2_with (fail);go_ret;unfold Q1E
 rw[hs.out,ha.out]
 exact ⟨rfl,HX.out⟩
omit hw in
theorem QaS (hn:s.next=3):Calls Tryz.prog 61 #[.pointer (some ⟨b,0,none⟩),.pointer (some ⟨bm,0,none⟩)] w (Q1E F b bm s B v C size count odd ref w):=by
 have hs:=LH (WS.step3 (R:=rdC C) hn);have ha:=LH (WS.acc3 hn);obtain ⟨rv,pv,lv,prv,sv,h⟩:=h;have c0:w.cell? ⟨b,0,none⟩=some (.int .i64 3):=by rw[<-hn];exact h.blk.cell 0
 have c10:w.cell? ⟨b,10,none⟩=some (.int .i64 s.at_):=h.blk.cell 10;have a0:=hI.a0;have a1:=hI.a1;have hm0:=hI.most0;have hm1:=hI.most1;have HLV:=LH hI.lv;have HQ:=LH (fun (w1:World) (m:Mv bm none w w1)=>h.mem hm m);have HM:=LH hm;have HO:=LH hO;clear hm hO;clear hI hn h;go_enter Tryz.func61,Tryz.ntmps61;go_wp2_with (fail);with_reducible refine (Q28 B bm v C size count odd ref (s.at_+1) _ HM.out hC (by omega) (by omega)).mono ?_
 rintro e w2 ⟨rfl,hm2,m2⟩;have H2:Hid (WalkP F b s w2):=LH ⟨_,_,_,_,_,HQ.out w2 m2⟩;have HM2:=LH hm2.read;have O2:Hid (Chg (fun x=>F x\/x=bm) w w2):=LH (Chg.of_mv m2 (.inr rfl));clear hm2 m2 c0 c10 HM HQ;obtain ⟨x,hx⟩:∃x,rdC C (s.at_+1)=x:=⟨_,rfl⟩
 rw[hx] at hs|-
 clear hx;go_wp2_with (fail);with_reducible refine (Q74 F b s _ x H2.out (by omega) HLV.out hpl hm0 hm1).mono ?_
 rintro e w3 hp;have HX:=LH (hp.out HM2.out O2.out HO.out);obtain ⟨rfl,_,_⟩:=hp;go_wp2_with (fail);with_reducible refine (Q0V _ _ _ _ HX.out.1).mono ?_
 rintro e w4 ⟨rfl,rfl⟩;go_wp2_with (fail);go_ret;unfold Q1E
 rw[hs.out,ha.out]
 exact ⟨rfl,HX.out⟩
omit hpl hw in
theorem QaQ (hn:s.next=5):Calls Tryz.prog 61 #[.pointer (some ⟨b,0,none⟩),.pointer (some ⟨bm,0,none⟩)] w (Q1E F b bm s B v C size count odd ref w):=by
 have hs:=LH (WS.step5 (R:=rdC C) hn);have ha:=LH (WS.acc5 hn)
 obtain ⟨l,L,hl,hmo⟩:∃l ls,s.levels=l::ls/\more s.back l=true:=by
  rcases hI.st with ⟨e,_⟩|⟨e,_⟩|e|e|e|⟨_,q⟩|e<;>first|exact q|omega
 have HH:=LH h;obtain ⟨rv,pv,lv,prv,sv,h⟩:=h;have c0:w.cell? ⟨b,0,none⟩=some (.int .i64 5):=by rw[<-hn];exact h.blk.cell 0
 have HLV:=LH hI.lv;have hab:-9223372036854775808<=s.ahead/\s.ahead<=9223372036854775807:=WS.ahead_bd s;have hlL:L.length<1000000:=by rw[hl] at hll;simp at hll;omega
 have hne:s.levels≠[]:=by rw[hl];simp
 have HM:=LH hm;have HO:=LH hO;have HL:=LH hl;have HMO:=LH hmo;have HN:=LH hn;have HNE:=LH hne;clear hm hO hl hmo hn hne;clear hI h;go_enter Tryz.func61,Tryz.ntmps61;go_wp2_with (fail);with_reducible refine (QbZ F b s _ HH.out HNE.out (by omega) HLV.out).mono ?_
 rintro e w1 ⟨rfl,hb1⟩;have HM1:=LH (HM.out.below hb1);have H1:=LH (HH.out.below hb1);have HB1:=LH hb1;clear hb1 c0 HM HH;go_wp2_with (fail);with_reducible refine (Q28 B bm v C size count odd ref s.ahead _ HM1.out hC hab.1 hab.2).mono ?_
 rintro e w2 ⟨rfl,hm2,m2⟩;have H2:Hid (WalkP F b s w2):=LH (by obtain ⟨rv,pv,lv,prv,sv,h⟩:=H1.out;exact ⟨_,_,_,_,_,h.mem HM1.out m2⟩);have HM2:=LH hm2.read;have O2:Hid (Chg (fun x=>F x\/x=bm) w w2):=LH ((Chg.of_below HB1.out).trans (Chg.of_mv m2 (.inr rfl)));clear hm2 m2 HM1 H1 HB1;obtain ⟨x,hx⟩:∃x,rdC C s.ahead=x:=⟨_,rfl⟩
 rw[hx] at hs|-
 clear hx;go_wp2_with (fail);with_reducible refine (QbS F b s _ x H2.out l L HL.out hlL HLV.out HMO.out).mono ?_
 rintro e w3 hp;have HX:=LH (hp.out HM2.out O2.out HO.out);obtain ⟨rfl,_,_⟩:=hp;go_wp2_with (fail);with_reducible refine (Q0V _ _ _ _ HX.out.1).mono ?_
 rintro e w4 ⟨rfl,rfl⟩;go_wp2_with (fail);go_ret;unfold Q1E
 rw[hs.out,ha.out]
 exact ⟨rfl,HX.out⟩
theorem QaT (hn:s.next=2):Calls Tryz.prog 61 #[.pointer (some ⟨b,0,none⟩),.pointer (some ⟨bm,0,none⟩)] w (Q1E F b bm s B v C size count odd ref w):=by
 have hs:=LH (WS.step2 (R:=rdC C) hn);have ha:=LH (WS.acc2 hn);obtain ⟨rv,pv,lv,prv,sv,h⟩:=h;have c0:w.cell? ⟨b,0,none⟩=some (.int .i64 2):=by rw[<-hn];exact h.blk.cell 0
 have c10:w.cell? ⟨b,10,none⟩=some (.int .i64 s.at_):=h.blk.cell 10;have ew:IntKind.i64.wrap s.at_=s.at_:=IntWalk.i64_in _ ⟨by have:=hI.a0;omega,by have:=hI.a1;omega⟩;have a0:=hI.a0;have a1:=hI.a1;have hm0:=hI.most0;have hm1:=hI.most1;have HLV:=LH hI.lv;have HQ:=LH (fun (w1:World) (m:Mv bm none w w1)=>h.mem hm m);have HM:=LH hm;have HO:=LH hO;clear hm hO;clear hI hn h;go_enter Tryz.func61,Tryz.ntmps61;go_wp2_with (fail);with_reducible refine (Q28 B bm v C size count odd ref s.at_ _ HM.out hC (by omega) (by omega)).mono ?_
 rintro e w2 ⟨rfl,hm2,m2⟩;have hq2:=HQ.out w2 m2;have hR2:=Q4t hw s.at_;obtain ⟨x,hx⟩:∃x,rdC C s.at_=x:=⟨_,rfl⟩
 rw[hx] at hs hR2|-
 have c11:w2.cell? ⟨b,11,none⟩=some (.int .i64 s.key):=hq2.blk.cell 11;have f11:=hq2.blk.frozen 11;have o3:Chg (fun y=>y=b) w2 (w2.setCell ⟨b,11,none⟩ (.int .i64 x)):=Chg.of_mv (F:=fun y=>y=b) (Mv.set1 w2 b 11 (.int .i64 x)) rfl;have hq3:=hq2.own o3 (s':={s with key:=x}) (hq2.blk.set_ 11 _) rfl rfl rfl rfl rfl;have HQ3:=LH hq3;have HM3:=LH (hm2.read.chg (o3.mono (fun y hy=>hy▸hq2.fb:∀y,y=b->F y)) HO.out.1 HO.out.2);have O3:Hid (Chg (fun x=>F x\/x=bm) w (w2.setCell ⟨b,11,none⟩ (.int .i64 x))):=LH ((Chg.of_mv m2 (.inr rfl)).trans (o3.mono (fun y hy=>.inl (hy▸hq2.fb))));clear hm2 m2 hq2 hq3 o3 HQ HM hx ew a0 a1;go_wp2_with (fail);generalize w2.setCell ⟨b,11,none⟩ (.int .i64 x)=w3 at HQ3 HM3 O3|-;clear c11 f11;have c11:w3.cell? ⟨b,11,none⟩=some (.int .i64 x):=HQ3.out.blk.cell 11;have c1:w3.cell? ⟨b,1,none⟩=some (.int .i64 s.lo):=HQ3.out.blk.cell 1;have c2:w3.cell? ⟨b,2,none⟩=some (.int .i64 s.hi):=HQ3.out.blk.cell 2;have c4:w3.cell? ⟨b,4,none⟩=some (.bool s.values):=HQ3.out.blk.cell 4;have c0:w3.cell? ⟨b,0,none⟩=some (.int .i64 s.next):=HQ3.out.blk.cell 0;have f0:=HQ3.out.blk.frozen 0;have HD:Hid (∀k,WalkP F b {s with key:=x} (w3.drewN k)/\MemP B bm v C size (Q2m count) (if 1<=s.at_/\s.at_<=C.length then odd else Q2m odd) ref (w3.drewN k)/\Chg (fun x=>F x\/x=bm) w (w3.drewN k)):=LH (fun k=>⟨⟨_,_,_,_,_,HQ3.out.below (Q08 ⟨k,rfl⟩ _)⟩,HM3.out.below (Q08 ⟨k,rfl⟩ _),O3.out.trans (Chg.of_below (Q08 ⟨k,rfl⟩ _))⟩);clear HQ3 HM3 O3;by_cases hx1:x<s.lo
 ·have HS:=LH (hs.out.trans (if_pos (.inl hx1)));go_wp2_with (fail)
  go_quiet (fail)
  go_wp2_with (fail);with_reducible refine (Q1z F b _ _ (HD.out _).1 (Nat.le_of_lt hll) HLV.out).mono ?_
  rintro e w5 hp;have HX:=LH (hp.out (HD.out _).2.1 (HD.out _).2.2 HO.out);obtain ⟨rfl,_,_⟩:=hp;go_wp2_with (fail);with_reducible refine (Q0V _ _ _ _ HX.out.1).mono ?_
  rintro e w4 ⟨rfl,rfl⟩;go_wp2_with (fail);go_ret;unfold Q1E
  rw[HS.out,ha.out]
  exact ⟨rfl,HX.out⟩
 ·have hx1':decide (x<s.lo)=false:=decide_eq_false hx1;by_cases hx2:s.hi<x
  ·have HS:=LH (hs.out.trans (if_pos (.inr hx2)));clear hx1;go_wp2_with (fail)
   go_quiet (fail)
   go_wp2_with (fail);with_reducible refine (Q1z F b _ _ (HD.out _).1 (Nat.le_of_lt hll) HLV.out).mono ?_
   rintro e w5 hp;have HX:=LH (hp.out (HD.out _).2.1 (HD.out _).2.2 HO.out);obtain ⟨rfl,_,_⟩:=hp;go_wp2_with (fail);with_reducible refine (Q0V _ _ _ _ HX.out.1).mono ?_
   rintro e w4 ⟨rfl,rfl⟩;go_wp2_with (fail);go_ret;unfold Q1E
   rw[HS.out,ha.out]
   exact ⟨rfl,HX.out⟩
  ·have HS:=LH (hs.out.trans (if_neg (by omega)));clear hx1
   cases hv:s.values with
   |true=>
    rw[hv] at c4
    have HS2:=LH (HS.out.trans (if_pos hv));clear hv;go_wp2_with (fail)
    go_quiet (fail)
    go_wp2_with (fail);have hp:=(HD.out nq).1.fin 3;have HX:=LH (hp.out (HD.out nq).2.1 (HD.out nq).2.2 HO.out);clear hp;with_reducible refine (Q0V _ _ _ _ HX.out.1).mono ?_
    rintro e w4 ⟨rfl,rfl⟩;go_wp2_with (fail);go_ret;unfold Q1E
    rw[HS2.out,ha.out]
    exact ⟨rfl,HX.out⟩
   |false=>
    rw[hv] at c4
    have HS2:=LH (HS.out.trans (if_neg (by rw[hv];exact Bool.false_ne_true)));clear hv;go_wp2_with (fail)
    go_quiet (fail)
    go_wp2_with (fail);with_reducible refine (Q74 F b _ _ 0 (HD.out _).1 (Nat.le_of_lt hll) HLV.out hpl hm0 hm1).mono ?_
    rintro e w5 hp;have HX:=LH (hp.out (HD.out _).2.1 (HD.out _).2.2 HO.out);obtain ⟨rfl,_,_⟩:=hp;go_wp2_with (fail);with_reducible refine (Q0V _ _ _ _ HX.out.1).mono ?_
    rintro e w4 ⟨rfl,rfl⟩;go_wp2_with (fail);go_ret;unfold Q1E
    rw[HS2.out,ha.out]
    exact ⟨rfl,HX.out⟩
end
def Q00 (n:Int):Int:=if n<2\/16384<n then 0 else if 2<Q2t n then Q2t n else 2
def Q14 (n i:Int):Int:=if i<0\/Q00 n<=i then 0 else if i<n%Q00 n then n/Q00 n+1 else n/Q00 n
def Qgw (a b:Int):Int:=if b<a then b else a
def Q9E (a b:Int):Int:=if a<b then b else a
def Q0R (n i:Int):Int:=if i<0\/Q00 n<=i then 0 else n/Q00 n*i+Qgw i (n%Q00 n)
def Q5m (n:Int):Int:=if n<0\/16384<n then 0 else n/4+2
theorem Q1a {n:Int} (h:n<2\/16384<n):Q00 n=0:=if_pos h
theorem Qbb {n:Int} (h:n<=16384):Q2t n<=128:=by
 have e:Q2t 16384=128:=Q5h (by decide) (by decide) (by decide);have:=Qbd h;omega
theorem Q0L {n:Int} (h0:2<=n) (h1:n<=16384):2<=Q00 n/\Q00 n<=128/\Q00 n<=n:=by
 have r:=Qbb h1;have s:=(Qbc (n:=n) (by omega)).1;unfold Q00
 rw[if_neg (by omega)]
 split
 ·rename_i h;have:1*Q2t n<=Q2t n*Q2t n:=Int.mul_le_mul_of_nonneg_right (by omega) (by omega);omega
 ·omega
theorem Q1q (n:Int):0<=Q00 n:=by
 by_cases h:n<2\/16384<n
 ·rw[Q1a h];omega
 ·have:=(Q0L (n:=n) (by omega) (by omega)).1;omega
theorem Q2l (n:Int):Q00 n<=128:=by
 by_cases h:n<2\/16384<n
 ·rw[Q1a h];omega
 ·have:=(Q0L (n:=n) (by omega) (by omega)).2.1;omega
theorem Q96 {n:Int} (h:Q00 n=0):n<2\/16384<n:=by
 by_cases g:n<2\/16384<n
 ·exact g
 ·have:=(Q0L (n:=n) (by omega) (by omega)).1;omega
theorem parts {n:Int} (h0:2<=n) (h1:n<=16384):n=Q00 n*(n/Q00 n)+n%Q00 n/\0<=n%Q00 n/\n%Q00 n<Q00 n/\1<=n/Q00 n/\n/Q00 n<n/\(0<n%Q00 n->n/Q00 n+1<n):=by
 obtain ⟨d0,d1,d2⟩:=Q0L h0 h1;generalize Q00 n=d at*;have e:=Int.mul_ediv_add_emod n d;have a:=Int.emod_nonneg n (show d≠0 by omega);have b:=Int.emod_lt_of_pos n (show 0<d by omega);have c:1<=n/d:=(Int.le_ediv_iff_mul_le (by omega)).2 (by omega);have f:2*(n/d)<=d*(n/d):=Int.mul_le_mul_of_nonneg_right d0 (by omega);exact ⟨by omega,a,b,c,by omega,by omega⟩
theorem Q26 {n i:Int} (h0:2<=n) (h1:n<=16384) (i0:0<=i) (i1:i<Q00 n):Q14 n i=(if i<n%Q00 n then n/Q00 n+1 else n/Q00 n)/\1<=Q14 n i/\Q14 n i<n:=by
 obtain ⟨p1,p2,p3,p4,p5,p6⟩:=parts h0 h1
 have e:Q14 n i=(if i<n%Q00 n then n/Q00 n+1 else n/Q00 n):=by
  unfold Q14;rw[if_neg (by omega)]
 rw[e]
 refine ⟨rfl, ?_⟩
 split<;>omega
theorem Q5K {n i:Int} (h:i<0\/Q00 n<=i):Q14 n i=0:=if_pos h
theorem Qa9 (n i:Int):0<=Q14 n i/\Q14 n i<=16384:=by
 by_cases h:i<0\/Q00 n<=i
 ·rw[Q5K h];omega
 ·have hd:Q00 n≠0:=by omega
  have hn:¬(n<2\/16384<n):=fun g=>hd (Q1a g);have:=Q26 (n:=n) (i:=i) (by omega) (by omega) (by omega) (by omega);omega
def Qav:Nat->Int->Int
 |0,_=>0
 |k+1,n=>if Q00 n=0 then 0 else 1+(if 0<n%Q00 n then Q9E (Qav k (n/Q00 n)) (Qav k (n/Q00 n+1)) else Qav k (n/Q00 n))
def Q2H:Nat->Int->Int
 |0,n=>if n=0 then 1 else 0
 |k+1,n=>if n<0\/16384<n then 0 else if n=0 then 1 else if n=1 then 2 else
   4+2*Q00 n+(Q00 n-n%Q00 n)*Q2H k (n/Q00 n)+(if 0<n%Q00 n then n%Q00 n*Q2H k (n/Q00 n+1) else 0)
def QgC (n:Int):Int:=Qav n.toNat n
def Q0C (n:Int):Int:=Q2H n.toNat n
theorem Q3g:∀(k:Nat) (n:Int),n<=k->∀j:Nat,n<=j->Q2H j n=Q2H k n
 |0,n,h,j,_=>by
  cases j with
  |zero=>rfl
  |succ j=>
   simp only[Q2H];by_cases g:n<0
   ·rw[if_pos (Or.inl g),if_neg (by omega)]
   ·rw[if_neg (by omega)]
    have:n=0:=by omega
    rw[if_pos this,if_pos this]
 |k+1,n,h,j,hj=>by
  by_cases g:n<0\/16384<n
  ·cases j with
   |zero=>simp only[Q2H];rw[if_pos g,if_neg (by omega)]
   |succ j=>simp only[Q2H];rw[if_pos g,if_pos g]
  ·by_cases z:n=0
   ·subst z
    cases j with
    |zero=>simp[Q2H]
    |succ j=>simp[Q2H]
   ·obtain ⟨i,rfl⟩:∃i,j=i+1:=⟨j-1,by omega⟩;simp only[Q2H]
    rw[if_neg g,if_neg g,if_neg z,if_neg z]
    by_cases u:n=1
    ·rw[if_pos u,if_pos u]
    ·rw[if_neg u,if_neg u]
     obtain ⟨p1,p2,p3,p4,p5,p6⟩:=parts (n:=n) (by omega) (by omega)
     rw[Q3g k (n/Q00 n) (by omega) i (by omega)]
     by_cases c:0<n%Q00 n
     ·rw[Q3g k (n/Q00 n+1) (by have:=p6 c;omega) i (by have:=p6 c;omega)]
     ·rw[if_neg c,if_neg c]
theorem Q9d {n:Int} (h0:2<=n) (h1:n<=16384):Q0C n=4+2*Q00 n+(Q00 n-n%Q00 n)*Q0C (n/Q00 n)+(if 0<n%Q00 n then n%Q00 n*Q0C (n/Q00 n+1) else 0):=by
 obtain ⟨p1,p2,p3,p4,p5,p6⟩:=parts h0 h1;unfold Q0C;obtain ⟨k,hk⟩:∃k,n.toNat=k+1:=⟨n.toNat-1,by omega⟩
 rw[hk,Q2H,if_neg (by omega),if_neg (by omega),if_neg (by omega)]
 rw[Q3g (n/Q00 n).toNat (n/Q00 n) (by omega) k (by omega)]
 by_cases c:0<n%Q00 n
 ·rw[Q3g (n/Q00 n+1).toNat (n/Q00 n+1) (by omega) k (by have:=p6 c;omega)]
 ·rw[if_neg c,if_neg c]
theorem Q3f {n:Int} (h:n<0\/16384<n):Q0C n=0:=by
 unfold Q0C
 cases hn:n.toNat with
 |zero=>rw[Q2H,if_neg (by omega)]
 |succ k=>rw[Q2H,if_pos h]
theorem cellsI_zero:Q0C 0=1:=rfl
theorem Q56:Q0C 1=2:=by decide+kernel
theorem QdM (k:Nat):∀n:Int,1<=n->n<=k->n<=16384->2<=Q0C n/\Q0C n<=10*n-8:=by
 induction k with
 |zero=>intro n h g;omega
 |succ k ih=>
  intro n h0 hk h1;by_cases u:n=1
  ·subst u;rw[Q56];omega
  ·obtain ⟨p1,p2,p3,p4,p5,p6⟩:=parts (n:=n) (by omega) h1;obtain ⟨d0,d1,d2⟩:=Q0L (n:=n) (by omega) h1;have a:=ih (n/Q00 n) p4 (by omega) (by omega)
   rw[Q9d (by omega) h1]
   have m0:(Q00 n-n%Q00 n)*2<=(Q00 n-n%Q00 n)*Q0C (n/Q00 n):=Int.mul_le_mul_of_nonneg_left a.1 (by omega);have m1:(Q00 n-n%Q00 n)*Q0C (n/Q00 n)<=(Q00 n-n%Q00 n)*(10*(n/Q00 n)-8):=Int.mul_le_mul_of_nonneg_left a.2 (by omega);by_cases c:0<n%Q00 n
   ·have b:=ih (n/Q00 n+1) (by omega) (by have:=p6 c;omega) (by have:=p6 c;omega);have q0:(n%Q00 n)*2<=(n%Q00 n)*Q0C (n/Q00 n+1):=Int.mul_le_mul_of_nonneg_left b.1 (by omega);have q1:(n%Q00 n)*Q0C (n/Q00 n+1)<=(n%Q00 n)*(10*(n/Q00 n+1)-8):=Int.mul_le_mul_of_nonneg_left b.2 (by omega)
    rw[if_pos c]
    generalize Q00 n=d at*;generalize n%d=r at*;generalize n/d=q at*;generalize Q0C q=cq at*;generalize Q0C (q+1)=cr at*
    have e1:(d-r)*(10*q-8)=10*(d*q)-10*(r*q)-8*d+8*r:=by
     rw[Int.sub_mul,Int.mul_sub,Int.mul_sub,<-Int.mul_assoc,<-Int.mul_assoc,Int.mul_comm d 10,Int.mul_comm r 10,Int.mul_assoc,Int.mul_assoc];omega
    have e2:r*(10*(q+1)-8)=10*(r*q)+2*r:=by
     have:10*(q+1)-8=10*q+2:=by omega
     rw[this,Int.mul_add,<-Int.mul_assoc,Int.mul_comm r 10,Int.mul_assoc];omega
    omega
   ·rw[if_neg c]
    generalize Q00 n=d at*;generalize n%d=r at*;generalize n/d=q at*;generalize Q0C q=cq at*;obtain rfl:r=0:=by omega
    have e1:(d-0)*(10*q-8)=10*(d*q)-8*d:=by
     rw[Int.sub_zero,Int.mul_sub,<-Int.mul_assoc,Int.mul_comm d 10,Int.mul_assoc];omega
    omega
theorem QdL {n:Int} (h0:1<=n) (h1:n<=16384):2<=Q0C n/\Q0C n<=10*n-8:=QdM n.toNat n h0 (by omega) h1
def Q6Q (n i:Int):Int:=n/Q00 n*i+Qgw i (n%Q00 n)
theorem Q5V {n:Int} (h0:2<=n) (h1:n<=16384):Q6Q n 0=0:=by
 obtain ⟨p1,p2,p3,p4,p5,p6⟩:=parts h0 h1;unfold Q6Q Qgw;rw[Int.mul_zero];split<;>omega
theorem Q3t {n i:Int} (h0:2<=n) (h1:n<=16384) (i0:0<=i) (i1:i<Q00 n):Q6Q n (i+1)=Q6Q n i+Q14 n i:=by
 obtain ⟨p1,p2,p3,p4,p5,p6⟩:=parts h0 h1;rw[(Q26 h0 h1 i0 i1).1];unfold Q6Q Qgw
 rw[Int.mul_add,Int.mul_one]
 generalize Q00 n=d at*;generalize n%d=r at*;generalize n/d=q at*
 split<;>split<;>split<;>omega
theorem Q4U {n i:Int} (h0:2<=n) (h1:n<=16384) (i0:0<=i) (i1:i<=Q00 n):0<=Q6Q n i/\Q6Q n i<=n:=by
 obtain ⟨p1,p2,p3,p4,p5,p6⟩:=parts h0 h1;have m0:0<=n/Q00 n*i:=Int.mul_nonneg (by omega) i0;have m1:n/Q00 n*i<=n/Q00 n*Q00 n:=Int.mul_le_mul_of_nonneg_left (by omega) (by omega)
 rw[Int.mul_comm (n/Q00 n) (Q00 n)] at m1
 unfold Q6Q Qgw
 split<;>omega
theorem Q2c {n i:Int} (i0:0<=i) (i1:i<Q00 n):Q0R n i=Q6Q n i:=if_neg (by omega)
def QgD (n:Int):Nat->Int
 |0=>0
 |i+1=>Q9E (QgD n i) (1+QgC (Q14 n i))
def Q1U (n:Int):Nat->Int
 |0=>4+2*Q00 n
 |i+1=>Q1U n i+Q0C (Q14 n i)
theorem Q7d {n:Int} (h0:2<=n) (h1:n<=16384):∀i:Nat,(i:Int)<=Q00 n->Q1U n i=4+2*Q00 n+(if (i:Int)<=n%Q00 n then (i:Int)*Q0C (n/Q00 n+1) else ((i:Int)-n%Q00 n)*Q0C (n/Q00 n)+n%Q00 n*Q0C (n/Q00 n+1))
 |0,_=>by
  obtain ⟨p1,p2,p3,p4,p5,p6⟩:=parts h0 h1
  rw[Q1U,if_pos (by omega)];simp
 |i+1,hi=>by
  have ih:=Q7d h0 h1 i (by omega);have s:=(Q26 (n:=n) (i:=i) h0 h1 (by omega) (by omega)).1
  rw[Q1U,ih,s]
  obtain ⟨p1,p2,p3,p4,p5,p6⟩:=parts h0 h1;generalize n%Q00 n=r at*;generalize Q00 n=d at*;generalize n/d=q at*
  have e1:((i+1:Nat):Int)*Q0C (q+1)=(i:Int)*Q0C (q+1)+Q0C (q+1):=by
   rw[Int.natCast_add,Int.add_mul];simp
  have e2:(((i+1:Nat):Int)-r)*Q0C q=((i:Int)-r)*Q0C q+Q0C q:=by
   have:((i+1:Nat):Int)-r=((i:Int)-r)+1:=by omega
   rw[this,Int.add_mul];simp
  by_cases c:(i:Int)<r
  ·rw[if_pos c,if_pos (show ((i+1:Nat):Int)<=r by omega),if_pos (show (i:Int)<=r by omega),e1];omega
  ·rw[if_neg c,if_neg (show ¬((i+1:Nat):Int)<=r by omega),e2]
   by_cases e:(i:Int)<=r
   ·have e3:(i:Int)=r:=by omega
    rw[if_pos e,e3,Int.sub_self,Int.zero_mul];omega
   ·rw[if_neg e];omega
theorem Q6n {n:Int} (h0:2<=n) (h1:n<=16384):Q1U n (Q00 n).toNat=Q0C n:=by
 obtain ⟨p1,p2,p3,p4,p5,p6⟩:=parts h0 h1;have d0:=(Q0L h0 h1).1
 rw[Q7d h0 h1 _ (by omega),Q9d h0 h1,if_neg (show ¬((Q00 n).toNat:Int)<=n%Q00 n by omega)]
 have:(((Q00 n).toNat:Nat):Int)=Q00 n:=by omega
 rw[this]
 by_cases f:0<n%Q00 n
 ·rw[if_pos f];omega
 ·have:n%Q00 n=0:=by omega
  rw[if_neg f,this];simp
theorem Q32 (n:Int):0<=Q0C n/\Q0C n<=163840:=by
 by_cases h:n<0\/16384<n
 ·rw[Q3f h];omega
 ·by_cases z:n=0
  ·subst z;rw[cellsI_zero];omega
  ·have:=QdL (n:=n) (by omega) (by omega);omega
theorem Q7e (n:Int):∀i:Nat,0<=Q1U n i/\Q1U n i<=260+163840*i
 |0=>by
  have a:=Q1q n;have b:=Q2l n;simp only[Q1U];omega
 |i+1=>by
  have a:=Q7e n i;have b:=Q32 (Q14 n i)
  rw[Q1U];omega
def Q0P (lay:List Int->List (Int×Int)->List Int×Int) (C:List Int) (l:List (Int×Int)):Nat->List Int×List Int
 |0=>(C,[])
 |i+1=>((lay (Q0P lay C l i).1 ((l.drop (Q0R l.length i).toNat).take (Q14 l.length i).toNat)).1,(Q0P lay C l i).2++[(lay (Q0P lay C l i).1 ((l.drop (Q0R l.length i).toNat).take (Q14 l.length i).toNat)).2])
def Q1n (l:List (Int×Int)):Nat->List Int
 |0=>[]
 |1=>[]
 |i+2=>Q1n l (i+1)++[Q17 l (Q0R l.length ((i+1:Nat):Int)).toNat]
def Q0U (n:Int) (q c:List Int):List Int:=[(c.length:Int),n,0,0,0]++q++c
def Q0S:Nat->List Int->List (Int×Int)->List Int×Int
 |0,C,_=>(C,0)
 |f+1,C,l=>
  if l.length=0 then (C++[0],wOf 1 ((C.length:Int)+1))
  else if l.length=1 then (C++[Q17 l 0,Q4b l 0],wOf 2 ((C.length:Int)+1))
  else ((Q0P (Q0S f) C l (Q00 l.length).toNat).1++Q0U l.length (Q1n l (Q00 l.length).toNat) (Q0P (Q0S f) C l (Q00 l.length).toNat).2,wOf 3 (((Q0P (Q0S f) C l (Q00 l.length).toNat).1.length:Int)+1))
theorem Q2i (l:List (Int×Int)):∀i:Nat,(Q1n l (i+1)).length=i
 |0=>rfl
 |i+1=>by
  show (Q1n l (i+1)++[_]).length=i+1
  rw[List.length_append,Q2i l i];rfl
theorem Q1R {lay:List Int->List (Int×Int)->List Int×Int} {C:List Int} {l:List (Int×Int)}:∀i,(Q0P lay C l i).2.length=i
 |0=>rfl
 |i+1=>by
  show ((Q0P lay C l i).2++[_]).length=i+1
  rw[List.length_append,Q1R i];rfl
theorem Q7B {l:List (Int×Int)} (h0:2<=l.length) (h1:l.length<=16384) {i:Nat} (hi:(i:Int)<Q00 l.length):(((l.drop (Q0R l.length i).toNat).take (Q14 l.length i).toNat).length:Int)=Q14 l.length i/\0<=Q0R l.length i/\1<=Q14 l.length i/\Q14 l.length i<l.length/\Q0R l.length i+Q14 l.length i<=l.length:=by
 have e:=Q2c (n:=l.length) (i:=i) (by omega) hi;have s:=Q26 (n:=l.length) (i:=i) (by omega) (by omega) (by omega) hi;have r:=Q3t (n:=l.length) (i:=i) (by omega) (by omega) (by omega) hi;have b1:=Q4U (n:=l.length) (i:=i) (by omega) (by omega) (by omega) (by omega);have b2:=Q4U (n:=l.length) (i:=(i:Int)+1) (by omega) (by omega) (by omega) (by omega);refine ⟨?_,by omega,s.2.1,s.2.2,by omega⟩
 rw[List.length_take,List.length_drop]
 omega
theorem Q2Y:∀(f:Nat) (C:List Int) (l:List (Int×Int)),l.length<f->l.length<=16384->((Q0S f C l).1.length:Int)=C.length+Q0C l.length
 |0,C,l,h,_=>absurd h (by omega)
 |f+1,C,l,h,h1=>by
  unfold Q0S;by_cases c0:l.length=0
  ·rw[if_pos c0,c0];simp[cellsI_zero]
  ·rw[if_neg c0]
   by_cases c1:l.length=1
   ·rw[if_pos c1,c1];simp[Q56]
   ·rw[if_neg c1]
    have hd:=Q0L (n:=l.length) (by omega) (by omega)
    have key:∀i:Nat,(i:Int)<=Q00 l.length->((Q0P (Q0S f) C l i).1.length:Int)+4+2*Q00 l.length=C.length+Q1U l.length i:=by
     intro i
     induction i with
     |zero=>intro _;simp[Q0P,Q1U];omega
     |succ i ih=>
      intro hi;have:=ih (by omega);obtain ⟨p1,p2,p3,p4,p5⟩:=Q7B (l:=l) (by omega) h1 (i:=i) (by omega);have hl:=Q2Y f (Q0P (Q0S f) C l i).1 ((l.drop (Q0R l.length i).toNat).take (Q14 l.length i).toNat) (by omega) (by omega)
      rw[p1] at hl
      simp only[Q0P,Q1U];omega
    have h3:=key (Q00 l.length).toNat (by omega);have h4:=Q6n (n:=l.length) (by omega) (by omega)
    rw[h4] at h3
    obtain ⟨d,hdd⟩:∃d:Nat,(Q00 l.length).toNat=d+1:=⟨(Q00 l.length).toNat-1,by omega⟩
    rw[List.length_append]
    unfold Q0U
    rw[List.length_append,List.length_append,Q1R,hdd,Q2i]
    rw[hdd] at h3
    simp;omega
def RootAt (n:Int) (b:Nat) (r:Int):Prop:=(∃q:Nat,r=((q*2^b:Nat):Int))/\r*r<=n/\n<(r+2^b)*(r+2^b)/\r<2^32
theorem RootAt.nonneg {n r:Int} {b:Nat} (h:RootAt n b r):0<=r:=by
 obtain ⟨⟨q,rfl⟩,_⟩:=h;exact Int.natCast_nonneg _
theorem Q7z (j:Nat):(0:Int)<2^j:=Int.pow_pos (by decide)
theorem QfQ {j:Nat} (h:j<32):(2:Int)^j<=2147483648:=by
 have:(2:Nat)^j<=2^31:=Nat.pow_le_pow_right (by decide) (by omega);have t:((2^j:Nat):Int)<=((2^31:Nat):Int):=by exact_mod_cast this
 rw[Int.natCast_pow] at t
 exact t
theorem RootAt.yes {n r:Int} {j:Nat} (h:RootAt n (j+1) r) (hn:0<=n) (h1:n<=9223372036854775807) (c:r+2^j<=n/(r+2^j)):RootAt n j (r+2^j):=by
 have h0:=h.nonneg;have hp:=Q7z j;obtain ⟨⟨q,hq⟩,a,b,d⟩:=h
 have m:(r+2^j)*(r+2^j)<=n:=by
  have:=(Int.le_ediv_iff_mul_le (show 0<r+2^j by omega)).1 c;exact this
 refine ⟨⟨2*q+1, ?_⟩,m, ?_, ?_⟩
 ·rw[hq,Nat.pow_succ]
  have:(2*q+1)*2^j=q*(2^j*2)+2^j:=by rw[Nat.add_mul,Nat.one_mul,Nat.mul_comm (2^j) 2,<-Nat.mul_assoc,Nat.mul_comm q 2]
  rw[this,Int.natCast_add,Int.natCast_pow];rfl
 ·have e:r+2^(j+1)=r+2^j+2^j:=by rw[Int.pow_succ];omega
  rw[e] at b
  exact b
 ·rcases Int.lt_or_le (r+2^j) (2^32) with g|g
  ·exact g
  ·have:=Int.mul_le_mul g g (by decide) (by omega);omega
theorem RootAt.no {n r:Int} {j:Nat} (h:RootAt n (j+1) r) (c:¬r+2^j<=n/(r+2^j)):RootAt n j r:=by
 have h0:=h.nonneg;have hp:=Q7z j;obtain ⟨⟨q,hq⟩,a,b,d⟩:=h;refine ⟨⟨2*q, ?_⟩,a, ?_,d⟩
 ·rw[hq,Nat.pow_succ]
  have:2*q*2^j=q*(2^j*2):=by rw[Nat.mul_comm (2^j) 2,<-Nat.mul_assoc,Nat.mul_comm q 2]
  rw[this]
 ·rcases Int.lt_or_le n ((r+2^j)*(r+2^j)) with g|g
  ·exact g
  ·exact absurd ((Int.le_ediv_iff_mul_le (show 0<r+2^j by omega)).2 g) c
theorem RootAt.end_ {n r:Int} (h:RootAt n 0 r):Q2t n=r:=by
 have h0:=h.nonneg;obtain ⟨_,a,b,_⟩:=h;exact Q5h h0 a (by simpa using b)
attribute [local go_sem] Q39 Q4X Q7E Q9D
theorem PairsAt.chg {F:Nat->Prop} {w w':World} {B:Nat} {A:Option Addr} {l:List (Int×Int)} (h:PairsAt w B A l) (m:Chg F w w') (hB:B<=w.heap.size) (hA:∀ad,A=some ad->¬F ad.block):PairsAt w' B A l:=
 ⟨h.1,fun hn=>by
  obtain ⟨ad,e,hb,hc⟩:=h.2 hn;refine ⟨ad,e,hb,fun j u hu=>(World.cell?_of_block (m.block _ (by rw[Q0O];omega) (by rw[Q0O];exact hA ad e))).trans (hc j u hu)⟩⟩
def Qgn (l:List (Int×Int)):Prop:=∀i,i+1<l.length->Q17 l i<Q17 l (i+1)
def MemC (b:Nat) (C:List Int) (size:Int) (w:World):Prop:=∃v count odd,MemP b b v C size count odd 0 w
end Go.Proofs.YtblajeildolloaaGreat
