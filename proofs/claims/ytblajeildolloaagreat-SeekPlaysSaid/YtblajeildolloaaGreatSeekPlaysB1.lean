/- Part 1 of what the statement of SeekPlays needs. No condition. -/
import Derived.Lib.BitFns
import Derived.Laws.Bits64b
import Derived.IntWalk
import Derived.Test.YtblajeildolloaaGreatProg
import Derived.WalkKit
import Derived.WalkSpells
import Derived.Lib.Strings
import Derived.Lib.Slices
import Derived.Lib.Small
import Derived.Lib.Walk
import Derived.Lib.Hide
import Derived.Deep.Light
import Derived.Deep.Draws
import Derived.Below
import Derived.Laws.OwnMore
import Derived.Deep.AppendLies
import Derived.Laws.Rows
import Derived.Maps.AppendAt
import Derived.RegionTactic
import Derived.OwnWalk
import Derived.Laws.Bits128
import Derived.WalkSmall
import Derived.OneCell
import Derived.Deep.QuietTactic
import Derived.BigQuiet
import Derived.Lib.Mul64
import Derived.StillTailTactics
import Derived.Outline
import Derived.Deep.RegionWith
import Derived.Lib.AppendZeros
import Derived.Lib.SliceRun
import Derived.Deep.RegionHeld3
import Derived.Deep.RegionLaw
import Derived.ChangeAlike
namespace Go.Proofs.YtblajeildolloaaGreat
set_option linter.unusedVariables false
set_option linter.unusedSimpArgs false
open Go.RowKit
abbrev oZ : Array Value := #[.int .i64 0, .bool false, .int .i64 0, .int .i64 0, .int .i64 0, .slice none 0 0, .slice none 0 0, .int .i64 0, .bool false, .int .i64 0, .int .i64 0, .int .i64 0, .slice none 0 0]
abbrev aZ : Array Value := #[.int .i64 0, .int .i64 0, .int .i64 0, .int .i64 0, .int .i64 0, .int .i64 0, .int .i64 0, .bool false, .int .i64 0, .bool false, .slice none 0 0, .slice none 0 0, .slice none 0 0, .slice none 0 0, .slice none 0 0, .int .i64 0, .int .i64 0, .int .i64 0, .int .i64 0, .int .i64 0, .int .i64 0]
theorem LH {p : Prop} (h : p) : Hid p := Lib.hid h
def sqrtN:Nat→Nat
 |0=>0
 |n+1=>if (sqrtN n+1)*(sqrtN n+1)≤n+1 then sqrtN n+1 else sqrtN n
def rootI (n:Int):Int:=(sqrtN n.toNat:Int)
theorem sqrtN_spec (n:Nat):sqrtN n*sqrtN n≤n∧n<(sqrtN n+1)*(sqrtN n+1):=by
 induction n with
 |zero=>simp[sqrtN]
 |succ n ih=>
  simp only[sqrtN]
  split
  ·rename_i h
   refine ⟨h, ?_⟩
   have e:(sqrtN n+1+1)*(sqrtN n+1+1)=(sqrtN n+1)*(sqrtN n+1)+2*(sqrtN n+1)+1:=by
    rw[Nat.mul_add,Nat.add_mul];omega
   omega
  ·rename_i h
   exact ⟨by omega,by omega⟩
theorem sq_lt {a b:Nat} (h:a<b):(a+1)*(a+1)≤b*b:=Nat.mul_le_mul h h
theorem sqrtN_unique {n r:Nat} (h1:r*r≤n) (h2:n<(r+1)*(r+1)):sqrtN n=r:=by
 obtain ⟨s1,s2⟩:=sqrtN_spec n
 rcases Nat.lt_trichotomy (sqrtN n) r with h|h|h
 ·have:=sq_lt h;omega
 ·exact h
 ·have:=sq_lt h;omega
theorem sqrtN_mono {m n:Nat} (h:m≤n):sqrtN m≤sqrtN n:=by
 obtain ⟨s1,s2⟩:=sqrtN_spec n
 obtain ⟨t1,t2⟩:=sqrtN_spec m
 rcases Nat.lt_or_ge (sqrtN n) (sqrtN m) with g|g
 ·have:=sq_lt g;omega
 ·exact g
theorem rootI_low {n:Int} (h:n≤0):rootI n=0:=by
 unfold rootI;rw[Int.toNat_of_nonpos h];rfl
theorem rootI_spec {n:Int} (h:0≤n):rootI n*rootI n≤n∧n<(rootI n+1)*(rootI n+1):=by
 obtain ⟨s1,s2⟩:=sqrtN_spec n.toNat
 unfold rootI
 constructor
 ·have:((sqrtN n.toNat*sqrtN n.toNat:Nat):Int)≤(n.toNat:Int):=by exact_mod_cast s1
  rw[Int.natCast_mul] at this;omega
 ·have:((n.toNat:Nat):Int)<(((sqrtN n.toNat+1)*(sqrtN n.toNat+1):Nat):Int):=by exact_mod_cast s2
  rw[Int.natCast_mul,Int.natCast_add] at this;simp only[Int.natCast_one] at this;omega
theorem rootI_unique {n r:Int} (h0:0≤r) (h1:r*r≤n) (h2:n<(r+1)*(r+1)):rootI n=r:=by
 obtain ⟨k,rfl⟩:=Int.eq_ofNat_of_zero_le h0
 unfold rootI
 have hn:0≤n:=Int.le_trans (by rw[←Int.natCast_mul];exact Int.natCast_nonneg _) h1
 obtain ⟨m,rfl⟩:=Int.eq_ofNat_of_zero_le hn
 have e1:k*k≤m:=by exact_mod_cast h1
 have e2:m<(k+1)*(k+1):=by exact_mod_cast h2
 rw[Int.toNat_natCast,sqrtN_unique e1 e2]
theorem rootI_mono {m n:Int} (h:m≤n):rootI m≤rootI n:=by
 unfold rootI
 have:sqrtN m.toNat≤sqrtN n.toNat:=sqrtN_mono (by omega)
 omega
theorem bitLen_zero:Go.Lib.bitLen 0=0:=by decide
theorem bitLen_pos {x:Nat} (h0:x≠0) (h:x<2^64):0<Go.Lib.bitLen x:=by
 rw[Go.Lib.bitLen_half x h0 h];omega
theorem bitLen_spec:∀(d x:Nat),x≤d→x≠0→x<2^64→2^(Go.Lib.bitLen x-1)≤x∧x<2^Go.Lib.bitLen x
 |0,x,hd,h0,_=>absurd (Nat.le_zero.1 hd) h0
 |d+1,x,hd,h0,h=>by
  have e:=Go.Lib.bitLen_half x h0 h
  rw[e]
  by_cases h2:x/2=0
  ·rw[h2,bitLen_zero]
   simp;omega
  ·obtain ⟨i1,i2⟩:=bitLen_spec d (x/2) (by omega) h2 (by omega)
   have p:=bitLen_pos h2 (by omega)
   obtain ⟨b,hb⟩:∃b,Go.Lib.bitLen (x/2)=b+1:=⟨Go.Lib.bitLen (x/2)-1,by omega⟩
   rw[hb] at i1 i2⊢
   have e1:1+(b+1)-1=b+1:=by omega
   have e2:1+(b+1)=b+1+1:=by omega
   have e3:b+1-1=b:=by omega
   rw[e1,e2]
   rw[e3] at i1
   rw[Nat.pow_succ 2 (b+1)]
   rw[Nat.pow_succ] at i2⊢
   omega
theorem bitLen_lt {x:Nat} (h0:x≠0) (h:x<2^64):2^(Go.Lib.bitLen x-1)≤x∧x<2^Go.Lib.bitLen x:=bitLen_spec x x (Nat.le_refl _) h0 h
def gapI (a b:Int):Int:=if b<a then 0 else b-a
def lesI (a b:Int):Int:=if b<a then b else a
def shareI (p x n:Int):Int:=if x=0∨n<1∨65536<n then 0 else lesI p x*n/x
theorem shareI_none {p x n:Int} (h:x=0∨n<1∨65536<n):shareI p x n=0:=if_pos h
theorem lesI_bd {p x:Int} (p0:0≤p) (x0:0≤x):0≤lesI p x∧lesI p x≤x∧lesI p x≤p:=by unfold lesI;split<;>omega
theorem gap_wrap {a b:Int} (a0:-9223372036854775808≤a) (a1:a≤9223372036854775807) (b0:-9223372036854775808≤b) (b1:b≤9223372036854775807) (h:a≤b):IntKind.u64.wrap (IntKind.u64.wrap b-IntKind.u64.wrap a)=gapI a b:=by
 unfold gapI;rw[if_neg (by omega)]
 simp only[IntKind.wrap_u64]
 omega
theorem gapI_bd {a b:Int} (a0:-9223372036854775808≤a) (b1:b≤9223372036854775807):0≤gapI a b∧gapI a b≤18446744073709551615:=by unfold gapI;split<;>omega
theorem share_split {m x n:Int} (m0:0≤m) (m1:m≤x) (x0:0<x) (x1:x≤18446744073709551615) (n0:1≤n) (n1:n≤65536):
  0≤m*n/18446744073709551616∧m*n/18446744073709551616<x∧0≤m*n%18446744073709551616∧m*n%18446744073709551616≤18446744073709551615∧(m*n/18446744073709551616*18446744073709551616+m*n%18446744073709551616)/x=m*n/x∧m*n/18446744073709551616*18446744073709551616+m*n%18446744073709551616<x*4294967296∧(0≤m*n/x∧m*n/x≤65536):=by
 have a0:0≤m*n:=Int.mul_nonneg m0 (by omega)
 have a1:m*n≤x*65536:=Int.mul_le_mul m1 n1 (by omega) (by omega)
 have e:m*n/18446744073709551616*18446744073709551616+m*n%18446744073709551616=m*n:=by omega
 rw[e]
 have b0:0≤m*n/x:=Int.ediv_nonneg a0 (by omega)
 have b1:m*n/x<65537:=Int.ediv_lt_of_lt_mul x0 (by omega)
 refine ⟨by omega,by omega,by omega,by omega,rfl,by omega,b0,by omega⟩
structure ShareAt (m x n:Int) (b:Nat) (q r:Int):Prop where
 eq:q*x+r=m*(n/2^b)
 r0:0≤r
 r1:r<x
theorem ShareAt.start {m x n:Int} (n0:0≤n) (n1:n≤65536) (x0:0<x):ShareAt m x n 17 0 0:=by
 have:n/2^17=0:=Int.ediv_eq_zero_of_lt n0 (by omega)
 exact ⟨by rw[this];simp,by omega,x0⟩
theorem ShareAt.done {m x n q r:Int} (h:ShareAt m x n 0 q r) (x0:0<x):m*n/x=q:=by
 have e:=h.eq
 have:n/2^0=n:=by simp
 rw[this] at e
 rw[←e,Int.add_comm,Int.add_mul_ediv_right _ _ (by omega),Int.ediv_eq_zero_of_lt h.r0 h.r1,Int.zero_add]
theorem half_pow (n:Int) (j:Nat):n/2^(j+1)=n/2^j/2:=by
 rw[Int.pow_succ,Int.ediv_ediv_of_nonneg (Int.pow_nonneg (by decide))]
theorem ShareAt.bd {m x n q r:Int} {j:Nat} (h:ShareAt m x n (j+1) q r) (m0:0≤m) (m1:m≤x) (x0:0<x) (n0:0≤n) (n1:n≤65536):0≤r∧r<x∧0≤q∧q≤65536:=by
 refine ⟨h.r0,h.r1, ?_⟩
 have e:=h.eq
 have k0:0≤n/2^(j+1):=Int.ediv_nonneg n0 (Int.pow_nonneg (by decide))
 have k1:n/2^(j+1)≤n:=Int.ediv_le_self _ n0
 generalize n/2^(j+1)=k at*
 have a0:0≤m*k:=Int.mul_nonneg m0 k0
 have a1:m*k≤x*k:=Int.mul_le_mul_of_nonneg_right m1 k0
 have r0:=h.r0
 have r1:=h.r1
 constructor
 ·rcases Int.lt_or_le q 0 with g|g
  ·have:q*x≤(-1)*x:=Int.mul_le_mul_of_nonneg_right (by omega) (by omega)
   omega
  ·exact g
 ·rcases Int.lt_or_le 65536 q with g|g
  ·have:65537*x≤q*x:=Int.mul_le_mul_of_nonneg_right (by omega) (by omega)
   have:x*k≤x*65536:=Int.mul_le_mul_of_nonneg_left (by omega) (by omega)
   omega
  ·exact g
section
variable {m x n q r:Int} {j:Nat}
theorem ShareAt.twice (h:ShareAt m x n (j+1) q r) (c2:n/2^j%2=0):(2*q)*x+(r+r)=m*(n/2^j):=by
 have e:=h.eq
 rw[half_pow] at e
 have:n/2^j=2*(n/2^j/2):=by omega
 rw[this,Int.mul_left_comm,←e,Int.mul_assoc,Int.mul_add];omega
theorem ShareAt.twice1 (h:ShareAt m x n (j+1) q r) (c2:n/2^j%2=1):(2*q)*x+(r+r)+m=m*(n/2^j):=by
 have e:=h.eq
 rw[half_pow] at e
 have:n/2^j=2*(n/2^j/2)+1:=by omega
 rw[this,Int.mul_add,Int.mul_one,Int.mul_left_comm,←e,Int.mul_assoc,Int.mul_add];omega
theorem ShareAt.step1 (h:ShareAt m x n (j+1) q r) (c1:x-r≤r) (c2:n/2^j%2=0):ShareAt m x n j (2*q+1) (r-(x-r)):=
 ⟨by rw[←h.twice c2,Int.add_mul];omega,by have:=h.r0;omega,by have:=h.r1;omega⟩
theorem ShareAt.step2 (h:ShareAt m x n (j+1) q r) (m1:m≤x) (c1:x-r≤r) (c2:n/2^j%2=1) (c3:x-(r-(x-r))≤m):ShareAt m x n j (2*q+1+1) (r-(x-r)-(x-m)):=
 ⟨by rw[←h.twice1 c2,Int.add_mul,Int.add_mul];omega,by omega,by have:=h.r1;omega⟩
theorem ShareAt.step3 (h:ShareAt m x n (j+1) q r) (m0:0≤m) (c1:x-r≤r) (c2:n/2^j%2=1) (c3:¬x-(r-(x-r))≤m):ShareAt m x n j (2*q+1) (r-(x-r)+m):=
 ⟨by rw[←h.twice1 c2,Int.add_mul];omega,by omega,by omega⟩
theorem ShareAt.step4 (h:ShareAt m x n (j+1) q r) (c1:¬x-r≤r) (c2:n/2^j%2=0):ShareAt m x n j (2*q) (r+r):=
 ⟨h.twice c2,by have:=h.r0;omega,by omega⟩
theorem ShareAt.step5 (h:ShareAt m x n (j+1) q r) (m1:m≤x) (c1:¬x-r≤r) (c2:n/2^j%2=1) (c3:x-(r+r)≤m):ShareAt m x n j (2*q+1) (r+r-(x-m)):=
 ⟨by rw[←h.twice1 c2,Int.add_mul];omega,by omega,by omega⟩
theorem ShareAt.step6 (h:ShareAt m x n (j+1) q r) (m0:0≤m) (c1:¬x-r≤r) (c2:n/2^j%2=1) (c3:¬x-(r+r)≤m):ShareAt m x n j (2*q) (r+r+m):=
 ⟨by rw[←h.twice1 c2];omega,by have:=h.r0;omega,by omega⟩
end
theorem bit_eq (n:Int) (j:Nat) (n0:0≤n) (n1:n≤9223372036854775807):bits .and .i64 (n/2^j) 1=n/2^j%2:=by
 have k0:0≤n/2^j:=Int.ediv_nonneg n0 (Int.pow_nonneg (by decide))
 have k1:n/2^j≤n:=Int.ediv_le_self _ n0
 generalize n/2^j=k at*
 obtain ⟨a,rfl⟩:=Int.eq_ofNat_of_zero_le k0
 have h1:(BitVec.ofInt 64 (a:Int)).toNat=a:=by
  rw[BitVec.ofInt_natCast,BitVec.toNat_ofNat];exact Nat.mod_eq_of_lt (by omega)
 have h2:(BitVec.ofInt 64 (1:Int)).toNat=1:=rfl
 show IntKind.i64.wrap ((BitVec.ofInt 64 (a:Int)&&&BitVec.ofInt 64 (1:Int)).toNat:Int)=_
 rw[BitVec.toNat_and,h1,h2,Nat.and_one_is_mod,IntWalk.i64_in _ (by omega)]
 omega
def keyAt (q:List Int) (i:Nat):Int:=q.getD i 0
def guessI (f l k n:Int):Int:=if n<2∨65536<n∨k<f∨l≤k then 0 else 1+shareI (gapI f k) (gapI f l) (n-1)
theorem guessI_none {f l k n:Int} (h:n<2∨65536<n∨k<f∨l≤k):guessI f l k n=0:=if_pos h
theorem guessI_in {f l k n:Int} (h:¬(n<2∨65536<n∨k<f∨l≤k)):guessI f l k n=1+shareI (gapI f k) (gapI f l) (n-1):=if_neg h
theorem share_lt {p x n:Int} (p0:0≤p) (px:p<x) (n0:1≤n) (n1:n≤65536):0≤shareI p x n∧shareI p x n<n:=by
 have e:lesI p x=p:=by unfold lesI;rw[if_neg (by omega)]
 unfold shareI
 rw[if_neg (by omega),e]
 have a0:0≤p*n:=Int.mul_nonneg p0 (by omega)
 have a1:p*n<x*n:=Int.mul_lt_mul_of_pos_right px (by omega)
 exact ⟨Int.ediv_nonneg a0 (by omega),Int.ediv_lt_of_lt_mul (by omega) (by rw[Int.mul_comm n x];exact a1)⟩
theorem guessI_bd {f l k n:Int} (h0:2≤n) (h1:n≤65536) (h2:f≤k) (h3:k<l):1≤guessI f l k n∧guessI f l k n≤n-1:=by
 rw[guessI_in (by omega)]
 have:=share_lt (p:=gapI f k) (x:=gapI f l) (n:=n-1) (by unfold gapI;split<;>omega) (by unfold gapI;rw[if_neg (by omega),if_neg (by omega)];omega) (by omega) (by omega)
 omega
theorem ret_int {k:IntKind} {a b:Int} (h:a=b):Ending.returned (.int k a)= .returned (.int k b):=by rw[h]
def Drawn (w w':World):Prop:=∃m,w'=w.drewN m
theorem Drawn.refl (w:World):Drawn w w:=⟨0,rfl⟩
theorem Drawn.of (w:World) (n:Nat):Drawn w (w.drewN n):=⟨n,rfl⟩
theorem Drawn.trans {w w1 w2:World} (h:Drawn w w1) (k:Drawn w1 w2):Drawn w w2:=by
 obtain ⟨m,rfl⟩:=h
 obtain ⟨n,rfl⟩:=k
 exact ⟨m+n,World.drewN_drewN _ _ _⟩
theorem pow_pos2 (j:Nat):(0:Int)<2^j:=Int.pow_pos (by decide)
theorem len8tab_size:(Lib.len8tab.size:Int)=256:=by
 have:Lib.len8tab.size=256:=by decide+kernel
 omega
theorem len8_close (x y:Int) (k:Nat) (hk:k≤56) (h:y.toNat<Lib.len8tab.size) (y0:0≤y) (y1:y≤255) (hs:Lib.bitLen x.toNat=k+Lib.bitLen y.toNat):
  wrap64 ((k:Int)+wrap64 ((Lib.len8tab[y.toNat]'h).toNat:Int))=(Lib.bitLen x.toNat:Int):=by
 have e:((Lib.len8tab[y.toNat]'h).toNat:Int)=Lib.len8 y:=by
  unfold Lib.len8
  rw[getElem?_pos Lib.len8tab y.toNat h]
  rfl
 have l:=Lib.bitLen_le8' y y0 y1
 rw[e,Lib.len8_of y y0 y1,hs]
 unfold wrap64
 omega
theorem len8_close0 (x:Int) (h:x.toNat<Lib.len8tab.size) (y0:0≤x) (y1:x≤255):
  wrap64 (wrap64 ((Lib.len8tab[x.toNat]'h).toNat:Int))=(Lib.bitLen x.toNat:Int):=by
 have e:((Lib.len8tab[x.toNat]'h).toNat:Int)=Lib.len8 x:=by
  unfold Lib.len8
  rw[getElem?_pos Lib.len8tab x.toNat h]
  rfl
 have l:=Lib.bitLen_le8' x y0 y1
 rw[e,Lib.len8_of x y0 y1]
 unfold wrap64
 omega
set_option maxHeartbeats 4000000 in
set_option maxRecDepth 100000 in
theorem len64_any (x:Int) (w:World) (h0:0≤x) (h1:x≤18446744073709551615):
  Calls Tryz.prog 274 #[.int .u64 x] w fun e w'=>e= .returned (.int .i64 (Lib.bitLen x.toNat))∧w=w':=by
 go_enter Tryz.func274,Tryz.ntmps274
 go_wp2
 all_goals first
  |(go_ret;refine ⟨congrArg Ending.returned (congrArg (Value.int IntKind.i64) ?_),rfl⟩;go_light)
  |(exfalso
    go_light
    have hs:=len8tab_size
    omega)
 all_goals first
  |(refine len8_close x (x/4294967296/65536/256) 56 (by decide) _ (by omega) (by omega) ?_
    have e:(x/4294967296/65536/256).toNat=x.toNat/72057594037927936:=by omega
    rw[e]
    exact Lib.bitLen_shift56 x.toNat (by omega) (by omega))
  |(refine len8_close x (x/4294967296/65536) 48 (by decide) _ (by omega) (by omega) ?_
    have e:(x/4294967296/65536).toNat=x.toNat/281474976710656:=by omega
    rw[e]
    exact Lib.bitLen_shift48 x.toNat (by omega) (by omega))
  |(refine len8_close x (x/4294967296/256) 40 (by decide) _ (by omega) (by omega) ?_
    have e:(x/4294967296/256).toNat=x.toNat/1099511627776:=by omega
    rw[e]
    exact Lib.bitLen_shift40 x.toNat (by omega) (by omega))
  |(refine len8_close x (x/4294967296) 32 (by decide) _ (by omega) (by omega) ?_
    have e:(x/4294967296).toNat=x.toNat/4294967296:=by omega
    rw[e]
    exact Lib.bitLen_shift32 x.toNat (by omega) (by omega))
  |(refine len8_close x (x/65536/256) 24 (by decide) _ (by omega) (by omega) ?_
    have e:(x/65536/256).toNat=x.toNat/16777216:=by omega
    rw[e]
    exact Lib.bitLen_shift24 x.toNat (by omega) (by omega))
  |(refine len8_close x (x/65536) 16 (by decide) _ (by omega) (by omega) ?_
    have e:(x/65536).toNat=x.toNat/65536:=by omega
    rw[e]
    exact Lib.bitLen_shift16 x.toNat (by omega) (by omega))
  |(refine len8_close x (x/256) 8 (by decide) _ (by omega) (by omega) ?_
    have e:(x/256).toNat=x.toNat/256:=by omega
    rw[e]
    exact Lib.bitLen_shift8 x.toNat (by omega) (by omega))
  |exact len8_close0 x _ (by omega) (by omega)
theorem block_of_add (a:Addr) (n:Nat):(a.add n).block=a.block:=by unfold Addr.add;split<;>rfl
theorem add_of_add (a:Addr) (i j:Nat):(a.add i).add j=a.add (i+j):=by
 unfold Addr.add
 by_cases hi:i=0<;>by_cases hj:j=0<;>simp[hi,hj,Nat.add_assoc]
def Reads (w:World) (B size:Nat) (A:Option Addr) (n:Nat) (xs:List Value):Prop:=
 xs.length=n*size∧(0<n→∃ad,A=some ad∧ad.block<B∧∀j u,xs[j]? =some u→w.cell? (ad.add j)=some u)
section
variable {w w':World} {B B' size n:Nat} {A:Option Addr} {xs:List Value}
theorem Reads.none_:Reads w B size A 0 []:=⟨by simp,fun h=>absurd h (by omega)⟩
theorem Reads.keep (h:Reads w B size A n xs) (hk:∀p:Addr,p.block<B→w'.cell? p=w.cell? p):Reads w' B size A n xs:=
 ⟨h.1,fun hn=>by
  obtain ⟨ad,e,hb,hc⟩:=h.2 hn
  exact ⟨ad,e,hb,fun j u hu=>(hk _ (by rw[block_of_add];exact hb)).trans (hc j u hu)⟩⟩
theorem Reads.more (h:Reads w B size A n xs) (hB:B≤B'):Reads w B' size A n xs:=
 ⟨h.1,fun hn=>by
  obtain ⟨ad,e,hb,hc⟩:=h.2 hn
  exact ⟨ad,e,by omega,hc⟩⟩
theorem Reads.below (h:Reads w B size A n xs) (hb:Below B w w'):Reads w' B size A n xs:=h.keep fun _ hp=>hb.cell hp
theorem Reads.drew (h:Reads w B size A n xs):Reads w.drew B size A n xs:=h
theorem Reads.alloc (h:Reads w B size A n xs) (hB:B≤w.heap.size) (o:Obj):Reads (w.alloc o) B size A n xs:=h.keep fun p hp=>World.cell?_alloc_lt w o p (by omega)
theorem Reads.cut (h:Reads w B size A n xs) {k cap:Nat} (hk:k≤n) (hc:n≤cap):
  Reads w B size (if cap=k then A else A.map (·.add (k*size))) (n-k) (xs.drop (k*size)):=by
 refine ⟨by rw[List.length_drop,h.1,Nat.sub_mul],fun hn=> ?_⟩
 obtain ⟨ad,rfl,hb,hcell⟩:=h.2 (by omega)
 rw[if_neg (by omega)]
 refine ⟨ad.add (k*size),rfl,by rw[block_of_add];exact hb,fun j u hu=> ?_⟩
 rw[add_of_add]
 exact hcell _ u (by rw[←hu,List.getElem?_drop])
theorem Reads.of_own {base:Nat} {e:TypeId} {c:Nat} (h:w.ownsRow base e size (.slice A n c) n xs):Reads w w.heap.size size A n xs:=by
 refine ⟨h.1,fun hn=> ?_⟩
 obtain ⟨g,cap,hv,_,hlt⟩:=h.form hn
 have hA:A=some ⟨g,0,none⟩:=by injection hv
 subst hA
 exact ⟨_,rfl,hlt,h.cells (g:=g) rfl⟩
end
def Blk (w:World) (g:Nat) (t:TypeId) (cs:Array Value):Prop:=w.heap[g]? =some (.cells cs t (0,0))
section
variable {w w':World} {g:Nat} {t:TypeId} {cs:Array Value}
theorem Blk.lt (h:Blk w g t cs):g<w.heap.size:=by
 rcases Nat.lt_or_ge g w.heap.size with hlt|hge
 ·exact hlt
 ·unfold Blk at h;rw[Array.getElem?_eq_none hge] at h;cases h
theorem Blk.cell (h:Blk w g t cs) (i:Nat):w.cell? ⟨g,i,none⟩=cs[i]? :=cell_of_row w g i cs t (0,0) h
theorem Blk.frozen (h:Blk w g t cs) (i:Nat):w.frozen? ⟨g,i,none⟩=false:=by
 unfold Blk at h
 simp[World.frozen?,h]
theorem Blk.new (w:World) (t:TypeId) (cs:Array Value):Blk (w.alloc (.cells cs t)) w.heap.size t cs:=heap_alloc_new w _
theorem Blk.drew (h:Blk w g t cs):Blk w.drew g t cs:=h
theorem Blk.drewN (h:Blk w g t cs) (n:Nat):Blk (w.drewN n) g t cs:=h
theorem Blk.alloc (h:Blk w g t cs) (o:Obj):Blk (w.alloc o) g t cs:=(Below.heap_alloc w o g h.lt).trans h
theorem Blk.set_ (h:Blk w g t cs) (i:Nat) (u:Value):Blk (w.setCell ⟨g,i,none⟩ u) g t (cs.setIfInBounds i u):=by
 unfold Blk at h⊢
 simp[World.setCell,Array.getElem?_modify,h]
theorem Blk.far (h:Blk w g t cs) {p:Addr} (hp:g≠p.block) (u:Value):Blk (w.setCell p u) g t cs:=(Below.heap_setCell w p u g hp).trans h
theorem Blk.below {B:Nat} (h:Blk w g t cs) (hb:Below B w w') (hg:g<B):Blk w' g t cs:=(hb.block g hg).trans h
theorem Blk.grown {row:Option Nat} (h:Blk w g t cs) (hb:w.grownBy w' row) (hg:some g≠row):Blk w' g t cs:=(hb.block g h.lt hg).trans h
theorem Blk.ne_ {g':Nat} {t':TypeId} {cs':Array Value} (h:Blk w g t cs) (h':Blk w g' t' cs') (hne:t≠t'):g≠g':=by
 rintro rfl
 unfold Blk at h h'
 rw[h] at h'
 injection h' with h'
 injection h' with _ ht
 exact hne ht
theorem own_blk_ne {base:Nat} {e:TypeId} {size n:Nat} {v:Value} {xs:List Value} (h:w.ownsRow base e size v n xs) (hg:Blk w g t cs) (hne:e≠t):v.ownBlock≠some g:=by
 rcases h.2 with ⟨rfl,_⟩|⟨g',cap,cur,rfl,_,hh,_⟩
 ·simp[Value.ownBlock]
 ·intro he
  have:g'=g:=by simpa[Value.ownBlock] using he
  subst this
  exact Blk.ne_ (t:=e) hh hg hne rfl
end
section
variable {P:Program} (w:World)
theorem run_append_of_nil (base:Nat) (t ty e:TypeId) (i:TypeInfo) (size:Nat) (ht:P.underlying t=some (.slice e)) (hi:P.info? e=some i)
  (v:Value) (n:Nat) (xs:List Value) (hown:w.ownsRow base e size v n xs) (c:Nat):(Builtin.append_ #[t,t] ty #[v, .slice none 0 c]).run P w= .ok v w:=by
 rcases hown.2 with ⟨rfl,rfl⟩|⟨g,cap,cur,rfl,_,_,hnc,_⟩
 ·simp[Builtin.append_,run_underlying ht,sizeOf,typeInfo,hi,Builtin.lenOf,Builtin.firstCells]
 ·simp[Builtin.append_,run_underlying ht,sizeOf,typeInfo,hi,Builtin.lenOf,Builtin.firstCells,hnc,storeCells]
theorem run_append_any (base:Nat) (t ty e:TypeId) (i:TypeInfo) (z:Value) (size bytes:Nat) (ht:P.underlying t=some (.slice e)) (hi:P.info? e=some i) (hz:i.zero=some z)
  (hsize:i.size=size) (hby:i.bytes=bytes) (hzs:z.cells.size=size) (hsz:0<size)
  (v:Value) (n:Nat) (xs:List Value) (hown:w.ownsRow base e size v n xs)
  (B:Nat) (A:Option Addr) (m c:Nat) (news:List Value) (hr:Reads w B size A m news) (h1:∀u∈news,u.oneCell'=true)
  (h63:n+m≤maxLen) (hbytes:(n+m)*bytes≤140737488355328) (hbase:base≤w.heap.size):
  ∃v' w',(Builtin.append_ #[t,t] ty #[v, .slice A m c]).run P w= .ok v' w'∧w'.ownsRow base e size v' (n+m) (xs++news)∧w.grownBy w' v.ownBlock∧
   (v'.ownBlock=v.ownBlock∨v'.ownBlock=some w.heap.size):=by
 rcases A with _|ad
 ·have hm:m=0:=by
   rcases Nat.eq_zero_or_pos m with h0|h0
   ·exact h0
   ·obtain ⟨ad,h,_⟩:=hr.2 h0
    cases h
  subst hm
  have hn:news=[]:=List.eq_nil_of_length_eq_zero (by simpa using hr.1)
  subst hn
  exact ⟨v,w,run_append_of_nil w base t ty e i size ht hi v n xs hown c,by simpa using hown,World.grownBy.refl w _, .inl rfl⟩
 ·have hcells:∀j u,news[j]? =some u→w.cell? (ad.add j)=some u:=by
   intro j u hu
   rcases Nat.eq_zero_or_pos m with h0|h0
   ·subst h0
    have hn:news=[]:=List.eq_nil_of_length_eq_zero (by simpa using hr.1)
    subst hn
    simp at hu
   ·obtain ⟨ad',h,_,hc⟩:=hr.2 h0
    injection h with h
    subst h
    exact hc j u hu
  obtain ⟨v',w',hrun,h2,h3,_,h5⟩:=run_append_own_at (P:=P) w base t ty e i z size bytes ht hi hz hsize hby hzs hsz v n xs hown ad m c news hr.1 hcells h1 h63 hbytes hbase
  exact ⟨v',w',hrun,h2,h3,h5⟩
theorem wp_append_any {o:Oper} {a:Act} {K:Act→World→Prop} {Q:Exit→Act→World→Prop} (s x:Operand) (t:TypeId)
  (ho:o.op= .call {callee:= .builtin .append,args:=#[s,x],argTypes:=#[t,t]})
  (base:Nat) (e:TypeId) (i:TypeInfo) (z:Value) (size bytes:Nat) (ht:P.underlying t=some (.slice e)) (hi:P.info? e=some i) (hz:i.zero=some z)
  (hsize:i.size=size) (hby:i.bytes=bytes) (hzs:z.cells.size=size) (hsz:0<size)
  (v:Value) (n:Nat) (xs:List Value) (hs:a.eval s=v) (hown:w.ownsRow base e size v n xs)
  (B:Nat) (A:Option Addr) (m c:Nat) (news:List Value) (hx:a.eval x= .slice A m c) (hr:Reads w B size A m news) (h1:∀u∈news,u.oneCell'=true)
  (h63:n+m≤maxLen) (hbytes:(n+m)*bytes≤140737488355328) (hbase:base≤w.heap.size)
  (h:∀v' w',w'.ownsRow base e size v' (n+m) (xs++news)→w.grownBy w' v.ownBlock→(v'.ownBlock=v.ownBlock∨v'.ownBlock=some w.heap.size)→K (a.put o.dst v') w'):o.wp P a w K Q:=by
 obtain ⟨v',w',hrun,h2,h3,h4⟩:=run_append_any (P:=P) w base t o.type e i z size bytes ht hi hz hsize hby hzs hsz v n xs hown B A m c news hr h1 h63 hbytes hbase
 unfold Oper.wp execOp
 simp only[ho,resolve,invoke,builtin,Sem.run_bind,Sem.run_pure,Result.andThen_ok,List.map_toArray,List.map_cons,List.map_nil,hs,hx,hrun]
 exact h v' w' h2 h3 h4
theorem wpList_append_any {ops:Array Oper} {rest:List Oper} {o:Oper} {a:Act} {Q:Exit→Act→World→Prop} (hgd:o.guard=none) (s x:Operand) (t:TypeId)
  (ho:o.op= .call {callee:= .builtin .append,args:=#[s,x],argTypes:=#[t,t]})
  (base:Nat) (e:TypeId) (i:TypeInfo) (z:Value) (size bytes:Nat) (ht:P.underlying t=some (.slice e)) (hi:P.info? e=some i) (hz:i.zero=some z)
  (hsize:i.size=size) (hby:i.bytes=bytes) (hzs:z.cells.size=size) (hsz:0<size)
  (v:Value) (n:Nat) (xs:List Value) (hs:a.eval s=v) (hown:w.ownsRow base e size v n xs)
  (B:Nat) (A:Option Addr) (m c:Nat) (news:List Value) (hx:a.eval x= .slice A m c) (hr:Reads w B size A m news) (h1:∀u∈news,u.oneCell'=true)
  (h63:n+m≤maxLen) (hbytes:(n+m)*bytes≤140737488355328) (hbase:base≤w.heap.size)
  (h:∀v' w',w'.ownsRow base e size v' (n+m) (xs++news)→w.grownBy w' v.ownBlock→(v'.ownBlock=v.ownBlock∨v'.ownBlock=some w.heap.size)→wpList P ops Q rest (a.put o.dst v') w'):wpList P ops Q (o::rest) a w:=
 wpList_plain hgd fun _ hK=>wp_append_any w s x t ho base e i z size bytes ht hi hz hsize hby hzs hsz v n xs hs hown B A m c news hx hr h1 h63 hbytes hbase fun v' w' h2 h3 h4=>hK _ _ (h v' w' h2 h3 h4)
end
def IntsAt (w:World) (B:Nat) (A:Option Addr) (q:List Int):Prop:=Reads w B 1 A q.length (q.map (Value.int .i64))
theorem IntsAt.cells {w:World} {B:Nat} {A:Option Addr} {q:List Int} (h:IntsAt w B A q) (hl:0<q.length):∃ad,A=some ad∧ad.block<B∧∀k,k<q.length→w.cell? (ad.add k)=some (.int .i64 (keyAt q k)):=by
 obtain ⟨ad,e,hb,hc⟩:=h.2 hl
 refine ⟨ad,e,hb,fun k hk=>hc k _ ?_⟩
 unfold keyAt
 rw[List.getElem?_map,List.getD_eq_getElem?_getD,List.getElem?_eq_getElem hk]
 rfl
theorem belowD {B:Nat} {a w:World} (h:Below B a w) (n:Nat):Below B a (w.drewN n):=h.trans ⟨rfl,rfl,rfl,Nat.le_refl _,fun _ _=>rfl⟩
theorem IntsAt.alloc {w:World} {B:Nat} {A:Option Addr} {q:List Int} (h:IntsAt w B A q) (hB:B≤w.heap.size) (o:Obj):IntsAt (w.alloc o) B A q:=Reads.alloc h hB o
theorem IntsAt.below {w w':World} {B:Nat} {A:Option Addr} {q:List Int} (h:IntsAt w B A q) (hb:Below B w w'):IntsAt w' B A q:=Reads.below h hb
theorem IntsAt.more {w:World} {B B':Nat} {A:Option Addr} {q:List Int} (h:IntsAt w B A q) (hb:B≤B'):IntsAt w B' A q:=Reads.more h hb
theorem quiet_left {P:Program} {f:FuncId} {args:Array Value} {w:World} {n:Nat} {v:Value}
  (h:Calls P f args (w.drewN n) fun e w'=>e= .returned v∧w.drewN n=w'):Calls P f args (w.drewN n) fun e w''=>e= .returned v∧∃m,w''=w.drewN m:=
 h.mono fun _ _ ⟨he,hm⟩=>⟨he,n,hm.symm⟩
theorem drawn_facts {w w0:World} (h:Drawn w w0):Below w.heap.size w w0∧w.heap.size≤w0.heap.size:=by
 obtain ⟨n,rfl⟩:=h
 exact ⟨belowD (Below.refl _ _) _,Nat.le_refl _⟩
theorem i64_and7 (n:Int):bits .and .i64 n 7=n%8:=by
 have h7:(BitVec.ofInt 64 7).toNat=2^3-1:=by decide
 have key:(BitVec.ofInt 64 n&&&BitVec.ofInt 64 7).toNat=(n%((2^64:Nat):Int)).toNat%2^3:=by
  rw[BitVec.toNat_and,BitVec.toNat_ofInt,h7,Nat.and_two_pow_sub_one_eq_mod]
 show IntKind.i64.wrap ((BitVec.ofInt 64 n&&&BitVec.ofInt 64 7).toNat:Nat)=n%8
 rw[key,IntKind.wrap_i64]
 omega
def mayB (k a:Int):Bool:=decide (1≤k∧k≤5∧1≤a∧a≤65536)
theorem mayB_yes {k a:Int} (h:mayB k a=true):1≤k∧k≤5∧1≤a∧a≤65536:=of_decide_eq_true h
theorem mayB_mk {k a:Int} (h1:1≤k) (h2:k≤5) (h3:1≤a) (h4:a≤65536):mayB k a=true:=decide_eq_true ⟨h1,h2,h3,h4⟩
theorem mayB_not {k a:Int} (h:¬(1≤k∧k≤5∧1≤a∧a≤65536)):mayB k a=false:=decide_eq_false h
def wB (x:Int):Bool:=decide (0≤x)&&mayB (x%8) (x/8)
def wKind (x:Int):Int:=if wB x=true then x%8 else 0
def wAt (x:Int):Int:=if wB x=true then x/8 else 0
def wOf (k a:Int):Int:=if mayB k a=true then a*8+k else 0
theorem wB_yes {x:Int} (h:wB x=true):9≤x∧x≤524293∧1≤x%8∧x%8≤5∧1≤x/8∧x/8≤65536:=by
 unfold wB at h
 rw[Bool.and_eq_true] at h
 have h1:=of_decide_eq_true h.1
 have h2:=mayB_yes h.2
 omega
theorem wAt_bd (x:Int):0≤wAt x∧wAt x≤65536:=by
 unfold wAt
 split
 ·rename_i h;have:=wB_yes h;omega
 ·omega
theorem wOf_bd (k a:Int):0≤wOf k a∧wOf k a≤524293:=by
 unfold wOf
 split
 ·rename_i h;have:=mayB_yes h;omega
 ·omega
set_option maxHeartbeats 400000 in
theorem may_any (k a:Int) (w:World):Calls Tryz.prog 144 #[.int .i64 k, .int .i64 a] w fun e w'=>e= .returned (.bool (mayB k a))∧w=w':=by
 by_cases h1:1≤k
 ·by_cases h2:k≤5
  ·by_cases h3:1≤a
   ·by_cases h4:a≤65536
    ·have HB:=LH (mayB_mk h1 h2 h3 h4)
     go_enter Tryz.func144,Tryz.ntmps144
     go_wp2_with (fail)
     go_ret
     rw[HB.out]
     exact ⟨rfl,rfl⟩
    ·have HB:=LH (mayB_not (k:=k) (a:=a) (by omega))
     have g:¬a≤65536:=h4
     go_enter Tryz.func144,Tryz.ntmps144
     go_wp2_with (fail)
     go_ret
     rw[HB.out]
     exact ⟨rfl,rfl⟩
   ·have HB:=LH (mayB_not (k:=k) (a:=a) (by omega))
    go_enter Tryz.func144,Tryz.ntmps144
    go_wp2_with (fail)
    go_ret
    rw[HB.out]
    exact ⟨rfl,rfl⟩
  ·have HB:=LH (mayB_not (k:=k) (a:=a) (by omega))
   go_enter Tryz.func144,Tryz.ntmps144
   go_wp2_with (fail)
   go_ret
   rw[HB.out]
   exact ⟨rfl,rfl⟩
 ·have HB:=LH (mayB_not (k:=k) (a:=a) (by omega))
  go_enter Tryz.func144,Tryz.ntmps144
  go_wp2_with (fail)
  go_ret
  rw[HB.out]
  exact ⟨rfl,rfl⟩
set_option maxHeartbeats 400000 in
theorem parts_any (x:Int) (w:World) (x0:-9223372036854775808≤x) (x1:x≤9223372036854775807):Calls Tryz.prog 178 #[.int .i64 x] w fun e w'=>e= .returned (.tuple #[.int .i64 (wKind x), .int .i64 (wAt x), .bool (wB x)])∧w=w':=by
 by_cases h1:0≤x
 ·by_cases h2:x≤524296
  ·have e7:=i64_and7 x
   have e1:0≤x%8∧x%8≤7:=by omega
   have e2:0≤x/8∧x/8≤65537:=by omega
   cases hb:mayB (x%8) (x/8) with
   |true=>
    have HW:=LH (show wB x=true by unfold wB;rw[hb,decide_eq_true h1];rfl)
    have HB:=LH hb
    clear hb
    go_enter Tryz.func178,Tryz.ntmps178
    go_wp2_with (fail)
    with_reducible refine (may_any _ _ _).mono ?_
    rintro e w1 ⟨rfl,rfl⟩
    rw[HB.out]
    go_wp2_with (fail)
    go_ret3
    have e:=HW.out
    unfold wKind wAt
    rw[e,if_pos rfl,if_pos rfl]
    exact ⟨rfl,rfl⟩
   |false=>
    have HW:=LH (show wB x=false by unfold wB;rw[hb,Bool.and_false])
    have HB:=LH hb
    clear hb
    go_enter Tryz.func178,Tryz.ntmps178
    go_wp2_with (fail)
    with_reducible refine (may_any _ _ _).mono ?_
    rintro e w1 ⟨rfl,rfl⟩
    rw[HB.out]
    go_wp2_with (fail)
    go_ret3
    have e:=HW.out
    unfold wKind wAt
    rw[e,if_neg Bool.false_ne_true,if_neg Bool.false_ne_true]
    exact ⟨rfl,rfl⟩
  ·have HW:=LH (show wB x=false by
    cases h:wB x with
    |false=>rfl
    |true=>have:=wB_yes h;omega)
   have h3:524296<x:=by omega
   clear h2
   go_enter Tryz.func178,Tryz.ntmps178
   go_wp2_with (fail)
   go_ret3
   have e:=HW.out
   unfold wKind wAt
   rw[e,if_neg Bool.false_ne_true,if_neg Bool.false_ne_true]
   exact ⟨rfl,rfl⟩
 ·have HW:=LH (show wB x=false by
   cases h:wB x with
   |false=>rfl
   |true=>have:=wB_yes h;omega)
  go_enter Tryz.func178,Tryz.ntmps178
  go_wp2_with (fail)
  go_ret3
  have e:=HW.out
  unfold wKind wAt
  rw[e,if_neg Bool.false_ne_true,if_neg Bool.false_ne_true]
  exact ⟨rfl,rfl⟩
set_option maxHeartbeats 400000 in
theorem kind_any (x:Int) (w:World) (x0:-9223372036854775808≤x) (x1:x≤9223372036854775807):Calls Tryz.prog 138 #[.int .i64 x] w fun e w'=>e= .returned (.int .i64 (wKind x))∧w=w':=by
 go_enter Tryz.func138,Tryz.ntmps138
 go_wp2_with (fail)
 with_reducible refine (parts_any _ _ x0 x1).mono ?_
 rintro e w1 ⟨rfl,rfl⟩
 go_wp2_with (fail)
 go_ret
 exact ⟨rfl,rfl⟩
set_option maxHeartbeats 400000 in
theorem refAt_any (x:Int) (w:World) (x0:-9223372036854775808≤x) (x1:x≤9223372036854775807):Calls Tryz.prog 121 #[.int .i64 x] w fun e w'=>e= .returned (.int .i64 (wAt x))∧w=w':=by
 go_enter Tryz.func121,Tryz.ntmps121
 go_wp2_with (fail)
 with_reducible refine (parts_any _ _ x0 x1).mono ?_
 rintro e w1 ⟨rfl,rfl⟩
 go_wp2_with (fail)
 go_ret
 exact ⟨rfl,rfl⟩
structure Mv (b:Nat) (r:Option Nat) (w w':World):Prop where
 os:w'.os=w.os
 tape:w'.tape=w.tape
 output:w'.output=w.output
 size:w.heap.size≤w'.heap.size
 block:∀k,k<w.heap.size→k≠b→some k≠r→w'.heap[k]? =w.heap[k]?
theorem Mv.of_grown {b:Nat} {r:Option Nat} {w w':World} (h:w.grownBy w' r) (u:Value):Mv b r w (w'.setCell ⟨b,0,none⟩ u):=
 ⟨h.os,h.tape,h.output,by simpa using h.size,fun k hk hb hr=>(Below.heap_setCell w' _ u k (by simpa using hb)).trans (h.block k hk hr)⟩
theorem Mv.blk {b:Nat} {r:Option Nat} {w w':World} (h:Mv b r w w') {g:Nat} {t:TypeId} {cs:Array Value} (hB:Blk w g t cs) (h1:g≠b) (h2:some g≠r):Blk w' g t cs:=(h.block g hB.lt h1 h2).trans hB
theorem Mv.own {b:Nat} {r:Option Nat} {w w':World} (h:Mv b r w w') {base:Nat} {e:TypeId} {size n:Nat} {v:Value} {xs:List Value} (hO:w.ownsRow base e size v n xs) (h1:v.ownBlock≠some b) (h2:v.ownBlock=none∨v.ownBlock≠r):w'.ownsRow base e size v n xs:=by
 refine ⟨hO.1, ?_⟩
 rcases hO.2 with hn|⟨g,cap,cur,rfl,hb,hgg,rest⟩
 ·exact .inl hn
 ·refine .inr ⟨g,cap,cur,rfl,hb, ?_,rest⟩
  rw[h.block g (Array.getElem?_eq_some_iff.1 hgg).1 (fun e=>h1 (by simp[Value.ownBlock,e])) (by simpa[Value.ownBlock] using h2)]
  exact hgg
theorem own_shape {w:World} {base n:Nat} {e:TypeId} {size:Nat} {v:Value} {xs:List Value} (hO:w.ownsRow base e size v n xs):∃A c,v= .slice A n c:=by
 rcases hO.2 with ⟨rfl,rfl⟩|⟨g,cap,cur,rfl,_⟩
 ·exact ⟨_,_,rfl⟩
 ·exact ⟨_,_,rfl⟩
theorem drawn_bl {w w':World} (h:Drawn w w') (B:Nat):Below B w w':=by
 obtain ⟨n,rfl⟩:=h
 exact ⟨rfl,rfl,rfl,Nat.le_refl _,fun _ _=>rfl⟩
theorem Mv.after {b:Nat} {r:Option Nat} {w V w':World} (h:Below w.heap.size w V) (k:Mv b r V w'):Mv b r w w':=
 ⟨k.os.trans h.os,k.tape.trans h.tape,k.output.trans h.output,Nat.le_trans h.size k.size,fun i hi h1 h2=>(k.block i (Nat.lt_of_lt_of_le hi h.size) h1 h2).trans (h.block i hi)⟩
theorem own_below {base n:Nat} {e:TypeId} {size:Nat} {v:Value} {xs:List Value} {w w':World} (hO:w.ownsRow base e size v n xs) (hb:Below w.heap.size w w'):w'.ownsRow base e size v n xs:=
 hO.kept ⟨hb.os,hb.tape,hb.output,hb.size,fun k hk _=>hb.block k hk⟩ (row:=none) (by cases v.ownBlock<;>simp)
def bump (c:Int):Int:=wrap64 (c+1)
def rdC (C:List Int) (a:Int):Int:=if 1≤a∧a≤C.length then keyAt C (a.toNat-1) else 0
theorem rdC_in {C:List Int} {a:Nat} (h1:1≤a) (h2:a≤C.length):rdC C a=keyAt C (a-1):=by
 unfold rdC;rw[if_pos (by omega),Int.toNat_natCast]
theorem rdC_out {C:List Int} {a:Int} (h:a<1∨C.length<a):rdC C a=0:=if_neg (by omega)
structure MemP (B b:Nat) (v:Value) (C:List Int) (size count odd ref:Int) (w:World):Prop where
 blk:Blk w b 134 #[v, .int .i64 size, .int .i64 count, .int .i64 odd, .int .i64 ref]
 own:w.ownsRow B 2 1 v C.length (C.map (Value.int .i64))
 base:B≤b
theorem info_int64m:(Tryz.prog.info? 2).map (fun i=>(i.zero,i.size,i.bytes))=some (some (.int .i64 0),1,8):=by kernel_rfl
section
variable {B b:Nat} {v:Value} {C:List Int} {size count odd ref:Int} {w w':World}
theorem MemP.below (h:MemP B b v C size count odd ref w) (hb:Below w.heap.size w w'):MemP B b v C size count odd ref w':=
 ⟨h.blk.below hb h.blk.lt,own_below h.own hb,h.base⟩
theorem MemP.mv {b2:Nat} {r:Option Nat} (h:MemP B b v C size count odd ref w) (m:Mv b2 r w w') (h1:b≠b2) (h2:some b≠r) (h3:v.ownBlock≠some b2) (h4:v.ownBlock=none∨v.ownBlock≠r):MemP B b v C size count odd ref w':=
 ⟨m.blk h.blk h1 h2,m.own h.own h3 h4,h.base⟩
theorem MemP.apart (h:MemP B b v C size count odd ref w):v.ownBlock≠some b:=own_blk_ne h.own h.blk (by decide)
theorem Mv.set1 (w:World) (b k:Nat) (u:Value):Mv b none w (w.setCell ⟨b,k,none⟩ u):=
 ⟨rfl,rfl,rfl,by simp,fun i _ h _=>Below.heap_setCell w _ _ i (by simpa using h)⟩
theorem Mv.trans_ {r:Option Nat} {w1:World} (h:Mv b r w w1) (k:Mv b r w1 w'):Mv b r w w':=
 ⟨k.os.trans h.os,k.tape.trans h.tape,k.output.trans h.output,Nat.le_trans h.size k.size,fun i hi h1 h2=>(k.block i (Nat.lt_of_lt_of_le hi h.size) h1 h2).trans (h.block i hi h1 h2)⟩
theorem MemP.set (h:MemP B b v C size count odd ref w) (k:Nat) (hk:k≠0) (u:Value) {size' count' odd' ref':Int} (he:(#[v, .int .i64 size, .int .i64 count, .int .i64 odd, .int .i64 ref]:Array Value).setIfInBounds k u=#[v, .int .i64 size', .int .i64 count', .int .i64 odd', .int .i64 ref']):MemP B b v C size' count' odd' ref' (w.setCell ⟨b,k,none⟩ u):=
 ⟨by have:=h.blk.set_ k u;rw[he] at this;exact this,ownsRow_setCell_other h.own (fun e=>h.apart (by simpa using e)) u,h.base⟩
end
set_option maxHeartbeats 1000000 in
theorem cell_out (B b:Nat) (v:Value) (C:List Int) (size count odd ref a:Int) (w:World) (h:MemP B b v C size count odd ref w) (hC:C.length≤1000000) (a0:-9223372036854775808≤a) (a1:a≤9223372036854775807) (ha:a<1∨(C.length:Int)<a):
  Calls Tryz.prog 102 #[.pointer (some ⟨b,0,none⟩), .int .i64 a] w fun e w'=>e= .returned (.pointer none)∧MemP B b v C size (bump count) (bump odd) ref w'∧Mv b none w w':=by
 obtain ⟨A,c,rfl⟩:=own_shape h.own
 have H:=LH ((h.set 2 (by decide) (.int .i64 (bump count)) rfl).set 3 (by decide) (.int .i64 (bump odd)) rfl)
 have c0:w.cell? ⟨b,2,none⟩=some (.int .i64 count):=h.blk.cell 2
 have f0:=h.blk.frozen 2
 have h1:=(h.set 2 (by decide) (.int .i64 (bump count)) rfl)
 have c1:(w.setCell ⟨b,2,none⟩ (.int .i64 (wrap64 (count+1)))).cell? ⟨b,0,none⟩=some (.slice A C.length c):=h1.blk.cell 0
 have c2:(w.setCell ⟨b,2,none⟩ (.int .i64 (wrap64 (count+1)))).cell? ⟨b,3,none⟩=some (.int .i64 odd):=h1.blk.cell 3
 have f2:(w.setCell ⟨b,2,none⟩ (.int .i64 (wrap64 (count+1)))).frozen? ⟨b,3,none⟩=false:=h1.blk.frozen 3
 clear h h1
 by_cases h0:a<1
 ·clear ha
  go_enter Tryz.func102,Tryz.ntmps102
  go_wp2_with (fail)
  go_ret
  exact ⟨rfl,H.out,(Mv.set1 _ _ _ _).trans_ (Mv.set1 _ _ _ _)⟩
 ·have h2:(C.length:Int)<a:=by omega
  clear ha
  go_enter Tryz.func102,Tryz.ntmps102
  go_wp2_with (fail)
  go_ret
  exact ⟨rfl,H.out,(Mv.set1 _ _ _ _).trans_ (Mv.set1 _ _ _ _)⟩
set_option maxHeartbeats 1000000 in
theorem cell_in (B b:Nat) (v:Value) (C:List Int) (size count odd ref:Int) (a:Nat) (w:World) (h:MemP B b v C size count odd ref w) (hC:C.length≤1000000) (a0:1≤a) (a1:a≤C.length):
  Calls Tryz.prog 102 #[.pointer (some ⟨b,0,none⟩), .int .i64 a] w fun e w'=>∃g,e= .returned (.pointer (some ⟨g,a-1,none⟩))∧v.ownBlock=some g∧MemP B b v C size (bump count) odd ref w'∧Mv b none w w':=by
 obtain ⟨g,c,rfl,_,_⟩:=h.own.form (by omega)
 obtain ⟨k,rfl⟩:∃k,a=k+1:=⟨a-1,by omega⟩
 have H:=LH (h.set 2 (by decide) (.int .i64 (bump count)) rfl)
 have c0:w.cell? ⟨b,2,none⟩=some (.int .i64 count):=h.blk.cell 2
 have f0:=h.blk.frozen 2
 have h1:=(h.set 2 (by decide) (.int .i64 (bump count)) rfl)
 have c1:(w.setCell ⟨b,2,none⟩ (.int .i64 (wrap64 (count+1)))).cell? ⟨b,0,none⟩=some (.slice (some ⟨g,0,none⟩) C.length c):=h1.blk.cell 0
 have e1:(k:Int)+1-1=k:=by omega
 clear h h1
 go_enter Tryz.func102,Tryz.ntmps102
 go_wp2_with (fail)
 go_ret
 exact ⟨g,rfl,rfl,H.out,Mv.set1 _ _ _ _⟩
set_option maxHeartbeats 1000000 in
theorem read_any (B b:Nat) (v:Value) (C:List Int) (size count odd ref a:Int) (w:World) (h:MemP B b v C size count odd ref w) (hC:C.length≤1000000) (a0:-9223372036854775808≤a) (a1:a≤9223372036854775807):
  Calls Tryz.prog 91 #[.pointer (some ⟨b,0,none⟩), .int .i64 a] w fun e w'=>e= .returned (.int .i64 (rdC C a))∧MemP B b v C size (bump count) (if 1≤a∧a≤C.length then odd else bump odd) ref w'∧Mv b none w w':=by
 by_cases ha:1≤a∧a≤C.length
 ·obtain ⟨k,rfl⟩:∃k:Nat,a=k:=⟨a.toNat,by omega⟩
  have HR:=LH (rdC_in (C:=C) (a:=k) (by omega) (by omega))
  rw[if_pos ha]
  have HH:=LH h
  obtain ⟨k1,k2⟩:=ha
  clear h
  go_enter Tryz.func91,Tryz.ntmps91
  go_wp2_with (fail)
  with_reducible refine (cell_in B b v C size count odd ref k w HH.out hC (by omega) (by omega)).mono ?_
  rintro e w1 ⟨g,rfl,hv,h1,m1⟩
  have hx:w1.cell? ⟨g,k-1,none⟩=some (.int .i64 (keyAt C (k-1))):=by
   obtain ⟨g',c,rfl,_,_⟩:=h1.own.form (by omega)
   have:g'=g:=by simpa[Value.ownBlock] using hv
   subst this
   rw[h1.own.cellAt (k-1) (by simp;omega)]
   rw[List.getElem?_map,List.getElem?_eq_getElem (by omega)]
   simp[keyAt,List.getD_eq_getElem?_getD,List.getElem?_eq_getElem (show k-1<C.length by omega)]
  have H1:=LH h1
  have M1:=LH m1
  clear h1 m1 hv
  go_wp2_with (fail)
  go_ret
  rw[HR.out]
  exact ⟨rfl,H1.out,M1.out⟩
 ·have HR:=LH (rdC_out (C:=C) (a:=a) (by omega))
  rw[if_neg ha]
  have HH:=LH h
  clear h
  go_enter Tryz.func91,Tryz.ntmps91
  go_wp2_with (fail)
  with_reducible refine (cell_out B b v C size count odd ref a w HH.out hC a0 a1 (by omega)).mono ?_
  rintro e w1 ⟨rfl,h1,m1⟩
  have H1:=LH h1
  have M1:=LH m1
  clear h1 m1 ha
  go_wp2_with (fail)
  go_ret
  rw[HR.out]
  exact ⟨rfl,H1.out,M1.out⟩
structure Only (S:List Nat) (w w':World):Prop where
 os:w'.os=w.os
 tape:w'.tape=w.tape
 output:w'.output=w.output
 size:w.heap.size≤w'.heap.size
 block:∀k,k<w.heap.size→k∉S→w'.heap[k]? =w.heap[k]?
section
variable {S T:List Nat} {w w1 w':World}
theorem Only.refl (S:List Nat) (w:World):Only S w w:=⟨rfl,rfl,rfl,Nat.le_refl _,fun _ _ _=>rfl⟩
theorem Only.trans (h:Only S w w1) (k:Only S w1 w'):Only S w w':=
 ⟨k.os.trans h.os,k.tape.trans h.tape,k.output.trans h.output,Nat.le_trans h.size k.size,fun i hi h1=>(k.block i (Nat.lt_of_lt_of_le hi h.size) h1).trans (h.block i hi h1)⟩
theorem Only.of_below (h:Below w.heap.size w w'):Only S w w':=⟨h.os,h.tape,h.output,h.size,fun k hk _=>h.block k hk⟩
theorem Only.of_mv {b:Nat} (h:Mv b none w w') (hb:b∈S):Only S w w':=⟨h.os,h.tape,h.output,h.size,fun k hk hn=>h.block k hk (fun e=>hn (e▸hb)) (by simp)⟩
theorem Only.of_mvr {b:Nat} {r:Option Nat} (h:Mv b r w w') (hb:b∈S) (hr:∀g,r=some g→g∈S):Only S w w':=⟨h.os,h.tape,h.output,h.size,fun k hk hn=>h.block k hk (fun e=>hn (e▸hb)) (fun e=>hn (hr k e.symm))⟩
theorem Only.below {B:Nat} (h:Only S w w') (hS:∀x∈S,B≤x) (hB:B≤w.heap.size):Below B w w':=⟨h.os,h.tape,h.output,h.size,fun k hk=>h.block k (by omega) (fun hm=>by have:=hS k hm;omega)⟩
end
structure RS where
 next:Int
 n:Int
 k:Int
 degree:Int
 i:Int
 first:Int
 child:Int
def nearB (x:Int):Bool:=decide (0≤x)&&decide (x≤1099511627776)
def keyAtI (n i:Int):Int:=if nearB n=true∧nearB i=true then n+4+i else 0
def childAtI (n d i:Int):Int:=if nearB n=true∧nearB d=true∧nearB i=true then n+4+d+i else 0
def RS.init (n k:Int):RS:=⟨0,n,k,0,0,0,0⟩
def RS.ende (s:RS) (c:Int):RS:={s with child:=c,next:=6}
def RS.up (s:RS) (i:Int):RS:=if s.degree-1≤i then {s with i:=i,next:=6,child:=s.degree-1-1} else {s with i:=i,next:=4}
def RS.down (s:RS) (i:Int):RS:=if i≤1 then {s with i:=i,next:=6,child:=1} else {s with i:=i,next:=5}
def RS.guess (s:RS) (last:Int):RS:=
 if 1<guessI s.first last s.k (s.degree-1) then {s with next:=3,i:=guessI s.first last s.k (s.degree-1)} else s.up 2
def RS.key (s:RS) (q:Int):RS:=
 if s.next=1 then (if s.k<q then {s with first:=q,i:=s.degree-1,next:=6,child:=0} else if s.degree-1=1 then {s with first:=q,i:=s.degree-1,next:=6,child:=1} else {s with first:=q,i:=s.degree-1,next:=2})
 else if s.next=2 then (if s.k<q then s.guess q else s.ende (s.degree-1))
 else if s.next=3 then (if s.k<q then s.down (s.i-1) else s.up (s.i+1))
 else if s.next=4 then (if s.k<q then s.ende (s.i-1) else s.up (s.i+1))
 else if s.next=5 then (if s.k<q then s.down (s.i-1) else s.ende s.i)
 else s
def RS.step (R:Int→Int) (s:RS):RS:=
 if s.next=0 then (if R s.n<2 then {s with degree:=R s.n,i:=1,next:=6,child:=0} else {s with degree:=R s.n,i:=1,next:=1})
 else if s.next=6 then s
 else s.key (R (keyAtI s.n s.i))
theorem RS.key1 {s:RS} (h:s.next=1) (q:Int):s.key q=if s.k<q then {s with first:=q,i:=s.degree-1,next:=6,child:=0} else if s.degree-1=1 then {s with first:=q,i:=s.degree-1,next:=6,child:=1} else {s with first:=q,i:=s.degree-1,next:=2}:=by
 unfold RS.key;rw[if_pos h]
theorem RS.key2 {s:RS} (h:s.next=2) (q:Int):s.key q=if s.k<q then s.guess q else s.ende (s.degree-1):=by
 unfold RS.key;rw[if_neg (by omega),if_pos h]
theorem RS.key3 {s:RS} (h:s.next=3) (q:Int):s.key q=if s.k<q then s.down (s.i-1) else s.up (s.i+1):=by
 unfold RS.key;rw[if_neg (by omega),if_neg (by omega),if_pos h]
theorem RS.key4 {s:RS} (h:s.next=4) (q:Int):s.key q=if s.k<q then s.ende (s.i-1) else s.up (s.i+1):=by
 unfold RS.key;rw[if_neg (by omega),if_neg (by omega),if_neg (by omega),if_pos h]
theorem RS.key5 {s:RS} (h:s.next=5) (q:Int):s.key q=if s.k<q then s.down (s.i-1) else s.ende s.i:=by
 unfold RS.key;rw[if_neg (by omega),if_neg (by omega),if_neg (by omega),if_neg (by omega),if_pos h]
theorem RS.step0 {R:Int→Int} {s:RS} (h:s.next=0):s.step R=if R s.n<2 then {s with degree:=R s.n,i:=1,next:=6,child:=0} else {s with degree:=R s.n,i:=1,next:=1}:=by
 unfold RS.step;rw[if_pos h]
theorem RS.stepK {R:Int→Int} {s:RS} (h:s.next≠0) (h':s.next≠6):s.step R=s.key (R (keyAtI s.n s.i)):=by
 unfold RS.step;rw[if_neg h,if_neg h']
def RS.addr (s:RS):Int:=if s.next=0 then s.n else keyAtI s.n s.i
structure RS.Inv (s:RS):Prop where
 n0:-9223372036854775808≤s.n
 n1:s.n≤9223372036854775807
 k0:-9223372036854775808≤s.k
 k1:s.k≤9223372036854775807
 g0:-9223372036854775808≤s.first
 g1:s.first≤9223372036854775807
 st:s.next=0∨s.next=6∨(1≤s.next∧s.next≤5∧2≤s.degree∧s.degree≤9223372036854775807∧1≤s.i∧s.i≤s.degree-1)
theorem guessI_le (f l k n:Int) (h:1≤n):0≤guessI f l k n∧(1<guessI f l k n→guessI f l k n≤n-1):=by
 by_cases c:n<2∨65536<n∨k<f∨l≤k
 ·rw[guessI_none c];omega
 ·have:=guessI_bd (f:=f) (l:=l) (k:=k) (n:=n) (by omega) (by omega) (by omega) (by omega);omega
theorem RS.Inv.init {n k:Int} (n0:-9223372036854775808≤n) (n1:n≤9223372036854775807) (k0:-9223372036854775808≤k) (k1:k≤9223372036854775807):(RS.init n k).Inv:=
 ⟨n0,n1,k0,k1,by simp[RS.init],by simp[RS.init], .inl rfl⟩
theorem RS.Inv.up {s:RS} (h:s.Inv) (d0:2≤s.degree) (d1:s.degree≤9223372036854775807) {i:Int} (hi:1≤i):(s.up i).Inv:=by
 unfold RS.up
 split
 ·exact ⟨h.n0,h.n1,h.k0,h.k1,h.g0,h.g1, .inr (.inl rfl)⟩
 ·exact ⟨h.n0,h.n1,h.k0,h.k1,h.g0,h.g1, .inr (.inr ⟨by simp,by simp,d0,d1,hi,by simp;omega⟩)⟩
theorem RS.Inv.down {s:RS} (h:s.Inv) (d0:2≤s.degree) (d1:s.degree≤9223372036854775807) {i:Int} (hi:i≤s.degree-1):(s.down i).Inv:=by
 unfold RS.down
 split
 ·exact ⟨h.n0,h.n1,h.k0,h.k1,h.g0,h.g1, .inr (.inl rfl)⟩
 ·exact ⟨h.n0,h.n1,h.k0,h.k1,h.g0,h.g1, .inr (.inr ⟨by simp,by simp,d0,d1,by simp;omega,hi⟩)⟩
theorem RS.Inv.ende {s:RS} (h:s.Inv) (c:Int):(s.ende c).Inv:=⟨h.n0,h.n1,h.k0,h.k1,h.g0,h.g1, .inr (.inl rfl)⟩
theorem RS.Inv.key {s:RS} (h:s.Inv) (h0:s.next≠0) (h6:s.next≠6) {q:Int} (q0:-9223372036854775808≤q) (q1:q≤9223372036854775807):(s.key q).Inv:=by
 have st:1≤s.next∧s.next≤5∧2≤s.degree∧s.degree≤9223372036854775807∧1≤s.i∧s.i≤s.degree-1:=by rcases h.st with h|h|h<;>first|exact absurd h h0|exact absurd h h6|exact h
 obtain ⟨a1,a2,d0,d1,i0,i1⟩:=st
 unfold RS.key
 split
 ·split
  ·exact ⟨h.n0,h.n1,h.k0,h.k1,q0,q1, .inr (.inl rfl)⟩
  ·split
   ·exact ⟨h.n0,h.n1,h.k0,h.k1,q0,q1, .inr (.inl rfl)⟩
   ·exact ⟨h.n0,h.n1,h.k0,h.k1,q0,q1, .inr (.inr ⟨by simp,by simp,d0,d1,by simp;omega,by simp⟩)⟩
 ·split
  ·split
   ·unfold RS.guess
    split
    ·rename_i hg
     have:=guessI_le s.first q s.k (s.degree-1) (by omega)
     exact ⟨h.n0,h.n1,h.k0,h.k1,h.g0,h.g1, .inr (.inr ⟨by simp,by simp,d0,d1,by simp;omega,by simp;omega⟩)⟩
    ·exact h.up d0 d1 (by omega)
   ·exact h.ende _
  ·split
   ·split
    ·exact h.down d0 d1 (by omega)
    ·exact h.up d0 d1 (by omega)
   ·split
    ·split
     ·exact h.ende _
     ·exact h.up d0 d1 (by omega)
    ·split
     ·split
      ·exact h.down d0 d1 (by omega)
      ·exact h.ende _
     ·exact h
theorem RS.Inv.step {s:RS} (h:s.Inv) {R:Int→Int} (hR:∀a,-9223372036854775808≤R a∧R a≤9223372036854775807):(s.step R).Inv:=by
 by_cases h0:s.next=0
 ·rw[RS.step0 h0]
  have:=hR s.n
  split
  ·exact ⟨h.n0,h.n1,h.k0,h.k1,h.g0,h.g1, .inr (.inl rfl)⟩
  ·exact ⟨h.n0,h.n1,h.k0,h.k1,h.g0,h.g1, .inr (.inr ⟨by simp,by simp,by simp;omega,by simp;omega,by simp,by simp;omega⟩)⟩
 ·by_cases h6:s.next=6
  ·unfold RS.step;rw[if_neg h0,if_pos h6];exact h
  ·rw[RS.stepK h0 h6];exact h.key h0 h6 (hR _).1 (hR _).2
theorem RS.step_done {R:Int→Int} {s:RS} (h:s.next=6):s.step R=s:=by
 unfold RS.step;rw[if_neg (by omega),if_pos h]
theorem nearB_yes {x:Int} (h:nearB x=true):0≤x∧x≤1099511627776:=by
 unfold nearB at h;simpa using h
theorem nearB_no {x:Int} (h:nearB x=false):x<0∨1099511627776<x:=by
 unfold nearB at h;simp at h;omega
set_option maxHeartbeats 400000 in
theorem near1_any (x:Int) (w:World):Calls Tryz.prog 193 #[.int .i64 x] w fun e w'=>e= .returned (.bool (!nearB x))∧w=w':=by
 cases h:nearB x with
 |true=>
  obtain ⟨h1,h2⟩:=nearB_yes h
  have b1:decide (x<0)=false:=by simp;omega
  have b2:decide (1099511627776<x)=false:=by simp;omega
  clear h
  go_enter Tryz.func193,Tryz.ntmps193
  go_wp2
  go_ret
  exact ⟨rfl,rfl⟩
 |false=>
  by_cases h1:x<0
  ·clear h
   go_enter Tryz.func193,Tryz.ntmps193
   go_wp2
   go_ret
   exact ⟨rfl,rfl⟩
  ·have h2:1099511627776<x:=by have:=nearB_no h;omega
   clear h
   go_enter Tryz.func193,Tryz.ntmps193
   go_wp2
   go_ret
   exact ⟨rfl,rfl⟩
def IdxPost (L:List Int) (w:World) (e:Ending) (w':World):Prop:=∃j:Int,e= .returned (.int .i64 j)∧w=w'∧-1≤j∧j≤100∧(L.all nearB=true→j=-1)∧(L.all nearB=false→0≤j)
theorem all_take_succ {L:List Int} {k:Nat} (h:k<L.length) (ha:(L.take k).all nearB=true) (hk:nearB (keyAt L k)=true):(L.take (k+1)).all nearB=true:=by
 rw[List.take_add_one,List.getElem?_eq_getElem h,List.all_append,ha]
 simpa[keyAt,List.getD_eq_getElem?_getD,h] using hk
theorem all_not {L:List Int} {k:Nat} (h:k<L.length) (hk:nearB (keyAt L k)=false):L.all nearB=false:=by
 rw[List.all_eq_false]
 exact ⟨L[k],List.getElem_mem _,by simpa[keyAt,List.getD_eq_getElem?_getD,h] using hk⟩
set_option maxHeartbeats 1000000 in
theorem indexf_any (A:Option Addr) (c B:Nat) (L:List Int) (w:World) (hq:IntsAt w B A L) (hl:L.length≤50):
  Calls Tryz.prog 225 #[.slice A L.length c, .func (.func 193) #[] #[]] w (IdxPost L w):=by
 have HQ:=LH hq
 clear hq
 go_enter Tryz.func225,Tryz.ntmps225
 go_wp2
 go_loop [8] (fun i=>∃k:Nat,k≤L.length∧i= .int .i64 k∧Hid ((L.take k).all nearB=true)) (fun i=>L.length-(intOf i).toNat)
 case atStart=>exact ⟨0,by omega,rfl,LH rfl⟩
 case round=>
  obtain ⟨k,k1,rfl,ha⟩:=hrel
  by_cases hlt:k<L.length
  ·obtain ⟨ad,rfl,hbl,hc⟩:=HQ.out.cells (by omega)
   have hx:=hc k hlt
   have hS:=LH (fun h=>all_take_succ hlt ha.out h)
   have hN:=LH (fun h=>all_not hlt h)
   obtain ⟨x,hxe⟩:∃x,keyAt L k=x:=⟨_,rfl⟩
   rw[hxe] at hx hS hN
   clear hc hxe
   cases hb:nearB x with
   |true=>
    have hs:=LH (hS.out hb)
    clear hS hN ha
    have HB:=LH hb
    clear hb
    go_wp2_with (fail)
    with_reducible refine (near1_any x _).mono ?_
    rintro e w1 ⟨rfl,rfl⟩
    have hb:=HB.out
    go_wp2_with (fail)
    go_round
    case rel=>exact ⟨k+1,by omega,by go_num,hs⟩
    case measure=>simp[intOf];omega
   |false=>
    have hs:=LH (hN.out hb)
    clear hS hN ha
    have HB:=LH hb
    clear hb
    go_wp2_with (fail)
    with_reducible refine (near1_any x _).mono ?_
    rintro e w1 ⟨rfl,rfl⟩
    have hb:=HB.out
    go_wp2_with (fail)
    go_ret
    exact ⟨k,rfl,rfl,by omega,by omega,fun h=>(by rw[hs.out] at h;cases h),fun _=>by omega⟩
  ·have hk:k=L.length:=by omega
   have hs:=LH (show L.all nearB=true by have:=ha.out;rw[hk,List.take_of_length_le (Nat.le_refl _)] at this;exact this)
   clear ha
   go_wp2_with (fail)
   go_ret
   exact ⟨-1,rfl,rfl,by omega,by omega,fun _=>rfl,fun h=>(by rw[hs.out] at h;cases h)⟩
set_option maxHeartbeats 400000 in
theorem contains_any (A:Option Addr) (c B:Nat) (L:List Int) (w:World) (hq:IntsAt w B A L) (hl:L.length≤50):
  Calls Tryz.prog 192 #[.slice A L.length c, .func (.func 193) #[] #[]] w fun e w'=>e= .returned (.bool (!L.all nearB))∧w=w':=by
 have HQ:=LH hq
 clear hq
 go_enter Tryz.func192,Tryz.ntmps192
 go_wp2_with (fail)
 with_reducible refine (indexf_any A c B L w HQ.out hl).mono ?_
 rintro e w1 ⟨j,rfl,rfl,j0,j1,ht,hf⟩
 cases hb:L.all nearB with
 |true=>
  have e1:=ht hb
  have HB:=LH hb
  clear ht hf hb
  subst e1
  go_wp2_with (fail)
  go_ret
  rw[HB.out]
  exact ⟨rfl,rfl⟩
 |false=>
  have e1:=hf hb
  have HB:=LH hb
  clear ht hf hb
  go_wp2_with (fail)
  go_ret
  rw[HB.out]
  exact ⟨rfl,rfl⟩
set_option maxHeartbeats 400000 in
theorem near_any (A:Option Addr) (c B N:Nat) (L:List Int) (w:World) (hN:N=L.length) (hq:IntsAt w B A L) (hl:L.length≤50):
  Calls Tryz.prog 152 #[.slice A N c] w fun e w'=>e= .returned (.bool (L.all nearB))∧w=w':=by
 subst hN
 have HQ:=LH hq
 clear hq
 go_enter Tryz.func152,Tryz.ntmps152
 go_wp2_with (fail)
 with_reducible refine (contains_any A c B L w HQ.out hl).mono ?_
 rintro e w1 ⟨rfl,rfl⟩
 cases hb:L.all nearB with
 |true=>
  have HB:=LH hb
  clear hb
  go_wp2_with (fail)
  go_ret
  rw[HB.out]
  exact ⟨rfl,rfl⟩
 |false=>
  have HB:=LH hb
  clear hb
  go_wp2_with (fail)
  go_ret
  rw[HB.out]
  exact ⟨rfl,rfl⟩
theorem ints_row (w:World) (t:TypeId) (L:List Int):IntsAt (w.alloc (.cells (L.map (Value.int .i64)).toArray t)) (w.heap.size+1) (some ⟨w.heap.size,0,none⟩) L:=by
 refine ⟨by simp,fun _=>⟨_,rfl,Nat.lt_succ_self _,fun j u hu=> ?_⟩⟩
 have e:(⟨w.heap.size,0,none⟩:Addr).add j=⟨w.heap.size,j,none⟩:=by unfold Addr.add;split<;>simp_all
 rw[e]
 have:=(Blk.new w t (L.map (Value.int .i64)).toArray).cell j
 rw[this]
 simpa using hu
set_option maxHeartbeats 400000 in
theorem keyat_any (n i:Int) (w:World):
  Calls Tryz.prog 94 #[.int .i64 n, .int .i64 i] w fun e w'=>e= .returned (.int .i64 (keyAtI n i))∧Below w.heap.size w w':=by
 have hB:=(Below.refl w.heap.size w).alloc (Nat.le_refl _) (.cells #[.int .i64 n, .int .i64 i] 3)
 have hq0:IntsAt (w.alloc (.cells #[.int .i64 n, .int .i64 i] 3)) (w.heap.size+1) (some ⟨w.heap.size,0,none⟩) [n,i]:=ints_row w 3 [n,i]
 have HQ:=LH hq0
 clear hq0
 cases hb:[n,i].all nearB with
 |true=>
  have h2:nearB n=true∧nearB i=true:=by simpa using hb
  obtain ⟨a1,a2⟩:=nearB_yes h2.1
  obtain ⟨a3,a4⟩:=nearB_yes h2.2
  have HK:=LH (show keyAtI n i=n+4+i from if_pos h2)
  have HB:=LH hb
  clear hb h2
  go_enter Tryz.func94,Tryz.ntmps94
  go_wp2_with (fail)
  with_reducible refine (near_any _ _ _ 2 [n,i] _ (by kernel_rfl) HQ.out (by simp)).mono ?_
  rintro e w1 ⟨rfl,rfl⟩
  rw[HB.out]
  go_wp2_with (fail)
  go_ret
  rw[HK.out]
  exact ⟨rfl,hB⟩
 |false=>
  have HK:=LH (show keyAtI n i=0 from if_neg (fun h=>by simp[h.1,h.2] at hb))
  have HB:=LH hb
  clear hb
  go_enter Tryz.func94,Tryz.ntmps94
  go_wp2_with (fail)
  with_reducible refine (near_any _ _ _ 2 [n,i] _ (by kernel_rfl) HQ.out (by simp)).mono ?_
  rintro e w1 ⟨rfl,rfl⟩
  rw[HB.out]
  go_wp2_with (fail)
  go_ret
  rw[HK.out]
  exact ⟨rfl,hB⟩
set_option maxHeartbeats 400000 in
theorem childat_any (n d i:Int) (w:World):
  Calls Tryz.prog 117 #[.int .i64 n, .int .i64 d, .int .i64 i] w fun e w'=>e= .returned (.int .i64 (childAtI n d i))∧Below w.heap.size w w':=by
 have hB:=(Below.refl w.heap.size w).alloc (Nat.le_refl _) (.cells #[.int .i64 n, .int .i64 d, .int .i64 i] 3)
 have hq0:IntsAt (w.alloc (.cells #[.int .i64 n, .int .i64 d, .int .i64 i] 3)) (w.heap.size+1) (some ⟨w.heap.size,0,none⟩) [n,d,i]:=ints_row w 3 [n,d,i]
 have HQ:=LH hq0
 clear hq0
 cases hb:[n,d,i].all nearB with
 |true=>
  have h2:nearB n=true∧nearB d=true∧nearB i=true:=by simpa using hb
  obtain ⟨a1,a2⟩:=nearB_yes h2.1
  obtain ⟨a3,a4⟩:=nearB_yes h2.2.1
  obtain ⟨a5,a6⟩:=nearB_yes h2.2.2
  have HK:=LH (show childAtI n d i=n+4+d+i from if_pos h2)
  have HB:=LH hb
  clear hb h2
  go_enter Tryz.func117,Tryz.ntmps117
  go_wp2_with (fail)
  with_reducible refine (near_any _ _ _ 3 [n,d,i] _ (by kernel_rfl) HQ.out (by simp)).mono ?_
  rintro e w1 ⟨rfl,rfl⟩
  rw[HB.out]
  go_wp2_with (fail)
  go_ret
  rw[HK.out]
  exact ⟨rfl,hB⟩
 |false=>
  have HK:=LH (show childAtI n d i=0 from if_neg (fun h=>by simp[h.1,h.2.1,h.2.2] at hb))
  have HB:=LH hb
  clear hb
  go_enter Tryz.func117,Tryz.ntmps117
  go_wp2_with (fail)
  with_reducible refine (near_any _ _ _ 3 [n,d,i] _ (by kernel_rfl) HQ.out (by simp)).mono ?_
  rintro e w1 ⟨rfl,rfl⟩
  rw[HB.out]
  go_wp2_with (fail)
  go_ret
  rw[HK.out]
  exact ⟨rfl,hB⟩
namespace Mul64
theorem maskN (a:Nat) (ha:a<18446744073709551616):bits .and .u64 (a:Int) 4294967295=((a%4294967296:Nat):Int):=by
 have h:=bits_and_u64_nat a 4294967295 ha (by omega)
 have e:a&&&4294967295=a%4294967296:=Nat.and_two_pow_sub_one_eq_mod a 32
 rw[e] at h
 exact h
theorem divN (a:Nat):(a:Int)/4294967296=((a/4294967296:Nat):Int):=by omega
theorem mulN (a b:Nat):(a:Int)*(b:Int)=((a*b:Nat):Int):=(Int.natCast_mul a b).symm
theorem addN (a b:Nat):(a:Int)+(b:Int)=((a+b:Nat):Int):=(Int.natCast_add a b).symm
theorem wrapN (a:Nat) (ha:a<18446744073709551616):IntKind.u64.wrap (a:Int)=(a:Int):=by rw[IntKind.wrap_u64];omega
theorem wrapM (a:Nat):IntKind.u64.wrap (a:Int)=((a%18446744073709551616:Nat):Int):=by rw[IntKind.wrap_u64];omega
end Mul64
set_option maxHeartbeats 1000000 in
theorem mul64_nat (x y:Nat) (hx:x<18446744073709551616) (hy:y<18446744073709551616) (w:World):
  Calls Tryz.prog 257 #[.int .u64 x, .int .u64 y] w fun e w'=>e= .returned (.tuple #[.int .u64 ((x*y/18446744073709551616:Nat):Int), .int .u64 ((x*y%18446744073709551616:Nat):Int)])∧w=w':=by
 obtain ⟨bd,bt,bw,hhi⟩:=Lib.mul64_hi x y hx hy
 have ba:=Lib.half_mul_le (a:=x/4294967296) (b:=y/4294967296) (by omega) (by omega)
 have bb:=Lib.half_mul_le (a:=x/4294967296) (b:=y%4294967296) (by omega) (by omega)
 have bc:=Lib.half_mul_le (a:=x%4294967296) (b:=y/4294967296) (by omega) (by omega)
 have ba':x/4294967296*(y/4294967296)<18446744073709551616:=by omega
 have bb':x/4294967296*(y%4294967296)<18446744073709551616:=by omega
 have bc':x%4294967296*(y/4294967296)<18446744073709551616:=by omega
 have bh1:x/4294967296*(y/4294967296)+(x/4294967296*(y%4294967296)+x%4294967296*(y%4294967296)/4294967296)/4294967296<18446744073709551616:=by omega
 have bh:x/4294967296*(y/4294967296)+(x/4294967296*(y%4294967296)+x%4294967296*(y%4294967296)/4294967296)/4294967296+((x/4294967296*(y%4294967296)+x%4294967296*(y%4294967296)/4294967296)%4294967296+x%4294967296*(y/4294967296))/4294967296<18446744073709551616:=by omega
 go_enter Tryz.func257,Tryz.ntmps257
 go_wp2
 simp only[Mul64.maskN x hx,Mul64.maskN y hy,Mul64.divN,Mul64.mulN,Mul64.addN,Mul64.wrapN _ bd,Mul64.wrapN _ bb',Mul64.wrapN _ bt,Mul64.maskN _ bt,Mul64.wrapN _ bc',Mul64.wrapN _ bw,Mul64.wrapN _ ba',Mul64.wrapN _ bh1,Mul64.wrapN _ bh,Mul64.wrapM (x*y)]
 rw[hhi]
 go_ret2
 exact ⟨rfl,rfl⟩
theorem mul64_any (x y:Int) (x0:0≤x) (x1:x≤18446744073709551615) (y0:0≤y) (y1:y≤18446744073709551615) (w:World):
  Calls Tryz.prog 257 #[.int .u64 x, .int .u64 y] w fun e w'=>e= .returned (.tuple #[.int .u64 (x*y/18446744073709551616), .int .u64 (x*y%18446744073709551616)])∧w=w':=by
 obtain ⟨m,rfl⟩:=Int.eq_ofNat_of_zero_le x0
 obtain ⟨n,rfl⟩:=Int.eq_ofNat_of_zero_le y0
 have h:=mul64_nat m n (by omega) (by omega) w
 have e1:((m*n/18446744073709551616:Nat):Int)=(m:Int)*n/18446744073709551616:=by rw[Int.natCast_ediv,Int.natCast_mul];rfl
 have e2:((m*n%18446744073709551616:Nat):Int)=(m:Int)*n%18446744073709551616:=by rw[Int.natCast_emod,Int.natCast_mul];rfl
 rw[e1,e2] at h
 exact h
theorem lz64_any (y:Int) (s:Nat) (w:World) (h0:0≤y) (h1:y≤18446744073709551615) (hs:Hid (Lib.bitLen y.toNat+s=64)):
  Calls Tryz.prog 271 #[.int .u64 y] w fun e w'=>e= .returned (.int .i64 s)∧w=w':=by
 have hs2:=hs.out
 have b:(Lib.bitLen y.toNat:Int)≤64:=by omega
 have b0:0≤(Lib.bitLen y.toNat:Int):=by omega
 have H:=LH (show 64-(Lib.bitLen y.toNat:Int)=s by omega)
 clear hs2
 go_enter Tryz.func271,Tryz.ntmps271
 go_wp2_with (go_at_call 274;refine (len64_any _ _ h0 h1).mono ?_;rintro e w' ⟨rfl,rfl⟩)
 go_ret
 exact ⟨ret_int H.out,rfl⟩
theorem powI (s:Nat):(2:Int)^s=((2^s:Nat):Int):=by rw[Int.natCast_pow];rfl
theorem or_low (h l s:Nat) (hl:l<2^s) (hh:h*2^s<18446744073709551616) (h2:l<18446744073709551616) (h3:h*2^s+l<18446744073709551616):bits .or .u64 ((h*2^s:Nat):Int) (l:Int)=((h*2^s+l:Nat):Int):=by
 rw[bits_or_u64_nat _ _ hh h2,Nat.mul_comm h,Nat.two_pow_add_eq_or_of_lt hl]
theorem and_mask (a:Int) (h0:0≤a) (h1:a<18446744073709551616):bits .and .u64 a 4294967295=a%4294967296:=by
 obtain ⟨n,rfl⟩:=Int.eq_ofNat_of_zero_le h0
 rw[Mul64.maskN n (by omega)]
 omega
structure DivSet (hi lo y:Int) (s:Nat) (yn yn1 yn0 a b un32 un10 un1 un0:Int):Prop where
 e1:y*2^s=yn
 e2:yn/4294967296=yn1
 e3:bits .and .u64 yn 4294967295=yn0
 e4:hi*2^s=a
 e5:lo/2^(64-s)=b
 e6:bits .or .u64 a b=un32
 e7:IntKind.u64.wrap (lo*2^s)=un10
 e8:un10/4294967296=un1
 e9:bits .and .u64 un10 4294967295=un0
 y0:0≤yn
 y1:yn<18446744073709551616
 y2:yn=yn1*4294967296+yn0
 y3:2147483648≤yn1
 y4:yn1<4294967296
 y5:0≤yn0
 y6:yn0<4294967296
 a0:0≤a
 a1:a<18446744073709551616
 b0:0≤b
 b1:b<18446744073709551616
 u0:0≤un32
 u1:0≤un1
 u2:un1<4294967296
 u3:0≤un0
 u4:un0<4294967296
 u5:un32*4294967296+un1<yn
 u6:0≤un10
 u7:un10<18446744073709551616
 same:(hi*18446744073709551616+lo)/y=((un32*4294967296+un1)*4294967296+un0)/yn
theorem div_set (hi lo y:Int) (s:Nat) (hs:Lib.bitLen y.toNat+s=64) (h0:0<hi) (h1:hi<y) (hy:y<18446744073709551616) (l0:0≤lo) (l1:lo<18446744073709551616)
  (hq:hi*18446744073709551616+lo<y*4294967296):∃yn yn1 yn0 a b un32 un10 un1 un0:Int,DivSet hi lo y s yn yn1 yn0 a b un32 un10 un1 un0:=by
 obtain ⟨b1,b2⟩:=bitLen_lt (x:=y.toNat) (by omega) (by omega)
 have bp:=bitLen_pos (x:=y.toNat) (by omega) (by omega)
 have hs1:s≤63:=by omega
 have P0:(0:Int)<2^s:=pow_pos2 s
 have R0:(0:Int)<2^(64-s):=pow_pos2 _
 have PR:(2:Int)^s*2^(64-s)=18446744073709551616:=by
  rw[←Int.pow_add,show s+(64-s)=64 by omega];decide
 have yl:9223372036854775808≤y*2^s:=by
  have:2^(Lib.bitLen y.toNat-1)*2^s≤y.toNat*2^s:=Nat.mul_le_mul_right _ b1
  rw[←Nat.pow_add,show Lib.bitLen y.toNat-1+s=63 by omega] at this
  have t:((2^63:Nat):Int)≤((y.toNat*2^s:Nat):Int):=by exact_mod_cast this
  rw[Int.natCast_mul,←powI,show ((y.toNat:Nat):Int)=y by omega] at t
  exact t
 have yu:y*2^s<18446744073709551616:=by
  have:y.toNat*2^s<2^Lib.bitLen y.toNat*2^s:=Nat.mul_lt_mul_of_pos_right b2 (Nat.two_pow_pos s)
  rw[←Nat.pow_add,hs] at this
  have t:((y.toNat*2^s:Nat):Int)<((2^64:Nat):Int):=by exact_mod_cast this
  rw[Int.natCast_mul,←powI,show ((y.toNat:Nat):Int)=y by omega] at t
  exact t
 have hl:hi*2^s<y*2^s:=Int.mul_lt_mul_of_pos_right h1 P0
 have h00:0≤hi*2^s:=Int.mul_nonneg (by omega) (by omega)
 have lb0:0≤lo/2^(64-s):=Int.ediv_nonneg l0 (by omega)
 have lb1:lo/2^(64-s)<2^s:=Int.ediv_lt_of_lt_mul R0 (by rw[PR];exact l1)
 have Pb:(2:Int)^s≤9223372036854775808:=by
  have:(2:Nat)^s≤9223372036854775808:=Nat.pow_le_pow_right (n:=2) (by decide) hs1
  rw[powI];omega
 have lm0:=Int.emod_nonneg lo (show (2:Int)^(64-s)≠0 by omega)
 have lm1:=Int.emod_lt_of_pos lo R0
 have le:=Int.mul_ediv_add_emod lo (2^(64-s))
 have lP:lo*2^s=18446744073709551616*(lo/2^(64-s))+(lo%2^(64-s))*2^s:=by
  have:lo*2^s=(2^(64-s)*(lo/2^(64-s))+lo%2^(64-s))*2^s:=by rw[le]
  rw[this,Int.add_mul,←PR,Int.mul_comm (2^(64-s)) (lo/2^(64-s)),Int.mul_assoc,Int.mul_comm (2^(64-s)) (2^s),Int.mul_comm (lo/2^(64-s))]
 have m0:0≤(lo%2^(64-s))*2^s:=Int.mul_nonneg lm0 (by omega)
 have m1:(lo%2^(64-s))*2^s<18446744073709551616:=by
  have:=Int.mul_lt_mul_of_pos_right lm1 P0
  rw[Int.mul_comm (2^(64-s)),PR] at this
  exact this
 have w10:IntKind.u64.wrap (lo*2^s)=(lo%2^(64-s))*2^s:=by
  rw[IntKind.wrap_u64,lP,Int.mul_add_emod_self_left]
  exact Int.emod_eq_of_lt m0 m1
 have ho:hi*2^s+lo/2^(64-s)<18446744073709551616:=by
  have:hi*2^s+2^s≤y*2^s:=by
   have:=Int.mul_le_mul_of_nonneg_right (show hi+1≤y by omega) (show (0:Int)≤2^s by omega)
   rw[Int.add_mul,Int.one_mul] at this;exact this
  omega
 have or1:bits .or .u64 (hi*2^s) (lo/2^(64-s))=hi*2^s+lo/2^(64-s):=by
  obtain ⟨h,rfl⟩:=Int.eq_ofNat_of_zero_le (show 0≤hi by omega)
  obtain ⟨l,el⟩:=Int.eq_ofNat_of_zero_le lb0
  rw[el] at lb1 ho⊢
  rw[powI] at lb1 ho h00 hl⊢
  rw[←Int.natCast_mul] at ho⊢
  have q1:l<2^s:=by exact_mod_cast lb1
  rw[or_low h l s q1 (by omega) (by omega) (by omega),Int.natCast_add]
 refine ⟨_,_,_,_,_,_,_,_,_,⟨rfl,rfl,rfl,rfl,rfl,rfl,rfl,rfl,rfl,by omega,yu, ?_,by omega,by omega, ?_, ?_,h00,by omega,lb0,by omega, ?_, ?_, ?_, ?_, ?_, ?_, ?_, ?_, ?_⟩⟩
 ·rw[and_mask _ (by omega) yu];omega
 ·rw[and_mask _ (by omega) yu];omega
 ·rw[and_mask _ (by omega) yu];omega
 ·rw[or1];omega
 ·rw[w10];omega
 ·rw[w10];omega
 ·rw[w10,and_mask _ m0 m1];omega
 ·rw[w10,and_mask _ m0 m1];omega
 ·rw[or1,w10]
  have t:(hi*18446744073709551616+lo)*2^s<y*4294967296*2^s:=Int.mul_lt_mul_of_pos_right hq P0
  rw[Int.add_mul,lP,Int.mul_right_comm hi,Int.mul_right_comm y] at t
  generalize lo/2^(64-s)=b at*
  generalize lo%2^(64-s)*2^s=c at*
  generalize hi*2^s=h at*
  generalize y*2^s=yy at*
  omega
 ·rw[w10];exact m0
 ·rw[w10];exact m1
 ·rw[or1,w10,and_mask _ m0 m1]
  have e:((hi*2^s+lo/2^(64-s))*4294967296+lo%2^(64-s)*2^s/4294967296)*4294967296+lo%2^(64-s)*2^s%4294967296=(hi*18446744073709551616+lo)*2^s:=by
   rw[Int.add_mul (hi*18446744073709551616),lP,Int.mul_right_comm hi]
   generalize lo/2^(64-s)=b at*
   generalize lo%2^(64-s)*2^s=c at*
   generalize hi*2^s=h at*
   omega
  rw[e]
  exact (Int.mul_ediv_mul_of_pos_left _ _ P0).symm
theorem digit_low {n un0 yn yn1 yn0 q r:Int} (hy:yn=yn1*4294967296+yn0) (y3:2147483648≤yn1) (y5:0≤yn0) (hr:q*yn1+r=n) (hq:0≤q) (h:q*yn0≤4294967296*r+un0):q≤(n*4294967296+un0)/yn:=by
 refine (Int.le_ediv_iff_mul_le (by omega)).2 ?_
 have e:q*yn=q*yn1*4294967296+q*yn0:=by rw[hy,Int.mul_add,←Int.mul_assoc]
 rw[e]
 omega
theorem digit_high {n un0 yn yn1 yn0 q r:Int} (hy:yn=yn1*4294967296+yn0) (y3:2147483648≤yn1) (y5:0≤yn0) (hr:q*yn1+r=n) (h:4294967296*r+un0<q*yn0):(n*4294967296+un0)/yn<q:=by
 refine (Int.ediv_lt_iff_lt_mul (by omega)).2 ?_
 have e:q*yn=q*yn1*4294967296+q*yn0:=by rw[hy,Int.mul_add,←Int.mul_assoc]
 rw[e]
 omega
theorem first_digit {un32 un1 yn yn1 yn0:Int} (u0:0≤un32) (u1:0≤un1) (y3:2147483648≤yn1) (y6:yn0<4294967296) (y2:yn=yn1*4294967296+yn0) (u5:un32*4294967296+un1<yn):
  (un32/yn1=1∧un32=yn1∧un1<yn0)∨un32/yn1=0:=by
 by_cases c:un32<yn1
 ·exact .inr (Int.ediv_eq_zero_of_lt u0 c)
 ·have e:un32=yn1:=by omega
  subst e
  exact .inl ⟨Int.ediv_self (by omega),rfl,by omega⟩
theorem second_digit {n un0 yn yn1 yn0:Int} (n0:0≤n) (u5:n<yn) (y2:yn=yn1*4294967296+yn0) (y3:2147483648≤yn1) (y4:yn1<4294967296) (y5:0≤yn0) (y6:yn0<4294967296) (u3:0≤un0) (u4:un0<4294967296):
  0≤n/yn1∧n/yn1≤4294967297∧0≤n-n/yn1*yn1∧n-n/yn1*yn1<4294967296∧0≤n/yn1*yn1∧(n*4294967296+un0)/yn≤n/yn1:=by
 have e:=Int.mul_ediv_add_emod n yn1
 have m0:=Int.emod_nonneg n (show yn1≠0 by omega)
 have m1:=Int.emod_lt_of_pos n (show 0<yn1 by omega)
 have q0:0≤n/yn1:=Int.ediv_nonneg n0 (by omega)
 have q1:n/yn1<4294967298:=Int.ediv_lt_of_lt_mul (by omega) (by omega)
 have e':n/yn1*yn1=yn1*(n/yn1):=Int.mul_comm _ _
 have m2:0≤n/yn1*yn1:=Int.mul_nonneg q0 (by omega)
 refine ⟨q0,by omega,by omega,by omega,m2, ?_⟩
 have:(n*4294967296+un0)/yn<n/yn1+1:=by
  refine (Int.ediv_lt_iff_lt_mul (by omega)).2 ?_
  have a:n+1≤(n/yn1+1)*yn1:=by rw[Int.add_mul];omega
  have b:(n/yn1+1)*yn=(n/yn1+1)*yn1*4294967296+(n/yn1+1)*yn0:=by
   rw[y2,Int.mul_add,←Int.mul_assoc]
  have c:0≤(n/yn1+1)*yn0:=Int.mul_nonneg (by omega) y5
  rw[b];omega
 omega
theorem digit_next {q r yn1 n:Int} (h:q*yn1+r=n):(q-1)*yn1+(r+yn1)=n:=by
 rw[Int.sub_mul,Int.one_mul];omega
theorem digit_large {n un0 yn yn1 yn0 Q q:Int} (hQ:(n*4294967296+un0)/yn=Q) (hy:yn=yn1*4294967296+yn0) (y3:2147483648≤yn1) (y4:yn1<4294967296) (y5:0≤yn0) (y6:yn0<4294967296) (u4:un0<4294967296) (u5:n<yn) (n0:0≤n) (c:4294967296≤q):Q<q:=by
 have:Q<4294967296:=by
  rw[←hQ]
  exact Int.ediv_lt_of_lt_mul (by omega) (by omega)
 omega
theorem digit_done {n un0 yn yn1 yn0 Q q r:Int} (hQ:(n*4294967296+un0)/yn=Q) (hy:yn=yn1*4294967296+yn0) (y3:2147483648≤yn1) (y5:0≤yn0) (y6:yn0<4294967296) (u3:0≤un0) (q0:0≤q) (q1:q≤4294967296) (hq:Q≤q) (h:q*yn1+r=n) (c:4294967296≤r):Q=q:=by
 have m:q*yn0≤4294967296*4294967295:=Int.mul_le_mul q1 (by omega) y5 (by omega)
 have:=digit_low (un0:=un0) hy y3 y5 h q0 (by omega)
 omega
def SomeRem (q:Int) (w:World) (e:Ending) (w':World):Prop:=(∃r:Int,e= .returned (.tuple #[.int .u64 q, .int .u64 r]))∧Drawn w w'
theorem div64_low (lo y:Int) (w:World) (y0:0<y) (y1:y≤18446744073709551615) (l0:0≤lo) (l1:lo≤18446744073709551615):
  Calls Tryz.prog 258 #[.int .u64 0, .int .u64 lo, .int .u64 y] w (SomeRem (lo/y) w):=by
 have yz:(y==0)=false:=by simpa using (show y≠0 by omega)
 go_enter Tryz.func258,Tryz.ntmps258
 go_wp2
 go_quiet (fail)
 go_wp2
 go_ret2
 exact ⟨⟨_,rfl⟩,Drawn.of _ _⟩
set_option maxHeartbeats 2000000 in
set_option maxRecDepth 100000 in
theorem div64_high (hi lo y:Int) (w:World) (h0:0<hi) (h1:hi<y) (y1:y≤18446744073709551615) (l0:0≤lo) (l1:lo≤18446744073709551615) (hq:hi*18446744073709551616+lo<y*4294967296):
  Calls Tryz.prog 258 #[.int .u64 hi, .int .u64 lo, .int .u64 y] w (SomeRem ((hi*18446744073709551616+lo)/y) w):=by
 obtain ⟨s,hs⟩:∃s:Nat,Lib.bitLen y.toNat+s=64:=⟨64-Lib.bitLen y.toNat,by have:=Lib.bitLen_le y.toNat 64 (by decide) (by omega);omega⟩
 obtain ⟨yn,yn1,yn0,a,b,un32,un10,un1,un0,D⟩:=div_set hi lo y s hs h0 h1 (by omega) l0 (by omega) hq
 have bp:=bitLen_pos (x:=y.toNat) (by omega) (by omega)
 have s1:s≤63:=by omega
 have HS:=LH hs
 clear hs hq bp
 obtain ⟨e1,e2,e3,e4,e5,e6,e7,e8,e9,y0,y1',y2,y3,y4,y5,y6,a0,a1,b0,b1,u0,u1,u2,u3,u4,u5,u6,u7,same⟩:=D
 obtain ⟨n,hn⟩:∃n,un32*4294967296+un1=n:=⟨_,rfl⟩
 rw[hn] at same u5
 have n0:0≤n:=by omega
 have u32:un32<4294967296:=by omega
 have HQ:=LH same
 have HY:=LH y2
 have A:=first_digit u0 u1 y3 y6 y2 (by rw[hn];exact u5)
 obtain ⟨g0,g1,g2,g3,g4,g5⟩:=second_digit (un0:=un0) n0 u5 y2 y3 y4 y5 y6 u3 u4
 obtain ⟨q0,hq0⟩:∃q,n/yn1=q:=⟨_,rfl⟩
 rw[hq0] at g0 g1 g2 g3 g4 g5
 obtain ⟨r0,hr0⟩:∃r,n-q0*yn1=r:=⟨_,rfl⟩
 rw[hr0] at g2 g3
 have hqr:q0*yn1+r0=n:=by omega
 have HQR:=LH hqr
 obtain ⟨Q,hQ⟩:∃Q,(n*4294967296+un0)/yn=Q:=⟨_,rfl⟩
 have HQ2:=LH hQ
 rw[hQ] at g5
 clear same y2 hqr hQ
 have AH:=LH A
 clear A
 have yz:(y==0)=false:=by simpa using (show y≠0 by omega)
 have hz:(hi==0)=false:=by simpa using (show hi≠0 by omega)
 go_enter Tryz.func258,Tryz.ntmps258
 go_wp2_with (go_at_call 271;refine (lz64_any _ s _ (by omega) (by omega) HS).mono ?_;rintro e w' ⟨rfl,rfl⟩)
 go_loop [15,16] (fun u v=>∃q r:Int,u= .int .u64 q∧v= .int .u64 r∧((q=1∧r=0∧un1<yn0)∨(q=0∧0≤r∧r<4294967296))) (fun u _=>(intOf u).toNat)
 case atStart=>
  rcases AH.out with ⟨c,c1,c2⟩|c
  ·refine ⟨1,0,by rw[c], ?_, .inl ⟨rfl,rfl,c2⟩⟩
   rw[c,c1,Int.one_mul,IntWalk.u64_in yn1 (by omega),Int.sub_self]
   rfl
  ·refine ⟨0,un32,by rw[c], ?_, .inr ⟨rfl,u0,by omega⟩⟩
   rw[c,Int.zero_mul,IntWalk.u64_in 0 (by omega),Int.sub_zero,IntWalk.u64_in un32 (by omega)]
 case round=>
  obtain ⟨q,r,rfl,rfl,⟨rfl,rfl,c⟩|⟨rfl,r1,r2⟩⟩:=hrel
  ·go_wp2
   go_round
   case rel=>exact ⟨0,yn1,rfl,rfl, .inr ⟨rfl,by omega,y4⟩⟩
   case measure=>simp[intOf]
  ·go_wp2
   go_loop [18,16] (fun u v=>∃q r:Int,u= .int .u64 q∧v= .int .u64 r∧q*yn1+r=n∧0≤q∧q≤4294967297∧0≤r∧r<4294967296∧Q≤q) (fun u _=>(intOf u).toNat)
   case atStart=>exact ⟨q0,r0,rfl,rfl,HQR.out,g0,g1,g2,g3,g5⟩
   case round=>
    obtain ⟨q,r,rfl,rfl,k1,k2,k3,k4,k5,k6⟩:=hrel
    have K1:=LH k1
    clear k1
    by_cases c:4294967296≤q
    ·have hlt:=digit_large HQ2.out HY.out y3 y4 y5 y6 u4 u5 n0 c
     have K2:=digit_next K1.out
     by_cases c3:4294967296≤r+yn1
     ·have F:=LH (digit_done HQ2.out HY.out y3 y5 y6 u3 (by omega) (by omega) (by omega) K2 c3)
      clear K2
      go_wp2
      go_ret2
      rw[HQ.out,HQ2.out,F.out];exact ⟨⟨_,rfl⟩,Drawn.refl _⟩
     ·have K3:=LH K2
      clear K2
      go_wp2
      go_round
      case rel=>exact ⟨q-1,r+yn1,rfl,rfl,K3.out,by omega,by omega,by omega,by omega,by omega⟩
      case measure=>simp[intOf];omega
    ·have m0:0≤q*yn0:=Int.mul_nonneg k2 y5
     have m1:q*yn0≤4294967295*4294967295:=Int.mul_le_mul (by omega) (by omega) y5 (by omega)
     by_cases c2:4294967296*r+un0<q*yn0
     ·have hlt:=digit_high HY.out y3 y5 K1.out c2
      rw[HQ2.out] at hlt
      have K2:=digit_next K1.out
      have q1:1≤q:=by
       rcases Int.lt_or_le q 1 with g|g
       ·have:q=0:=by omega
        subst this;omega
       ·exact g
      by_cases c3:4294967296≤r+yn1
      ·have F:=LH (digit_done HQ2.out HY.out y3 y5 y6 u3 (by omega) (by omega) (by omega) K2 c3)
       clear K2
       go_wp2
       go_ret2
       rw[HQ.out,HQ2.out,F.out];exact ⟨⟨_,rfl⟩,Drawn.refl _⟩
      ·have K3:=LH K2
       clear K2
       go_wp2
       go_round
       case rel=>exact ⟨q-1,r+yn1,rfl,rfl,K3.out,by omega,by omega,by omega,by omega,by omega⟩
       case measure=>simp[intOf];omega
     ·have F0:=digit_low (un0:=un0) HY.out y3 y5 K1.out k2 (by omega)
      rw[HQ2.out] at F0
      have F:=LH (show Q=q by omega)
      go_wp2
      go_ret2
      rw[HQ.out,HQ2.out,F.out];exact ⟨⟨_,rfl⟩,Drawn.refl _⟩
theorem max2_int (k k':IntKind) (x y:Int):Builtin.max2 (.int k x) (.int k' y)=pure (.int k (if x<y then y else x)):=by simp only[Builtin.max2,gt_iff_lt]
theorem min2_int (k k':IntKind) (x y:Int):Builtin.min2 (.int k x) (.int k' y)=pure (.int k (if y<x then y else x)):=by simp only[Builtin.min2]
theorem min_two (ats:Array TypeId) (ty:TypeId) (a b:Value):Builtin.min_ ats ty #[a,b]=(Builtin.min2 a b>>=fun s=>pure s):=by simp only[Builtin.min_,List.foldlM_cons,List.foldlM_nil]
theorem max_two (ats:Array TypeId) (ty:TypeId) (a b:Value):Builtin.max_ ats ty #[a,b]=(Builtin.max2 a b>>=fun s=>pure s):=by simp only[Builtin.max_,List.foldlM_cons,List.foldlM_nil]
attribute [local go_sem] max2_int max_two min2_int min_two
theorem ret_u64 {a b:Int} (h:a=b):Ending.returned (.int .u64 a)= .returned (.int .u64 b):=by rw[h]
theorem gap_any (a b:Int) (w:World) (a0:-9223372036854775808≤a) (a1:a≤9223372036854775807) (b0:-9223372036854775808≤b) (b1:b≤9223372036854775807):
  Calls Tryz.prog 224 #[.int .i64 a, .int .i64 b] w fun e w'=>e= .returned (.int .u64 (gapI a b))∧w=w':=by
 by_cases h:b<a
 ·go_enter Tryz.func224,Tryz.ntmps224
  go_wp2
  go_ret
  exact ⟨ret_u64 (if_pos h).symm,rfl⟩
 ·have E:=gap_wrap a0 a1 b0 b1 (show a≤b by omega)
  go_enter Tryz.func224,Tryz.ntmps224
  go_wp2
  go_ret
  exact ⟨rfl,rfl⟩
theorem refgap_any (a b:Int) (w:World) (a0:-9223372036854775808≤a) (a1:a≤9223372036854775807) (b0:-9223372036854775808≤b) (b1:b≤9223372036854775807):
  Calls Tryz.prog 261 #[.int .i64 a, .int .i64 b] w fun e w'=>e= .returned (.int .u64 (gapI a b))∧w=w':=by
 by_cases h:b<a
 ·go_enter Tryz.func261,Tryz.ntmps261
  go_wp2
  go_ret
  exact ⟨ret_u64 (if_pos h).symm,rfl⟩
 ·have E:=gap_wrap a0 a1 b0 b1 (show a≤b by omega)
  go_enter Tryz.func261,Tryz.ntmps261
  go_wp2
  go_ret
  exact ⟨rfl,rfl⟩
theorem div64_any (hi lo y:Int) (w:World) (h0:0≤hi) (h1:hi<y) (y1:y≤18446744073709551615) (l0:0≤lo) (l1:lo≤18446744073709551615) (hq:hi*18446744073709551616+lo<y*4294967296):
  Calls Tryz.prog 258 #[.int .u64 hi, .int .u64 lo, .int .u64 y] w (SomeRem ((hi*18446744073709551616+lo)/y) w):=by
 by_cases z:hi=0
 ·subst z
  have:=div64_low lo y w h1 y1 l0 l1
  rw[Int.zero_mul,Int.zero_add]
  exact this
 ·exact div64_high hi lo y w (by omega) h1 y1 l0 l1 hq
set_option maxHeartbeats 1000000 in
theorem share_any (p x n:Int) (w:World) (p0:0≤p) (p1:p≤18446744073709551615) (x0:0≤x) (x1:x≤18446744073709551615) (n0:-9223372036854775808≤n) (n1:n≤9223372036854775807):
  Calls Tryz.prog 223 #[.int .u64 p, .int .u64 x, .int .i64 n] w fun e w'=>e= .returned (.int .i64 (shareI p x n))∧Drawn w w':=by
 by_cases z:x=0
 ·subst z
  go_enter Tryz.func223,Tryz.ntmps223
  go_wp2_with (fail)
  go_ret
  exact ⟨ret_int (shareI_none (.inl rfl)).symm,Drawn.refl _⟩
 ·have xz:(x==0)=false:=by simpa using z
  by_cases g:n<1
  ·go_enter Tryz.func223,Tryz.ntmps223
   go_wp2_with (fail)
   go_ret
   exact ⟨ret_int (shareI_none (.inr (.inl g))).symm,Drawn.refl _⟩
  ·by_cases k:65536<n
   ·go_enter Tryz.func223,Tryz.ntmps223
    go_wp2_with (fail)
    go_ret
    exact ⟨ret_int (shareI_none (.inr (.inr k))).symm,Drawn.refl _⟩
   ·have hm:(if x<p then x else p)=lesI p x:=rfl
    obtain ⟨m0,m1,m2⟩:=lesI_bd p0 x0
    obtain ⟨d1,d2,d3,d4,d5,d6,d7⟩:=share_split (n:=n) m0 m1 (show 0<x by omega) x1 (by omega) (by omega)
    have H:=LH (show shareI p x n=lesI p x*n/x from if_neg (by omega))
    have HE:=LH d5
    clear d5
    have hG:=Drawn.refl w
    go_enter Tryz.func223,Tryz.ntmps223
    go_wp2_with (first|(go_at_call 257;refine (mul64_any _ _ (by omega) (by omega) (by omega) (by omega) _).mono ?_;rintro e w' ⟨rfl,rfl⟩)|(go_at_call 258;refine (div64_any _ _ _ _ (by omega) (by omega) (by omega) (by omega) (by omega) (by omega)).mono ?_;rintro e w' ⟨⟨r,rfl⟩,hg⟩;replace hG:=hG.trans hg;clear hg;rw[HE.out]))
    go_ret
    exact ⟨ret_int H.out.symm,hG⟩
set_option maxHeartbeats 2000000 in
set_option maxRecDepth 100000 in
theorem refshare_any (p x n:Int) (w:World) (p0:0≤p) (p1:p≤18446744073709551615) (x0:0≤x) (x1:x≤18446744073709551615) (n0:-9223372036854775808≤n) (n1:n≤9223372036854775807):
  Calls Tryz.prog 260 #[.int .u64 p, .int .u64 x, .int .i64 n] w fun e w'=>e= .returned (.int .i64 (shareI p x n))∧w=w':=by
 by_cases z:x=0
 ·subst z
  go_enter Tryz.func260,Tryz.ntmps260
  go_wp2_with (fail)
  go_ret
  exact ⟨ret_int (shareI_none (.inl rfl)).symm,rfl⟩
 ·have xz:(x==0)=false:=by simpa using z
  by_cases g:n<1
  ·go_enter Tryz.func260,Tryz.ntmps260
   go_wp2_with (fail)
   go_ret
   exact ⟨ret_int (shareI_none (.inr (.inl g))).symm,rfl⟩
  ·by_cases k:65536<n
   ·go_enter Tryz.func260,Tryz.ntmps260
    go_wp2_with (fail)
    go_ret
    exact ⟨ret_int (shareI_none (.inr (.inr k))).symm,rfl⟩
   ·have hm:(if x<p then x else p)=lesI p x:=rfl
    obtain ⟨m0,m1,m2⟩:=lesI_bd p0 x0
    have H:=LH (show shareI p x n=lesI p x*n/x from if_neg (by omega))
    obtain ⟨m,hM⟩:∃m,lesI p x=m:=⟨_,rfl⟩
    rw[hM] at hm m0 m1 m2 H
    clear hM
    have N0:0≤n:=by omega
    have X0:0<x:=by omega
    go_enter Tryz.func260,Tryz.ntmps260
    go_wp2_with (fail)
    go_loop [7,8,9] (fun u v t=>∃(b:Nat) (q r:Int),b≤17∧u= .int .i64 q∧v= .int .u64 r∧t= .int .i64 ((b:Int)-1)∧ShareAt m x n b q r) (fun _ _ t=>(intOf t+1).toNat)
    case atStart=>exact ⟨17,0,0,by omega,rfl,rfl,rfl,ShareAt.start N0 (by omega) X0⟩
    case round=>
     obtain ⟨b,q,r,hb,rfl,rfl,rfl,S⟩:=hrel
     rcases b with _|j
     ·have F:=LH (S.done X0)
      clear S
      go_wp2_with (fail)
      go_ret
      exact ⟨ret_int (by rw[H.out,F.out]),rfl⟩
     ·have hj:j≤16:=by omega
      obtain ⟨r0,r1,q0,q1⟩:=S.bd m0 m1 X0 N0 (by omega)
      have HS:=LH S
      clear S
      have B:=bit_eq n j N0 (by omega)
      by_cases c1:x-r≤r
      ·by_cases c2:n/2^j%2=0
       ·rw[c2] at B
        have N:=LH (HS.out.step1 c1 c2)
        go_wp2_with (fail)
        go_round
        case rel=>exact ⟨j,_,_,by omega,rfl,rfl,by go_num,N.out⟩
        case measure=>simp[intOf]
       ·have c2':n/2^j%2=1:=by omega
        rw[c2'] at B
        by_cases c3:x-(r-(x-r))≤m
        ·have N:=LH (HS.out.step2 m1 c1 c2' c3)
         go_wp2_with (fail)
         go_round
         case rel=>exact ⟨j,_,_,by omega,rfl,rfl,by go_num,N.out⟩
         case measure=>simp[intOf]
        ·have N:=LH (HS.out.step3 m0 c1 c2' c3)
         go_wp2_with (fail)
         go_round
         case rel=>exact ⟨j,_,_,by omega,rfl,rfl,by go_num,N.out⟩
         case measure=>simp[intOf]
      ·by_cases c2:n/2^j%2=0
       ·rw[c2] at B
        have N:=LH (HS.out.step4 c1 c2)
        go_wp2_with (fail)
        go_round
        case rel=>exact ⟨j,_,_,by omega,rfl,rfl,by go_num,N.out⟩
        case measure=>simp[intOf]
       ·have c2':n/2^j%2=1:=by omega
        rw[c2'] at B
        by_cases c3:x-(r+r)≤m
        ·have N:=LH (HS.out.step5 m1 c1 c2' c3)
         go_wp2_with (fail)
         go_round
         case rel=>exact ⟨j,_,_,by omega,rfl,rfl,by go_num,N.out⟩
         case measure=>simp[intOf]
        ·have N:=LH (HS.out.step6 m0 c1 c2' c3)
         go_wp2_with (fail)
         go_round
         case rel=>exact ⟨j,_,_,by omega,rfl,rfl,by go_num,N.out⟩
         case measure=>simp[intOf]
set_option maxHeartbeats 1000000 in
theorem guess_any (f l k n:Int) (w:World) (f0:-9223372036854775808≤f) (f1:f≤9223372036854775807) (l0:-9223372036854775808≤l) (l1:l≤9223372036854775807) (k0:-9223372036854775808≤k) (k1:k≤9223372036854775807) (n0:-9223372036854775808≤n) (n1:n≤9223372036854775807):
  Calls Tryz.prog 191 #[.int .i64 f, .int .i64 l, .int .i64 k, .int .i64 n] w fun e w'=>e= .returned (.int .i64 (guessI f l k n))∧Drawn w w':=by
 by_cases h1:n<2
 ·have H:=LH (guessI_none (f:=f) (l:=l) (k:=k) (n:=n) (.inl h1))
  go_enter Tryz.func191,Tryz.ntmps191
  go_wp2_with (fail)
  go_ret
  exact ⟨ret_int H.out.symm,Drawn.refl _⟩
 ·by_cases h2:65536<n
  ·have H:=LH (guessI_none (f:=f) (l:=l) (k:=k) (n:=n) (.inr (.inl h2)))
   go_enter Tryz.func191,Tryz.ntmps191
   go_wp2_with (fail)
   go_ret
   exact ⟨ret_int H.out.symm,Drawn.refl _⟩
  ·by_cases h3:k<f
   ·have H:=LH (guessI_none (f:=f) (l:=l) (k:=k) (n:=n) (.inr (.inr (.inl h3))))
    go_enter Tryz.func191,Tryz.ntmps191
    go_wp2_with (fail)
    go_ret
    exact ⟨ret_int H.out.symm,Drawn.refl _⟩
   ·by_cases h4:l≤k
    ·have H:=LH (guessI_none (f:=f) (l:=l) (k:=k) (n:=n) (.inr (.inr (.inr h4))))
     go_enter Tryz.func191,Tryz.ntmps191
     go_wp2_with (fail)
     go_ret
     exact ⟨ret_int H.out.symm,Drawn.refl _⟩
    ·have H:=LH (guessI_in (f:=f) (l:=l) (k:=k) (n:=n) (by omega))
     obtain ⟨g0,g1⟩:=gapI_bd (a:=f) (b:=k) (by omega) (by omega)
     obtain ⟨g2,g3⟩:=gapI_bd (a:=f) (b:=l) (by omega) (by omega)
     obtain ⟨s0,s1⟩:=share_lt (p:=gapI f k) (x:=gapI f l) (n:=n-1) (by omega) (by unfold gapI;rw[if_neg (by omega),if_neg (by omega)];omega) (by omega) (by omega)
     go_enter Tryz.func191,Tryz.ntmps191
     go_wp2_with (first|(go_at_call 224;refine (gap_any _ _ _ (by omega) (by omega) (by omega) (by omega)).mono ?_;rintro e w' ⟨rfl,rfl⟩)|(go_at_call 223;refine (share_any _ _ _ _ (by omega) (by omega) (by omega) (by omega) (by omega) (by omega)).mono ?_;rintro e w' ⟨rfl,m,rfl⟩))
     go_ret
     exact ⟨ret_int H.out.symm,Drawn.of _ _⟩
set_option maxHeartbeats 1000000 in
theorem refguess_any (f l k n:Int) (w:World) (f0:-9223372036854775808≤f) (f1:f≤9223372036854775807) (l0:-9223372036854775808≤l) (l1:l≤9223372036854775807) (k0:-9223372036854775808≤k) (k1:k≤9223372036854775807) (n0:-9223372036854775808≤n) (n1:n≤9223372036854775807):
  Calls Tryz.prog 232 #[.int .i64 f, .int .i64 l, .int .i64 k, .int .i64 n] w fun e w'=>e= .returned (.int .i64 (guessI f l k n))∧Drawn w w':=by
 by_cases h1:n<2
 ·have H:=LH (guessI_none (f:=f) (l:=l) (k:=k) (n:=n) (.inl h1))
  go_enter Tryz.func232,Tryz.ntmps232
  go_wp2_with (fail)
  go_ret
  exact ⟨ret_int H.out.symm,Drawn.refl _⟩
 ·by_cases h2:65536<n
  ·have H:=LH (guessI_none (f:=f) (l:=l) (k:=k) (n:=n) (.inr (.inl h2)))
   go_enter Tryz.func232,Tryz.ntmps232
   go_wp2_with (fail)
   go_ret
   exact ⟨ret_int H.out.symm,Drawn.refl _⟩
  ·by_cases h3:k<f
   ·have H:=LH (guessI_none (f:=f) (l:=l) (k:=k) (n:=n) (.inr (.inr (.inl h3))))
    go_enter Tryz.func232,Tryz.ntmps232
    go_wp2_with (fail)
    go_ret
    exact ⟨ret_int H.out.symm,Drawn.refl _⟩
   ·by_cases h4:l≤k
    ·have H:=LH (guessI_none (f:=f) (l:=l) (k:=k) (n:=n) (.inr (.inr (.inr h4))))
     go_enter Tryz.func232,Tryz.ntmps232
     go_wp2_with (fail)
     go_ret
     exact ⟨ret_int H.out.symm,Drawn.refl _⟩
    ·have H:=LH (guessI_in (f:=f) (l:=l) (k:=k) (n:=n) (by omega))
     obtain ⟨g0,g1⟩:=gapI_bd (a:=f) (b:=k) (by omega) (by omega)
     obtain ⟨g2,g3⟩:=gapI_bd (a:=f) (b:=l) (by omega) (by omega)
     obtain ⟨s0,s1⟩:=share_lt (p:=gapI f k) (x:=gapI f l) (n:=n-1) (by omega) (by unfold gapI;rw[if_neg (by omega),if_neg (by omega)];omega) (by omega) (by omega)
     go_enter Tryz.func232,Tryz.ntmps232
     go_wp2_with (first|(go_at_call 261;refine (refgap_any _ _ _ (by omega) (by omega) (by omega) (by omega)).mono ?_;rintro e w' ⟨rfl,rfl⟩)|(go_at_call 260;refine (refshare_any _ _ _ _ (by omega) (by omega) (by omega) (by omega) (by omega) (by omega)).mono ?_;rintro e w' ⟨rfl,rfl⟩))
     go_ret
     exact ⟨ret_int H.out.symm,Drawn.refl _⟩
def RouteP (b:Nat) (s:RS) (w:World):Prop:=Blk w b 136 #[.int .i64 s.next, .int .i64 s.n, .int .i64 s.k, .int .i64 s.degree, .int .i64 s.i, .int .i64 s.first, .int .i64 s.child]
theorem RouteP.blk {b:Nat} {s:RS} {w:World} (h:RouteP b s w):Blk w b 136 #[.int .i64 s.next, .int .i64 s.n, .int .i64 s.k, .int .i64 s.degree, .int .i64 s.i, .int .i64 s.first, .int .i64 s.child]:=h
theorem RouteP.drewN {b:Nat} {s:RS} {w:World} (h:RouteP b s w) (n:Nat):RouteP b s (w.drewN n):=h
set_option maxHeartbeats 400000 in
theorem keys_any (b:Nat) (s:RS) (w:World) (h:RouteP b s w) (d0:-9223372036854775808<s.degree) (d1:s.degree≤9223372036854775807):
  Calls Tryz.prog 148 #[.pointer (some ⟨b,0,none⟩)] w fun e w'=>e= .returned (.int .i64 (s.degree-1))∧w=w':=by
 have c3:w.cell? ⟨b,3,none⟩=some (.int .i64 s.degree):=h.blk.cell 3
 clear h
 go_enter Tryz.func148,Tryz.ntmps148
 go_wp2
 go_ret
 exact ⟨rfl,rfl⟩
set_option maxHeartbeats 400000 in
theorem end_any (b:Nat) (s:RS) (c:Int) (w:World) (h:RouteP b s w):
  Calls Tryz.prog 92 #[.pointer (some ⟨b,0,none⟩), .int .i64 c] w fun e w'=>e= .returned (.tuple #[])∧RouteP b (s.ende c) w'∧Mv b none w w':=by
 have c0:w.cell? ⟨b,0,none⟩=some (.int .i64 s.next):=h.blk.cell 0
 have c6:w.cell? ⟨b,6,none⟩=some (.int .i64 s.child):=h.blk.cell 6
 have f0:=h.blk.frozen 0
 have f6:=h.blk.frozen 6
 have H:Hid (RouteP b (s.ende c) ((w.setCell ⟨b,6,none⟩ (.int .i64 c)).setCell ⟨b,0,none⟩ (.int .i64 6))):=LH ((h.blk.set_ 6 _).set_ 0 _)
 clear h
 go_enter Tryz.func92,Tryz.ntmps92
 go_wp2
 go_end0
 exact ⟨rfl,H.out,(Mv.set1 _ _ _ _).trans_ (Mv.set1 _ _ _ _)⟩
set_option maxHeartbeats 400000 in
theorem up_any (b:Nat) (s:RS) (i:Int) (w:World) (h:RouteP b s w) (d0:2≤s.degree) (d1:s.degree≤9223372036854775807) (i0:-9223372036854775808≤i) (i1:i≤9223372036854775807):
  Calls Tryz.prog 151 #[.pointer (some ⟨b,0,none⟩), .int .i64 i] w fun e w'=>e= .returned (.tuple #[])∧RouteP b (s.up i) w'∧Mv b none w w':=by
 have c0:w.cell? ⟨b,0,none⟩=some (.int .i64 s.next):=h.blk.cell 0
 have c4:w.cell? ⟨b,4,none⟩=some (.int .i64 s.i):=h.blk.cell 4
 have f0:=h.blk.frozen 0
 have f4:=h.blk.frozen 4
 have H1:Hid (RouteP b {s with next:=4,i:=i} ((w.setCell ⟨b,0,none⟩ (.int .i64 4)).setCell ⟨b,4,none⟩ (.int .i64 i))):=LH ((h.blk.set_ 0 _).set_ 4 _)
 have M1:=LH ((Mv.set1 w b 0 (.int .i64 4)).trans_ (Mv.set1 _ b 4 (.int .i64 i)))
 clear h
 by_cases hi:s.degree-1≤i
 ·have HS:=LH (show s.up i=RS.ende {s with next:=4,i:=i} (s.degree-1-1) from if_pos hi)
  go_enter Tryz.func151,Tryz.ntmps151
  go_wp2_with (fail)
  with_reducible refine (keys_any b {s with next:=4,i:=i} _ H1.out (by show _<s.degree;omega) (by show s.degree≤_;omega)).mono ?_
  rintro e w1 ⟨rfl,rfl⟩
  go_wp2_with (fail)
  with_reducible refine (keys_any b {s with next:=4,i:=i} _ H1.out (by show _<s.degree;omega) (by show s.degree≤_;omega)).mono ?_
  rintro e w1 ⟨rfl,rfl⟩
  go_wp2_with (fail)
  with_reducible refine (end_any b {s with next:=4,i:=i} (s.degree-1-1) _ H1.out).mono ?_
  rintro e w1 ⟨rfl,h2,m2⟩
  have H2:=LH h2
  have M2:=LH m2
  clear h2 m2
  go_wp2_with (fail)
  go_end0
  rw[HS.out]
  exact ⟨rfl,H2.out,M1.out.trans_ M2.out⟩
 ·have HS:=LH (show s.up i={s with next:=4,i:=i} from if_neg hi)
  go_enter Tryz.func151,Tryz.ntmps151
  go_wp2_with (fail)
  with_reducible refine (keys_any b {s with next:=4,i:=i} _ H1.out (by show _<s.degree;omega) (by show s.degree≤_;omega)).mono ?_
  rintro e w1 ⟨rfl,rfl⟩
  go_wp2_with (fail)
  go_end0
  rw[HS.out]
  exact ⟨rfl,H1.out,M1.out⟩
set_option maxHeartbeats 400000 in
theorem down_any (b:Nat) (s:RS) (i:Int) (w:World) (h:RouteP b s w) (i0:-9223372036854775808≤i) (i1:i≤9223372036854775807):
  Calls Tryz.prog 150 #[.pointer (some ⟨b,0,none⟩), .int .i64 i] w fun e w'=>e= .returned (.tuple #[])∧RouteP b (s.down i) w'∧Mv b none w w':=by
 have c0:w.cell? ⟨b,0,none⟩=some (.int .i64 s.next):=h.blk.cell 0
 have c4:w.cell? ⟨b,4,none⟩=some (.int .i64 s.i):=h.blk.cell 4
 have f0:=h.blk.frozen 0
 have f4:=h.blk.frozen 4
 have H1:Hid (RouteP b {s with next:=5,i:=i} ((w.setCell ⟨b,0,none⟩ (.int .i64 5)).setCell ⟨b,4,none⟩ (.int .i64 i))):=LH ((h.blk.set_ 0 _).set_ 4 _)
 have M1:=LH ((Mv.set1 w b 0 (.int .i64 5)).trans_ (Mv.set1 _ b 4 (.int .i64 i)))
 clear h
 by_cases hi:i≤1
 ·have HS:=LH (show s.down i=RS.ende {s with next:=5,i:=i} 1 from if_pos hi)
  go_enter Tryz.func150,Tryz.ntmps150
  go_wp2_with (fail)
  with_reducible refine (end_any b {s with next:=5,i:=i} 1 _ H1.out).mono ?_
  rintro e w1 ⟨rfl,h2,m2⟩
  have H2:=LH h2
  have M2:=LH m2
  clear h2 m2
  go_wp2_with (fail)
  go_end0
  rw[HS.out]
  exact ⟨rfl,H2.out,M1.out.trans_ M2.out⟩
 ·have HS:=LH (show s.down i={s with next:=5,i:=i} from if_neg hi)
  go_enter Tryz.func150,Tryz.ntmps150
  go_wp2_with (fail)
  go_end0
  rw[HS.out]
  exact ⟨rfl,H1.out,M1.out⟩
set_option maxHeartbeats 1000000 in
theorem guessF_any (b:Nat) (s:RS) (q:Int) (w:World) (h:RouteP b s w) (d0:2≤s.degree) (d1:s.degree≤9223372036854775807) (k0:-9223372036854775808≤s.k) (k1:s.k≤9223372036854775807) (g0:-9223372036854775808≤s.first) (g1:s.first≤9223372036854775807) (q0:-9223372036854775808≤q) (q1:q≤9223372036854775807):
  Calls Tryz.prog 149 #[.pointer (some ⟨b,0,none⟩), .int .i64 q] w fun e w'=>e= .returned (.tuple #[])∧RouteP b (s.guess q) w'∧Mv b none w w':=by
 have c0:w.cell? ⟨b,0,none⟩=some (.int .i64 s.next):=h.blk.cell 0
 have c2:w.cell? ⟨b,2,none⟩=some (.int .i64 s.k):=h.blk.cell 2
 have c4:w.cell? ⟨b,4,none⟩=some (.int .i64 s.i):=h.blk.cell 4
 have c5:w.cell? ⟨b,5,none⟩=some (.int .i64 s.first):=h.blk.cell 5
 have f0:=h.blk.frozen 0
 have f4:=h.blk.frozen 4
 have H:=LH h
 have hj:=guessI_le s.first q s.k (s.degree-1) (by omega)
 clear h
 by_cases hj1:1<guessI s.first q s.k (s.degree-1)
 ·have HS:=LH (show s.guess q={s with next:=3,i:=guessI s.first q s.k (s.degree-1)} from if_pos hj1)
  go_enter Tryz.func149,Tryz.ntmps149
  go_wp2_with (fail)
  go_quiet ((first|(go_at_call 148;exact quiet_left (keys_any b s _ (H.out.drewN _) (by omega) (by omega)))|(go_at_call 191;exact Calls.quiet_of (guess_any _ _ _ _ _ (by omega) (by omega) (by omega) (by omega) (by omega) (by omega) (by omega) (by omega)))))
  rename_i nq
  generalize guessI s.first q s.k (s.degree-1)=j at hj hj1 HS⊢
  have c0':(w.drewN nq).cell? ⟨b,0,none⟩=some (.int .i64 s.next):=c0
  have c4':(w.drewN nq).cell? ⟨b,4,none⟩=some (.int .i64 s.i):=c4
  have f0':(w.drewN nq).frozen? ⟨b,0,none⟩=false:=f0
  have f4':(w.drewN nq).frozen? ⟨b,4,none⟩=false:=f4
  go_wp2_with (fail)
  refine bodyPost_ret (results_none rfl _ _ _) rfl ?_
  rw[HS.out]
  exact ⟨rfl,((H.out.blk.drewN nq).set_ 0 _).set_ 4 _,Mv.after (drawn_bl (Drawn.of w nq) _) ((Mv.set1 _ b 0 _).trans_ (Mv.set1 _ b 4 _))⟩
 ·have HS:=LH (show s.guess q=s.up 2 from if_neg hj1)
  go_enter Tryz.func149,Tryz.ntmps149
  go_wp2_with (fail)
  go_quiet ((first|(go_at_call 148;exact quiet_left (keys_any b s _ (H.out.drewN _) (by omega) (by omega)))|(go_at_call 191;exact Calls.quiet_of (guess_any _ _ _ _ _ (by omega) (by omega) (by omega) (by omega) (by omega) (by omega) (by omega) (by omega)))))
  go_wp2_with (fail)
  with_reducible refine (up_any b s 2 _ (H.out.drewN _) d0 d1 (by omega) (by omega)).mono ?_
  rintro e w1 ⟨rfl,h2,m2⟩
  have H2:=LH h2
  have M2:=LH (Mv.after (drawn_bl (Drawn.of w _) _) m2)
  clear h2 m2
  go_wp2_with (fail)
  go_end0
  rw[HS.out]
  exact ⟨rfl,H2.out,M2.out⟩
set_option maxHeartbeats 1000000 in
set_option maxRecDepth 100000 in
theorem key2_any (b:Nat) (s:RS) (q:Int) (w:World) (h:RouteP b s w) (hn:s.next=2) (d0:2≤s.degree) (d1:s.degree≤9223372036854775807) (k0:-9223372036854775808≤s.k) (k1:s.k≤9223372036854775807) (g0:-9223372036854775808≤s.first) (g1:s.first≤9223372036854775807) (i0:1≤s.i) (i1:s.i≤s.degree-1) (q0:-9223372036854775808≤q) (q1:q≤9223372036854775807):
  Calls Tryz.prog 93 #[.pointer (some ⟨b,0,none⟩), .int .i64 q] w fun e w'=>e= .returned (.tuple #[])∧RouteP b (s.key q) w'∧Mv b none w w':=by
 have c0:w.cell? ⟨b,0,none⟩=some (.int .i64 2):=by rw[←hn];exact h.blk.cell 0
 have c2:w.cell? ⟨b,2,none⟩=some (.int .i64 s.k):=h.blk.cell 2
 have c3:w.cell? ⟨b,3,none⟩=some (.int .i64 s.degree):=h.blk.cell 3
 have c4:w.cell? ⟨b,4,none⟩=some (.int .i64 s.i):=h.blk.cell 4
 have c5:w.cell? ⟨b,5,none⟩=some (.int .i64 s.first):=h.blk.cell 5
 have f0:=h.blk.frozen 0
 have f4:=h.blk.frozen 4
 have f5:=h.blk.frozen 5
 have H:=LH h
 have hK:=RS.key2 hn q
 have HN:=LH hn
 clear h hn
 by_cases hq:s.k<q
 ·rw[if_pos hq] at hK
  have HK:=LH hK
  clear hK
  go_enter Tryz.func93,Tryz.ntmps93
  go_wp2_with (fail)
  with_reducible refine (guessF_any b s q _ H.out d0 d1 k0 k1 g0 g1 q0 q1).mono ?_
  rintro e w1 ⟨rfl,h2,m2⟩
  have H2:=LH h2
  have M2:=LH m2
  clear h2 m2
  go_wp2_with (fail)
  go_end0
  rw[HK.out]
  exact ⟨rfl,H2.out,M2.out⟩
 ·rw[if_neg hq] at hK
  have HK:=LH hK
  clear hK
  go_enter Tryz.func93,Tryz.ntmps93
  go_wp2_with (fail)
  with_reducible refine (keys_any b s _ H.out (by omega) (by omega)).mono ?_
  rintro e w1 ⟨rfl,rfl⟩
  go_wp2_with (fail)
  with_reducible refine (end_any b s (s.degree-1) _ H.out).mono ?_
  rintro e w1 ⟨rfl,h2,m2⟩
  have H2:=LH h2
  have M2:=LH m2
  clear h2 m2
  go_wp2_with (fail)
  go_end0
  rw[HK.out]
  exact ⟨rfl,H2.out,M2.out⟩
set_option maxHeartbeats 1000000 in
set_option maxRecDepth 100000 in
theorem key3_any (b:Nat) (s:RS) (q:Int) (w:World) (h:RouteP b s w) (hn:s.next=3) (d0:2≤s.degree) (d1:s.degree≤9223372036854775807) (k0:-9223372036854775808≤s.k) (k1:s.k≤9223372036854775807) (g0:-9223372036854775808≤s.first) (g1:s.first≤9223372036854775807) (i0:1≤s.i) (i1:s.i≤s.degree-1) (q0:-9223372036854775808≤q) (q1:q≤9223372036854775807):
  Calls Tryz.prog 93 #[.pointer (some ⟨b,0,none⟩), .int .i64 q] w fun e w'=>e= .returned (.tuple #[])∧RouteP b (s.key q) w'∧Mv b none w w':=by
 have c0:w.cell? ⟨b,0,none⟩=some (.int .i64 3):=by rw[←hn];exact h.blk.cell 0
 have c2:w.cell? ⟨b,2,none⟩=some (.int .i64 s.k):=h.blk.cell 2
 have c3:w.cell? ⟨b,3,none⟩=some (.int .i64 s.degree):=h.blk.cell 3
 have c4:w.cell? ⟨b,4,none⟩=some (.int .i64 s.i):=h.blk.cell 4
 have c5:w.cell? ⟨b,5,none⟩=some (.int .i64 s.first):=h.blk.cell 5
 have f0:=h.blk.frozen 0
 have f4:=h.blk.frozen 4
 have f5:=h.blk.frozen 5
 have H:=LH h
 have hK:=RS.key3 hn q
 have HN:=LH hn
 clear h hn
 by_cases hq:s.k<q
 ·rw[if_pos hq] at hK
  have HK:=LH hK
  clear hK
  go_enter Tryz.func93,Tryz.ntmps93
  go_wp2_with (fail)
  with_reducible refine (down_any b s (s.i-1) _ H.out (by omega) (by omega)).mono ?_
  rintro e w1 ⟨rfl,h2,m2⟩
  have H2:=LH h2
  have M2:=LH m2
  clear h2 m2
  go_wp2_with (fail)
  go_end0
  rw[HK.out]
  exact ⟨rfl,H2.out,M2.out⟩
 ·rw[if_neg hq] at hK
  have HK:=LH hK
  clear hK
  go_enter Tryz.func93,Tryz.ntmps93
  go_wp2_with (fail)
  with_reducible refine (up_any b s (s.i+1) _ H.out d0 d1 (by omega) (by omega)).mono ?_
  rintro e w1 ⟨rfl,h2,m2⟩
  have H2:=LH h2
  have M2:=LH m2
  clear h2 m2
  go_wp2_with (fail)
  go_end0
  rw[HK.out]
  exact ⟨rfl,H2.out,M2.out⟩
set_option maxHeartbeats 1000000 in
set_option maxRecDepth 100000 in
theorem key4_any (b:Nat) (s:RS) (q:Int) (w:World) (h:RouteP b s w) (hn:s.next=4) (d0:2≤s.degree) (d1:s.degree≤9223372036854775807) (k0:-9223372036854775808≤s.k) (k1:s.k≤9223372036854775807) (g0:-9223372036854775808≤s.first) (g1:s.first≤9223372036854775807) (i0:1≤s.i) (i1:s.i≤s.degree-1) (q0:-9223372036854775808≤q) (q1:q≤9223372036854775807):
  Calls Tryz.prog 93 #[.pointer (some ⟨b,0,none⟩), .int .i64 q] w fun e w'=>e= .returned (.tuple #[])∧RouteP b (s.key q) w'∧Mv b none w w':=by
 have c0:w.cell? ⟨b,0,none⟩=some (.int .i64 4):=by rw[←hn];exact h.blk.cell 0
 have c2:w.cell? ⟨b,2,none⟩=some (.int .i64 s.k):=h.blk.cell 2
 have c3:w.cell? ⟨b,3,none⟩=some (.int .i64 s.degree):=h.blk.cell 3
 have c4:w.cell? ⟨b,4,none⟩=some (.int .i64 s.i):=h.blk.cell 4
 have c5:w.cell? ⟨b,5,none⟩=some (.int .i64 s.first):=h.blk.cell 5
 have f0:=h.blk.frozen 0
 have f4:=h.blk.frozen 4
 have f5:=h.blk.frozen 5
 have H:=LH h
 have hK:=RS.key4 hn q
 have HN:=LH hn
 clear h hn
 by_cases hq:s.k<q
 ·rw[if_pos hq] at hK
  have HK:=LH hK
  clear hK
  go_enter Tryz.func93,Tryz.ntmps93
  go_wp2_with (fail)
  with_reducible refine (end_any b s (s.i-1) _ H.out).mono ?_
  rintro e w1 ⟨rfl,h2,m2⟩
  have H2:=LH h2
  have M2:=LH m2
  clear h2 m2
  go_wp2_with (fail)
  go_end0
  rw[HK.out]
  exact ⟨rfl,H2.out,M2.out⟩
 ·rw[if_neg hq] at hK
  have HK:=LH hK
  clear hK
  go_enter Tryz.func93,Tryz.ntmps93
  go_wp2_with (fail)
  with_reducible refine (up_any b s (s.i+1) _ H.out d0 d1 (by omega) (by omega)).mono ?_
  rintro e w1 ⟨rfl,h2,m2⟩
  have H2:=LH h2
  have M2:=LH m2
  clear h2 m2
  go_wp2_with (fail)
  go_end0
  rw[HK.out]
  exact ⟨rfl,H2.out,M2.out⟩
set_option maxHeartbeats 1000000 in
set_option maxRecDepth 100000 in
theorem key5_any (b:Nat) (s:RS) (q:Int) (w:World) (h:RouteP b s w) (hn:s.next=5) (d0:2≤s.degree) (d1:s.degree≤9223372036854775807) (k0:-9223372036854775808≤s.k) (k1:s.k≤9223372036854775807) (g0:-9223372036854775808≤s.first) (g1:s.first≤9223372036854775807) (i0:1≤s.i) (i1:s.i≤s.degree-1) (q0:-9223372036854775808≤q) (q1:q≤9223372036854775807):
  Calls Tryz.prog 93 #[.pointer (some ⟨b,0,none⟩), .int .i64 q] w fun e w'=>e= .returned (.tuple #[])∧RouteP b (s.key q) w'∧Mv b none w w':=by
 have c0:w.cell? ⟨b,0,none⟩=some (.int .i64 5):=by rw[←hn];exact h.blk.cell 0
 have c2:w.cell? ⟨b,2,none⟩=some (.int .i64 s.k):=h.blk.cell 2
 have c3:w.cell? ⟨b,3,none⟩=some (.int .i64 s.degree):=h.blk.cell 3
 have c4:w.cell? ⟨b,4,none⟩=some (.int .i64 s.i):=h.blk.cell 4
 have c5:w.cell? ⟨b,5,none⟩=some (.int .i64 s.first):=h.blk.cell 5
 have f0:=h.blk.frozen 0
 have f4:=h.blk.frozen 4
 have f5:=h.blk.frozen 5
 have H:=LH h
 have hK:=RS.key5 hn q
 have HN:=LH hn
 clear h hn
 by_cases hq:s.k<q
 ·rw[if_pos hq] at hK
  have HK:=LH hK
  clear hK
  go_enter Tryz.func93,Tryz.ntmps93
  go_wp2_with (fail)
  with_reducible refine (down_any b s (s.i-1) _ H.out (by omega) (by omega)).mono ?_
  rintro e w1 ⟨rfl,h2,m2⟩
  have H2:=LH h2
  have M2:=LH m2
  clear h2 m2
  go_wp2_with (fail)
  go_end0
  rw[HK.out]
  exact ⟨rfl,H2.out,M2.out⟩
 ·rw[if_neg hq] at hK
  have HK:=LH hK
  clear hK
  go_enter Tryz.func93,Tryz.ntmps93
  go_wp2_with (fail)
  with_reducible refine (end_any b s s.i _ H.out).mono ?_
  rintro e w1 ⟨rfl,h2,m2⟩
  have H2:=LH h2
  have M2:=LH m2
  clear h2 m2
  go_wp2_with (fail)
  go_end0
  rw[HK.out]
  exact ⟨rfl,H2.out,M2.out⟩
set_option maxHeartbeats 1000000 in
set_option maxRecDepth 100000 in
theorem key1_any (b:Nat) (s:RS) (q:Int) (w:World) (h:RouteP b s w) (hn:s.next=1) (d0:2≤s.degree) (d1:s.degree≤9223372036854775807) (k0:-9223372036854775808≤s.k) (k1:s.k≤9223372036854775807) (g0:-9223372036854775808≤s.first) (g1:s.first≤9223372036854775807) (i0:1≤s.i) (i1:s.i≤s.degree-1) (q0:-9223372036854775808≤q) (q1:q≤9223372036854775807):
  Calls Tryz.prog 93 #[.pointer (some ⟨b,0,none⟩), .int .i64 q] w fun e w'=>e= .returned (.tuple #[])∧RouteP b (s.key q) w'∧Mv b none w w':=by
 have c0:w.cell? ⟨b,0,none⟩=some (.int .i64 1):=by rw[←hn];exact h.blk.cell 0
 have c2:w.cell? ⟨b,2,none⟩=some (.int .i64 s.k):=h.blk.cell 2
 have c3:w.cell? ⟨b,3,none⟩=some (.int .i64 s.degree):=h.blk.cell 3
 have c4:w.cell? ⟨b,4,none⟩=some (.int .i64 s.i):=h.blk.cell 4
 have c5:w.cell? ⟨b,5,none⟩=some (.int .i64 s.first):=h.blk.cell 5
 have f0:=h.blk.frozen 0
 have f4:=h.blk.frozen 4
 have f5:=h.blk.frozen 5
 have H:=LH h
 have hK:=RS.key1 hn q
 have HN:=LH hn
 clear h hn
 have H1:Hid (RouteP b {s with first:=q} (w.setCell ⟨b,5,none⟩ (.int .i64 q))):=LH (H.out.blk.set_ 5 _)
 have H2:Hid (RouteP b {s with first:=q,next:=2,i:=s.degree-1} (((w.setCell ⟨b,5,none⟩ (.int .i64 q)).setCell ⟨b,0,none⟩ (.int .i64 2)).setCell ⟨b,4,none⟩ (.int .i64 (s.degree-1)))):=LH (((H.out.blk.set_ 5 _).set_ 0 _).set_ 4 _)
 have M1:=LH (((Mv.set1 w b 5 (.int .i64 q)).trans_ (Mv.set1 _ b 0 (.int .i64 2))).trans_ (Mv.set1 _ b 4 (.int .i64 (s.degree-1))))
 by_cases hq:s.k<q
 ·rw[if_pos hq] at hK
  have HK:=LH hK
  clear hK
  go_enter Tryz.func93,Tryz.ntmps93
  go_wp2_with (fail)
  with_reducible refine (keys_any b {s with first:=q} _ H1.out (by show _<s.degree;omega) (by show s.degree≤_;omega)).mono ?_
  rintro e w1 ⟨rfl,rfl⟩
  go_wp2_with (fail)
  with_reducible refine (end_any b {s with first:=q,next:=2,i:=s.degree-1} 0 _ H2.out).mono ?_
  rintro e w1 ⟨rfl,h3,m3⟩
  have H3:=LH h3
  have M3:=LH m3
  clear h3 m3
  go_wp2_with (fail)
  go_end0
  rw[HK.out]
  exact ⟨rfl,H3.out,M1.out.trans_ M3.out⟩
 ·rw[if_neg hq] at hK
  by_cases hd:s.degree-1=1
  ·have hd1:(s.degree-1==1)=true:=by simpa using hd
   rw[if_pos hd] at hK
   have HK:=LH hK
   clear hK hd
   go_enter Tryz.func93,Tryz.ntmps93
   go_wp2_with (fail)
   with_reducible refine (keys_any b {s with first:=q} _ H1.out (by show _<s.degree;omega) (by show s.degree≤_;omega)).mono ?_
   rintro e w1 ⟨rfl,rfl⟩
   go_wp2_with (fail)
   with_reducible refine (keys_any b {s with first:=q,next:=2,i:=s.degree-1} _ H2.out (by show _<s.degree;omega) (by show s.degree≤_;omega)).mono ?_
   rintro e w1 ⟨rfl,rfl⟩
   go_wp2_with (fail)
   with_reducible refine (end_any b {s with first:=q,next:=2,i:=s.degree-1} 1 _ H2.out).mono ?_
   rintro e w1 ⟨rfl,h3,m3⟩
   have H3:=LH h3
   have M3:=LH m3
   clear h3 m3
   go_wp2_with (fail)
   go_end0
   rw[HK.out]
   exact ⟨rfl,H3.out,M1.out.trans_ M3.out⟩
  ·have hd1:(s.degree-1==1)=false:=by simpa using hd
   rw[if_neg hd] at hK
   have HK:=LH hK
   clear hK hd
   go_enter Tryz.func93,Tryz.ntmps93
   go_wp2_with (fail)
   with_reducible refine (keys_any b {s with first:=q} _ H1.out (by show _<s.degree;omega) (by show s.degree≤_;omega)).mono ?_
   rintro e w1 ⟨rfl,rfl⟩
   go_wp2_with (fail)
   with_reducible refine (keys_any b {s with first:=q,next:=2,i:=s.degree-1} _ H2.out (by show _<s.degree;omega) (by show s.degree≤_;omega)).mono ?_
   rintro e w1 ⟨rfl,rfl⟩
   go_wp2_with (fail)
   go_end0
   rw[HK.out]
   exact ⟨rfl,H2.out,M1.out⟩
theorem keyAtI_bd {n i:Int}:0≤keyAtI n i∧keyAtI n i≤2199023255556:=by
 unfold keyAtI
 split
 ·rename_i h
  have h1:=nearB_yes h.1
  have h2:=nearB_yes h.2
  omega
 ·omega
theorem rdC_bd {C:List Int} (hC:∀i,i<C.length→-9223372036854775808≤keyAt C i∧keyAt C i≤9223372036854775807) (a:Int):-9223372036854775808≤rdC C a∧rdC C a≤9223372036854775807:=by
 unfold rdC
 split
 ·exact hC _ (by omega)
 ·omega
set_option maxHeartbeats 400000 in
theorem done_any (b:Nat) (s:RS) (w:World) (h:RouteP b s w):
  Calls Tryz.prog 32 #[.pointer (some ⟨b,0,none⟩)] w fun e w'=>e= .returned (.bool (s.next==6))∧w=w':=by
 have c0:w.cell? ⟨b,0,none⟩=some (.int .i64 s.next):=h.blk.cell 0
 clear h
 go_enter Tryz.func32,Tryz.ntmps32
 go_wp2_with (fail)
 go_ret
 exact ⟨rfl,rfl⟩
set_option maxHeartbeats 400000 in
theorem degree_any (b:Nat) (s:RS) (w:World) (h:RouteP b s w) (hn:s.next=6):
  Calls Tryz.prog 33 #[.pointer (some ⟨b,0,none⟩)] w fun e w'=>e= .returned (.int .i64 s.degree)∧w=w':=by
 have c3:w.cell? ⟨b,3,none⟩=some (.int .i64 s.degree):=h.blk.cell 3
 have H:=LH h
 have e1:(s.next==6)=true:=by simpa using hn
 clear h hn
 go_enter Tryz.func33,Tryz.ntmps33
 go_wp2_with (fail)
 with_reducible refine (done_any b s _ H.out).mono ?_
 rintro e w1 ⟨rfl,rfl⟩
 go_wp2_with (fail)
 go_ret
 exact ⟨rfl,rfl⟩
set_option maxHeartbeats 400000 in
theorem child_any (b:Nat) (s:RS) (w:World) (h:RouteP b s w):
  Calls Tryz.prog 34 #[.pointer (some ⟨b,0,none⟩)] w fun e w'=>e= .returned (.int .i64 s.child)∧w=w':=by
 have c6:w.cell? ⟨b,6,none⟩=some (.int .i64 s.child):=h.blk.cell 6
 clear h
 go_enter Tryz.func34,Tryz.ntmps34
 go_wp2_with (fail)
 go_ret
 exact ⟨rfl,rfl⟩
set_option maxHeartbeats 400000 in
theorem newR_any (n k:Int) (w:World):
  Calls Tryz.prog 28 #[.int .i64 n, .int .i64 k] w fun e w'=>e= .returned (.pointer (some ⟨w.heap.size,0,none⟩))∧RouteP w.heap.size (RS.init n k) w'∧Below w.heap.size w w':=by
 have H:Hid (RouteP w.heap.size (RS.init n k) (w.alloc (.cells #[.int .i64 0, .int .i64 n, .int .i64 k, .int .i64 0, .int .i64 0, .int .i64 0, .int .i64 0] 136))):=LH (Blk.new w _ _)
 go_enter Tryz.func28,Tryz.ntmps28
 go_wp2_with (fail)
 go_ret
 exact ⟨rfl,H.out,(Below.refl _ _).alloc (Nat.le_refl _) _⟩
theorem key_any (b:Nat) (s:RS) (q:Int) (w:World) (h:RouteP b s w) (a1:1≤s.next) (a2:s.next≤5) (d0:2≤s.degree) (d1:s.degree≤9223372036854775807) (k0:-9223372036854775808≤s.k) (k1:s.k≤9223372036854775807) (g0:-9223372036854775808≤s.first) (g1:s.first≤9223372036854775807) (i0:1≤s.i) (i1:s.i≤s.degree-1) (q0:-9223372036854775808≤q) (q1:q≤9223372036854775807):
  Calls Tryz.prog 93 #[.pointer (some ⟨b,0,none⟩), .int .i64 q] w fun e w'=>e= .returned (.tuple #[])∧RouteP b (s.key q) w'∧Mv b none w w':=by
 have:s.next=1∨s.next=2∨s.next=3∨s.next=4∨s.next=5:=by omega
 rcases this with hn|hn|hn|hn|hn
 ·exact key1_any b s q w h hn d0 d1 k0 k1 g0 g1 i0 i1 q0 q1
 ·exact key2_any b s q w h hn d0 d1 k0 k1 g0 g1 i0 i1 q0 q1
 ·exact key3_any b s q w h hn d0 d1 k0 k1 g0 g1 i0 i1 q0 q1
 ·exact key4_any b s q w h hn d0 d1 k0 k1 g0 g1 i0 i1 q0 q1
 ·exact key5_any b s q w h hn d0 d1 k0 k1 g0 g1 i0 i1 q0 q1
theorem below_drew {w w1:World} (hb:Below w.drew.heap.size w.drew w1):Below w.heap.size w w1:=⟨hb.os,hb.tape,hb.output,hb.size,hb.block⟩
def StepPost (b bm:Nat) (s:RS) (B:Nat) (v:Value) (C:List Int) (size count odd ref:Int) (w:World) (e:Ending) (w':World):Prop:=
 e= .returned (.bool ((s.step (rdC C)).next==6))∧RouteP b (s.step (rdC C)) w'∧MemP B bm v C size (if s.next=6 then count else bump count) (if s.next=6∨(1≤s.addr∧s.addr≤C.length) then odd else bump odd) ref w'∧Only [b,bm] w w'
set_option maxRecDepth 100000 in
set_option maxHeartbeats 1000000 in
theorem stepR_any (b bm:Nat) (s:RS) (B:Nat) (v:Value) (C:List Int) (size count odd ref:Int) (w:World) (h:RouteP b s w) (hm:MemP B bm v C size count odd ref w) (hI:s.Inv) (hC:C.length≤1000000) (hw:∀i,i<C.length→-9223372036854775808≤keyAt C i∧keyAt C i≤9223372036854775807):
  Calls Tryz.prog 30 #[.pointer (some ⟨b,0,none⟩), .pointer (some ⟨bm,0,none⟩)] w (StepPost b bm s B v C size count odd ref w):=by
 have hne:b≠bm:=h.blk.ne_ hm.blk (by decide)
 have hvb:v.ownBlock≠some b:=own_blk_ne hm.own h.blk (by decide)
 have hR:=rdC_bd hw
 by_cases h6:s.next=6
 ·have hs:=LH (RS.step_done (R:=rdC C) h6)
  have c0:w.cell? ⟨b,0,none⟩=some (.int .i64 6):=by rw[←h6];exact h.blk.cell 0
  have H:=LH h
  have HM:=LH hm
  have H6:=LH h6
  clear h hm h6
  go_enter Tryz.func30,Tryz.ntmps30
  go_wp2_with (fail)
  with_reducible refine (done_any b s _ H.out).mono ?_
  rintro e w1 ⟨rfl,rfl⟩
  go_wp2_with (fail)
  go_ret
  unfold StepPost
  rw[hs.out,if_pos H6.out,if_pos (.inl H6.out)]
  exact ⟨rfl,H.out,HM.out,Only.refl _ _⟩
 ·by_cases h0:s.next=0
  ·have hs:=LH (RS.step0 (R:=rdC C) h0)
   have c0:w.cell? ⟨b,0,none⟩=some (.int .i64 0):=by rw[←h0];exact h.blk.cell 0
   have c1:w.cell? ⟨b,1,none⟩=some (.int .i64 s.n):=h.blk.cell 1
   have n0:=hI.n0
   have n1:=hI.n1
   have H:=LH h
   have HM:=LH hm
   have H0:=LH h0
   clear h hm h0 h6 hI
   go_enter Tryz.func30,Tryz.ntmps30
   go_wp2_with (fail)
   with_reducible refine (read_any B bm v C size count odd ref s.n _ HM.out hC n0 n1).mono ?_
   rintro e w2 ⟨rfl,hm2,m2⟩
   have h2:RouteP b s w2:=m2.blk H.out hne (by simp)
   have HM2:=LH hm2
   have O2:=LH (Only.of_mv (S:=[b,bm]) m2 (by simp))
   clear hm2 m2
   have c3:w2.cell? ⟨b,3,none⟩=some (.int .i64 s.degree):=h2.blk.cell 3
   have c0':w2.cell? ⟨b,0,none⟩=some (.int .i64 0):=by rw[←H0.out];exact h2.blk.cell 0
   have c4:w2.cell? ⟨b,4,none⟩=some (.int .i64 s.i):=h2.blk.cell 4
   have f0:=h2.blk.frozen 0
   have f3:=h2.blk.frozen 3
   have f4:=h2.blk.frozen 4
   have hr:=hR s.n
   obtain ⟨x,hx⟩:∃x,rdC C s.n=x:=⟨_,rfl⟩
   rw[hx] at hr⊢
   have HX:=LH hx
   clear hx
   have M3:=LH (((Mv.set1 w2 b 3 (.int .i64 x)).trans_ (Mv.set1 _ b 0 (.int .i64 1))).trans_ (Mv.set1 _ b 4 (.int .i64 1)))
   have h3:RouteP b {s with degree:=x,next:=1,i:=1} (((w2.setCell ⟨b,3,none⟩ (.int .i64 x)).setCell ⟨b,0,none⟩ (.int .i64 1)).setCell ⟨b,4,none⟩ (.int .i64 1)):=((h2.blk.set_ 3 _).set_ 0 _).set_ 4 _
   have H3:=LH h3
   clear h3 h2
   by_cases hx2:x<2
   ·go_wp2_with (fail)
    with_reducible refine (end_any b _ 0 _ H3.out).mono ?_
    rintro e w3 ⟨rfl,h4,m4⟩
    have H4:=LH h4
    have M4:=LH (M3.out.trans_ m4)
    clear h4 m4 M3 H3
    go_wp2_with (fail)
    with_reducible refine (done_any b _ _ H4.out).mono ?_
    rintro e w4 ⟨rfl,rfl⟩
    go_wp2_with (fail)
    go_ret
    unfold StepPost
    have e0:=H0.out
    have ea:s.addr=s.n:=if_pos e0
    have e6:¬s.next=6:=by omega
    rw[hs.out,HX.out,if_pos hx2,if_neg e6,ea]
    simp only[e6,false_or]
    exact ⟨rfl,H4.out,HM2.out.mv M4.out (fun e=>hne e.symm) (by simp) hvb (by cases v.ownBlock<;>simp),O2.out.trans (Only.of_mv M4.out (by simp))⟩
   ·go_wp2_with (fail)
    with_reducible refine (done_any b _ _ H3.out).mono ?_
    rintro e w4 ⟨rfl,rfl⟩
    go_wp2_with (fail)
    go_ret
    unfold StepPost
    have e0:=H0.out
    have ea:s.addr=s.n:=if_pos e0
    have e6:¬s.next=6:=by omega
    have hx3:¬x<2:=by omega
    rw[hs.out,HX.out,if_neg hx3,if_neg e6,ea]
    simp only[e6,false_or]
    exact ⟨rfl,H3.out,HM2.out.mv M3.out (fun e=>hne e.symm) (by simp) hvb (by cases v.ownBlock<;>simp),O2.out.trans (Only.of_mv M3.out (by simp))⟩
  ·have hs:=LH (RS.stepK (R:=rdC C) h0 h6)
   have hst:1≤s.next∧s.next≤5∧2≤s.degree∧s.degree≤9223372036854775807∧1≤s.i∧s.i≤s.degree-1:=by rcases hI.st with h|h|h<;>first|exact absurd h h0|exact absurd h h6|exact h
   obtain ⟨a1,a2,d0,d1,i0,i1⟩:=hst
   have c0:w.cell? ⟨b,0,none⟩=some (.int .i64 s.next):=h.blk.cell 0
   have c1:w.cell? ⟨b,1,none⟩=some (.int .i64 s.n):=h.blk.cell 1
   have c4:w.cell? ⟨b,4,none⟩=some (.int .i64 s.i):=h.blk.cell 4
   have e0:(s.next==0)=false:=by simpa using h0
   have e6:(s.next==6)=false:=by simpa using h6
   have H:=LH h
   have HM:=LH hm
   have HI:=LH hI
   clear h hm h0 h6 hI
   go_enter Tryz.func30,Tryz.ntmps30
   go_wp2_with (fail)
   go_region_with (first|(go_at_call 94;(with_reducible refine (keyat_any _ _ _).mono ?_);rintro e w1 ⟨rfl,hB1⟩;replace hB1:=below_drew hB1;have H1:Hid (RouteP b s w1):=LH (H.out.blk.below hB1 H.out.blk.lt);have HM1:=LH (HM.out.below hB1);have O1:=LH (Only.of_below (S:=[b,bm]) hB1);clear hB1)|(go_at_call 91;(with_reducible refine (read_any B bm v C size count odd ref (keyAtI s.n s.i) _ HM1.out hC (by have:=keyAtI_bd (n:=s.n) (i:=s.i);omega) (by have:=keyAtI_bd (n:=s.n) (i:=s.i);omega)).mono ?_);rintro e w2 ⟨rfl,hm2,m2⟩;have H2:Hid (RouteP b s w2):=LH (m2.blk H1.out hne (by simp));have HM2:=LH hm2;have O2:=LH (O1.out.trans (Only.of_mv m2 (by simp)));clear hm2 m2 H1 HM1 O1)|(go_at_call 93;(with_reducible refine (key_any b s (rdC C (keyAtI s.n s.i)) _ H2.out a1 a2 d0 d1 HI.out.k0 HI.out.k1 HI.out.g0 HI.out.g1 i0 i1 (hR _).1 (hR _).2).mono ?_);rintro e w3 ⟨rfl,h3,m3⟩;have H3:=LH h3;have HM3:=LH (HM2.out.mv m3 (fun e=>hne e.symm) (by simp) hvb (by cases v.ownBlock<;>simp));have O3:=LH (O2.out.trans (Only.of_mv m3 (by simp)));clear h3 m3 H2 HM2 O2))
   all_goals
    go_wp2_with (fail)
    with_reducible refine (done_any b _ _ H3.out).mono ?_
    rintro e w4 ⟨rfl,rfl⟩
    go_wp2_with (fail)
    go_ret
    unfold StepPost
    rw[hs.out]
    have e6':¬s.next=6:=by simpa using e6
    have e0':¬s.next=0:=by simpa using e0
    have ea:s.addr=keyAtI s.n s.i:=if_neg e0'
    rw[if_neg e6',ea]
    simp only[e6',false_or]
    exact ⟨rfl,H3.out,HM3.out,O3.out⟩
def cntO:Option Int→Int→Int
 |none,c=>c
 |some _,c=>bump c
def oddO (C:List Int):Option Int→Int→Int
 |none,o=>o
 |some a,o=>if 1≤a∧a≤C.length then o else bump o
theorem MemP.read {B b:Nat} {v:Value} {C:List Int} {size count odd ref:Int} {w:World} {a:Int} (h:MemP B b v C size (bump count) (if 1≤a∧a≤C.length then odd else bump odd) ref w):MemP B b v C size (cntO (some a) count) (oddO C (some a) odd) ref w:=h
structure PS where
 next:Int
 cell:Int
 at_:Int
 word:Int
def PS.init (slot:Int):PS:=⟨0,slot,0,0⟩
def PS.step (R:Int→Int) (s:PS):PS:=
 if s.next=0 then (if wKind (R s.cell)=5 then {s with at_:=wAt (R s.cell),next:=1,cell:=wAt (R s.cell)+4} else {s with word:=R s.cell,next:=3})
 else if s.next=1 then (if R s.cell=1 then {s with next:=2,cell:=s.at_+3} else {s with next:=2,cell:=s.at_+2})
 else if s.next=2 then {s with word:=R s.cell,next:=3}
 else s
def PS.acc (s:PS):Option Int:=if s.next=3 then none else some s.cell
structure PS.Inv (s:PS):Prop where
 c0:-9223372036854775808≤s.cell
 c1:s.cell≤9223372036854775807
 a0:0≤s.at_
 a1:s.at_≤65536
 x0:-9223372036854775808≤s.word
 x1:s.word≤9223372036854775807
 st:s.next=0∨s.next=1∨s.next=2∨s.next=3
theorem PS.Inv.init {a:Int} (h0:-9223372036854775808≤a) (h1:a≤9223372036854775807):(PS.init a).Inv:=⟨h0,h1,by simp[PS.init],by simp[PS.init],by simp[PS.init],by simp[PS.init], .inl rfl⟩
theorem PS.step0 {R:Int→Int} {s:PS} (h:s.next=0):s.step R=if wKind (R s.cell)=5 then {s with at_:=wAt (R s.cell),next:=1,cell:=wAt (R s.cell)+4} else {s with word:=R s.cell,next:=3}:=if_pos h
theorem PS.step1 {R:Int→Int} {s:PS} (h:s.next=1):s.step R=if R s.cell=1 then {s with next:=2,cell:=s.at_+3} else {s with next:=2,cell:=s.at_+2}:=by
 unfold PS.step;rw[if_neg (by omega),if_pos h]
theorem PS.step2 {R:Int→Int} {s:PS} (h:s.next=2):s.step R={s with word:=R s.cell,next:=3}:=by
 unfold PS.step;rw[if_neg (by omega),if_neg (by omega),if_pos h]
theorem PS.step3 {R:Int→Int} {s:PS} (h:s.next=3):s.step R=s:=by
 unfold PS.step;rw[if_neg (by omega),if_neg (by omega),if_neg (by omega)]
theorem PS.acc_some {s:PS} (h:s.next≠3):s.acc=some s.cell:=if_neg h
theorem PS.acc_none {s:PS} (h:s.next=3):s.acc=none:=if_pos h
theorem PS.Inv.step {s:PS} (h:s.Inv) {R:Int→Int} (hR:∀a,-9223372036854775808≤R a∧R a≤9223372036854775807):(s.step R).Inv:=by
 have b:=wAt_bd (R s.cell)
 have r:=hR s.cell
 have:=h.a0
 have:=h.a1
 rcases h.st with e|e|e|e
 ·rw[PS.step0 e]
  split
  ·exact ⟨by simp;omega,by simp;omega,b.1,b.2,h.x0,h.x1, .inr (.inl rfl)⟩
  ·exact ⟨h.c0,h.c1,h.a0,h.a1,r.1,r.2, .inr (.inr (.inr rfl))⟩
 ·rw[PS.step1 e]
  split
  ·exact ⟨by simp;omega,by simp;omega,h.a0,h.a1,h.x0,h.x1, .inr (.inr (.inl rfl))⟩
  ·exact ⟨by simp;omega,by simp;omega,h.a0,h.a1,h.x0,h.x1, .inr (.inr (.inl rfl))⟩
 ·rw[PS.step2 e]
  exact ⟨h.c0,h.c1,h.a0,h.a1,r.1,r.2, .inr (.inr (.inr rfl))⟩
 ·rw[PS.step3 e];exact h
def PeekP (b:Nat) (s:PS) (w:World):Prop:=Blk w b 221 #[.int .i64 s.next, .int .i64 s.cell, .int .i64 s.at_, .int .i64 s.word]
theorem PeekP.blk {b:Nat} {s:PS} {w:World} (h:PeekP b s w):Blk w b 221 #[.int .i64 s.next, .int .i64 s.cell, .int .i64 s.at_, .int .i64 s.word]:=h
set_option maxHeartbeats 400000 in
theorem newPk_any (a:Int) (w:World):
  Calls Tryz.prog 116 #[.int .i64 a] w fun e w'=>e= .returned (.pointer (some ⟨w.heap.size,0,none⟩))∧PeekP w.heap.size (PS.init a) w'∧Below w.heap.size w w'∧w'.heap.size=w.heap.size+1:=by
 have H:Hid (PeekP w.heap.size (PS.init a) (w.alloc (.cells #[.int .i64 0, .int .i64 a, .int .i64 0, .int .i64 0] 221))):=LH (Blk.new w _ _)
 go_enter Tryz.func116,Tryz.ntmps116
 go_wp2_with (fail)
 go_ret
 exact ⟨rfl,H.out,(Below.refl _ _).alloc (Nat.le_refl _) _,by simp⟩
section
variable (b:Nat) (s:PS) (w:World) (h:PeekP b s w)
include h
set_option maxHeartbeats 400000 in
theorem donePk_any:Calls Tryz.prog 177 #[.pointer (some ⟨b,0,none⟩)] w fun e w'=>e= .returned (.bool (s.next==3))∧w=w':=by
 have c0:w.cell? ⟨b,0,none⟩=some (.int .i64 s.next):=h.blk.cell 0
 clear h
 go_enter Tryz.func177,Tryz.ntmps177
 go_wp2_with (fail)
 go_ret
 exact ⟨rfl,rfl⟩
set_option maxHeartbeats 400000 in
theorem wordPk_any:Calls Tryz.prog 120 #[.pointer (some ⟨b,0,none⟩)] w fun e w'=>e= .returned (.int .i64 s.word)∧w=w':=by
 have c3:w.cell? ⟨b,3,none⟩=some (.int .i64 s.word):=h.blk.cell 3
 clear h
 go_enter Tryz.func120,Tryz.ntmps120
 go_wp2_with (fail)
 go_ret
 exact ⟨rfl,rfl⟩
set_option maxHeartbeats 400000 in
theorem endPk_any (x:Int):Calls Tryz.prog 176 #[.pointer (some ⟨b,0,none⟩), .int .i64 x] w fun e w'=>e= .returned (.tuple #[])∧PeekP b {s with word:=x,next:=3} w'∧Mv b none w w':=by
 have c0:w.cell? ⟨b,0,none⟩=some (.int .i64 s.next):=h.blk.cell 0
 have c3:w.cell? ⟨b,3,none⟩=some (.int .i64 s.word):=h.blk.cell 3
 have f0:=h.blk.frozen 0
 have f3:=h.blk.frozen 3
 have H:Hid (PeekP b {s with word:=x,next:=3} ((w.setCell ⟨b,3,none⟩ (.int .i64 x)).setCell ⟨b,0,none⟩ (.int .i64 3))):=LH ((h.blk.set_ 3 _).set_ 0 _)
 clear h
 go_enter Tryz.func176,Tryz.ntmps176
 go_wp2_with (fail)
 go_end0
 exact ⟨rfl,H.out,(Mv.set1 _ _ _ _).trans_ (Mv.set1 _ _ _ _)⟩
end
def PkPost (b bm:Nat) (s:PS) (B:Nat) (v:Value) (C:List Int) (size count odd ref:Int) (w:World) (e:Ending) (w':World):Prop:=
 e= .returned (.bool ((s.step (rdC C)).next==3))∧PeekP b (s.step (rdC C)) w'∧MemP B bm v C size (cntO s.acc count) (oddO C s.acc odd) ref w'∧Only [b,bm] w w'
set_option maxRecDepth 100000 in
set_option maxHeartbeats 1000000 in
theorem stepPk_any (b bm:Nat) (s:PS) (B:Nat) (v:Value) (C:List Int) (size count odd ref:Int) (w:World) (h:PeekP b s w) (hm:MemP B bm v C size count odd ref w) (hI:s.Inv) (hC:C.length≤1000000) (hw:∀i,i<C.length→-9223372036854775808≤keyAt C i∧keyAt C i≤9223372036854775807):
  Calls Tryz.prog 118 #[.pointer (some ⟨b,0,none⟩), .pointer (some ⟨bm,0,none⟩)] w (PkPost b bm s B v C size count odd ref w):=by
 have hne:b≠bm:=h.blk.ne_ hm.blk (by decide)
 have hvb:v.ownBlock≠some b:=own_blk_ne hm.own h.blk (by decide)
 have hR:=rdC_bd hw
 have a0:=hI.a0
 have a1:=hI.a1
 have z0:=hI.c0
 have z1:=hI.c1
 by_cases h3:s.next=3
 ·have hs:=LH (PS.step3 (R:=rdC C) h3)
  have HA:=LH (PS.acc_none h3)
  have c0:w.cell? ⟨b,0,none⟩=some (.int .i64 3):=by rw[←h3];exact h.blk.cell 0
  have H:=LH h
  have HM:=LH hm
  clear h hm
  clear hI h3
  go_enter Tryz.func118,Tryz.ntmps118
  go_wp2_with (fail)
  with_reducible refine (donePk_any b s _ H.out).mono ?_
  rintro e w1 ⟨rfl,rfl⟩
  go_wp2_with (fail)
  go_ret
  unfold PkPost
  rw[hs.out,HA.out]
  exact ⟨rfl,H.out,HM.out,Only.refl _ _⟩
 ·have HA:=LH (PS.acc_some h3)
  have ho:=hI.st
  by_cases h0:s.next=0
  ·have hs:=LH (PS.step0 (R:=rdC C) h0)
   have c0:w.cell? ⟨b,0,none⟩=some (.int .i64 0):=by rw[←h0];exact h.blk.cell 0
   have c1:w.cell? ⟨b,1,none⟩=some (.int .i64 s.cell):=h.blk.cell 1
   have H:=LH h
   have HM:=LH hm
   have H0:=LH h0
   clear h hm h0
   clear h3 hI ho
   go_enter Tryz.func118,Tryz.ntmps118
   go_wp2_with (fail)
   with_reducible refine (read_any B bm v C size count odd ref s.cell _ HM.out hC z0 z1).mono ?_
   rintro e w2 ⟨rfl,hm2,m2⟩
   have h2:PeekP b s w2:=m2.blk H.out hne (by simp)
   have HM2:=LH hm2.read
   have O2:=LH (Only.of_mv (S:=[b,bm]) m2 (by simp))
   clear hm2 m2 c0 c1
   have hr:=hR s.cell
   obtain ⟨x,hx⟩:∃x,rdC C s.cell=x:=⟨_,rfl⟩
   rw[hx] at hr⊢
   have HX:=LH hx
   clear hx
   by_cases hk:wKind x=5
   ·have ek:(wKind x !=5)=false:=by simpa using hk
    have ew:=wAt_bd x
    have HK:=LH hk
    clear hk
    have c0:w2.cell? ⟨b,0,none⟩=some (.int .i64 0):=by rw[←H0.out];exact h2.blk.cell 0
    have c1:w2.cell? ⟨b,1,none⟩=some (.int .i64 s.cell):=h2.blk.cell 1
    have c2:w2.cell? ⟨b,2,none⟩=some (.int .i64 s.at_):=h2.blk.cell 2
    have f0:=h2.blk.frozen 0
    have f1:=h2.blk.frozen 1
    have f2:=h2.blk.frozen 2
    have M3:=LH (((Mv.set1 w2 b 2 (.int .i64 (wAt x))).trans_ (Mv.set1 _ b 0 (.int .i64 1))).trans_ (Mv.set1 _ b 1 (.int .i64 (wAt x+4))))
    have h3:PeekP b {s with at_:=wAt x,next:=1,cell:=wAt x+4} (((w2.setCell ⟨b,2,none⟩ (.int .i64 (wAt x))).setCell ⟨b,0,none⟩ (.int .i64 1)).setCell ⟨b,1,none⟩ (.int .i64 (wAt x+4))):=((h2.blk.set_ 2 _).set_ 0 _).set_ 1 _
    have H3:=LH h3
    clear h3
    clear h2
    go_wp2_with (fail)
    with_reducible refine (kind_any x _ hr.1 hr.2).mono ?_
    rintro e w3 ⟨rfl,rfl⟩
    go_wp2_with (fail)
    with_reducible refine (refAt_any x _ hr.1 hr.2).mono ?_
    rintro e w3 ⟨rfl,rfl⟩
    go_wp2_with (fail)
    with_reducible refine (donePk_any b _ _ H3.out).mono ?_
    rintro e w4 ⟨rfl,rfl⟩
    go_wp2_with (fail)
    go_ret
    unfold PkPost
    rw[hs.out,HX.out,HA.out,if_pos HK.out]
    exact ⟨rfl,H3.out,HM2.out.mv M3.out (fun e=>hne e.symm) (by simp) hvb (by cases v.ownBlock<;>simp),O2.out.trans (Only.of_mv M3.out (by simp))⟩
   ·have ek:(wKind x !=5)=true:=by simpa using hk
    have HK:=LH hk
    clear hk
    have c0:w2.cell? ⟨b,0,none⟩=some (.int .i64 0):=by rw[←H0.out];exact h2.blk.cell 0
    have H2:=LH h2
    clear h2
    go_wp2_with (fail)
    with_reducible refine (kind_any x _ hr.1 hr.2).mono ?_
    rintro e w3 ⟨rfl,rfl⟩
    go_wp2_with (fail)
    with_reducible refine (endPk_any b s _ H2.out x).mono ?_
    rintro e w3 ⟨rfl,h3,m3⟩
    have H3:=LH h3
    have M3:=LH m3
    clear h3 m3
    go_wp2_with (fail)
    with_reducible refine (donePk_any b _ _ H3.out).mono ?_
    rintro e w4 ⟨rfl,rfl⟩
    go_wp2_with (fail)
    go_ret
    unfold PkPost
    rw[hs.out,HX.out,HA.out,if_neg HK.out]
    exact ⟨rfl,H3.out,HM2.out.mv M3.out (fun e=>hne e.symm) (by simp) hvb (by cases v.ownBlock<;>simp),O2.out.trans (Only.of_mv M3.out (by simp))⟩
  ·by_cases h1:s.next=1
   ·have hs:=LH (PS.step1 (R:=rdC C) h1)
    have c0:w.cell? ⟨b,0,none⟩=some (.int .i64 1):=by rw[←h1];exact h.blk.cell 0
    have c1:w.cell? ⟨b,1,none⟩=some (.int .i64 s.cell):=h.blk.cell 1
    have f0:=h.blk.frozen 0
    have h4:PeekP b {s with next:=2} (w.setCell ⟨b,0,none⟩ (.int .i64 2)):=h.blk.set_ 0 _
    have M1:=LH (Mv.set1 w b 0 (.int .i64 2))
    have HM:=LH (hm.mv M1.out (fun e=>hne e.symm) (by simp) hvb (by cases v.ownBlock<;>simp))
    have c1':(w.setCell ⟨b,0,none⟩ (.int .i64 2)).cell? ⟨b,1,none⟩=some (.int .i64 s.cell):=h4.blk.cell 1
    have H:=LH h
    have H4:=LH h4
    clear h h4
    clear h3 hI ho hm h0 h1 c1
    go_enter Tryz.func118,Tryz.ntmps118
    go_wp2_with (fail)
    with_reducible refine (read_any B bm v C size count odd ref s.cell _ HM.out hC z0 z1).mono ?_
    rintro e w2 ⟨rfl,hm2,m2⟩
    have h2:PeekP b {s with next:=2} w2:=m2.blk H4.out hne (by simp)
    have HM2:=LH hm2.read
    have O2:=LH ((Only.of_mv (S:=[b,bm]) M1.out (by simp)).trans (Only.of_mv (S:=[b,bm]) m2 (by simp)))
    clear hm2 m2 c0 c1'
    have hr:=hR s.cell
    obtain ⟨x,hx⟩:∃x,rdC C s.cell=x:=⟨_,rfl⟩
    rw[hx] at hr⊢
    have HX:=LH hx
    clear hx
    have c1:w2.cell? ⟨b,1,none⟩=some (.int .i64 s.cell):=h2.blk.cell 1
    have c2:w2.cell? ⟨b,2,none⟩=some (.int .i64 s.at_):=h2.blk.cell 2
    have f1:=h2.blk.frozen 1
    by_cases hk:x=1
    ·have ek:(x==1)=true:=by simpa using hk
     have HK:=LH hk
     clear hk
     have M3:=LH (Mv.set1 w2 b 1 (.int .i64 (s.at_+3)))
     have h5:PeekP b {s with next:=2,cell:=s.at_+3} (w2.setCell ⟨b,1,none⟩ (.int .i64 (s.at_+3))):=h2.blk.set_ 1 _
     have H3:=LH h5
     clear h5
     clear h2
     go_wp2_with (fail)
     with_reducible refine (donePk_any b _ _ H3.out).mono ?_
     rintro e w4 ⟨rfl,rfl⟩
     go_wp2_with (fail)
     go_ret
     unfold PkPost
     rw[hs.out,HX.out,HA.out,if_pos HK.out]
     exact ⟨rfl,H3.out,HM2.out.mv M3.out (fun e=>hne e.symm) (by simp) hvb (by cases v.ownBlock<;>simp),O2.out.trans (Only.of_mv M3.out (by simp))⟩
    ·have ek:(x==1)=false:=by simpa using hk
     have HK:=LH hk
     clear hk
     have M3:=LH (Mv.set1 w2 b 1 (.int .i64 (s.at_+2)))
     have h5:PeekP b {s with next:=2,cell:=s.at_+2} (w2.setCell ⟨b,1,none⟩ (.int .i64 (s.at_+2))):=h2.blk.set_ 1 _
     have H3:=LH h5
     clear h5
     clear h2
     go_wp2_with (fail)
     with_reducible refine (donePk_any b _ _ H3.out).mono ?_
     rintro e w4 ⟨rfl,rfl⟩
     go_wp2_with (fail)
     go_ret
     unfold PkPost
     rw[hs.out,HX.out,HA.out,if_neg HK.out]
     exact ⟨rfl,H3.out,HM2.out.mv M3.out (fun e=>hne e.symm) (by simp) hvb (by cases v.ownBlock<;>simp),O2.out.trans (Only.of_mv M3.out (by simp))⟩
   ·have h2:s.next=2:=by omega
    have hs:=LH (PS.step2 (R:=rdC C) h2)
    have c0:w.cell? ⟨b,0,none⟩=some (.int .i64 2):=by rw[←h2];exact h.blk.cell 0
    have c1:w.cell? ⟨b,1,none⟩=some (.int .i64 s.cell):=h.blk.cell 1
    have H:=LH h
    have HM:=LH hm
    clear h hm
    clear h3 hI ho h0 h1 h2
    go_enter Tryz.func118,Tryz.ntmps118
    go_wp2_with (fail)
    with_reducible refine (read_any B bm v C size count odd ref s.cell _ HM.out hC z0 z1).mono ?_
    rintro e w2 ⟨rfl,hm2,m2⟩
    have h2:PeekP b s w2:=m2.blk H.out hne (by simp)
    have HM2:=LH hm2.read
    have O2:=LH (Only.of_mv (S:=[b,bm]) m2 (by simp))
    have H2:=LH h2
    clear h2
    clear hm2 m2 c0 c1
    go_wp2_with (fail)
    with_reducible refine (endPk_any b s _ H2.out _).mono ?_
    rintro e w3 ⟨rfl,h3,m3⟩
    have H3:=LH h3
    have M3:=LH m3
    clear h3 m3
    go_wp2_with (fail)
    with_reducible refine (donePk_any b _ _ H3.out).mono ?_
    rintro e w4 ⟨rfl,rfl⟩
    go_wp2_with (fail)
    go_ret
    unfold PkPost
    rw[hs.out,HA.out]
    exact ⟨rfl,H3.out,HM2.out.mv M3.out (fun e=>hne e.symm) (by simp) hvb (by cases v.ownBlock<;>simp),O2.out.trans (Only.of_mv M3.out (by simp))⟩
def RS.acc (s:RS):Option Int:=if s.next=6 then none else some s.addr
structure SS where
 next:Int
 k:Int
 n:Int
 route:RS
 peek:Option PS
 at_:Int
 value:Int
 there:Bool
def SS.enter (s:SS) (n:Int):SS:={s with next:=0,n:=n,route:=RS.init n s.k}
def SS.init (k:Int):SS:=⟨0,k,1,RS.init 1 k,none,0,0,false⟩
def SS.meet (s:SS) (w:Int):SS:=
 if wKind w=2 then {s with at_:=wAt w,next:=2}
 else if wKind w=3 then SS.enter {s with at_:=wAt w} (wAt w)
 else if wKind w=4 then {s with at_:=wAt w,next:=4}
 else {s with at_:=wAt w,next:=5}
def SS.step (R:Int→Int) (s:SS):SS:=
 if s.next=0 then (if (s.route.step R).next=6 then {s with route:=s.route.step R,next:=1,peek:=some (PS.init (childAtI s.n (s.route.step R).degree (s.route.step R).child))} else {s with route:=s.route.step R})
 else if s.next=1 then (match s.peek with
  |some p=>if (p.step R).next=3 then SS.meet {s with peek:=some (p.step R)} (p.step R).word else {s with peek:=some (p.step R)}
  |none=>s)
 else if s.next=2 then (if R s.at_=s.k then {s with next:=3} else {s with next:=5})
 else if s.next=3 then {s with value:=R (s.at_+1),there:=true,next:=5}
 else if s.next=4 then SS.enter s (wAt (R s.at_))
 else s
def SS.acc (s:SS):Option Int:=
 if s.next=0 then s.route.acc
 else if s.next=1 then (match s.peek with|some p=>p.acc|none=>none)
 else if s.next=2 then some s.at_
 else if s.next=3 then some (s.at_+1)
 else if s.next=4 then some s.at_
 else none
structure SS.Inv (s:SS):Prop where
 k0:-9223372036854775808≤s.k
 k1:s.k≤9223372036854775807
 rt:s.route.Inv
 a0:0≤s.at_
 a1:s.at_≤65536
 st:(s.next=0∧s.route.next≠6)∨(s.next=1∧∃p,s.peek=some p∧p.Inv∧p.next≠3)∨s.next=2∨s.next=3∨s.next=4∨s.next=5
theorem childAtI_bd {n d i:Int}:0≤childAtI n d i∧childAtI n d i≤3298534883332:=by
 unfold childAtI
 split
 ·rename_i h
  have h1:=nearB_yes h.1
  have h2:=nearB_yes h.2.1
  have h3:=nearB_yes h.2.2
  omega
 ·omega
section
variable {s:SS} {R:Int→Int} {p:PS}
theorem SS.step0 (h:s.next=0) (h6:(s.route.step R).next≠6):s.step R={s with route:=s.route.step R}:=by
 unfold SS.step;rw[if_pos h,if_neg h6]
theorem SS.step0e (h:s.next=0) (h6:(s.route.step R).next=6):s.step R={s with route:=s.route.step R,next:=1,peek:=some (PS.init (childAtI s.n (s.route.step R).degree (s.route.step R).child))}:=by
 unfold SS.step;rw[if_pos h,if_pos h6]
theorem SS.step1 (h:s.next=1) (hp:s.peek=some p) (h3:(p.step R).next≠3):s.step R={s with peek:=some (p.step R)}:=by
 unfold SS.step;rw[if_neg (by omega),if_pos h,hp];exact if_neg h3
theorem SS.step1e (h:s.next=1) (hp:s.peek=some p) (h3:(p.step R).next=3):s.step R=SS.meet {s with peek:=some (p.step R)} (p.step R).word:=by
 unfold SS.step;rw[if_neg (by omega),if_pos h,hp];exact if_pos h3
theorem SS.step2 (h:s.next=2):s.step R=if R s.at_=s.k then {s with next:=3} else {s with next:=5}:=by
 unfold SS.step;rw[if_neg (by omega),if_neg (by omega),if_pos h]
theorem SS.step3 (h:s.next=3):s.step R={s with value:=R (s.at_+1),there:=true,next:=5}:=by
 unfold SS.step;rw[if_neg (by omega),if_neg (by omega),if_neg (by omega),if_pos h]
theorem SS.step4 (h:s.next=4):s.step R=SS.enter s (wAt (R s.at_)):=by
 unfold SS.step;rw[if_neg (by omega),if_neg (by omega),if_neg (by omega),if_neg (by omega),if_pos h]
theorem SS.step5 (h:s.next=5):s.step R=s:=by
 unfold SS.step;rw[if_neg (by omega),if_neg (by omega),if_neg (by omega),if_neg (by omega),if_neg (by omega)]
theorem SS.acc0 (h:s.next=0):s.acc=s.route.acc:=by unfold SS.acc;rw[if_pos h]
theorem SS.acc1 (h:s.next=1) (hp:s.peek=some p):s.acc=p.acc:=by unfold SS.acc;rw[if_neg (by omega),if_pos h,hp]
theorem SS.acc2 (h:s.next=2):s.acc=some s.at_:=by unfold SS.acc;rw[if_neg (by omega),if_neg (by omega),if_pos h]
theorem SS.acc3 (h:s.next=3):s.acc=some (s.at_+1):=by unfold SS.acc;rw[if_neg (by omega),if_neg (by omega),if_neg (by omega),if_pos h]
theorem SS.acc4 (h:s.next=4):s.acc=some s.at_:=by unfold SS.acc;rw[if_neg (by omega),if_neg (by omega),if_neg (by omega),if_neg (by omega),if_pos h]
theorem SS.acc5 (h:s.next=5):s.acc=none:=by unfold SS.acc;rw[if_neg (by omega),if_neg (by omega),if_neg (by omega),if_neg (by omega),if_neg (by omega)]
structure SS.Inv0 (s:SS):Prop where
 k0:-9223372036854775808≤s.k
 k1:s.k≤9223372036854775807
 rt:s.route.Inv
 a0:0≤s.at_
 a1:s.at_≤65536
theorem SS.Inv.inv0 (h:s.Inv):s.Inv0:=⟨h.k0,h.k1,h.rt,h.a0,h.a1⟩
theorem SS.Inv.enter (h:s.Inv0) {n:Int} (h0:0≤n) (h1:n≤65536):(s.enter n).Inv:=
 ⟨h.k0,h.k1,RS.Inv.init (by omega) (by omega) h.k0 h.k1,h.a0,h.a1, .inl ⟨rfl,by simp[SS.enter,RS.init]⟩⟩
theorem SS.Inv.init {k:Int} (k0:-9223372036854775808≤k) (k1:k≤9223372036854775807):(SS.init k).Inv:=
 ⟨k0,k1,RS.Inv.init (by omega) (by omega) k0 k1,by simp[SS.init],by simp[SS.init], .inl ⟨rfl,by simp[SS.init,RS.init]⟩⟩
theorem SS.Inv.meet (h:s.Inv0) (w:Int):(s.meet w).Inv:=by
 have b:=wAt_bd w
 unfold SS.meet
 split
 ·exact ⟨h.k0,h.k1,h.rt,b.1,b.2, .inr (.inr (.inl rfl))⟩
 ·split
  ·exact SS.Inv.enter (s:={s with at_:=wAt w}) ⟨h.k0,h.k1,h.rt,b.1,b.2⟩ b.1 b.2
  ·split
   ·exact ⟨h.k0,h.k1,h.rt,b.1,b.2, .inr (.inr (.inr (.inr (.inl rfl))))⟩
   ·exact ⟨h.k0,h.k1,h.rt,b.1,b.2, .inr (.inr (.inr (.inr (.inr rfl))))⟩
theorem SS.Inv.step (h:s.Inv) (hR:∀a,-9223372036854775808≤R a∧R a≤9223372036854775807):(s.step R).Inv:=by
 rcases h.st with ⟨h0,h6⟩|⟨h1,p,hp,hI,h3⟩|h2|h3|h4|h5
 ·have hr:=h.rt.step hR
  by_cases e6:(s.route.step R).next=6
  ·rw[SS.step0e h0 e6]
   have:=childAtI_bd (n:=s.n) (d:=(s.route.step R).degree) (i:=(s.route.step R).child)
   exact ⟨h.k0,h.k1,hr,h.a0,h.a1, .inr (.inl ⟨rfl,_,rfl,PS.Inv.init (by omega) (by omega),by simp[PS.init]⟩)⟩
  ·rw[SS.step0 h0 e6]
   exact ⟨h.k0,h.k1,hr,h.a0,h.a1, .inl ⟨h0,e6⟩⟩
 ·have hp2:=hI.step hR
  by_cases e3:(p.step R).next=3
  ·rw[SS.step1e h1 hp e3]
   exact SS.Inv.meet (s:={s with peek:=some (p.step R)}) ⟨h.k0,h.k1,h.rt,h.a0,h.a1⟩ _
  ·rw[SS.step1 h1 hp e3]
   exact ⟨h.k0,h.k1,h.rt,h.a0,h.a1, .inr (.inl ⟨h1,_,rfl,hp2,e3⟩)⟩
 ·rw[SS.step2 h2]
  split
  ·exact ⟨h.k0,h.k1,h.rt,h.a0,h.a1, .inr (.inr (.inr (.inl rfl)))⟩
  ·exact ⟨h.k0,h.k1,h.rt,h.a0,h.a1, .inr (.inr (.inr (.inr (.inr rfl))))⟩
 ·rw[SS.step3 h3]
  exact ⟨h.k0,h.k1,h.rt,h.a0,h.a1, .inr (.inr (.inr (.inr (.inr rfl))))⟩
 ·rw[SS.step4 h4]
  exact SS.Inv.enter h.inv0 (wAt_bd _).1 (wAt_bd _).2
 ·rw[SS.step5 h5];exact h
end
structure WS where
 next:Int
 lo:Int
 hi:Int
 back:Bool
 values:Bool
 most:Int
 n:Int
 route:RS
 peek:Option PS
 levels:List (Int×Int×Int)
 at_:Int
 key:Int
 pairs:List (Int×Int)
 spots:List (Int×Int)
def more (back:Bool) (l:Int×Int×Int):Bool:=if back=true then decide (0<l.2.2) else decide (l.2.2+1<l.2.1)
theorem IntsAt.of_own {w:World} {base:Nat} {e:TypeId} {A:Option Addr} {n c:Nat} {l:List Int} (h:w.ownsRow base e 1 (.slice A n c) n (l.map (Value.int .i64))):n=l.length∧IntsAt w w.heap.size A l:=by
 have hn:n=l.length:=by have:=h.1;simp at this;omega
 subst hn
 exact ⟨rfl,Reads.of_own h⟩
theorem add_zero' (a:Addr):a.add 0=a:=by simp[Addr.add]
def cellsP (L:List (Int×Int)):List Value:=L.flatMap fun p=>[.int .i64 p.1, .int .i64 p.2]
theorem cellsP_len:∀L,(cellsP L).length=L.length*2
 |[]=>rfl
 |p::L=>by
  have:=cellsP_len L
  simp[cellsP] at this⊢
  omega
theorem cellsP_append (a b:List (Int×Int)):cellsP (a++b)=cellsP a++cellsP b:=by simp[cellsP]
def pkey (L:List (Int×Int)) (i:Nat):Int:=(L.getD i (0,0)).1
def PairsAt (w:World) (B:Nat) (A:Option Addr) (L:List (Int×Int)):Prop:=Reads w B 2 A L.length (cellsP L)
theorem cellsP_key:∀{L:List (Int×Int)} {i:Nat},i<L.length→(cellsP L)[i*2]? =some (.int .i64 (pkey L i))
 |[],i,h=>absurd h (by simp)
 |p::L,0,h=>by simp[cellsP,pkey]
 |p::L,i+1,h=>by
  have:=cellsP_key (L:=L) (i:=i) (by simpa using h)
  have e:(i+1)*2=i*2+1+1:=by omega
  rw[e]
  simp[cellsP,pkey] at this⊢
  exact this
theorem PairsAt.key {w:World} {B:Nat} {A:Option Addr} {L:List (Int×Int)} (h:PairsAt w B A L) (hl:0<L.length):∃ad,A=some ad∧ad.block<B∧∀i,i<L.length→w.cell? (ad.add (i*2))=some (.int .i64 (pkey L i)):=by
 obtain ⟨ad,e,hb,hc⟩:=h.2 hl
 exact ⟨ad,e,hb,fun i hi=>hc _ _ (cellsP_key hi)⟩
def placeP:List (Int×Int)→Int→Nat
 |[],_=>0
 |p::L,k=>if p.1<k then placeP L k+1 else 0
theorem placeP_le:∀(L:List (Int×Int)) (k:Int),placeP L k≤L.length
 |[],k=>Nat.le_refl _
 |p::L,k=>by
  have:=placeP_le L k
  simp only[placeP,List.length_cons]
  split<;>omega
theorem placeP_at {k:Int}:∀{L:List (Int×Int)} {i:Nat},i≤L.length→(∀x,x<i→pkey L x<k)→(i<L.length→¬pkey L i<k)→placeP L k=i
 |[],i,h,_,_=>by simp at h;simp[placeP,h]
 |p::L,0,h,h1,h2=>by
  have:=h2 (by simp)
  simp[pkey] at this
  simp only[placeP]
  rw[if_neg (by omega)]
 |p::L,i+1,h,h1,h2=>by
  have a:=h1 0 (by omega)
  simp[pkey] at a
  simp only[placeP]
  rw[if_pos a,placeP_at (L:=L) (i:=i) (by simpa using h) (fun x hx=>by have:=h1 (x+1) (by omega);simpa[pkey] using this) (fun hi=>by have:=h2 (by simpa using hi);simpa[pkey] using this)]
set_option maxHeartbeats 2000000 in
set_option maxRecDepth 100000 in
theorem place_any (A:Option Addr) (c:Nat) (L:List (Int×Int)) (k:Int) (w:World) (hq:PairsAt w w.heap.size A L) (hl:L.length≤80):
  Calls Tryz.prog 126 #[.slice A L.length c, .int .i64 k] w fun e w'=>e= .returned (.int .i64 (placeP L k))∧Drawn w w':=by
 have HQ:=LH hq
 clear hq
 go_enter Tryz.func126,Tryz.ntmps126
 go_wp2_with (fail)
 go_loopw [5] (fun u wr=>∃(i m:Nat),i≤L.length∧u= .int .i64 i∧Hid (∀x,x<i→pkey L x<k)∧wr=w.drewN m) (fun u _=>L.length-(intOf u).toNat)
 case atStart=>exact ⟨0,0,by omega,rfl,LH (fun x h=>absurd h (by omega)),rfl⟩
 case round=>
  obtain ⟨i,m,i1,rfl,hlow,rfl⟩:=hrel
  by_cases hlt:i<L.length
  ·obtain ⟨ad,rfl,hbl,hc⟩:=PairsAt.key HQ.out (by omega)
   have hcell:(w.drewN m).cell? (ad.add (i*2))=some (.int .i64 (pkey L i)):=hc i hlt
   clear hc
   by_cases hk:pkey L i<k
   ·go_wp2_with (fail)
    go_roundw
    case rel=>exact ⟨i+1,m,by omega,by go_num,LH (fun x h=>by
     by_cases e:x=i
     ·subst e;exact hk
     ·exact hlow.out x (by omega)),rfl⟩
    case measure=>simp[intOf];omega
   ·have E:=LH (placeP_at i1 hlow.out (fun _=>hk))
    go_wp2_with (fail)
    go_ret
    rw[E.out]
    exact ⟨rfl,⟨_,rfl⟩⟩
  ·have E:=LH (placeP_at (k:=k) i1 hlow.out (fun h=>absurd h hlt))
   go_wp2_with (fail)
   go_ret
   rw[E.out]
   exact ⟨rfl,⟨_,rfl⟩⟩
def putP (L:List (Int×Int)) (k v:Int):List (Int×Int):=L.take (placeP L k)++[(k,v)]++L.drop (if placeP L k<L.length∧pkey L (placeP L k)=k then placeP L k+1 else placeP L k)
theorem PairsAt.take {w:World} {B:Nat} {A:Option Addr} {L:List (Int×Int)} {n:Nat} (h:PairsAt w B A L) (hn:n≤L.length):Reads w B 2 A n (cellsP (L.take n)):=by
 refine ⟨by rw[cellsP_len,List.length_take];omega,fun h0=> ?_⟩
 obtain ⟨ad,e,hb,hc⟩:=h.2 (by omega)
 refine ⟨ad,e,hb,fun j u hu=>hc j u ?_⟩
 have:=cellsP_append (L.take n) (L.drop n)
 rw[List.take_append_drop] at this
 rw[this,List.getElem?_append_left]
 ·exact hu
 ·rcases Nat.lt_or_ge j (cellsP (L.take n)).length with g|g
  ·exact g
  ·rw[List.getElem?_eq_none g] at hu;cases hu
theorem cellsP_drop:∀(L:List (Int×Int)) (n:Nat),(cellsP L).drop (n*2)=cellsP (L.drop n)
 |L,0=>by simp
 |[],n+1=>by simp[cellsP]
 |p::L,n+1=>by
  have:=cellsP_drop L n
  have e:(n+1)*2=n*2+1+1:=by omega
  rw[e]
  simp[cellsP] at this⊢
  exact this
theorem cellsP_one {L:List (Int×Int)}:∀u∈cellsP L,u.oneCell'=true:=by
 intro u hu
 simp[cellsP] at hu
 obtain ⟨a,b,_,rfl|rfl⟩:=hu<;>simp[Value.oneCell']
theorem info_pair:(Tryz.prog.info? 52).map (fun i=>(i.zero,i.size,i.bytes))=some (some (.agg #[.int .i64 0, .int .i64 0]),2,16):=by kernel_rfl
theorem run_storeCells_nil {P:Program} {w:World} (a:Addr):(storeCells a []).run P w= .ok () w:=by simp[storeCells]
theorem reads_pair (w:World) (t:TypeId) (a b:Value):Reads (w.alloc (.cells #[a,b] t)) (w.heap.size+1) 2 (some ⟨w.heap.size,0,none⟩) 1 [a,b]:=by
 refine ⟨rfl,fun _=>⟨_,rfl,Nat.lt_succ_self _,fun j u hu=> ?_⟩⟩
 rcases j with _|_|j
 ·simp at hu;subst hu;rw[add_zero',World.cell?_alloc_at _ _ _ _ rfl]<;>rfl
 ·simp at hu;subst hu;simp[Addr.add];try (rw[World.cell?_alloc_at _ _ _ _ rfl]<;>rfl)
 ·simp at hu
theorem PairsAt.keyAt {w:World} {B:Nat} {ad:Addr} {L:List (Int×Int)} (h:PairsAt w B (some ad) L) {i:Nat} (hi:i<L.length):w.cell? (ad.add (i*2))=some (.int .i64 (pkey L i)):=by
 obtain ⟨ad',e,hb,hc⟩:=PairsAt.key h (by omega)
 injection e with e
 subst e
 exact hc i hi
theorem PairsAt.cut {w:World} {B n:Nat} {ad:Addr} {L:List (Int×Int)} (h:PairsAt w B (some ad) L) (hn:n≤L.length):Reads w B 2 (some (ad.add (n*2))) (L.length-n) (cellsP (L.drop n)):=by
 have:=Reads.cut h (k:=n) (cap:=L.length+n+1) hn (by omega)
 rw[if_neg (by omega),cellsP_drop] at this
 exact this
theorem PairsAt.cut0 {w:World} {B n:Nat} {A:Option Addr} {L:List (Int×Int)} (h:PairsAt w B A L) (hn:n≤L.length) (he:L.length≤n):Reads w B 2 A (L.length-n) (cellsP (L.drop n)):=by
 have e:L.length-n=0:=by omega
 rw[e,List.drop_eq_nil_of_le he]
 exact ⟨rfl,fun h=>absurd h (by omega)⟩
theorem put_cells {L:List (Int×Int)} {k v:Int} {n:Nat} (h:(if placeP L k<L.length∧pkey L (placeP L k)=k then placeP L k+1 else placeP L k)=n):cellsP (L.take (placeP L k))++[.int .i64 k, .int .i64 v]++cellsP (L.drop n)=cellsP (putP L k v):=by
 subst h
 unfold putP
 simp[cellsP_append,cellsP]
def SomeOwn (L:List Int) (w:World) (e:Ending) (w':World):Prop:=∃v,e= .returned v∧w'.ownsRow w.heap.size 2 1 v L.length (L.map (Value.int .i64))∧Below w.heap.size w w'
set_option maxHeartbeats 1000000 in
theorem growNil_any (n:Nat) (w:World) (hn:n≤1000000):
  Calls Tryz.prog 190 #[.slice none 0 0, .int .i64 n] w (SomeOwn [] w):=by
 obtain ⟨i0,hi0,hz0,hz1,hz2⟩:=info_parts info_int64m
 rcases Nat.eq_zero_or_pos n with h0|h0
 ·subst h0
  go_enter Tryz.func190,Tryz.ntmps190
  go_wp2_with (fail)
  go_ret
  exact ⟨_,rfl,World.ownsRow_nil _ _ _ _,Below.refl _ _⟩
 ·have hr:=Lib.run_append_nil_zeros (P:=Tryz.prog) w 22 3 0 2 i0 (.int .i64 0) .i64 .i64 Tryz.underlying22 Tryz.underlying3 hi0 hz0 n h0 (by rw[hz1];omega) (by omega) (by rw[hz2];omega)
  have h1:¬((n:Int)<0):=by omega
  have h2:(0:Int)<n:=by omega
  have hge:=grownCap_ge w n 0 2
  have hle:=grownCap_le_maxLen w n 0 2 (by simp only[maxLen];omega)
  have HR:=LH hr
  clear hr
  go_enter Tryz.func190,Tryz.ntmps190
  go_wp2_with (at_builtin;refine Lib.wpList_append_run w rfl _ _ 22 3 rfl (.slice none 0 0) (.int .i64 n) rfl rfl _ _ HR.out ?_)
  go_ret
  refine ⟨_,rfl,⟨rfl, .inr ⟨w.heap.size,grownCap w n 0 2,_,rfl,Nat.le_refl _,heap_alloc_new w _,Nat.zero_le _,hle, ?_,by simp⟩⟩,((Below.refl _ w).alloc (Nat.le_refl _) _).trans (drawn_bl (Drawn.of _ 1) _)⟩
  simp[Builtin.zeroCells]
  omega
theorem ints_one (L:List Int):∀u∈L.map (Value.int .i64),u.oneCell'=true:=fun u hu=>by
 obtain ⟨x,_,rfl⟩:=List.mem_map.1 hu
 rfl
def rowV (r:Option Addr×Nat×List Int):Value:= .slice r.1 r.2.2.length r.2.1
structure RowsAt (w:World) (B:Nat) (A:Option Addr) (R:List (Option Addr×Nat×List Int)):Prop where
 outer:Reads w B 1 A R.length (R.map rowV)
 inner:∀r∈R,IntsAt w B r.1 r.2.2
def flatR (R:List (Option Addr×Nat×List Int)):List Int:=R.flatMap (·.2.2)
theorem RowsAt.below {w w':World} {B:Nat} {A:Option Addr} {R:List (Option Addr×Nat×List Int)} (h:RowsAt w B A R) (hb:Below B w w'):RowsAt w' B A R:=
 ⟨h.outer.below hb,fun r hr=>(h.inner r hr).below hb⟩
theorem flatR_take {R:List (Option Addr×Nat×List Int)} {k:Nat} (h:k<R.length):flatR (R.take (k+1))=flatR (R.take k)++R[k].2.2:=by
 unfold flatR
 rw[List.take_add_one,List.getElem?_eq_getElem h,List.flatMap_append]
 simp only[Option.toList_some,List.flatMap_cons,List.flatMap_nil,List.append_nil]
theorem flatR_le (R:List (Option Addr×Nat×List Int)) (k:Nat):(flatR (R.take k)).length≤(flatR R).length:=by
 have:flatR R=flatR (R.take k)++flatR (R.drop k):=by
  unfold flatR
  rw[←List.flatMap_append,List.take_append_drop]
 rw[this,List.length_append]
 omega
def CatRel (R:List (Option Addr×Nat×List Int)) (w:World) (v i:Value) (wr:World):Prop:=∃k:Nat,k≤R.length∧i= .int .i64 k∧wr.ownsRow w.heap.size 2 1 v (flatR (R.take k)).length ((flatR (R.take k)).map (Value.int .i64))∧Below w.heap.size w wr
set_option maxRecDepth 100000 in
set_option maxHeartbeats 2000000 in
theorem concat_any (A:Option Addr) (c N:Nat) (R:List (Option Addr×Nat×List Int)) (w:World) (hN:N=R.length) (h:RowsAt w w.heap.size A R) (hl:R.length≤100) (ht:(flatR R).length≤1000000):
  Calls Tryz.prog 147 #[.slice A N c] w (SomeOwn (flatR R) w):=by
 subst hN
 obtain ⟨i0,hi0,hz0,hz1,hz2⟩:=info_parts info_int64m
 have H:=LH h
 have HT:=LH ht
 clear h ht
 go_enter Tryz.func147,Tryz.ntmps147
 go_wp2_with (fail)
 go_loop [3,11] (fun t i=>∃k:Nat,k≤R.length∧i= .int .i64 k∧t= .int .i64 ((flatR (R.take k)).length:Nat)) (fun _ i=>R.length-(intOf i).toNat)
 case atStart=>exact ⟨0,by omega,rfl,rfl⟩
 case round=>
  obtain ⟨k,k1,rfl,rfl⟩:=hrel
  have hle:=flatR_le R k
  have ht1:=HT.out
  by_cases hlt:k<R.length
  ·obtain ⟨ad,hA,hbl,hcc⟩:=H.out.outer.2 (by omega)
   have hx0:=hcc k (rowV R[k]) (by rw[List.getElem?_map,List.getElem?_eq_getElem hlt];rfl)
   have e1:=LH (flatR_take hlt)
   have hle2:=flatR_le R (k+1)
   subst hA
   obtain ⟨⟨A1,c1,L1⟩,hr⟩:∃r,R[k]=r:=⟨_,rfl⟩
   rw[hr] at hx0 e1
   have hx1:w.cell? (ad.add k)=some (.slice A1 L1.length c1):=hx0
   rw[e1.out,List.length_append] at hle2
   have hle3:(flatR (R.take k)).length+L1.length≤1000000:=by simp only[] at hle2;omega
   have e2:(flatR (R.take (k+1))).length=(flatR (R.take k)).length+L1.length:=by rw[e1.out,List.length_append]
   have E2:=LH e2
   clear hcc hx0 hr hle2 e2
   generalize (flatR (R.take k)).length=z at hle hle3 E2⊢
   go_wp2_with (fail)
   go_round
   case rel=>exact ⟨k+1,by omega,by go_num,by rw[E2.out];go_num⟩
   case measure=>simp[intOf];omega
  ·have ek:k=R.length:=by omega
   subst ek
   rw[List.take_of_length_le (Nat.le_refl _)]
   go_wp2_with (fail)
   with_reducible refine (growNil_any (flatR R).length _ ht1).mono ?_
   rintro e w1 ⟨v1,rfl,hO1,hB1⟩
   have HO1:=LH hO1
   have HB1:=LH hB1
   clear hO1 hB1 hle
   obtain ⟨A0,c0,rfl⟩:=own_shape HO1.out
   go_wp2_with (fail)
   go_loopw [6,27] (fun v i wr=>CatRel R w v i wr) (fun _ i _=>R.length-(intOf i).toNat)
   case atStart=>unfold CatRel;exact ⟨0,by omega,rfl,HO1.out,HB1.out⟩
   case round=>
    obtain ⟨j,j1,rfl,hO,hB⟩:=hrel
    by_cases hj:j<R.length
    ·obtain ⟨ad,hA,hbl,hcc⟩:=(H.out.below hB).outer.2 (by omega)
     have hx0:=hcc j (rowV R[j]) (by rw[List.getElem?_map,List.getElem?_eq_getElem hj];rfl)
     have hin:=(H.out.below hB).inner R[j] (List.getElem_mem _)
     have e1:=LH (flatR_take hj)
     have hle2:=flatR_le R (j+1)
     subst hA
     obtain ⟨⟨A1,c1,L1⟩,hr⟩:∃r,R[j]=r:=⟨_,rfl⟩
     rw[hr] at hx0 e1 hin
     have hx1:wr.cell? (ad.add j)=some (.slice A1 L1.length c1):=hx0
     rw[e1.out,List.length_append] at hle2
     have hle3:(flatR (R.take j)).length+L1.length≤1000000:=by simp only[] at hle2;omega
     have hsz:=hB.size
     clear hcc hx0 hr hle2
     obtain ⟨M,hM⟩:∃M,flatR (R.take j)=M:=⟨_,rfl⟩
     rw[hM] at hO e1 hle3
     clear hM
     go_wp2_with (at_builtin;refine wpList_append_any _ rfl _ _ 22 rfl w.heap.size 2 i0 (.int .i64 0) 1 8 Tryz.underlying22 hi0 hz0 hz1 hz2 rfl (by decide) _ M.length (M.map (Value.int .i64)) rfl hO w.heap.size A1 L1.length c1 (L1.map (Value.int .i64)) rfl hin (ints_one L1) ?p1 ?p2 ?p3 ?_;(case p1=>(unfold maxLen;omega));(case p2=>omega);(case p3=>exact hsz);intro v' w2 hO2 hg hvb)
     have hB2:Below w.heap.size w w2:=hB.grown hg hsz (fun g h=>(hO.lt g h).1)
     go_roundw
     case rel=>
      unfold CatRel
      refine ⟨j+1,by omega,by go_num, ?_,hB2⟩
      rw[e1.out,List.map_append,List.length_append]
      exact hO2
     case measure=>simp[intOf];omega
    ·have ej:j=R.length:=by omega
     subst ej
     rw[List.take_of_length_le (Nat.le_refl _)] at hO
     go_wp2_with (fail)
     go_ret
     exact ⟨_,rfl,hO,hB⟩
theorem IntsAt.far {w:World} {B:Nat} {A:Option Addr} {q:List Int} (h:IntsAt w B A q) {p:Addr} (hp:∀ad,A=some ad→ad.block≠p.block) (u:Value):IntsAt (w.setCell p u) B A q:=
 ⟨h.1,fun hn=>by
  obtain ⟨ad,e,hb,hc⟩:=h.2 hn
  refine ⟨ad,e,hb,fun j x hx=>(World.cell?_setCell_other w p (ad.add j) u (fun e2=> ?_)).trans (hc j x hx)⟩
  have h1:=congrArg Addr.block e2
  rw[block_of_add] at h1
  exact hp ad e h1.symm⟩
theorem Mv.wide {b:Nat} {w w':World} (h:Mv b none w w') (r:Option Nat):Mv b r w w':=⟨h.os,h.tape,h.output,h.size,fun k hk h1 _=>h.block k hk h1 (by simp)⟩
set_option maxRecDepth 100000 in
set_option maxHeartbeats 1000000 in
theorem make_ok (B b:Nat) (v:Value) (C:List Int) (size count odd ref:Int) (w:World) (h:MemP B b v C size count odd ref w) (hs:(C.length:Int)≤size) (hs2:size≤65536) (A:Option Addr) (c:Nat) (q:List Int) (N:Nat) (hN:N=q.length) (hq:IntsAt w w.heap.size A q) (hA:∀ad,A=some ad→ad.block≠b) (h0:0<q.length) (h1:(q.length:Int)≤size-C.length):
  Calls Tryz.prog 80 #[.pointer (some ⟨b,0,none⟩), .slice A N c] w fun e w'=>e= .returned (.tuple #[.int .i64 ((C.length:Int)+1), .bool true])∧∃v',MemP B b v' (C++q) size (bump count) odd ref w'∧Mv b v.ownBlock w w'∧(v'.ownBlock=v.ownBlock∨∃g,v'.ownBlock=some g∧w.heap.size≤g):=by
 subst hN
 obtain ⟨i0,hi0,hz0,hz1,hz2⟩:=info_parts info_int64m
 obtain ⟨A0,c0',rfl⟩:=own_shape h.own
 have h1':=(h.set 2 (by decide) (.int .i64 (bump count)) rfl)
 have c2:w.cell? ⟨b,2,none⟩=some (.int .i64 count):=h.blk.cell 2
 have f2:=h.blk.frozen 2
 have M1:=LH (Mv.set1 w b 2 (.int .i64 (bump count)))
 have eb:wrap64 (count+1)=bump count:=rfl
 have HQ:=LH (hq.far (p:=⟨b,2,none⟩) hA (.int .i64 (bump count)))
 have hsz:(w.setCell ⟨b,2,none⟩ (.int .i64 (bump count))).heap.size=w.heap.size:=by simp
 have hB:B≤w.heap.size:=by have:=h.base;have:=h.blk.lt;omega
 have e0:((q.length:Int)==0)=false:=by rw[beq_eq_false_iff_ne];omega
 have hlt:¬size-(C.length:Int)<q.length:=by omega
 have SZ:=LH hsz
 clear hq h hsz
 go_enter Tryz.func80,Tryz.ntmps80
 go_wp2_with (fail)
 try rw[eb]
 clear eb c2 f2
 generalize w.setCell ⟨b,2,none⟩ (.int .i64 (bump count))=w1 at h1' M1 HQ SZ⊢
 have c0:w1.cell? ⟨b,0,none⟩=some (.slice A0 C.length c0'):=h1'.blk.cell 0
 have c1:w1.cell? ⟨b,1,none⟩=some (.int .i64 size):=h1'.blk.cell 1
 have H1:=LH h1'
 clear h1'
 go_quiet (fail)
 rename_i nq
 have D1:=LH (drawn_bl (Drawn.of w1 nq) w1.heap.size)
 have h1q:=H1.out.below D1.out
 have HQ2:=LH (show IntsAt (w1.drewN nq) w.heap.size A q from HQ.out)
 have hz3:w.heap.size≤(w1.drewN nq).heap.size:=by have:=SZ.out;show w.heap.size≤w1.heap.size;omega
 clear c0 c1
 generalize w1.drewN nq=w2 at D1 h1q HQ2 hz3⊢
 have c0:w2.cell? ⟨b,0,none⟩=some (.slice A0 C.length c0'):=h1q.blk.cell 0
 have f0:=h1q.blk.frozen 0
 have H2:=LH h1q
 have hown:=h1q.own
 clear h1q
 go_wp2_with (at_builtin;refine wpList_append_any _ rfl _ _ 22 rfl B 2 i0 (.int .i64 0) 1 8 Tryz.underlying22 hi0 hz0 hz1 hz2 rfl (by decide) _ C.length (C.map (Value.int .i64)) rfl hown w.heap.size A q.length c (q.map (Value.int .i64)) rfl HQ2.out (ints_one q) ?p1 ?p2 ?p3 ?_;(case p1=>(unfold maxLen;omega));(case p2=>omega);(case p3=>omega);intro v' w3 hO' hg hvb;obtain ⟨A1,c1',rfl⟩:=own_shape hO';have HV:=LH hvb;clear hvb;have hb3:=H2.out.blk.grown hg (fun e=>H2.out.apart e.symm);have HB3:=LH hb3;have HO:=LH hO';have c3:w3.cell? ⟨b,0,none⟩=some (.slice A0 C.length c0'):=hb3.cell 0;have f3:=hb3.frozen 0;clear hb3 hO')
 go_ret2
 have hb3:=HB3.out
 have hO':=HO.out
 refine ⟨rfl, .slice A1 (C.length+q.length) c1',⟨?_, ?_,H2.out.base⟩, ?_, ?_⟩
 ·exact hb3.set_ 0 _
 ·have hap:=own_blk_ne hO' hb3 (by decide)
  have:=ownsRow_setCell_other hO' (a:=⟨b,0,none⟩) (fun e=>hap (by simpa using e)) (Value.slice A1 (C.length+q.length) c1')
  rw[List.map_append,List.length_append]
  exact this
 ·exact Mv.trans_ (M1.out.wide _) (Mv.after D1.out (Mv.of_grown hg _))
 ·rcases HV.out with e|e
  ·exact .inl e
  ·exact .inr ⟨_,e,by omega⟩
theorem Only.grow {S T:List Nat} {w w1 w2:World} (h:Only S w w1) (k:Only T w1 w2) (hT:∀x∈T,x∈S∨w.heap.size≤x):Only S w w2:=
 ⟨k.os.trans h.os,k.tape.trans h.tape,k.output.trans h.output,Nat.le_trans h.size k.size,fun i hi h1=>(k.block i (Nat.lt_of_lt_of_le hi h.size) (fun hm=>by
  rcases hT i hm with h2|h2
  ·exact h1 h2
  ·omega)).trans (h.block i hi h1)⟩
theorem own_base {w:World} {base base' n:Nat} {e:TypeId} {size:Nat} {v:Value} {xs:List Value} (h:w.ownsRow base e size v n xs) (hb:base'≤base):w.ownsRow base' e size v n xs:=by
 refine ⟨h.1, ?_⟩
 rcases h.2 with h0|⟨g,cap,cur,rfl,hg,rest⟩
 ·exact .inl h0
 ·exact .inr ⟨g,cap,cur,rfl,Nat.le_trans hb hg,rest⟩
theorem IntsAt.nil (w:World) (B:Nat):IntsAt w B none []:=Reads.none_
theorem RowsAt.at_ {w:World} {B B':Nat} {A:Option Addr} {R:List (Option Addr×Nat×List Int)} (h:RowsAt w B A R) (hb:B'=B):RowsAt w B' A R:=hb▸h
set_option maxHeartbeats 400000 in
theorem memNew_any (n:Int) (w:World) (h0:1≤n) (h1:n≤65536):
  Calls Tryz.prog 36 #[.int .i64 n] w fun e w'=>e= .returned (.tuple #[.pointer (some ⟨w.heap.size,0,none⟩), .int .i64 0])∧MemP w.heap.size w.heap.size (.slice none 0 0) [] n 0 0 0 w'∧Below w.heap.size w w':=by
 have H:Hid (MemP w.heap.size w.heap.size (.slice none 0 0) [] n 0 0 0 (w.alloc (.cells #[.slice none 0 0, .int .i64 n, .int .i64 0, .int .i64 0, .int .i64 0] 134))):=LH ⟨Blk.new w _ _,World.ownsRow_nil _ _ _ _,Nat.le_refl _⟩
 go_enter Tryz.func36,Tryz.ntmps36
 go_wp2_with (fail)
 go_ret2
 exact ⟨rfl,H.out,(Below.refl _ _).alloc (Nat.le_refl _) _⟩
section
variable (B b:Nat) (v:Value) (C:List Int) (size count odd ref:Int) (w:World) (h:MemP B b v C size count odd ref w)
set_option maxHeartbeats 400000 in
include h in
set_option maxHeartbeats 400000 in
include h in
set_option maxHeartbeats 400000 in
include h in
theorem used_any:Calls Tryz.prog 47 #[.pointer (some ⟨b,0,none⟩)] w fun e w'=>e= .returned (.int .i64 C.length)∧w=w':=by
 obtain ⟨A,c,rfl⟩:=own_shape h.own
 have c2:w.cell? ⟨b,0,none⟩=some (.slice A C.length c):=h.blk.cell 0
 clear h
 go_enter Tryz.func47,Tryz.ntmps47
 go_wp2_with (fail)
 go_ret
 exact ⟨rfl,rfl⟩
set_option maxHeartbeats 400000 in
include h in
theorem size_any:Calls Tryz.prog 98 #[.pointer (some ⟨b,0,none⟩)] w fun e w'=>e= .returned (.int .i64 size)∧w=w':=by
 have c2:w.cell? ⟨b,1,none⟩=some (.int .i64 size):=h.blk.cell 1
 clear h
 go_enter Tryz.func98,Tryz.ntmps98
 go_wp2_with (fail)
 go_ret
 exact ⟨rfl,rfl⟩
end
set_option maxRecDepth 100000 in
set_option maxHeartbeats 1000000 in
theorem innerW_any (n:Int) (Aq:Option Addr) (cq:Nat) (q:List Int) (Ac:Option Addr) (cc:Nat) (ch:List Int) (Nq Nc:Nat) (w:World) (hNq:Nq=q.length) (hNc:Nc=ch.length) (hq:IntsAt w w.heap.size Aq q) (hc:IntsAt w w.heap.size Ac ch) (hl:ch.length=q.length+1) (hq2:q.length≤100000):
  Calls Tryz.prog 88 #[.int .i64 n, .slice Aq Nq cq, .slice Ac Nc cc] w (SomeOwn ([(ch.length:Int),n,0,0,0]++q++ch) w):=by
 subst hNq hNc
 have e0:((ch.length:Int) !=(q.length:Int)+1)=false:=by rw[hl];simp
 have hl2:ch.length≤100001:=by omega
 have hsz1:(w.alloc (.cells #[.int .i64 ch.length, .int .i64 n, .int .i64 0, .int .i64 0, .int .i64 0] 2)).heap.size=w.heap.size+1:=by simp
 have hrows:RowsAt ((w.alloc (.cells #[.int .i64 ch.length, .int .i64 n, .int .i64 0, .int .i64 0, .int .i64 0] 2)).alloc (.cells #[.slice (some ⟨w.heap.size,0,none⟩) 5 5, .slice Aq q.length cq, .slice Ac ch.length cc] 22)) (w.heap.size+1+1) (some ⟨w.heap.size+1,0,none⟩) [(some ⟨w.heap.size,0,none⟩,5,[(ch.length:Int),n,0,0,0]),(Aq,cq,q),(Ac,cc,ch)]:=by
  refine ⟨⟨rfl,fun _=>⟨_,rfl,by simp,fun j u hu=> ?_⟩⟩, ?_⟩
  ·have e:(⟨w.heap.size+1,0,none⟩:Addr).add j=⟨w.heap.size+1,j,none⟩:=by unfold Addr.add;split<;>simp_all
   rw[e]
   have:=(Blk.new (w.alloc (.cells #[.int .i64 ch.length, .int .i64 n, .int .i64 0, .int .i64 0, .int .i64 0] 2)) 22 #[.slice (some ⟨w.heap.size,0,none⟩) 5 5, .slice Aq q.length cq, .slice Ac ch.length cc]).cell j
   rw[hsz1] at this
   rw[this]
   simpa[rowV] using hu
  ·intro r hr
   simp at hr
   rcases hr with rfl|rfl|rfl
   ·exact ((ints_row w 2 [(ch.length:Int),n,0,0,0]).alloc (by simp) _).more (by omega)
   ·exact ((hq.alloc (Nat.le_refl _) _).alloc (by simp) _).more (by omega)
   ·exact ((hc.alloc (Nat.le_refl _) _).alloc (by simp) _).more (by omega)
 have HR:=LH hrows
 have hB:=LH (((Below.refl w.heap.size w).alloc (Nat.le_refl _) (.cells #[.int .i64 ch.length, .int .i64 n, .int .i64 0, .int .i64 0, .int .i64 0] 2)).alloc (by simp) (.cells #[.slice (some ⟨w.heap.size,0,none⟩) 5 5, .slice Aq q.length cq, .slice Ac ch.length cc] 22))
 clear hq hc hl hsz1 hrows
 go_enter Tryz.func88,Tryz.ntmps88
 go_wp2_with (fail)
 with_reducible refine (concat_any _ _ 3 _ _ (by kernel_rfl) (HR.out.at_ (by simp)) (by simp) (by simp[flatR];omega)).mono ?_
 rintro e w1 ⟨v1,rfl,hO,hb⟩
 have hB1:=hB.out.trans (hb.mono (by simp;omega))
 have hO1:w1.ownsRow w.heap.size 2 1 v1 ([(ch.length:Int),n,0,0,0]++q++ch).length (([(ch.length:Int),n,0,0,0]++q++ch).map (Value.int .i64)):=by
  have e:flatR [(some (⟨w.heap.size,0,none⟩:Addr),5,[(ch.length:Int),n,0,0,0]),(Aq,cq,q),(Ac,cc,ch)]=[(ch.length:Int),n,0,0,0]++q++ch:=by simp[flatR]
  rw[e] at hO
  exact own_base hO (by simp;omega)
 have HO:=LH hO1
 clear hO hb hO1
 go_wp2_with (fail)
 go_ret
 exact ⟨_,rfl,HO.out,hB1⟩
set_option maxHeartbeats 400000 in
theorem emptyW_any (w:World):Calls Tryz.prog 81 #[] w fun e w'=>e= .returned (.slice (some ⟨w.heap.size,0,none⟩) 1 1)∧IntsAt w' (w.heap.size+1) (some ⟨w.heap.size,0,none⟩) [0]∧Below w.heap.size w w':=by
 have H:Hid (IntsAt (w.alloc (.cells #[.int .i64 0] 2)) (w.heap.size+1) (some ⟨w.heap.size,0,none⟩) [0]):=LH (ints_row w 2 [0])
 go_enter Tryz.func81,Tryz.ntmps81
 go_wp2_with (fail)
 go_ret
 exact ⟨rfl,H.out,(Below.refl _ _).alloc (Nat.le_refl _) _⟩
set_option maxHeartbeats 400000 in
theorem may17 (w:World):Calls Tryz.prog 144 #[.int .i64 1, .int .i64 7] w fun e w'=>e= .returned (.bool true)∧w=w':=by
 go_enter Tryz.func144,Tryz.ntmps144
 go_wp2_with (fail)
 go_ret
 exact ⟨rfl,rfl⟩
set_option maxHeartbeats 400000 in
theorem of17 (w:World):Calls Tryz.prog 82 #[.int .i64 1, .int .i64 7] w fun e w'=>e= .returned (.int .i64 57)∧w=w':=by
 go_enter Tryz.func82,Tryz.ntmps82
 go_wp2_with (fail)
 with_reducible refine (may17 _).mono ?_
 rintro e w1 ⟨rfl,rfl⟩
 go_wp2_with (fail)
 go_ret
 exact ⟨by rfl,rfl⟩
def beginL:List Int:=[1,0,0,0,0,57,0]
set_option maxRecDepth 100000 in
set_option maxHeartbeats 1000000 in
theorem begin_any (B b:Nat) (size count odd ref:Int) (w:World) (h:MemP B b (.slice none 0 0) [] size count odd ref w) (h0:7≤size) (h1:size≤65536):
  Calls Tryz.prog 37 #[.pointer (some ⟨b,0,none⟩)] w fun e w'=>e= .returned (.bool true)∧∃v',MemP B b v' beginL size (bump (bump count)) odd ref w'∧Only [b] w w'∧(∀g,v'.ownBlock=some g→w.heap.size≤g):=by
 have H:=LH h
 clear h
 go_enter Tryz.func37,Tryz.ntmps37
 go_wp2_with (fail)
 with_reducible refine (used_any B b _ [] size count odd ref _ H.out).mono ?_
 rintro e w1 ⟨rfl,rfl⟩
 go_wp2_with (fail)
 with_reducible refine (size_any B b _ [] size count odd ref _ H.out).mono ?_
 rintro e w1 ⟨rfl,rfl⟩
 go_wp2_with (fail)
 with_reducible refine (of17 _).mono ?_
 rintro e w1 ⟨rfl,rfl⟩
 have hq0:IntsAt (w.alloc (.cells #[.int .i64 57] 2)) (w.alloc (.cells #[.int .i64 57] 2)).heap.size (some ⟨w.heap.size,0,none⟩) [57]:=(ints_row w 2 [57]).more (by simp)
 have HQ:=LH hq0
 have hb1:=(Below.refl w.heap.size w).alloc (Nat.le_refl _) (.cells #[.int .i64 57] 2)
 have H1:=LH (H.out.below hb1)
 have O1:=LH (Only.of_below (S:=[b]) hb1)
 have hsz1:w.heap.size+1=(w.alloc (.cells #[.int .i64 57] 2)).heap.size:=by simp
 have Z1:=LH hsz1
 have hblt:b<w.heap.size:=H.out.blk.lt
 clear hq0 hb1 H hsz1
 go_wp2_with (fail)
 with_reducible refine (innerW_any 0 none 0 [] _ _ [57] 0 1 _ (by kernel_rfl) (by kernel_rfl) (IntsAt.nil _ _) HQ.out (by simp) (by simp)).mono ?_
 rintro e w2 ⟨v2,rfl,hO2,hb2⟩
 have H2:=LH (H1.out.below hb2)
 have O2:=LH (O1.out.trans (Only.of_below hb2))
 have Z2:=LH (show w.heap.size+1≤w2.heap.size by have:=hb2.size;rw[←Z1.out] at this;exact this)
 replace hO2:w2.ownsRow (w.alloc (.cells #[.int .i64 57] 2)).heap.size 2 1 v2 6 (([1,0,0,0,0,57]:List Int).map (Value.int .i64)):=hO2
 obtain ⟨A2,c2,rfl⟩:=own_shape hO2
 have hA2:∀ad,A2=some ad→ad.block≠b:=by
  intro ad ha
  subst ha
  have:=(hO2.lt ad.block rfl).1
  rw[←Z1.out] at this
  omega
 have HQ2:Hid (IntsAt w2 w2.heap.size A2 ([1,0,0,0,0,57]:List Int)):=LH (Reads.of_own hO2)
 clear hO2 hb2 H1 O1 HQ
 go_wp2_with (fail)
 with_reducible refine (make_ok B b _ [] size count odd ref _ H2.out (by simp;omega) h1 A2 c2 ([1,0,0,0,0,57]:List Int) 6 (by kernel_rfl) HQ2.out hA2 (by simp) (by simp;omega)).mono ?_
 rintro e w3 ⟨rfl,v3,h3,m3,o3⟩
 have h3':MemP B b v3 ([1,0,0,0,0,57]:List Int) size (bump count) odd ref w3:=h3
 have g3:∀g,v3.ownBlock=some g→w.heap.size≤g:=by
  intro g hg
  rcases o3 with e|⟨g',e,hge⟩
  ·rw[e] at hg;simp[Value.ownBlock] at hg
  ·rw[e] at hg;injection hg with hg;have:=Z2.out;omega
 have H3:=LH h3'
 have O3:=LH (O2.out.trans (Only.of_mvr (S:=[b]) m3 (by simp) (fun g hg=>by simp[Value.ownBlock] at hg)))
 have G3:=LH g3
 have Z3:=LH (show w.heap.size+1≤w3.heap.size by have:=m3.size;have:=Z2.out;omega)
 clear h3 h3' m3 o3 H2 O2 Z2 HQ2 g3 Z1
 go_wp2_with (fail)
 with_reducible refine (emptyW_any _).mono ?_
 rintro e w4 ⟨rfl,hq4,hb4⟩
 have H4:=LH (H3.out.below hb4)
 have O4:=LH (O3.out.trans (Only.of_below hb4))
 have HQ4:=LH (show IntsAt w4 w4.heap.size (some ⟨w3.heap.size,0,none⟩) [0] from hq4.more (by
  obtain ⟨ad,e,h1,h2⟩:=hq4.2 (by simp)
  injection e with e
  subst e
  have:=World.block_lt_of_cell? w4 _ (h2 0 _ rfl)
  rw[block_of_add] at this
  exact this))
 have Z4:=LH (show w3.heap.size≤w4.heap.size from hb4.size)
 have hbl:b<w3.heap.size:=H3.out.blk.lt
 clear hq4 hb4 H3 O3
 go_wp2_with (fail)
 with_reducible refine (make_ok B b v3 ([1,0,0,0,0,57]:List Int) size (bump count) odd ref _ H4.out (by simp;omega) h1 (some ⟨w3.heap.size,0,none⟩) 1 ([0]:List Int) 1 (by kernel_rfl) HQ4.out (fun ad ha=>by injection ha with ha;subst ha;show w3.heap.size≠b;omega) (by simp) (by simp;omega)).mono ?_
 rintro e w5 ⟨rfl,v5,h5,m5,o5⟩
 have h5':MemP B b v5 beginL size (bump (bump count)) odd ref w5:=h5
 have H5:=LH h5'
 have O5:=LH (O4.out.grow (Only.of_mvr (S:=b::v3.ownBlock.toList) m5 (by simp) (fun g hg=>by simp[hg])) (fun x hx=>by
  rcases List.mem_cons.1 hx with rfl|hx
  ·exact .inl (by simp)
  ·exact .inr (G3.out x (by simpa using hx))))
 have G5:∀g,v5.ownBlock=some g→w.heap.size≤g:=by
  intro g hg
  rcases o5 with e|⟨g',e,hge⟩
  ·rw[e] at hg;exact G3.out g hg
  ·rw[e] at hg;injection hg with hg;have:=Z3.out;have:=Z4.out;omega
 have HG:=LH G5
 clear h5 h5' m5 o5 G5 H4 O4 HQ4
 go_wp2_with (fail)
 go_ret
 exact ⟨rfl,v5,H5.out,O5.out,HG.out⟩
structure Chg (F:Nat→Prop) (w w':World):Prop where
 os:w'.os=w.os
 tape:w'.tape=w.tape
 output:w'.output=w.output
 size:w.heap.size≤w'.heap.size
 block:∀k,k<w.heap.size→¬F k→w'.heap[k]? =w.heap[k]?
section
variable {F G:Nat→Prop} {S:List Nat} {w w1 w':World}
theorem Chg.refl (F:Nat→Prop) (w:World):Chg F w w:=⟨rfl,rfl,rfl,Nat.le_refl _,fun _ _ _=>rfl⟩
theorem Chg.trans (h:Chg F w w1) (k:Chg F w1 w'):Chg F w w':=
 ⟨k.os.trans h.os,k.tape.trans h.tape,k.output.trans h.output,Nat.le_trans h.size k.size,fun i hi h1=>(k.block i (Nat.lt_of_lt_of_le hi h.size) h1).trans (h.block i hi h1)⟩
theorem Chg.grow (h:Chg F w w1) (k:Chg G w1 w') (hG:∀x,G x→F x∨w.heap.size≤x):Chg F w w':=
 ⟨k.os.trans h.os,k.tape.trans h.tape,k.output.trans h.output,Nat.le_trans h.size k.size,fun i hi h1=>(k.block i (Nat.lt_of_lt_of_le hi h.size) (fun hg=>by
  rcases hG i hg with h2|h2
  ·exact h1 h2
  ·omega)).trans (h.block i hi h1)⟩
theorem Chg.mono (h:Chg F w w') (hs:∀x,F x→G x):Chg G w w':=⟨h.os,h.tape,h.output,h.size,fun k hk hn=>h.block k hk (fun hm=>hn (hs k hm))⟩
theorem Chg.of_below (h:Below w.heap.size w w'):Chg F w w':=⟨h.os,h.tape,h.output,h.size,fun k hk _=>h.block k hk⟩
theorem Chg.of_only (h:Only S w w') (hs:∀x∈S,F x):Chg F w w':=⟨h.os,h.tape,h.output,h.size,fun k hk hn=>h.block k hk (fun hm=>hn (hs k hm))⟩
theorem Chg.of_mv {b:Nat} (h:Mv b none w w') (hb:F b):Chg F w w':=Chg.of_only (Only.of_mv (S:=[b]) h (by simp)) (by simpa using hb)
theorem Chg.below {B:Nat} (h:Chg F w w') (hS:∀x,F x→B≤x) (hB:B≤w.heap.size):Below B w w':=⟨h.os,h.tape,h.output,h.size,fun k hk=>h.block k (by omega) (fun hm=>by have:=hS k hm;omega)⟩
theorem Chg.blk (h:Chg F w w') {g:Nat} {t:TypeId} {cs:Array Value} (hg:Blk w g t cs) (hn:¬F g):Blk w' g t cs:=(h.block g hg.lt hn).trans hg
theorem Chg.own (h:Chg F w w') {base n:Nat} {e:TypeId} {size:Nat} {v:Value} {xs:List Value} (hO:w.ownsRow base e size v n xs) (hn:∀g,v.ownBlock=some g→¬F g):w'.ownsRow base e size v n xs:=by
 refine ⟨hO.1, ?_⟩
 rcases hO.2 with h0|⟨g,cap,cur,rfl,hb,hgg,rest⟩
 ·exact .inl h0
 ·refine .inr ⟨g,cap,cur,rfl,hb, ?_,rest⟩
  rw[h.block g (Array.getElem?_eq_some_iff.1 hgg).1 (hn g rfl)]
  exact hgg
theorem MemP.chg {B b:Nat} {v:Value} {C:List Int} {size count odd ref:Int} (h:MemP B b v C size count odd ref w) (m:Chg F w w') (h1:¬F b) (h2:∀g,v.ownBlock=some g→¬F g):MemP B b v C size count odd ref w':=
 ⟨m.blk h.blk h1,m.own h.own h2,h.base⟩
theorem own_blk_not {base:Nat} {e t:TypeId} {size n g:Nat} {v:Value} {xs:List Value} {cs:Array Value} (h:w.ownsRow base e size v n xs) (hg:Blk w g t cs) (hne:e≠t):∀x,v.ownBlock=some x→x≠g:=fun x hx e=>own_blk_ne h hg hne (by rw[hx,e])
end
theorem belowDrew {w w1:World} (hb:Below w.drew.heap.size w.drew w1):Below w.heap.size w w1:=⟨hb.os,hb.tape,hb.output,hb.size,hb.block⟩
theorem own_lt {w:World} {base n:Nat} {e:TypeId} {size:Nat} {v:Value} {xs:List Value} (h:w.ownsRow base e size v n xs):∀g,v.ownBlock=some g→g<w.heap.size:=fun g hg=>(h.lt g hg).2
theorem Chg.of_grown {w w':World} {r:Option Nat} (h:w.grownBy w' r):Chg (fun x=>r=some x) w w':=⟨h.os,h.tape,h.output,h.size,fun k hk hn=>h.block k hk (fun e=>hn e.symm)⟩
def pval (L:List (Int×Int)) (i:Nat):Int:=(L.getD i (0,0)).2
theorem cellsP_val:∀{L:List (Int×Int)} {i:Nat},i<L.length→(cellsP L)[i*2+1]? =some (.int .i64 (pval L i))
 |[],i,h=>absurd h (by simp)
 |p::L,0,h=>by simp[cellsP,pval]
 |p::L,i+1,h=>by
  have:=cellsP_val (L:=L) (i:=i) (by simpa using h)
  have e:(i+1)*2+1=i*2+1+1+1:=by omega
  rw[e]
  simp[cellsP,pval] at this⊢
  exact this
theorem PairsAt.nil (w:World) (B:Nat):PairsAt w B none []:=Reads.none_
theorem bd_of {L:List Int} (h:∀x∈L,-9223372036854775808≤x∧x≤9223372036854775807):∀i,i<L.length→-9223372036854775808≤keyAt L i∧keyAt L i≤9223372036854775807:=fun i hi=>h _ (by
 unfold keyAt
 rw[List.getD_eq_getElem?_getD,List.getElem?_eq_getElem hi]
 exact List.getElem_mem _)
theorem info_spot:(Tryz.prog.info? 114).map (fun i=>(i.zero,i.size,i.bytes))=some (some (.agg #[.int .i64 0, .int .i64 0]),2,16):=by kernel_rfl
def PeekO (F:Nat→Prop) (pv:Value) (o:Option PS) (w:World):Prop:=match o with
 |none=>pv= .pointer none
 |some p=>∃pb,pv= .pointer (some ⟨pb,0,none⟩)∧F pb∧PeekP pb p w
section
variable {F G:Nat→Prop} {o:Option PS} {pv:Value} {w w':World}
theorem PeekO.mono (h:PeekO F pv o w) (hs:∀x,F x→G x):PeekO G pv o w:=by
 cases o with
 |none=>exact h
 |some p=>obtain ⟨pb,h1,h2,h3⟩:=h;exact ⟨pb,h1,hs _ h2,h3⟩
theorem PeekO.chg (h:PeekO F pv o w) (m:Chg G w w') (hd:∀x,F x→G x→False):PeekO F pv o w':=by
 cases o with
 |none=>exact h
 |some p=>obtain ⟨pb,h1,h2,h3⟩:=h;exact ⟨pb,h1,h2,m.blk h3 (fun hg=>hd _ h2 hg)⟩
end
def RouteO (F:Nat→Prop) (rv:Value) (r:RS) (w:World):Prop:=∃rb,rv= .pointer (some ⟨rb,0,none⟩)∧F rb∧RouteP rb r w
structure SeekQ (F:Nat→Prop) (b:Nat) (s:SS) (rv pv:Value) (w:World):Prop where
 fb:F b
 blk:Blk w b 162 #[.int .i64 s.next, .int .i64 s.k, .int .i64 s.n,rv,pv, .int .i64 s.at_, .int .i64 s.value, .bool s.there]
 route:RouteO F rv s.route w
 peek:PeekO F pv s.peek w
def SeekP (F:Nat→Prop) (b:Nat) (s:SS) (w:World):Prop:=∃rv pv,SeekQ F b s rv pv w
section
variable {F G:Nat→Prop} {b:Nat} {s:SS} {rv pv:Value} {r:RS} {o:Option PS} {w w':World}
theorem RouteO.mono (h:RouteO F rv r w) (hs:∀x,F x→G x):RouteO G rv r w:=by
 obtain ⟨rb,h1,h2,h3⟩:=h;exact ⟨rb,h1,hs _ h2,h3⟩
theorem RouteO.chg (h:RouteO F rv r w) (m:Chg G w w') (hd:∀x,F x→G x→False):RouteO F rv r w':=by
 obtain ⟨rb,h1,h2,h3⟩:=h;exact ⟨rb,h1,h2,m.blk h3 (fun hg=>hd _ h2 hg)⟩
theorem RouteO.within (h:RouteO F rv r w):RouteO (fun x=>F x∧x<w.heap.size) rv r w:=by
 obtain ⟨rb,h1,h2,h3⟩:=h;exact ⟨rb,h1,⟨h2,h3.blk.lt⟩,h3⟩
theorem RouteO.keep (h:RouteO F rv r w) (m:Chg G w w') (hG:∀x,G x→∃t cs,Blk w x t cs∧t≠136):RouteO F rv r w':=by
 obtain ⟨rb,h1,h2,h3⟩:=h
 exact ⟨rb,h1,h2,m.blk h3 (fun hg=>by obtain ⟨t,cs,hb,ht⟩:=hG _ hg;exact hb.ne_ h3.blk ht rfl)⟩
theorem PeekO.keep (h:PeekO F pv o w) (m:Chg G w w') (hG:∀x,G x→∃t cs,Blk w x t cs∧t≠221):PeekO F pv o w':=by
 cases o with
 |none=>exact h
 |some p=>
  obtain ⟨rb,h1,h2,h3⟩:=h
  exact ⟨rb,h1,h2,m.blk h3 (fun hg=>by obtain ⟨t,cs,hb,ht⟩:=hG _ hg;exact hb.ne_ h3.blk ht rfl)⟩
theorem SeekP.mono (h:SeekP F b s w) (hs:∀x,F x→G x):SeekP G b s w:=by
 obtain ⟨rv,pv,h⟩:=h
 exact ⟨rv,pv,hs _ h.fb,h.blk,h.route.mono hs,h.peek.mono hs⟩
theorem SeekP.chg (h:SeekP F b s w) (m:Chg G w w') (hd:∀x,F x→G x→False):SeekP F b s w':=by
 obtain ⟨rv,pv,h⟩:=h
 exact ⟨rv,pv,h.fb,m.blk h.blk (fun hg=>hd _ h.fb hg),h.route.chg m hd,h.peek.chg m hd⟩
theorem SeekP.below (h:SeekP F b s w) (hb:Below w.heap.size w w'):SeekP F b s w':=h.chg (G:=fun _=>False) (Chg.of_below hb) (fun _ _ hg=>hg)
theorem SeekP.within (h:SeekP F b s w):SeekP (fun x=>F x∧x<w.heap.size) b s w:=by
 obtain ⟨rv,pv,h⟩:=h
 refine ⟨rv,pv,⟨h.fb,h.blk.lt⟩,h.blk,h.route.within, ?_⟩
 have hp:=h.peek
 generalize s.peek=o at hp
 cases o with
 |none=>exact hp
 |some p=>obtain ⟨pb,h1,h2,h3⟩:=hp;exact ⟨pb,h1,⟨h2,h3.blk.lt⟩,h3⟩
end
section
variable (F:Nat→Prop) (b:Nat) (s:SS) (w:World) (h:SeekP F b s w)
include h
set_option maxHeartbeats 400000 in
theorem doneS_any:Calls Tryz.prog 54 #[.pointer (some ⟨b,0,none⟩)] w fun e w'=>e= .returned (.bool (s.next==5))∧w=w':=by
 obtain ⟨rv,pv,h⟩:=h
 have c0:w.cell? ⟨b,0,none⟩=some (.int .i64 s.next):=h.blk.cell 0
 clear h
 go_enter Tryz.func54,Tryz.ntmps54
 go_wp2_with (fail)
 go_ret
 exact ⟨rfl,rfl⟩
set_option maxHeartbeats 400000 in
theorem valueS_any:Calls Tryz.prog 55 #[.pointer (some ⟨b,0,none⟩)] w fun e w'=>e= .returned (.tuple #[.int .i64 s.value, .bool s.there])∧Drawn w w':=by
 obtain ⟨rv,pv,h⟩:=h
 have c6:w.cell? ⟨b,6,none⟩=some (.int .i64 s.value):=h.blk.cell 6
 have c7:w.cell? ⟨b,7,none⟩=some (.bool s.there):=h.blk.cell 7
 clear h
 go_enter Tryz.func55,Tryz.ntmps55
 go_wp2_with (fail)
 go_quiet (fail)
 go_wp2_with (fail)
 go_ret2
 exact ⟨rfl,Drawn.of _ _⟩
end
set_option maxHeartbeats 1000000 in
theorem enterS_any (b:Nat) (next k n0 at_ value:Int) (there:Bool) (rv pv:Value) (n:Int) (w:World) (h:Blk w b 162 #[.int .i64 next, .int .i64 k, .int .i64 n0,rv,pv, .int .i64 at_, .int .i64 value, .bool there]) (hrv:∃a,rv= .pointer a):
  Calls Tryz.prog 111 #[.pointer (some ⟨b,0,none⟩), .int .i64 n] w fun e w'=>e= .returned (.tuple #[])∧Blk w' b 162 #[.int .i64 0, .int .i64 k, .int .i64 n, .pointer (some ⟨w.heap.size,0,none⟩),pv, .int .i64 at_, .int .i64 value, .bool there]∧RouteP w.heap.size (RS.init n k) w'∧Chg (fun x=>x=b) w w':=by
 obtain ⟨ra,rfl⟩:=hrv
 have c1:w.cell? ⟨b,1,none⟩=some (.int .i64 k):=h.cell 1
 have H:=LH h
 clear h
 go_enter Tryz.func111,Tryz.ntmps111
 go_wp2_with (fail)
 with_reducible refine (newR_any n k _).mono ?_
 rintro e w1 ⟨rfl,hr,hb⟩
 have hB:=H.out.below hb H.out.lt
 have c0:w1.cell? ⟨b,0,none⟩=some (.int .i64 next):=hB.cell 0
 have c2:w1.cell? ⟨b,2,none⟩=some (.int .i64 n0):=hB.cell 2
 have c3:w1.cell? ⟨b,3,none⟩=some (.pointer ra):=hB.cell 3
 have f0:=hB.frozen 0
 have f2:=hB.frozen 2
 have f3:=hB.frozen 3
 have hne:b≠w.heap.size:=by have:=H.out.lt;omega
 have HR:=LH (show RouteP w.heap.size (RS.init n k) (((w1.setCell ⟨b,0,none⟩ (.int .i64 0)).setCell ⟨b,2,none⟩ (.int .i64 n)).setCell ⟨b,3,none⟩ (.pointer (some ⟨w.heap.size,0,none⟩))) from ((hr.blk.far (p:=⟨b,0,none⟩) (by simpa using fun e=>hne e.symm) _).far (p:=⟨b,2,none⟩) (by simpa using fun e=>hne e.symm) _).far (p:=⟨b,3,none⟩) (by simpa using fun e=>hne e.symm) _)
 have HB2:=LH (((hB.set_ 0 (.int .i64 0)).set_ 2 (.int .i64 n)).set_ 3 (.pointer (some ⟨w.heap.size,0,none⟩)))
 have HO:=LH ((Chg.of_below (F:=fun x=>x=b) hb).trans (Chg.of_mv (F:=fun x=>x=b) (((Mv.set1 w1 b 0 (.int .i64 0)).trans_ (Mv.set1 _ b 2 (.int .i64 n))).trans_ (Mv.set1 _ b 3 (.pointer (some ⟨w.heap.size,0,none⟩)))) rfl))
 clear hr hb hB H c1 hne
 go_wp2_with (fail)
 go_end0
 exact ⟨rfl,HB2.out,HR.out,HO.out⟩
def NewSPost (k:Int) (w:World) (e:Ending) (w':World):Prop:=e= .returned (.pointer (some ⟨w.heap.size,0,none⟩))∧SeekP (fun x=>w.heap.size≤x) w.heap.size (SS.init k) w'∧Below w.heap.size w w'
set_option maxHeartbeats 400000 in
theorem newS_any (k:Int) (w:World):Calls Tryz.prog 49 #[.int .i64 k] w (NewSPost k w):=by
 have h0:=Blk.new w 162 #[.int .i64 0, .int .i64 k, .int .i64 0, .pointer none, .pointer none, .int .i64 0, .int .i64 0, .bool false]
 have hb0:=(Below.refl w.heap.size w).alloc (Nat.le_refl _) (.cells #[.int .i64 0, .int .i64 k, .int .i64 0, .pointer none, .pointer none, .int .i64 0, .int .i64 0, .bool false] 162)
 have hz0:(w.alloc (.cells #[.int .i64 0, .int .i64 k, .int .i64 0, .pointer none, .pointer none, .int .i64 0, .int .i64 0, .bool false] 162)).heap.size=w.heap.size+1:=by simp
 have H0:=LH h0
 have HB0:=LH hb0
 have HZ:=LH hz0
 clear h0 hb0 hz0
 go_enter Tryz.func49,Tryz.ntmps49
 go_wp2_with (fail)
 generalize w.alloc (.cells #[.int .i64 0, .int .i64 k, .int .i64 0, .pointer none, .pointer none, .int .i64 0, .int .i64 0, .bool false] 162)=w1 at H0 HB0 HZ⊢
 with_reducible refine (enterS_any w.heap.size 0 k 0 0 0 false (.pointer none) (.pointer none) 1 _ H0.out ⟨_,rfl⟩).mono ?_
 rintro e w2 ⟨rfl,hb,hr,ho⟩
 have HS:Hid (SeekP (fun x=>w.heap.size≤x) w.heap.size (SS.init k) w2):=LH ⟨_,_,Nat.le_refl _,hb,⟨_,rfl,by rw[HZ.out];omega,hr⟩,rfl⟩
 have HB:=LH (HB0.out.trans (ho.below (B:=w.heap.size) (fun x hx=>by omega) (by rw[HZ.out];omega)))
 clear hb hr ho
 go_wp2_with (fail)
 go_ret
 exact ⟨rfl,HS.out,HB.out⟩
set_option maxHeartbeats 1000000 in
theorem meetS_any (F:Nat→Prop) (b:Nat) (s:SS) (x:Int) (w:World) (h:SeekP F b s w) (x0:-9223372036854775808≤x) (x1:x≤9223372036854775807):
  Calls Tryz.prog 119 #[.pointer (some ⟨b,0,none⟩), .int .i64 x] w fun e w'=>e= .returned (.tuple #[])∧SeekP (fun y=>F y∨w.heap.size≤y) b (s.meet x) w'∧Chg (fun y=>y=b) w w':=by
 obtain ⟨rv,pv,h⟩:=h
 obtain ⟨rb,rfl,hFr,hr⟩:=h.route
 have c0:w.cell? ⟨b,0,none⟩=some (.int .i64 s.next):=h.blk.cell 0
 have c5:w.cell? ⟨b,5,none⟩=some (.int .i64 s.at_):=h.blk.cell 5
 have f0:=h.blk.frozen 0
 have f5:=h.blk.frozen 5
 have o5:=Chg.of_mv (F:=fun y=>y=b) (Mv.set1 w b 5 (.int .i64 (wAt x))) rfl
 have h5:SeekQ F b {s with at_:=wAt x} (.pointer (some ⟨rb,0,none⟩)) pv (w.setCell ⟨b,5,none⟩ (.int .i64 (wAt x))):=⟨h.fb,h.blk.set_ 5 _,h.route.keep o5 (fun y hy=>by subst hy;exact ⟨_,_,h.blk,by decide⟩),h.peek.keep o5 (fun y hy=>by subst hy;exact ⟨_,_,h.blk,by decide⟩)⟩
 have hz5:(w.setCell ⟨b,5,none⟩ (.int .i64 (wAt x))).heap.size=w.heap.size:=by simp
 have H5:=LH h5
 have O5:=LH o5
 have HZ:=LH hz5
 clear o5 h5 hz5 hr h
 have fin:∀n:Int,SeekP (fun y=>F y∨w.heap.size≤y) b {s with at_:=wAt x,next:=n} ((w.setCell ⟨b,5,none⟩ (.int .i64 (wAt x))).setCell ⟨b,0,none⟩ (.int .i64 n))∧Chg (fun y=>y=b) w ((w.setCell ⟨b,5,none⟩ (.int .i64 (wAt x))).setCell ⟨b,0,none⟩ (.int .i64 n)):=fun n=>by
  have o:=Chg.of_mv (F:=fun y=>y=b) (Mv.set1 (w.setCell ⟨b,5,none⟩ (.int .i64 (wAt x))) b 0 (.int .i64 n)) rfl
  exact ⟨⟨_,_, .inl H5.out.fb,H5.out.blk.set_ 0 _,(H5.out.route.keep o (fun y hy=>by subst hy;exact ⟨_,_,H5.out.blk,by decide⟩)).mono (fun _=> .inl),(H5.out.peek.keep o (fun y hy=>by subst hy;exact ⟨_,_,H5.out.blk,by decide⟩)).mono (fun _=> .inl)⟩,O5.out.trans o⟩
 have FIN:=LH fin
 clear fin
 by_cases k2:wKind x=2
 ·have HM:=LH (show s.meet x={s with at_:=wAt x,next:=2} from if_pos k2)
  have e2:(wKind x==2)=true:=by simpa using k2
  clear k2
  go_enter Tryz.func119,Tryz.ntmps119
  go_wp2_with (fail)
  with_reducible refine (refAt_any x _ x0 x1).mono ?_
  rintro e w1 ⟨rfl,rfl⟩
  go_wp2_with (fail)
  with_reducible refine (kind_any x _ x0 x1).mono ?_
  rintro e w1 ⟨rfl,rfl⟩
  go_wp2_with (fail)
  go_end0
  rw[HM.out]
  exact ⟨rfl,FIN.out 2⟩
 ·have e2:(wKind x==2)=false:=by simpa using k2
  by_cases k3:wKind x=3
  ·have HM:=LH (show s.meet x=SS.enter {s with at_:=wAt x} (wAt x) by unfold SS.meet;rw[if_neg k2,if_pos k3])
   have e3:(wKind x==3)=true:=by simpa using k3
   clear k2 k3
   go_enter Tryz.func119,Tryz.ntmps119
   go_wp2_with (fail)
   with_reducible refine (refAt_any x _ x0 x1).mono ?_
   rintro e w1 ⟨rfl,rfl⟩
   go_wp2_with (fail)
   with_reducible refine (kind_any x _ x0 x1).mono ?_
   rintro e w1 ⟨rfl,rfl⟩
   go_wp2_with (fail)
   with_reducible refine (enterS_any b _ _ _ _ _ _ _ _ (wAt x) _ H5.out.blk ⟨_,rfl⟩).mono ?_
   rintro e w2 ⟨rfl,hb,hr,ho⟩
   have HX:Hid (SeekP (fun y=>F y∨w.heap.size≤y) b (SS.enter {s with at_:=wAt x} (wAt x)) w2):=LH ⟨_,_, .inl H5.out.fb,hb,⟨_,rfl, .inr (by rw[HZ.out];omega),hr⟩,(H5.out.peek.keep ho (fun y hy=>by subst hy;exact ⟨_,_,H5.out.blk,by decide⟩)).mono (fun _=> .inl)⟩
   have HO:=LH (O5.out.trans ho)
   clear hb hr ho
   go_wp2_with (fail)
   go_end0
   rw[HM.out]
   exact ⟨rfl,HX.out,HO.out⟩
  ·have e3:(wKind x==3)=false:=by simpa using k3
   by_cases k4:wKind x=4
   ·have HM:=LH (show s.meet x={s with at_:=wAt x,next:=4} by unfold SS.meet;rw[if_neg k2,if_neg k3,if_pos k4])
    have e4:(wKind x==4)=true:=by simpa using k4
    clear k2 k3 k4
    go_enter Tryz.func119,Tryz.ntmps119
    go_wp2_with (fail)
    with_reducible refine (refAt_any x _ x0 x1).mono ?_
    rintro e w1 ⟨rfl,rfl⟩
    go_wp2_with (fail)
    with_reducible refine (kind_any x _ x0 x1).mono ?_
    rintro e w1 ⟨rfl,rfl⟩
    go_wp2_with (fail)
    go_end0
    rw[HM.out]
    exact ⟨rfl,FIN.out 4⟩
   ·have HM:=LH (show s.meet x={s with at_:=wAt x,next:=5} by unfold SS.meet;rw[if_neg k2,if_neg k3,if_neg k4])
    have e4:(wKind x==4)=false:=by simpa using k4
    clear k2 k3 k4
    go_enter Tryz.func119,Tryz.ntmps119
    go_wp2_with (fail)
    with_reducible refine (refAt_any x _ x0 x1).mono ?_
    rintro e w1 ⟨rfl,rfl⟩
    go_wp2_with (fail)
    with_reducible refine (kind_any x _ x0 x1).mono ?_
    rintro e w1 ⟨rfl,rfl⟩
    go_wp2_with (fail)
    go_end0
    rw[HM.out]
    exact ⟨rfl,FIN.out 5⟩
def wrC (C:List Int) (a x:Int):List Int:=if 1≤a∧a≤C.length then C.set (a.toNat-1) x else C
theorem wrC_len (C:List Int) (a x:Int):(wrC C a x).length=C.length:=by unfold wrC;split<;>simp
set_option maxHeartbeats 1000000 in
theorem write_any (B b:Nat) (v:Value) (C:List Int) (size count odd ref a x:Int) (w:World) (h:MemP B b v C size count odd ref w) (hC:C.length≤1000000) (a0:-9223372036854775808≤a) (a1:a≤9223372036854775807):
  Calls Tryz.prog 40 #[.pointer (some ⟨b,0,none⟩), .int .i64 a, .int .i64 x] w fun e w'=>e= .returned (.tuple #[])∧MemP B b v (wrC C a x) size (bump count) (if 1≤a∧a≤C.length then odd else bump odd) ref w'∧Mv b v.ownBlock w w':=by
 by_cases ha:1≤a∧a≤C.length
 ·obtain ⟨k,rfl⟩:∃k:Nat,a=k:=⟨a.toNat,by omega⟩
  have HR:=LH (show wrC C k x=C.set (k-1) x from if_pos ha)
  rw[if_pos ha]
  have HH:=LH h
  obtain ⟨k1,k2⟩:=ha
  clear h
  go_enter Tryz.func40,Tryz.ntmps40
  go_wp2_with (fail)
  with_reducible refine (cell_in B b v C size count odd ref k w HH.out hC (by omega) (by omega)).mono ?_
  rintro e w1 ⟨g,rfl,hv,h1,m1⟩
  obtain ⟨g',c,rfl,_,_⟩:=h1.own.form (by omega)
  have hg:g'=g:=by simpa[Value.ownBlock] using hv
  subst hg
  have hx:w1.cell? ⟨g',k-1,none⟩=some (.int .i64 (keyAt C (k-1))):=by
   rw[h1.own.cellAt (k-1) (by simp;omega)]
   rw[List.getElem?_map,List.getElem?_eq_getElem (by omega)]
   simp[keyAt,List.getD_eq_getElem?_getD,List.getElem?_eq_getElem (show k-1<C.length by omega)]
  have hf:=h1.own.frozenAt (k-1)
  obtain ⟨hs,hs2⟩:=h1.own.stored (k-1) (.int .i64 x)
  have hne:b≠g':=fun e=>h1.apart (by simp[Value.ownBlock,e])
  have HM:Hid (MemP B b (.slice (some ⟨g',0,none⟩) C.length c) (C.set (k-1) x) size (bump count) odd ref (w1.setCell ⟨g',k-1,none⟩ (.int .i64 x))):=LH ⟨h1.blk.far (p:=⟨g',k-1,none⟩) hne _,(by rw[List.length_set,List.map_set];exact hs),h1.base⟩
  have HV:Hid (Mv b (some g') w (w1.setCell ⟨g',k-1,none⟩ (.int .i64 x))):=LH ((m1.wide _).trans_ ⟨rfl,rfl,rfl,by simp,fun i _ _ hi=>Below.heap_setCell w1 _ _ i (fun e=>hi (by simpa using e))⟩)
  clear h1 m1 hv hs hs2 hne
  go_wp2_with (fail)
  go_end0
  rw[HR.out]
  exact ⟨rfl,HM.out,HV.out⟩
 ·have HR:=LH (show wrC C a x=C from if_neg ha)
  rw[if_neg ha]
  have HH:=LH h
  clear h
  go_enter Tryz.func40,Tryz.ntmps40
  go_wp2_with (fail)
  with_reducible refine (cell_out B b v C size count odd ref a w HH.out hC a0 a1 (by omega)).mono ?_
  rintro e w1 ⟨rfl,h1,m1⟩
  have H1:=LH h1
  have M1:=LH (m1.wide v.ownBlock)
  clear h1 m1 ha
  go_wp2_with (fail)
  go_end0
  rw[HR.out]
  exact ⟨rfl,H1.out,M1.out⟩
set_option maxHeartbeats 1000000 in
theorem memAt_any (B b:Nat) (v:Value) (C:List Int) (size count odd ref a:Int) (w:World) (h:MemP B b v C size count odd ref w) (hC:C.length≤1000000) (a0:-9223372036854775808≤a) (a1:a≤9223372036854775807):
  Calls Tryz.prog 79 #[.pointer (some ⟨b,0,none⟩), .int .i64 a] w fun e w'=>e= .returned (.int .i64 (rdC C a))∧w=w':=by
 by_cases h1:a<1
 ·have HR:=LH (rdC_out (C:=C) (a:=a) (.inl h1))
  clear h
  go_enter Tryz.func79,Tryz.ntmps79
  go_wp2_with (fail)
  go_ret
  rw[HR.out]
  exact ⟨rfl,rfl⟩
 ·obtain ⟨A,c,rfl⟩:=own_shape h.own
  have c0:w.cell? ⟨b,0,none⟩=some (.slice A C.length c):=h.blk.cell 0
  by_cases h2:(C.length:Int)<a
  ·have HR:=LH (rdC_out (C:=C) (a:=a) (.inr h2))
   clear h
   go_enter Tryz.func79,Tryz.ntmps79
   go_wp2_with (fail)
   go_ret
   rw[HR.out]
   exact ⟨rfl,rfl⟩
  ·obtain ⟨k,rfl⟩:∃k:Nat,a=(k:Int)+1:=⟨(a-1).toNat,by omega⟩
   have HR:=LH (show rdC C ((k:Int)+1)=keyAt C k from rdC_in (C:=C) (a:=k+1) (by omega) (by omega))
   obtain ⟨ad,rfl,_,hc⟩:=(IntsAt.of_own h.own).2.cells (by omega)
   have hx:=hc k (by omega)
   have e1:(k:Int)+1-1=k:=by omega
   have hk1:(k:Int)<C.length:=by omega
   have hk2:k<C.length:=by omega
   clear h hc
   generalize keyAt C k=x at hx HR
   go_enter Tryz.func79,Tryz.ntmps79
   go_wp2_with (fail)
   go_ret
   rw[HR.out]
   exact ⟨rfl,rfl⟩
theorem own_blk {w:World} {base n:Nat} {e:TypeId} {size:Nat} {v:Value} {xs:List Value} (h:w.ownsRow base e size v n xs) {g:Nat} (hg:v.ownBlock=some g):∃cs,Blk w g e cs:=by
 rcases h.2 with ⟨rfl,_⟩|⟨g',cap,cur,rfl,_,hh,_⟩
 ·simp[Value.ownBlock] at hg
 ·have:g'=g:=by simpa[Value.ownBlock] using hg
  subst this
  exact ⟨_,hh⟩
def PrP (F:Nat→Prop) (T:TypeId) (v:Value) (L:List (Int×Int)) (w:World):Prop:=w.ownsRow 0 T 2 v L.length (cellsP L)∧∀g,v.ownBlock=some g→F g
section
variable {F G:Nat→Prop} {b:Nat} {s:WS} {rv pv lv prv sv v:Value} {T:TypeId} {L:List (Int×Int)} {Ls:List (Int×Int×Int)} {w w':World}
theorem PrP.mono (h:PrP F T v L w) (hs:∀x,F x→G x):PrP G T v L w:=⟨h.1,fun g hg=>hs g (h.2 g hg)⟩
theorem PrP.chg (h:PrP F T v L w) (m:Chg G w w') (hd:∀x,F x→G x→False):PrP F T v L w':=⟨m.own h.1 (fun g hg hG=>hd g (h.2 g hg) hG),h.2⟩
theorem PrP.keep (h:PrP F T v L w) (m:Chg G w w') (hG:∀x,G x→∃t cs,Blk w x t cs∧t≠T):PrP F T v L w':=⟨m.own h.1 (fun g hg hG'=>by
 obtain ⟨t,cs,hb,ht⟩:=hG g hG'
 obtain ⟨cs',hb'⟩:=own_blk h.1 hg
 exact hb.ne_ hb' ht rfl),h.2⟩
theorem PrP.within (h:PrP F T v L w):PrP (fun x=>F x∧x<w.heap.size) T v L w:=⟨h.1,fun g hg=>⟨h.2 g hg,own_lt h.1 g hg⟩⟩
end
theorem stepR2_any (b bm:Nat) (s:RS) (B:Nat) (v:Value) (C:List Int) (size count odd ref:Int) (w:World) (h:RouteP b s w) (hm:MemP B bm v C size count odd ref w) (hI:s.Inv) (hC:C.length≤1000000) (hw:∀i,i<C.length→-9223372036854775808≤keyAt C i∧keyAt C i≤9223372036854775807):
  Calls Tryz.prog 30 #[.pointer (some ⟨b,0,none⟩), .pointer (some ⟨bm,0,none⟩)] w fun e w'=>e= .returned (.bool ((s.step (rdC C)).next==6))∧RouteP b (s.step (rdC C)) w'∧MemP B bm v C size (cntO s.acc count) (oddO C s.acc odd) ref w'∧Only [b,bm] w w':=
 (stepR_any b bm s B v C size count odd ref w h hm hI hC hw).mono fun e w' ⟨h1,h2,h3,h4⟩=>⟨h1,h2,by
  unfold RS.acc
  by_cases h6:s.next=6
  ·rw[if_pos h6];rw[if_pos h6,if_pos (.inl h6)] at h3;exact h3
  ·rw[if_neg h6]
   rw[if_neg h6] at h3
   have e:(s.next=6∨(1≤s.addr∧s.addr≤C.length))↔(1≤s.addr∧s.addr≤C.length):=⟨fun h=>h.resolve_left h6, .inr⟩
   simp only[e] at h3
   exact h3,h4⟩
def SPost (F:Nat→Prop) (b bm:Nat) (s:SS) (B:Nat) (v:Value) (C:List Int) (size count odd ref:Int) (w:World) (e:Ending) (w':World):Prop:=
 e= .returned (.bool ((s.step (rdC C)).next==5))∧SeekP (fun x=>F x∨w.heap.size≤x) b (s.step (rdC C)) w'∧MemP B bm v C size (cntO s.acc count) (oddO C s.acc odd) ref w'∧Chg (fun x=>F x∨x=bm) w w'
theorem SeekQ.mem {F:Nat→Prop} {b bm:Nat} {s:SS} {B:Nat} {v:Value} {C:List Int} {size count odd ref:Int} {rv pv:Value} {w w1:World} (hm:MemP B bm v C size count odd ref w) (hq:SeekQ F b s rv pv w) (m:Mv bm none w w1):SeekQ F b s rv pv w1:=by
 have k:=Chg.of_mv (F:=fun y=>y=bm) m rfl
 exact ⟨hq.fb,k.blk hq.blk (fun e=>hq.blk.ne_ hm.blk (by decide) e),hq.route.keep k (fun y hy=>by subst hy;exact ⟨_,_,hm.blk,by decide⟩),hq.peek.keep k (fun y hy=>by subst hy;exact ⟨_,_,hm.blk,by decide⟩)⟩
set_option maxRecDepth 100000 in
set_option maxHeartbeats 1000000 in
theorem stepS5_any (F:Nat→Prop) (b bm:Nat) (s:SS) (B:Nat) (v:Value) (C:List Int) (size count odd ref:Int) (w:World) (h:SeekP F b s w) (hm:MemP B bm v C size count odd ref w) (hn:s.next=5):Calls Tryz.prog 53 #[.pointer (some ⟨b,0,none⟩), .pointer (some ⟨bm,0,none⟩)] w (SPost F b bm s B v C size count odd ref w):=by
 have hs:=LH (SS.step5 (R:=rdC C) hn)
 have ha:=LH (SS.acc5 hn)
 have HH:=LH h
 obtain ⟨rv,pv,h⟩:=h
 have c0:w.cell? ⟨b,0,none⟩=some (.int .i64 5):=by rw[←hn];exact h.blk.cell 0
 have HM:=LH hm
 clear hm
 clear h hn
 go_enter Tryz.func53,Tryz.ntmps53
 go_wp2_with (fail)
 with_reducible refine (doneS_any _ _ _ _ HH.out).mono ?_
 rintro e w2 ⟨rfl,rfl⟩
 go_wp2_with (fail)
 go_ret
 unfold SPost
 rw[hs.out,ha.out]
 exact ⟨rfl,HH.out.mono (fun _=> .inl),HM.out,Chg.refl _ _⟩
section
variable (F:Nat→Prop) (b bm:Nat) (s:SS) (B:Nat) (v:Value) (C:List Int) (size count odd ref:Int) (w:World) (h:SeekP F b s w) (hm:MemP B bm v C size count odd ref w) (hI:s.Inv) (hC:C.length≤1000000) (hw:∀i,i<C.length→-9223372036854775808≤keyAt C i∧keyAt C i≤9223372036854775807)
include h hm hI hC hw
set_option maxRecDepth 100000 in
set_option maxHeartbeats 1000000 in
theorem stepS0_any (hn:s.next=0):Calls Tryz.prog 53 #[.pointer (some ⟨b,0,none⟩), .pointer (some ⟨bm,0,none⟩)] w (SPost F b bm s B v C size count odd ref w):=by
 obtain ⟨rv,pv,h⟩:=h
 obtain ⟨rb,rfl,hFr,hr⟩:=h.route
 have ha:=LH (SS.acc0 hn)
 have c0:w.cell? ⟨b,0,none⟩=some (.int .i64 0):=by rw[←hn];exact h.blk.cell 0
 have c3:w.cell? ⟨b,3,none⟩=some (.pointer (some ⟨rb,0,none⟩)):=h.blk.cell 3
 have hrI:=hI.rt
 have H:=LH h
 have HM:=LH hm
 have HR:=LH hr
 have HN:=LH hn
 clear h hm hr hn
 clear hI
 go_enter Tryz.func53,Tryz.ntmps53
 go_wp2_with (fail)
 with_reducible refine (stepR2_any rb bm s.route B v C size count odd ref _ HR.out HM.out hrI hC hw).mono ?_
 rintro e w1 ⟨rfl,hr1,hm1,o1⟩
 have k1:Chg (fun y=>y=rb∨y=bm) w w1:=Chg.of_only o1 (by simp)
 have hB1:Blk w1 b 162 #[.int .i64 s.next, .int .i64 s.k, .int .i64 s.n, .pointer (some ⟨rb,0,none⟩),pv, .int .i64 s.at_, .int .i64 s.value, .bool s.there]:=k1.blk H.out.blk (fun hy=>by
  rcases hy with rfl|rfl
  ·exact H.out.blk.ne_ HR.out.blk (by decide) rfl
  ·exact H.out.blk.ne_ HM.out.blk (by decide) rfl)
 have hp1:PeekO F pv s.peek w1:=H.out.peek.keep k1 (fun y hy=>by
  rcases hy with rfl|rfl
  ·exact ⟨_,_,HR.out.blk,by decide⟩
  ·exact ⟨_,_,HM.out.blk,by decide⟩)
 have hFb:=H.out.fb
 have hne:b≠bm:=hB1.ne_ hm1.blk (by decide)
 have hvb:=own_blk_not hm1.own hB1 (by decide)
 have O1:Hid (Chg (fun x=>F x∨x=bm) w w1):=LH (k1.mono (fun y hy=>hy.imp (fun e=>by rw[e];exact hFr) id))
 have HM1:=LH hm1
 have hz1:=k1.size
 clear k1 o1 hm1 H HM HR c0 c3
 obtain ⟨r1,hr1e⟩:∃r1,s.route.step (rdC C)=r1:=⟨_,rfl⟩
 rw[hr1e] at hr1⊢
 by_cases h6:r1.next=6
 ·have e6:(r1.next==6)=true:=by simpa using h6
  have hs:=LH (SS.step0e (R:=rdC C) HN.out (by rw[hr1e];exact h6))
  rw[hr1e] at hs
  have c2:w1.cell? ⟨b,2,none⟩=some (.int .i64 s.n):=hB1.cell 2
  have c3:w1.cell? ⟨b,3,none⟩=some (.pointer (some ⟨rb,0,none⟩)):=hB1.cell 3
  have HR1:=LH hr1
  have HB1:=LH hB1
  rw[e6]
  clear e6 hr1 hB1 hr1e
  go_wp2_with (fail)
  have HRd:Hid (RouteP rb r1 w1.drew):=LH HR1.out
  have HBd:Hid (Blk w1.drew b 162 #[.int .i64 s.next, .int .i64 s.k, .int .i64 s.n, .pointer (some ⟨rb,0,none⟩),pv, .int .i64 s.at_, .int .i64 s.value, .bool s.there]):=LH HB1.out
  go_region_held3 (fun w'=>w'.cell? ⟨b,2,none⟩=some (.int .i64 s.n)∧w'.cell? ⟨b,3,none⟩=some (.pointer (some ⟨rb,0,none⟩))) (first|go_keep|exact ⟨HB2.out.cell 2,HB2.out.cell 3⟩|exact ⟨HB3.out.cell 2,HB3.out.cell 3⟩|exact ⟨(HB3.out.set_ 0 _).cell 2,(HB3.out.set_ 0 _).cell 3⟩|exact ⟨((HB3.out.set_ 0 _).set_ 4 _).cell 2,((HB3.out.set_ 0 _).set_ 4 _).cell 3⟩) (first|(go_at_call 33;(with_reducible refine (degree_any rb r1 _ HRd.out h6).mono ?_);rintro e wq ⟨rfl,rfl⟩)|(go_at_call 34;(with_reducible refine (child_any rb r1 _ HRd.out).mono ?_);rintro e wq ⟨rfl,rfl⟩)|(go_at_call 117;(with_reducible refine (childat_any _ _ _ _).mono ?_);rintro e w2 ⟨rfl,hb2⟩;have HB2:=LH (HBd.out.below hb2 HBd.out.lt);have HR2:=LH (HRd.out.blk.below hb2 HRd.out.blk.lt);have BB2:=LH hb2;clear hb2)|(go_at_call 116;(with_reducible refine (newPk_any _ _).mono ?_);rintro e w3 ⟨rfl,hp3,hb3,hz3⟩;have HB3:=LH (HB2.out.below hb3 HB2.out.lt);have c03:=HB3.out.cell 0;have c43:=HB3.out.cell 4;have f03:=HB3.out.frozen 0;have f43:=HB3.out.frozen 4;have HP3:=LH hp3;have BB3:=LH hb3;clear hp3 hb3 hz3))
  have hbb:Below w1.heap.size w1 w3:=Below.trans (show Below w1.heap.size w1 w2 from (below_drew BB2.out)) (BB3.out.mono BB2.out.size)
  have hz2:w1.heap.size≤w2.heap.size:=BB2.out.size
  have o4:Chg (fun y=>y=b) w1 ((w3.setCell ⟨b,0,none⟩ (.int .i64 1)).setCell ⟨b,4,none⟩ (.pointer (some ⟨w2.heap.size,0,none⟩))):=(Chg.of_below hbb).trans (Chg.of_mv (F:=fun y=>y=b) ((Mv.set1 w3 b 0 (.int .i64 1)).trans_ (Mv.set1 _ b 4 (.pointer (some ⟨w2.heap.size,0,none⟩)))) rfl)
  have o5:Chg (fun y=>y=b) w3 ((w3.setCell ⟨b,0,none⟩ (.int .i64 1)).setCell ⟨b,4,none⟩ (.pointer (some ⟨w2.heap.size,0,none⟩))):=Chg.of_mv (F:=fun y=>y=b) ((Mv.set1 w3 b 0 (.int .i64 1)).trans_ (Mv.set1 _ b 4 (.pointer (some ⟨w2.heap.size,0,none⟩)))) rfl
  have HX:Hid (SeekP (fun y=>F y∨w.heap.size≤y) b {s with route:=r1,next:=1,peek:=some (PS.init (childAtI s.n r1.degree r1.child))} ((w3.setCell ⟨b,0,none⟩ (.int .i64 1)).setCell ⟨b,4,none⟩ (.pointer (some ⟨w2.heap.size,0,none⟩)))):=LH ⟨_,_, .inl hFb,(HB3.out.set_ 0 _).set_ 4 _,⟨rb,rfl, .inl hFr,o4.blk HR1.out (fun e=>HR1.out.blk.ne_ HB1.out (by decide) e)⟩,⟨_,rfl, .inr (by omega),o5.blk HP3.out (fun e=>HP3.out.blk.ne_ HB3.out (by decide) e)⟩⟩
  have HM4:=LH (HM1.out.chg o4 (fun e=>hne e.symm) (fun y hy e=>hvb y hy e))
  have O4:Hid (Chg (fun x=>F x∨x=bm) w ((w3.setCell ⟨b,0,none⟩ (.int .i64 1)).setCell ⟨b,4,none⟩ (.pointer (some ⟨w2.heap.size,0,none⟩)))):=LH (O1.out.trans (o4.mono (fun y hy=> .inl (hy▸hFb))))
  clear o4 o5 hbb hz2 BB2 BB3 HB2 HR2 HB3 HP3 HR1 HB1 HRd HBd HM1 O1 c03 c43 f03 f43 c2 c3 hp1
  go_wp2_with (fail)
  with_reducible refine (doneS_any _ _ _ _ HX.out).mono ?_
  rintro e w5 ⟨rfl,rfl⟩
  go_wp2_with (fail)
  go_ret
  unfold SPost
  rw[hs.out,ha.out]
  exact ⟨rfl,HX.out,HM4.out,O4.out⟩
 ·have e6:(r1.next==6)=false:=by simpa using h6
  have hs:=LH (SS.step0 (R:=rdC C) HN.out (by rw[hr1e];exact h6))
  rw[hr1e] at hs
  have HX:Hid (SeekP (fun y=>F y∨w.heap.size≤y) b {s with route:=r1} w1):=LH ⟨_,_, .inl hFb,hB1,⟨rb,rfl, .inl hFr,hr1⟩,hp1.mono (fun _=> .inl)⟩
  rw[e6]
  clear e6 hB1 hp1 hr1 hr1e
  go_wp2_with (fail)
  with_reducible refine (doneS_any _ _ _ _ HX.out).mono ?_
  rintro e w2 ⟨rfl,rfl⟩
  go_wp2_with (fail)
  go_ret
  unfold SPost
  rw[hs.out,ha.out]
  exact ⟨rfl,HX.out,HM1.out,O1.out⟩
set_option maxRecDepth 100000 in
set_option maxHeartbeats 1000000 in
theorem stepS1_any (hn:s.next=1):Calls Tryz.prog 53 #[.pointer (some ⟨b,0,none⟩), .pointer (some ⟨bm,0,none⟩)] w (SPost F b bm s B v C size count odd ref w):=by
 obtain ⟨rv,pv,h⟩:=h
 obtain ⟨p,hp,hpI,hp3⟩:∃p,s.peek=some p∧p.Inv∧p.next≠3:=by
  rcases hI.st with ⟨e,_⟩|⟨_,q⟩|e|e|e|e<;>first|exact q|omega
 have hpk:=h.peek
 rw[hp] at hpk
 obtain ⟨pb,rfl,hFp,hP⟩:=hpk
 have ha:=LH (SS.acc1 hn hp)
 have c0:w.cell? ⟨b,0,none⟩=some (.int .i64 1):=by rw[←hn];exact h.blk.cell 0
 have c4:w.cell? ⟨b,4,none⟩=some (.pointer (some ⟨pb,0,none⟩)):=h.blk.cell 4
 have H:=LH h
 have HM:=LH hm
 have HP:=LH hP
 have HN:=LH hn
 have HPE:=LH hp
 clear h hm hP hn hp
 clear hI hp3
 go_enter Tryz.func53,Tryz.ntmps53
 go_wp2_with (fail)
 with_reducible refine (stepPk_any pb bm p B v C size count odd ref _ HP.out HM.out hpI hC hw).mono ?_
 rintro e w1 ⟨rfl,hP1,hm1,o1⟩
 have k1:Chg (fun y=>y=pb∨y=bm) w w1:=Chg.of_only o1 (by simp)
 have hB1:Blk w1 b 162 #[.int .i64 s.next, .int .i64 s.k, .int .i64 s.n,rv, .pointer (some ⟨pb,0,none⟩), .int .i64 s.at_, .int .i64 s.value, .bool s.there]:=k1.blk H.out.blk (fun hy=>by
  rcases hy with rfl|rfl
  ·exact H.out.blk.ne_ HP.out.blk (by decide) rfl
  ·exact H.out.blk.ne_ HM.out.blk (by decide) rfl)
 have hr1:RouteO F rv s.route w1:=H.out.route.keep k1 (fun y hy=>by
  rcases hy with rfl|rfl
  ·exact ⟨_,_,HP.out.blk,by decide⟩
  ·exact ⟨_,_,HM.out.blk,by decide⟩)
 have hFb:=H.out.fb
 have hne:b≠bm:=hB1.ne_ hm1.blk (by decide)
 have hvb:=own_blk_not hm1.own hB1 (by decide)
 have O1:Hid (Chg (fun x=>F x∨x=bm) w w1):=LH (k1.mono (fun y hy=>hy.imp (fun e=>by rw[e];exact hFp) id))
 have HM1:=LH hm1
 have hz1:=k1.size
 have hpb:=hpI.step (rdC_bd hw)
 clear k1 o1 hm1 H HM HP c0 c4
 obtain ⟨p1,hp1e⟩:∃p1,p.step (rdC C)=p1:=⟨_,rfl⟩
 rw[hp1e] at hP1 hpb⊢
 have HX1:Hid (SeekP F b {s with peek:=some p1} w1):=LH ⟨_,_,hFb,hB1,hr1,pb,rfl,hFp,hP1⟩
 by_cases h3:p1.next=3
 ·have e3:(p1.next==3)=true:=by simpa using h3
  have hs:=LH (SS.step1e (R:=rdC C) HN.out HPE.out (by rw[hp1e];exact h3))
  rw[hp1e] at hs
  have c4:w1.cell? ⟨b,4,none⟩=some (.pointer (some ⟨pb,0,none⟩)):=hB1.cell 4
  have x0:=hpb.x0
  have x1:=hpb.x1
  have HP1:=LH hP1
  rw[e3]
  clear e3 hB1 hr1 hP1 hp1e h3 hpI hpb
  go_wp2_with (fail)
  with_reducible refine (wordPk_any pb p1 _ HP1.out).mono ?_
  rintro e w2 ⟨rfl,rfl⟩
  go_wp2_with (fail)
  with_reducible refine (meetS_any F b {s with peek:=some p1} p1.word _ HX1.out x0 x1).mono ?_
  rintro e w3 ⟨rfl,h3,o3⟩
  have HX3:Hid (SeekP (fun y=>F y∨w.heap.size≤y) b (SS.meet {s with peek:=some p1} p1.word) w3):=LH (h3.mono (fun y hy=>hy.imp id (fun e=>by omega)))
  have HM3:=LH (HM1.out.chg o3 (fun e=>hne e.symm) (fun y hy e=>hvb y hy e))
  have O3:Hid (Chg (fun x=>F x∨x=bm) w w3):=LH (O1.out.trans (o3.mono (fun y hy=> .inl (hy▸hFb))))
  clear h3 o3 HM1 O1 HX1
  go_wp2_with (fail)
  with_reducible refine (doneS_any _ _ _ _ HX3.out).mono ?_
  rintro e w5 ⟨rfl,rfl⟩
  go_wp2_with (fail)
  go_ret
  unfold SPost
  rw[hs.out,ha.out]
  exact ⟨rfl,HX3.out,HM3.out,O3.out⟩
 ·have e3:(p1.next==3)=false:=by simpa using h3
  have hs:=LH (SS.step1 (R:=rdC C) HN.out HPE.out (by rw[hp1e];exact h3))
  rw[hp1e] at hs
  have HX:Hid (SeekP (fun y=>F y∨w.heap.size≤y) b {s with peek:=some p1} w1):=LH (HX1.out.mono (fun _=> .inl))
  rw[e3]
  clear e3 hB1 hr1 hP1 hp1e
  go_wp2_with (fail)
  with_reducible refine (doneS_any _ _ _ _ HX.out).mono ?_
  rintro e w2 ⟨rfl,rfl⟩
  go_wp2_with (fail)
  go_ret
  unfold SPost
  rw[hs.out,ha.out]
  exact ⟨rfl,HX.out,HM1.out,O1.out⟩
set_option maxRecDepth 100000 in
set_option maxHeartbeats 1000000 in
theorem stepS4_any (hn:s.next=4):Calls Tryz.prog 53 #[.pointer (some ⟨b,0,none⟩), .pointer (some ⟨bm,0,none⟩)] w (SPost F b bm s B v C size count odd ref w):=by
 have hs:=LH (SS.step4 (R:=rdC C) hn)
 have ha:=LH (SS.acc4 hn)
 obtain ⟨rv,pv,h⟩:=h
 have c0:w.cell? ⟨b,0,none⟩=some (.int .i64 4):=by rw[←hn];exact h.blk.cell 0
 have c5:w.cell? ⟨b,5,none⟩=some (.int .i64 s.at_):=h.blk.cell 5
 have a0:=hI.a0
 have a1:=hI.a1
 have HQ:=LH (fun (w1:World) (m:Mv bm none w w1)=>h.mem hm m)
 have hR:=rdC_bd hw
 have hFb:=h.fb
 obtain ⟨rb,rfl,hFr,hr⟩:=h.route
 have hne:b≠bm:=h.blk.ne_ hm.blk (by decide)
 have H:=LH h
 have HM:=LH hm
 clear h hm
 clear hI hn hr
 go_enter Tryz.func53,Tryz.ntmps53
 go_wp2_with (fail)
 with_reducible refine (read_any B bm v C size count odd ref s.at_ _ HM.out hC (by omega) (by omega)).mono ?_
 rintro e w2 ⟨rfl,hm2,m2⟩
 have h2:=HQ.out w2 m2
 have hvb:=own_blk_not hm2.own h2.blk (by decide)
 have HM2:=LH hm2.read
 have O2:Hid (Chg (fun x=>F x∨x=bm) w w2):=LH (Chg.of_mv m2 (.inr rfl))
 have hz2:=m2.size
 have H2:=LH h2
 clear hm2 m2 c0 c5 HM H HQ h2
 have hr:=hR s.at_
 obtain ⟨x,hx⟩:∃x,rdC C s.at_=x:=⟨_,rfl⟩
 rw[hx] at hr hs⊢
 clear hx
 go_wp2_with (fail)
 with_reducible refine (refAt_any x _ hr.1 hr.2).mono ?_
 rintro e w3 ⟨rfl,rfl⟩
 go_wp2_with (fail)
 with_reducible refine (enterS_any b _ _ _ _ _ _ _ _ (wAt x) _ H2.out.blk ⟨_,rfl⟩).mono ?_
 rintro e w3 ⟨rfl,hb,hr3,ho⟩
 have HX:Hid (SeekP (fun y=>F y∨w.heap.size≤y) b (SS.enter s (wAt x)) w3):=LH ⟨_,_, .inl hFb,hb,⟨_,rfl, .inr hz2,hr3⟩,(H2.out.peek.keep ho (fun y hy=>by subst hy;exact ⟨_,_,H2.out.blk,by decide⟩)).mono (fun _=> .inl)⟩
 have HM3:=LH (HM2.out.chg ho (fun e=>hne e.symm) (fun y hy e=>hvb y hy e))
 have O3:Hid (Chg (fun x=>F x∨x=bm) w w3):=LH (O2.out.trans (ho.mono (fun y hy=> .inl (hy▸hFb))))
 clear hb hr3 ho H2 HM2 O2
 go_wp2_with (fail)
 with_reducible refine (doneS_any _ _ _ _ HX.out).mono ?_
 rintro e w4 ⟨rfl,rfl⟩
 go_wp2_with (fail)
 go_ret
 unfold SPost
 rw[hs.out,ha.out]
 exact ⟨rfl,HX.out,HM3.out,O3.out⟩
set_option maxRecDepth 100000 in
set_option maxHeartbeats 1000000 in
theorem stepS3_any (hn:s.next=3):Calls Tryz.prog 53 #[.pointer (some ⟨b,0,none⟩), .pointer (some ⟨bm,0,none⟩)] w (SPost F b bm s B v C size count odd ref w):=by
 have hs:=LH (SS.step3 (R:=rdC C) hn)
 have ha:=LH (SS.acc3 hn)
 obtain ⟨rv,pv,h⟩:=h
 have c0:w.cell? ⟨b,0,none⟩=some (.int .i64 3):=by rw[←hn];exact h.blk.cell 0
 have c5:w.cell? ⟨b,5,none⟩=some (.int .i64 s.at_):=h.blk.cell 5
 have a0:=hI.a0
 have a1:=hI.a1
 have HQ:=LH (fun (w1:World) (m:Mv bm none w w1)=>h.mem hm m)
 have hR:=rdC_bd hw
 have hFb:=h.fb
 have hne:b≠bm:=h.blk.ne_ hm.blk (by decide)
 have H:=LH h
 have HM:=LH hm
 clear h hm
 clear hI hn
 go_enter Tryz.func53,Tryz.ntmps53
 go_wp2_with (fail)
 with_reducible refine (read_any B bm v C size count odd ref (s.at_+1) _ HM.out hC (by omega) (by omega)).mono ?_
 rintro e w2 ⟨rfl,hm2,m2⟩
 have h2:=HQ.out w2 m2
 have hvb:=own_blk_not hm2.own h2.blk (by decide)
 have HM2:=LH hm2.read
 have O2:Hid (Chg (fun x=>F x∨x=bm) w w2):=LH (Chg.of_mv m2 (.inr rfl))
 clear hm2 m2 c0 c5 HM H HQ
 obtain ⟨x,hx⟩:∃x,rdC C (s.at_+1)=x:=⟨_,rfl⟩
 rw[hx] at hs⊢
 clear hx
 have c0:w2.cell? ⟨b,0,none⟩=some (.int .i64 s.next):=h2.blk.cell 0
 have c6:w2.cell? ⟨b,6,none⟩=some (.int .i64 s.value):=h2.blk.cell 6
 have c7:w2.cell? ⟨b,7,none⟩=some (.bool s.there):=h2.blk.cell 7
 have f0:=h2.blk.frozen 0
 have f6:=h2.blk.frozen 6
 have f7:=h2.blk.frozen 7
 have o3:Chg (fun y=>y=b) w2 (((w2.setCell ⟨b,6,none⟩ (.int .i64 x)).setCell ⟨b,7,none⟩ (.bool true)).setCell ⟨b,0,none⟩ (.int .i64 5)):=Chg.of_mv (F:=fun y=>y=b) (((Mv.set1 w2 b 6 (.int .i64 x)).trans_ (Mv.set1 _ b 7 (.bool true))).trans_ (Mv.set1 _ b 0 (.int .i64 5))) rfl
 have HX:Hid (SeekP (fun y=>F y∨w.heap.size≤y) b {s with value:=x,there:=true,next:=5} (((w2.setCell ⟨b,6,none⟩ (.int .i64 x)).setCell ⟨b,7,none⟩ (.bool true)).setCell ⟨b,0,none⟩ (.int .i64 5))):=LH ⟨_,_, .inl hFb,((h2.blk.set_ 6 _).set_ 7 _).set_ 0 _,(h2.route.keep o3 (fun y hy=>by subst hy;exact ⟨_,_,h2.blk,by decide⟩)).mono (fun _=> .inl),(h2.peek.keep o3 (fun y hy=>by subst hy;exact ⟨_,_,h2.blk,by decide⟩)).mono (fun _=> .inl)⟩
 have HM3:=LH (HM2.out.chg o3 (fun e=>hne e.symm) (fun y hy e=>hvb y hy e))
 have O3:Hid (Chg (fun x=>F x∨x=bm) w (((w2.setCell ⟨b,6,none⟩ (.int .i64 x)).setCell ⟨b,7,none⟩ (.bool true)).setCell ⟨b,0,none⟩ (.int .i64 5))):=LH (O2.out.trans (o3.mono (fun y hy=> .inl (hy▸hFb))))
 clear h2 o3 HM2 O2
 go_wp2_with (fail)
 with_reducible refine (doneS_any _ _ _ _ HX.out).mono ?_
 rintro e w4 ⟨rfl,rfl⟩
 go_wp2_with (fail)
 go_ret
 unfold SPost
 rw[hs.out,ha.out]
 exact ⟨rfl,HX.out,HM3.out,O3.out⟩
set_option maxRecDepth 100000 in
set_option maxHeartbeats 1000000 in
theorem stepS2_any (hn:s.next=2):Calls Tryz.prog 53 #[.pointer (some ⟨b,0,none⟩), .pointer (some ⟨bm,0,none⟩)] w (SPost F b bm s B v C size count odd ref w):=by
 have hR:=rdC_bd hw
 clear hR
 have hs:=LH (SS.step2 (R:=rdC C) hn)
 have ha:=LH (SS.acc2 hn)
 obtain ⟨rv,pv,h⟩:=h
 have c0:w.cell? ⟨b,0,none⟩=some (.int .i64 2):=by rw[←hn];exact h.blk.cell 0
 have f0:=h.blk.frozen 0
 have a0:=hI.a0
 have a1:=hI.a1
 have o1:Chg (fun y=>y=b) w (w.setCell ⟨b,0,none⟩ (.int .i64 3)):=Chg.of_mv (F:=fun y=>y=b) (Mv.set1 w b 0 (.int .i64 3)) rfl
 have h1:SeekQ F b {s with next:=3} rv pv (w.setCell ⟨b,0,none⟩ (.int .i64 3)):=⟨h.fb,h.blk.set_ 0 _,h.route.keep o1 (fun y hy=>by subst hy;exact ⟨_,_,h.blk,by decide⟩),h.peek.keep o1 (fun y hy=>by subst hy;exact ⟨_,_,h.blk,by decide⟩)⟩
 have hFb:=h.fb
 have hne:b≠bm:=h.blk.ne_ hm.blk (by decide)
 have hm1:=hm.chg o1 (fun e=>hne e.symm) (fun y hy e=>own_blk_not hm.own h.blk (by decide) y hy e)
 have O1:Hid (Chg (fun x=>F x∨x=bm) w (w.setCell ⟨b,0,none⟩ (.int .i64 3))):=LH (o1.mono (fun y hy=> .inl (hy▸hFb)))
 have hz1:w.heap.size=(w.setCell ⟨b,0,none⟩ (.int .i64 3)).heap.size:=by simp
 have HZ:=LH hz1
 have H1:=LH h1
 have HM1:=LH hm1
 clear h1 hm1
 clear hI hn o1 h hm hz1
 go_enter Tryz.func53,Tryz.ntmps53
 go_wp2_with (fail)
 generalize w.setCell ⟨b,0,none⟩ (.int .i64 3)=w1 at H1 HM1 O1 HZ⊢
 have HB1:=LH H1.out.blk
 have HQ:Hid (∀w2,Mv bm none w1 w2→SeekQ F b {s with next:=3} rv pv w2):=LH (fun w2 m=>by
  have k:=Chg.of_mv (F:=fun y=>y=bm) m rfl
  exact ⟨H1.out.fb,k.blk H1.out.blk (fun e=>H1.out.blk.ne_ HM1.out.blk (by decide) e),H1.out.route.keep k (fun y hy=>by subst hy;exact ⟨_,_,HM1.out.blk,by decide⟩),H1.out.peek.keep k (fun y hy=>by subst hy;exact ⟨_,_,HM1.out.blk,by decide⟩)⟩)
 have HMd:Hid (MemP B bm v C size count odd ref w1.drew):=LH (HM1.out.below (drawn_bl (Drawn.of w1 1) _))
 have c5:w1.cell? ⟨b,5,none⟩=some (.int .i64 s.at_):=H1.out.blk.cell 5
 have c1:w1.cell? ⟨b,1,none⟩=some (.int .i64 s.k):=H1.out.blk.cell 1
 have ew:IntKind.i64.wrap s.at_=s.at_:=IntWalk.i64_in _ ⟨by omega,by omega⟩
 go_region_held3 (fun w'=>w'.cell? ⟨b,5,none⟩=some (.int .i64 s.at_)∧w'.cell? ⟨b,1,none⟩=some (.int .i64 s.k)) (first|go_keep|exact ⟨H2.out.blk.cell 5,H2.out.blk.cell 1⟩) (first|(go_at_call 91;(with_reducible refine (read_any B bm v C size count odd ref s.at_ _ HMd.out hC (by omega) (by omega)).mono ?_);rintro e w2 ⟨rfl,hm2,m2⟩;have H2:=LH (HQ.out w2 (Mv.after (drawn_bl (Drawn.of w1 1) _) m2));have HM2:=LH hm2.read;have O2:Hid (Chg (fun x=>F x∨x=bm) w w2):=LH (O1.out.trans (Chg.of_mv (Mv.after (drawn_bl (Drawn.of w1 1) _) m2) (.inr rfl)));clear hm2 m2))
 have hz2:=O2.out.size
 clear HMd HM1 O1 HB1 HQ c5 c1 ew
 obtain ⟨x,hx⟩:∃x,rdC C s.at_=x:=⟨_,rfl⟩
 rw[hx] at hs⊢
 clear hx
 by_cases hk:x=s.k
 ·have e1:(x !=s.k)=false:=by simpa using hk
  have HX:Hid (SeekP (fun y=>F y∨w.heap.size≤y) b {s with next:=3} w2):=LH (SeekP.mono ⟨_,_,H2.out⟩ (fun _=> .inl))
  have HK:=LH hk
  clear hk
  clear H2 H1
  go_wp2_with (fail)
  with_reducible refine (doneS_any _ _ _ _ HX.out).mono ?_
  rintro e w4 ⟨rfl,rfl⟩
  go_wp2_with (fail)
  go_ret
  unfold SPost
  rw[hs.out,ha.out,if_pos HK.out]
  exact ⟨rfl,HX.out,HM2.out,O2.out⟩
 ·have e1:(x !=s.k)=true:=by simpa using hk
  have h2:=H2.out
  have c0:w2.cell? ⟨b,0,none⟩=some (.int .i64 3):=h2.blk.cell 0
  have f0:=h2.blk.frozen 0
  have hvb:=own_blk_not HM2.out.own h2.blk (by decide)
  have o3:Chg (fun y=>y=b) w2 (w2.setCell ⟨b,0,none⟩ (.int .i64 5)):=Chg.of_mv (F:=fun y=>y=b) (Mv.set1 w2 b 0 (.int .i64 5)) rfl
  have HX:Hid (SeekP (fun y=>F y∨w.heap.size≤y) b {s with next:=5} (w2.setCell ⟨b,0,none⟩ (.int .i64 5))):=LH ⟨_,_, .inl hFb,h2.blk.set_ 0 _,(h2.route.keep o3 (fun y hy=>by subst hy;exact ⟨_,_,h2.blk,by decide⟩)).mono (fun _=> .inl),(h2.peek.keep o3 (fun y hy=>by subst hy;exact ⟨_,_,h2.blk,by decide⟩)).mono (fun _=> .inl)⟩
  have HM3:=LH (HM2.out.chg o3 (fun e=>hne e.symm) (fun y hy e=>hvb y hy e))
  have O3:Hid (Chg (fun x=>F x∨x=bm) w (w2.setCell ⟨b,0,none⟩ (.int .i64 5))):=LH (O2.out.trans (o3.mono (fun y hy=> .inl (hy▸hFb))))
  have HK:=LH hk
  clear hk
  clear h2 o3 HM2 O2 H2 H1
  go_wp2_with (fail)
  with_reducible refine (doneS_any _ _ _ _ HX.out).mono ?_
  rintro e w4 ⟨rfl,rfl⟩
  go_wp2_with (fail)
  go_ret
  unfold SPost
  rw[hs.out,ha.out,if_neg HK.out]
  exact ⟨rfl,HX.out,HM3.out,O3.out⟩
theorem stepS_any:Calls Tryz.prog 53 #[.pointer (some ⟨b,0,none⟩), .pointer (some ⟨bm,0,none⟩)] w (SPost F b bm s B v C size count odd ref w):=by
 rcases hI.st with ⟨e,_⟩|⟨e,_⟩|e|e|e|e
 ·exact stepS0_any F b bm s B v C size count odd ref w h hm hI hC hw e
 ·exact stepS1_any F b bm s B v C size count odd ref w h hm hI hC hw e
 ·exact stepS2_any F b bm s B v C size count odd ref w h hm hI hC hw e
 ·exact stepS3_any F b bm s B v C size count odd ref w h hm hI hC hw e
 ·exact stepS4_any F b bm s B v C size count odd ref w h hm hI hC hw e
 ·exact stepS5_any F b bm s B v C size count odd ref w h hm e
end
def degreeI (n:Int):Int:=if n<2∨16384<n then 0 else if 2<rootI n then rootI n else 2
def sizeI (n i:Int):Int:=if i<0∨degreeI n≤i then 0 else if i<n%degreeI n then n/degreeI n+1 else n/degreeI n
def minI (a b:Int):Int:=if b<a then b else a
def maxI (a b:Int):Int:=if a<b then b else a
def fromI (n i:Int):Int:=if i<0∨degreeI n≤i then 0 else n/degreeI n*i+minI i (n%degreeI n)
def limitI (n:Int):Int:=if n<0∨16384<n then 0 else n/4+2
theorem degreeI_none {n:Int} (h:n<2∨16384<n):degreeI n=0:=if_pos h
theorem root_small {n:Int} (h:n≤16384):rootI n≤128:=by
 have e:rootI 16384=128:=rootI_unique (by decide) (by decide) (by decide)
 have:=rootI_mono h
 omega
theorem degreeI_bd {n:Int} (h0:2≤n) (h1:n≤16384):2≤degreeI n∧degreeI n≤128∧degreeI n≤n:=by
 have r:=root_small h1
 have s:=(rootI_spec (n:=n) (by omega)).1
 unfold degreeI
 rw[if_neg (by omega)]
 split
 ·rename_i h
  have:1*rootI n≤rootI n*rootI n:=Int.mul_le_mul_of_nonneg_right (by omega) (by omega)
  omega
 ·omega
theorem degreeI_nonneg (n:Int):0≤degreeI n:=by
 by_cases h:n<2∨16384<n
 ·rw[degreeI_none h];omega
 ·have:=(degreeI_bd (n:=n) (by omega) (by omega)).1;omega
theorem degreeI_le (n:Int):degreeI n≤128:=by
 by_cases h:n<2∨16384<n
 ·rw[degreeI_none h];omega
 ·have:=(degreeI_bd (n:=n) (by omega) (by omega)).2.1;omega
theorem degreeI_zero {n:Int} (h:degreeI n=0):n<2∨16384<n:=by
 by_cases g:n<2∨16384<n
 ·exact g
 ·have:=(degreeI_bd (n:=n) (by omega) (by omega)).1;omega
theorem parts {n:Int} (h0:2≤n) (h1:n≤16384):n=degreeI n*(n/degreeI n)+n%degreeI n∧0≤n%degreeI n∧n%degreeI n<degreeI n∧1≤n/degreeI n∧n/degreeI n<n∧(0<n%degreeI n→n/degreeI n+1<n):=by
 obtain ⟨d0,d1,d2⟩:=degreeI_bd h0 h1
 generalize degreeI n=d at*
 have e:=Int.mul_ediv_add_emod n d
 have a:=Int.emod_nonneg n (show d≠0 by omega)
 have b:=Int.emod_lt_of_pos n (show 0<d by omega)
 have c:1≤n/d:=(Int.le_ediv_iff_mul_le (by omega)).2 (by omega)
 have f:2*(n/d)≤d*(n/d):=Int.mul_le_mul_of_nonneg_right d0 (by omega)
 exact ⟨by omega,a,b,c,by omega,by omega⟩
theorem sizeI_in {n i:Int} (h0:2≤n) (h1:n≤16384) (i0:0≤i) (i1:i<degreeI n):sizeI n i=(if i<n%degreeI n then n/degreeI n+1 else n/degreeI n)∧1≤sizeI n i∧sizeI n i<n:=by
 obtain ⟨p1,p2,p3,p4,p5,p6⟩:=parts h0 h1
 have e:sizeI n i=(if i<n%degreeI n then n/degreeI n+1 else n/degreeI n):=by
  unfold sizeI;rw[if_neg (by omega)]
 rw[e]
 refine ⟨rfl, ?_⟩
 split<;>omega
theorem sizeI_out {n i:Int} (h:i<0∨degreeI n≤i):sizeI n i=0:=if_pos h
theorem sizeI_bd (n i:Int):0≤sizeI n i∧sizeI n i≤16384:=by
 by_cases h:i<0∨degreeI n≤i
 ·rw[sizeI_out h];omega
 ·have hd:degreeI n≠0:=by omega
  have hn:¬(n<2∨16384<n):=fun g=>hd (degreeI_none g)
  have:=sizeI_in (n:=n) (i:=i) (by omega) (by omega) (by omega) (by omega)
  omega
def depthF:Nat→Int→Int
 |0,_=>0
 |k+1,n=>if degreeI n=0 then 0 else 1+(if 0<n%degreeI n then maxI (depthF k (n/degreeI n)) (depthF k (n/degreeI n+1)) else depthF k (n/degreeI n))
def cellsF:Nat→Int→Int
 |0,n=>if n=0 then 1 else 0
 |k+1,n=>if n<0∨16384<n then 0 else if n=0 then 1 else if n=1 then 2 else
   4+2*degreeI n+(degreeI n-n%degreeI n)*cellsF k (n/degreeI n)+(if 0<n%degreeI n then n%degreeI n*cellsF k (n/degreeI n+1) else 0)
def depthI (n:Int):Int:=depthF n.toNat n
def cellsI (n:Int):Int:=cellsF n.toNat n
theorem cellsF_fuel:∀(k:Nat) (n:Int),n≤k→∀j:Nat,n≤j→cellsF j n=cellsF k n
 |0,n,h,j,_=>by
  cases j with
  |zero=>rfl
  |succ j=>
   simp only[cellsF]
   by_cases g:n<0
   ·rw[if_pos (Or.inl g),if_neg (by omega)]
   ·rw[if_neg (by omega)]
    have:n=0:=by omega
    rw[if_pos this,if_pos this]
 |k+1,n,h,j,hj=>by
  by_cases g:n<0∨16384<n
  ·cases j with
   |zero=>simp only[cellsF];rw[if_pos g,if_neg (by omega)]
   |succ j=>simp only[cellsF];rw[if_pos g,if_pos g]
  ·by_cases z:n=0
   ·subst z
    cases j with
    |zero=>simp[cellsF]
    |succ j=>simp[cellsF]
   ·obtain ⟨i,rfl⟩:∃i,j=i+1:=⟨j-1,by omega⟩
    simp only[cellsF]
    rw[if_neg g,if_neg g,if_neg z,if_neg z]
    by_cases u:n=1
    ·rw[if_pos u,if_pos u]
    ·rw[if_neg u,if_neg u]
     obtain ⟨p1,p2,p3,p4,p5,p6⟩:=parts (n:=n) (by omega) (by omega)
     rw[cellsF_fuel k (n/degreeI n) (by omega) i (by omega)]
     by_cases c:0<n%degreeI n
     ·rw[cellsF_fuel k (n/degreeI n+1) (by have:=p6 c;omega) i (by have:=p6 c;omega)]
     ·rw[if_neg c,if_neg c]
theorem cellsI_eq {n:Int} (h0:2≤n) (h1:n≤16384):cellsI n=4+2*degreeI n+(degreeI n-n%degreeI n)*cellsI (n/degreeI n)+(if 0<n%degreeI n then n%degreeI n*cellsI (n/degreeI n+1) else 0):=by
 obtain ⟨p1,p2,p3,p4,p5,p6⟩:=parts h0 h1
 unfold cellsI
 obtain ⟨k,hk⟩:∃k,n.toNat=k+1:=⟨n.toNat-1,by omega⟩
 rw[hk,cellsF,if_neg (by omega),if_neg (by omega),if_neg (by omega)]
 rw[cellsF_fuel (n/degreeI n).toNat (n/degreeI n) (by omega) k (by omega)]
 by_cases c:0<n%degreeI n
 ·rw[cellsF_fuel (n/degreeI n+1).toNat (n/degreeI n+1) (by omega) k (by have:=p6 c;omega)]
 ·rw[if_neg c,if_neg c]
theorem cellsI_none {n:Int} (h:n<0∨16384<n):cellsI n=0:=by
 unfold cellsI
 cases hn:n.toNat with
 |zero=>rw[cellsF,if_neg (by omega)]
 |succ k=>rw[cellsF,if_pos h]
theorem cellsI_zero:cellsI 0=1:=rfl
theorem cellsI_one:cellsI 1=2:=by decide+kernel
theorem cellsI_bd (k:Nat):∀n:Int,1≤n→n≤k→n≤16384→2≤cellsI n∧cellsI n≤10*n-8:=by
 induction k with
 |zero=>intro n h g;omega
 |succ k ih=>
  intro n h0 hk h1
  by_cases u:n=1
  ·subst u;rw[cellsI_one];omega
  ·obtain ⟨p1,p2,p3,p4,p5,p6⟩:=parts (n:=n) (by omega) h1
   obtain ⟨d0,d1,d2⟩:=degreeI_bd (n:=n) (by omega) h1
   have a:=ih (n/degreeI n) p4 (by omega) (by omega)
   rw[cellsI_eq (by omega) h1]
   have m0:(degreeI n-n%degreeI n)*2≤(degreeI n-n%degreeI n)*cellsI (n/degreeI n):=Int.mul_le_mul_of_nonneg_left a.1 (by omega)
   have m1:(degreeI n-n%degreeI n)*cellsI (n/degreeI n)≤(degreeI n-n%degreeI n)*(10*(n/degreeI n)-8):=Int.mul_le_mul_of_nonneg_left a.2 (by omega)
   by_cases c:0<n%degreeI n
   ·have b:=ih (n/degreeI n+1) (by omega) (by have:=p6 c;omega) (by have:=p6 c;omega)
    have q0:(n%degreeI n)*2≤(n%degreeI n)*cellsI (n/degreeI n+1):=Int.mul_le_mul_of_nonneg_left b.1 (by omega)
    have q1:(n%degreeI n)*cellsI (n/degreeI n+1)≤(n%degreeI n)*(10*(n/degreeI n+1)-8):=Int.mul_le_mul_of_nonneg_left b.2 (by omega)
    rw[if_pos c]
    generalize degreeI n=d at*
    generalize n%d=r at*
    generalize n/d=q at*
    generalize cellsI q=cq at*
    generalize cellsI (q+1)=cr at*
    have e1:(d-r)*(10*q-8)=10*(d*q)-10*(r*q)-8*d+8*r:=by
     rw[Int.sub_mul,Int.mul_sub,Int.mul_sub,←Int.mul_assoc,←Int.mul_assoc,Int.mul_comm d 10,Int.mul_comm r 10,Int.mul_assoc,Int.mul_assoc];omega
    have e2:r*(10*(q+1)-8)=10*(r*q)+2*r:=by
     have:10*(q+1)-8=10*q+2:=by omega
     rw[this,Int.mul_add,←Int.mul_assoc,Int.mul_comm r 10,Int.mul_assoc];omega
    omega
   ·rw[if_neg c]
    generalize degreeI n=d at*
    generalize n%d=r at*
    generalize n/d=q at*
    generalize cellsI q=cq at*
    obtain rfl:r=0:=by omega
    have e1:(d-0)*(10*q-8)=10*(d*q)-8*d:=by
     rw[Int.sub_zero,Int.mul_sub,←Int.mul_assoc,Int.mul_comm d 10,Int.mul_assoc];omega
    omega
theorem cellsI_in {n:Int} (h0:1≤n) (h1:n≤16384):2≤cellsI n∧cellsI n≤10*n-8:=cellsI_bd n.toNat n h0 (by omega) h1
def rawI (n i:Int):Int:=n/degreeI n*i+minI i (n%degreeI n)
theorem rawI_zero {n:Int} (h0:2≤n) (h1:n≤16384):rawI n 0=0:=by
 obtain ⟨p1,p2,p3,p4,p5,p6⟩:=parts h0 h1
 unfold rawI minI;rw[Int.mul_zero];split<;>omega
theorem rawI_step {n i:Int} (h0:2≤n) (h1:n≤16384) (i0:0≤i) (i1:i<degreeI n):rawI n (i+1)=rawI n i+sizeI n i:=by
 obtain ⟨p1,p2,p3,p4,p5,p6⟩:=parts h0 h1
 rw[(sizeI_in h0 h1 i0 i1).1]
 unfold rawI minI
 rw[Int.mul_add,Int.mul_one]
 generalize degreeI n=d at*
 generalize n%d=r at*
 generalize n/d=q at*
 split<;>split<;>split<;>omega
theorem rawI_bd {n i:Int} (h0:2≤n) (h1:n≤16384) (i0:0≤i) (i1:i≤degreeI n):0≤rawI n i∧rawI n i≤n:=by
 obtain ⟨p1,p2,p3,p4,p5,p6⟩:=parts h0 h1
 have m0:0≤n/degreeI n*i:=Int.mul_nonneg (by omega) i0
 have m1:n/degreeI n*i≤n/degreeI n*degreeI n:=Int.mul_le_mul_of_nonneg_left (by omega) (by omega)
 rw[Int.mul_comm (n/degreeI n) (degreeI n)] at m1
 unfold rawI minI
 split<;>omega
theorem fromI_in {n i:Int} (i0:0≤i) (i1:i<degreeI n):fromI n i=rawI n i:=if_neg (by omega)
def deepTo (n:Int):Nat→Int
 |0=>0
 |i+1=>maxI (deepTo n i) (1+depthI (sizeI n i))
def cellsTo (n:Int):Nat→Int
 |0=>4+2*degreeI n
 |i+1=>cellsTo n i+cellsI (sizeI n i)
theorem cellsTo_eq {n:Int} (h0:2≤n) (h1:n≤16384):∀i:Nat,(i:Int)≤degreeI n→cellsTo n i=4+2*degreeI n+(if (i:Int)≤n%degreeI n then (i:Int)*cellsI (n/degreeI n+1) else ((i:Int)-n%degreeI n)*cellsI (n/degreeI n)+n%degreeI n*cellsI (n/degreeI n+1))
 |0,_=>by
  obtain ⟨p1,p2,p3,p4,p5,p6⟩:=parts h0 h1
  rw[cellsTo,if_pos (by omega)];simp
 |i+1,hi=>by
  have ih:=cellsTo_eq h0 h1 i (by omega)
  have s:=(sizeI_in (n:=n) (i:=i) h0 h1 (by omega) (by omega)).1
  rw[cellsTo,ih,s]
  obtain ⟨p1,p2,p3,p4,p5,p6⟩:=parts h0 h1
  generalize n%degreeI n=r at*
  generalize degreeI n=d at*
  generalize n/d=q at*
  have e1:((i+1:Nat):Int)*cellsI (q+1)=(i:Int)*cellsI (q+1)+cellsI (q+1):=by
   rw[Int.natCast_add,Int.add_mul];simp
  have e2:(((i+1:Nat):Int)-r)*cellsI q=((i:Int)-r)*cellsI q+cellsI q:=by
   have:((i+1:Nat):Int)-r=((i:Int)-r)+1:=by omega
   rw[this,Int.add_mul];simp
  by_cases c:(i:Int)<r
  ·rw[if_pos c,if_pos (show ((i+1:Nat):Int)≤r by omega),if_pos (show (i:Int)≤r by omega),e1];omega
  ·rw[if_neg c,if_neg (show ¬((i+1:Nat):Int)≤r by omega),e2]
   by_cases e:(i:Int)≤r
   ·have e3:(i:Int)=r:=by omega
    rw[if_pos e,e3,Int.sub_self,Int.zero_mul];omega
   ·rw[if_neg e];omega
theorem cellsTo_all {n:Int} (h0:2≤n) (h1:n≤16384):cellsTo n (degreeI n).toNat=cellsI n:=by
 obtain ⟨p1,p2,p3,p4,p5,p6⟩:=parts h0 h1
 have d0:=(degreeI_bd h0 h1).1
 rw[cellsTo_eq h0 h1 _ (by omega),cellsI_eq h0 h1,if_neg (show ¬((degreeI n).toNat:Int)≤n%degreeI n by omega)]
 have:(((degreeI n).toNat:Nat):Int)=degreeI n:=by omega
 rw[this]
 by_cases f:0<n%degreeI n
 ·rw[if_pos f];omega
 ·have:n%degreeI n=0:=by omega
  rw[if_neg f,this];simp
theorem cellsI_abs (n:Int):0≤cellsI n∧cellsI n≤163840:=by
 by_cases h:n<0∨16384<n
 ·rw[cellsI_none h];omega
 ·by_cases z:n=0
  ·subst z;rw[cellsI_zero];omega
  ·have:=cellsI_in (n:=n) (by omega) (by omega);omega
theorem cellsTo_bd (n:Int):∀i:Nat,0≤cellsTo n i∧cellsTo n i≤260+163840*i
 |0=>by
  have a:=degreeI_nonneg n
  have b:=degreeI_le n
  simp only[cellsTo];omega
 |i+1=>by
  have a:=cellsTo_bd n i
  have b:=cellsI_abs (sizeI n i)
  rw[cellsTo];omega
def layTo (lay:List Int→List (Int×Int)→List Int×Int) (C:List Int) (l:List (Int×Int)):Nat→List Int×List Int
 |0=>(C,[])
 |i+1=>((lay (layTo lay C l i).1 ((l.drop (fromI l.length i).toNat).take (sizeI l.length i).toNat)).1,(layTo lay C l i).2++[(lay (layTo lay C l i).1 ((l.drop (fromI l.length i).toNat).take (sizeI l.length i).toNat)).2])
def keysTo (l:List (Int×Int)):Nat→List Int
 |0=>[]
 |1=>[]
 |i+2=>keysTo l (i+1)++[pkey l (fromI l.length ((i+1:Nat):Int)).toNat]
def innerW (n:Int) (q c:List Int):List Int:=[(c.length:Int),n,0,0,0]++q++c
def layF:Nat→List Int→List (Int×Int)→List Int×Int
 |0,C,_=>(C,0)
 |f+1,C,l=>
  if l.length=0 then (C++[0],wOf 1 ((C.length:Int)+1))
  else if l.length=1 then (C++[pkey l 0,pval l 0],wOf 2 ((C.length:Int)+1))
  else ((layTo (layF f) C l (degreeI l.length).toNat).1++innerW l.length (keysTo l (degreeI l.length).toNat) (layTo (layF f) C l (degreeI l.length).toNat).2,wOf 3 (((layTo (layF f) C l (degreeI l.length).toNat).1.length:Int)+1))
theorem keysTo_len (l:List (Int×Int)):∀i:Nat,(keysTo l (i+1)).length=i
 |0=>rfl
 |i+1=>by
  show (keysTo l (i+1)++[_]).length=i+1
  rw[List.length_append,keysTo_len l i];rfl
theorem layTo_words {lay:List Int→List (Int×Int)→List Int×Int} {C:List Int} {l:List (Int×Int)}:∀i,(layTo lay C l i).2.length=i
 |0=>rfl
 |i+1=>by
  show ((layTo lay C l i).2++[_]).length=i+1
  rw[List.length_append,layTo_words i];rfl
theorem part_len {l:List (Int×Int)} (h0:2≤l.length) (h1:l.length≤16384) {i:Nat} (hi:(i:Int)<degreeI l.length):(((l.drop (fromI l.length i).toNat).take (sizeI l.length i).toNat).length:Int)=sizeI l.length i∧0≤fromI l.length i∧1≤sizeI l.length i∧sizeI l.length i<l.length∧fromI l.length i+sizeI l.length i≤l.length:=by
 have e:=fromI_in (n:=l.length) (i:=i) (by omega) hi
 have s:=sizeI_in (n:=l.length) (i:=i) (by omega) (by omega) (by omega) hi
 have r:=rawI_step (n:=l.length) (i:=i) (by omega) (by omega) (by omega) hi
 have b1:=rawI_bd (n:=l.length) (i:=i) (by omega) (by omega) (by omega) (by omega)
 have b2:=rawI_bd (n:=l.length) (i:=(i:Int)+1) (by omega) (by omega) (by omega) (by omega)
 refine ⟨?_,by omega,s.2.1,s.2.2,by omega⟩
 rw[List.length_take,List.length_drop]
 omega
theorem lay_cells:∀(f:Nat) (C:List Int) (l:List (Int×Int)),l.length<f→l.length≤16384→((layF f C l).1.length:Int)=C.length+cellsI l.length
 |0,C,l,h,_=>absurd h (by omega)
 |f+1,C,l,h,h1=>by
  unfold layF
  by_cases c0:l.length=0
  ·rw[if_pos c0,c0];simp[cellsI_zero]
  ·rw[if_neg c0]
   by_cases c1:l.length=1
   ·rw[if_pos c1,c1];simp[cellsI_one]
   ·rw[if_neg c1]
    have hd:=degreeI_bd (n:=l.length) (by omega) (by omega)
    have key:∀i:Nat,(i:Int)≤degreeI l.length→((layTo (layF f) C l i).1.length:Int)+4+2*degreeI l.length=C.length+cellsTo l.length i:=by
     intro i
     induction i with
     |zero=>intro _;simp[layTo,cellsTo];omega
     |succ i ih=>
      intro hi
      have:=ih (by omega)
      obtain ⟨p1,p2,p3,p4,p5⟩:=part_len (l:=l) (by omega) h1 (i:=i) (by omega)
      have hl:=lay_cells f (layTo (layF f) C l i).1 ((l.drop (fromI l.length i).toNat).take (sizeI l.length i).toNat) (by omega) (by omega)
      rw[p1] at hl
      simp only[layTo,cellsTo]
      omega
    have h3:=key (degreeI l.length).toNat (by omega)
    have h4:=cellsTo_all (n:=l.length) (by omega) (by omega)
    rw[h4] at h3
    obtain ⟨d,hdd⟩:∃d:Nat,(degreeI l.length).toNat=d+1:=⟨(degreeI l.length).toNat-1,by omega⟩
    rw[List.length_append]
    unfold innerW
    rw[List.length_append,List.length_append,layTo_words,hdd,keysTo_len]
    rw[hdd] at h3
    simp
    omega
def RootAt (n:Int) (b:Nat) (r:Int):Prop:=(∃q:Nat,r=((q*2^b:Nat):Int))∧r*r≤n∧n<(r+2^b)*(r+2^b)∧r<2^32
theorem RootAt.nonneg {n r:Int} {b:Nat} (h:RootAt n b r):0≤r:=by
 obtain ⟨⟨q,rfl⟩,_⟩:=h
 exact Int.natCast_nonneg _
theorem pow_pos' (j:Nat):(0:Int)<2^j:=Int.pow_pos (by decide)
theorem pow_le' {j:Nat} (h:j<32):(2:Int)^j≤2147483648:=by
 have:(2:Nat)^j≤2^31:=Nat.pow_le_pow_right (by decide) (by omega)
 have t:((2^j:Nat):Int)≤((2^31:Nat):Int):=by exact_mod_cast this
 rw[Int.natCast_pow] at t
 exact t
theorem RootAt.yes {n r:Int} {j:Nat} (h:RootAt n (j+1) r) (hn:0≤n) (h1:n≤9223372036854775807) (c:r+2^j≤n/(r+2^j)):RootAt n j (r+2^j):=by
 have h0:=h.nonneg
 have hp:=pow_pos' j
 obtain ⟨⟨q,hq⟩,a,b,d⟩:=h
 have m:(r+2^j)*(r+2^j)≤n:=by
  have:=(Int.le_ediv_iff_mul_le (show 0<r+2^j by omega)).1 c
  exact this
 refine ⟨⟨2*q+1, ?_⟩,m, ?_, ?_⟩
 ·rw[hq,Nat.pow_succ]
  have:(2*q+1)*2^j=q*(2^j*2)+2^j:=by rw[Nat.add_mul,Nat.one_mul,Nat.mul_comm (2^j) 2,←Nat.mul_assoc,Nat.mul_comm q 2]
  rw[this,Int.natCast_add,Int.natCast_pow];rfl
 ·have e:r+2^(j+1)=r+2^j+2^j:=by rw[Int.pow_succ];omega
  rw[e] at b
  exact b
 ·rcases Int.lt_or_le (r+2^j) (2^32) with g|g
  ·exact g
  ·have:=Int.mul_le_mul g g (by decide) (by omega)
   omega
theorem RootAt.no {n r:Int} {j:Nat} (h:RootAt n (j+1) r) (c:¬r+2^j≤n/(r+2^j)):RootAt n j r:=by
 have h0:=h.nonneg
 have hp:=pow_pos' j
 obtain ⟨⟨q,hq⟩,a,b,d⟩:=h
 refine ⟨⟨2*q, ?_⟩,a, ?_,d⟩
 ·rw[hq,Nat.pow_succ]
  have:2*q*2^j=q*(2^j*2):=by rw[Nat.mul_comm (2^j) 2,←Nat.mul_assoc,Nat.mul_comm q 2]
  rw[this]
 ·rcases Int.lt_or_le n ((r+2^j)*(r+2^j)) with g|g
  ·exact g
  ·exact absurd ((Int.le_ediv_iff_mul_le (show 0<r+2^j by omega)).2 g) c
theorem RootAt.end_ {n r:Int} (h:RootAt n 0 r):rootI n=r:=by
 have h0:=h.nonneg
 obtain ⟨_,a,b,_⟩:=h
 exact rootI_unique h0 a (by simpa using b)
attribute [local go_sem] max2_int max_two min2_int min_two
theorem PairsAt.chg {F:Nat→Prop} {w w':World} {B:Nat} {A:Option Addr} {l:List (Int×Int)} (h:PairsAt w B A l) (m:Chg F w w') (hB:B≤w.heap.size) (hA:∀ad,A=some ad→¬F ad.block):PairsAt w' B A l:=
 ⟨h.1,fun hn=>by
  obtain ⟨ad,e,hb,hc⟩:=h.2 hn
  refine ⟨ad,e,hb,fun j u hu=>(World.cell?_of_block (m.block _ (by rw[block_of_add];omega) (by rw[block_of_add];exact hA ad e))).trans (hc j u hu)⟩⟩
def AscP (l:List (Int×Int)):Prop:=∀i,i+1<l.length→pkey l i<pkey l (i+1)
def MemC (b:Nat) (C:List Int) (size:Int) (w:World):Prop:=∃v count odd,MemP b b v C size count odd 0 w
theorem MemC.below {b:Nat} {C:List Int} {size:Int} {w w':World} (h:MemC b C size w) (hb:Below w.heap.size w w'):MemC b C size w':=by
 obtain ⟨v,c,o,h⟩:=h;exact ⟨v,c,o,h.below hb⟩
def StepCPost (b fb lo:Nat) (C:List Int) (size:Int) (s:SS) (w:World) (e:Ending) (w':World):Prop:=e= .returned (.bool ((s.step (rdC C)).next==5))∧SeekP (fun x=>lo≤x) fb (s.step (rdC C)) w'∧MemC b C size w'∧Below b w w'
theorem stepC_any (b fb lo:Nat) (C:List Int) (size:Int) (s:SS) (w:World) (h:SeekP (fun x=>lo≤x) fb s w) (hm:MemC b C size w) (hI:s.Inv) (hlo:b≤lo) (hlw:lo≤w.heap.size) (hC:C.length≤1000000) (hw:∀x∈C,-9223372036854775808≤x∧x≤9223372036854775807):
  Calls Tryz.prog 53 #[.pointer (some ⟨fb,0,none⟩), .pointer (some ⟨b,0,none⟩)] w (StepCPost b fb lo C size s w):=by
 obtain ⟨v,count,odd,hm⟩:=hm
 exact (stepS_any _ fb b s b v C size count odd 0 w h hm hI hC (bd_of hw)).mono fun e w' ⟨he,h1,h2,h3⟩=>⟨he,h1.mono (fun x hx=>hx.elim id (fun h=>by omega)),⟨v,_,_,h2⟩,h3.below (fun x hx=>hx.elim (fun h=>by omega) (fun h=>by omega)) (by have:=hm.blk.lt;omega)⟩
set_option maxRecDepth 100000 in
set_option maxHeartbeats 1000000 in
theorem known16_any (w:World):Calls Tryz.prog 50 #[] w fun e w'=>e= .returned (.bool true)∧Below w.heap.size w w':=by
 go_enter Tryz.func50,Tryz.ntmps50
 go_wp2_with (fail)
 with_reducible refine (memNew_any 9 _ (by decide) (by decide)).mono ?_
 rintro e w1 ⟨rfl,hm,hb⟩
 have hB1:=hb
 have HM:=LH hm
 clear hm hb
 obtain ⟨b,hbe⟩:∃b,w.heap.size=b:=⟨_,rfl⟩
 rw[hbe] at HM hB1⊢
 go_wp2_with (fail)
 with_reducible refine (begin_any b b 9 0 0 0 _ HM.out (by decide) (by decide)).mono ?_
 rintro e w2 ⟨rfl,v,hm,ho,_⟩
 have hz2:b<w2.heap.size:=by have:=hB1.size;have:=ho.size;have:=HM.out.blk.lt;omega
 have hB2:=hB1.trans (ho.below (B:=b) (by simp) (by have:=HM.out.blk.lt;omega))
 have HM2:Hid (MemP b b v beginL 9 2 0 0 w2):=LH (by rw[show bump (bump 0)=2 from by kernel_rfl] at hm;exact hm)
 clear hm ho HM hB1
 have HC2:Hid (MemC b beginL 9 w2):=LH ⟨v,_,_,HM2.out⟩
 clear HM2
 go_wp2_with (fail)
 with_reducible refine (newS_any 5 _).mono ?_
 rintro e w3 ⟨rfl,hs,hb⟩
 have HC3:=LH (HC2.out.below hb)
 have HS3:=LH hs
 have hB3:=hB2.trans (hb.mono (by omega))
 have hz3:=hb.size
 clear hs hb HC2 hB2
 have hbd:∀x∈beginL,-9223372036854775808≤x∧x≤9223372036854775807:=by decide
 have HBD:=LH hbd
 have HI0:=LH (SS.Inv.init (k:=5) (by decide) (by decide))
 clear hbd
 generalize w2.heap.size=lo at HS3 hz2 hz3⊢
 go_wp2_with (fail)
 with_reducible refine (stepC_any b lo lo beginL 9 _ _ HS3.out HC3.out HI0.out (by omega) (by omega) (by decide) HBD.out).mono ?_
 rintro e w4 ⟨rfl,hs,hc,hb⟩
 have es:(SS.init 5).step (rdC beginL)=⟨1,5,1,⟨6,1,5,1,1,0,0⟩,some (PS.init 6),0,0,false⟩:=by kernel_rfl
 have HI4:=LH (SS.Inv.step HI0.out (rdC_bd (bd_of HBD.out)))
 rw[es] at hs HI4⊢
 have HS4:=LH hs
 have HC4:=LH hc
 have hB4:=hB3.trans hb
 have hz4:=hb.size
 clear hs hc hb es HS3 HC3 hB3
 go_wp2_with (fail)
 with_reducible refine (stepC_any b lo lo beginL 9 _ _ HS4.out HC4.out HI4.out (by omega) (by omega) (by decide) HBD.out).mono ?_
 rintro e w5 ⟨rfl,hs,hc,hb⟩
 have es:SS.step (rdC beginL) ⟨1,5,1,⟨6,1,5,1,1,0,0⟩,some (PS.init 6),0,0,false⟩=⟨5,5,1,⟨6,1,5,1,1,0,0⟩,some ⟨3,6,0,57⟩,7,0,false⟩:=by kernel_rfl
 rw[es] at hs⊢
 have HS5:=LH hs
 have hB5:=hB4.trans hb
 clear hs hc hb es HS4 HC4 hB4
 go_wp2_with (fail)
 with_reducible refine (valueS_any _ _ _ _ HS5.out).mono ?_
 rintro e w6 ⟨rfl,hd⟩
 have HS6:=LH (HS5.out.below (drawn_bl hd _))
 have hB6:=hB5.trans (drawn_bl hd _)
 clear hd HS5 hB5
 go_wp2_with (fail)
 with_reducible refine (doneS_any _ _ _ _ HS6.out).mono ?_
 rintro e w7 ⟨rfl,rfl⟩
 go_wp2_with (fail)
 go_ret
 exact ⟨rfl,hbe▸hB6⟩
theorem PairsAt.both {w:World} {B:Nat} {A:Option Addr} {L:List (Int×Int)} (h:PairsAt w B A L) (hl:0<L.length):∃ad,A=some ad∧ad.block<B∧∀i,i<L.length→w.cell? (ad.add (i*2))=some (.int .i64 (pkey L i))∧w.cell? (ad.add (i*2+1))=some (.int .i64 (pval L i)):=by
 obtain ⟨ad,e,hb,hc⟩:=h.2 hl
 exact ⟨ad,e,hb,fun i hi=>⟨hc _ _ (cellsP_key hi),hc _ _ (cellsP_val hi)⟩⟩
structure Res where
 why:Int
 found:Bool
 key:Int
 val:Int
 n:Int
 list:List (Int×Int)
def Res.none:Res:=⟨0,false,0,0,0,[]⟩
def Res.err (e:Int):Res:=⟨e,false,0,0,0,[]⟩
structure Op where
 kind:Int
 key:Int
 val:Int
def leastI:Int:=-9223372036854775808
def mostI:Int:=9223372036854775807
def Op.answer (o:Op) (l:List (Int×Int)):Res:=
 if o.kind=9 then ⟨0,false,0,0,0,l⟩
 else if o.kind=10 then ⟨0,false,0,0,l.length,[]⟩
 else match l with
  |[]=>Res.none
  |x::_=>⟨0,true,x.1,x.2,0,[]⟩
def resV (r:Res) (lv:Value):Value:= .agg #[.int .i64 r.why, .bool r.found, .int .i64 r.key, .int .i64 r.val, .int .i64 r.n,lv]
theorem PrP.nil' {F:Nat→Prop} {T:TypeId} {w:World}:PrP F T (.slice none 0 0) [] w:=⟨World.ownsRow_nil _ _ _ _,fun g hg=>by simp[Value.ownBlock] at hg⟩
theorem own_mono {w:World} {base base':Nat} {e:TypeId} {size:Nat} {v:Value} {n:Nat} {xs:List Value} (h:w.ownsRow base e size v n xs) (hb:base'≤base):w.ownsRow base' e size v n xs:=
 ⟨h.1,h.2.imp id (fun ⟨g,cap,cur,a,b,c⟩=>⟨g,cap,cur,a,Nat.le_trans hb b,c⟩)⟩
structure Ask where
 kind:Int
 a:Int
 x:Int
 y:Int
 ws:List Int
 tag:Int
inductive Prog (α:Type) where
 |ret (a:α)
 |ask (q:Ask) (k:Int→Prog α)
 |chk (k:Bool→Prog α)
 |stuck (p:Prog α)
def Prog.bind {α β:Type}:Prog α→(α→Prog β)→Prog β
 | .ret a,f=>f a
 | .ask q k,f=> .ask q fun v=>(k v).bind f
 | .chk k,f=> .chk fun o=>(k o).bind f
 | .stuck p,f=> .stuck (p.bind f)
def readP (a:Int):Prog Int:= .ask ⟨1,a,0,0,[],0⟩ .ret
def writeP (a x:Int):Prog Unit:= .ask ⟨2,a,x,0,[],0⟩ fun _=> .ret ()
def casP (a old x:Int):Prog Bool:= .ask ⟨3,a,old,x,[],0⟩ fun v=> .ret (v==1)
def addP (a d:Int):Prog Int:= .ask ⟨4,a,d,0,[],0⟩ .ret
def makeP (ws:List Int) (tag:Int):Prog Int:= .ask ⟨5,0,0,0,ws,tag⟩ .ret
def peekP (slot:Int):Prog Int:=(readP slot).bind fun w=>if wKind w=5 then (readP (wAt w+4)).bind fun o=>if o=1 then readP (wAt w+3) else readP (wAt w+2) else .ret w
def helpP (at_:Int):Prog Unit:=
 (readP at_).bind fun p=>(readP p).bind fun g=>(casP (at_+4) 0 (if g=0 then 1 else 2)).bind fun _=>
 (readP (at_+4)).bind fun o=>(readP (at_+1)).bind fun s=>(if o=1 then readP (at_+3) else readP (at_+2)).bind fun v=>
 (casP s (wOf 5 at_) v).bind fun _=> .ret ()
def slotGo (slot:Int):Nat→Int→Prog Int
 |0,w=> .stuck (.ret w)
 |n+1,w=> .chk fun off=>if off=false∧wKind w=5 then (helpP (wAt w)).bind fun _=>(readP slot).bind (slotGo slot n) else .ret w
def slotP (fuel:Nat) (slot:Int):Prog Int:=(readP slot).bind (slotGo slot fuel)
def dcssW (guard place old x:Int):List Int:=[guard,place,old,x,0]
def rebuildW (target gate slot:Int):List Int:=[target,gate,slot,0,0]
def dcssP (tag guard place old x:Int):Prog Int:=
 (makeP (dcssW guard place old x) tag).bind fun a=>if a≤0 then .ret 3 else
 (casP place old (wOf 5 a)).bind fun b=>if b=false then .ret 0 else
 (readP guard).bind fun g=>(casP (wrap64 (a+4)) 0 (if g=0 then 1 else 2)).bind fun _=>
 (readP (wrap64 (a+4))).bind fun o=>if o=1 then (casP place (wOf 5 a) x).bind fun _=> .ret 1 else (casP place (wOf 5 a) old).bind fun _=> .ret 2
def downGo (n k d:Int):Nat→Int→Prog (Int×Int)
 |0,_=> .ret (d,1)
 |f+1,i=> .chk fun off=>if 1<i∧off=false then (readP (keyAtI n i)).bind fun q=>if q≤k then .ret (d,i) else downGo n k d f (i-1) else .ret (d,1)
def upGo (n k d m:Int):Nat→Int→Prog (Int×Int)
 |0,_=> .ret (d,m-1)
 |f+1,i=> .chk fun off=>if i<m∧off=false then (readP (keyAtI n i)).bind fun q=>if k<q then .ret (d,i-1) else upGo n k d m f (i+1) else .ret (d,m-1)
def guessP (n k d m first last:Int):Prog (Int×Int):=
 .chk fun off=>if off=true∨guessI first last k m<1 then .ret (d,0) else
 if 1<guessI first last k m then (readP (keyAtI n (guessI first last k m))).bind fun q=>if k<q then downGo n k d (guessI first last k m).toNat (guessI first last k m-1) else upGo n k d m (m-guessI first last k m).toNat (guessI first last k m+1)
 else upGo n k d m (m-guessI first last k m).toNat (guessI first last k m+1)
def routeP (n k:Int):Prog (Int×Int):=
 (readP n).bind fun d=>if wrap64 (d-1)<1 then .ret (d,0) else
 (readP (keyAtI n 1)).bind fun first=>if k<first then .ret (d,0) else if wrap64 (d-1)=1 then .ret (d,1) else
 (readP (keyAtI n (wrap64 (d-1)))).bind fun last=>if last≤k then .ret (d,wrap64 (d-1)) else guessP n k d (wrap64 (d-1)) first last
def childP (n k:Int):Prog Int:=(routeP n k).bind fun r=> .ret (childAtI n r.1 r.2)
def seekP (k:Int):Nat→Int→Prog (Int×Bool)
 |0,_=> .stuck (.ret (0,false))
 |f+1,n=> .chk fun off=>if off=true then .ret (0,false) else
  (childP n k).bind fun s=>(peekP s).bind fun w=>
  if wKind w=2 then (readP (wAt w)).bind fun q=>if q=k then (readP (wAt w+1)).bind fun v=> .ret (v,true) else .ret (0,false)
  else if wKind w=3 then seekP k f (wAt w)
  else if wKind w=4 then (readP (wAt w)).bind fun t=>seekP k f (wAt t)
  else .ret (0,false)
structure WQ where
 lo:Int
 hi:Int
 back:Bool
 most:Int
 values:Bool
structure WAcc where
 pairs:List (Int×Int)
 spots:List (Int×Int)
instance:Inhabited WAcc:=⟨⟨[],[]⟩⟩
def meetsP (x:WQ) (a:Int) (st:WAcc):Prog (WAcc×Bool):=
 (readP a).bind fun q=>if q<x.lo∨x.hi<q then .ret (st,false) else
 (if x.values=true then readP (a+1) else .ret 0).bind fun v=>
 .ret (⟨st.pairs++[(q,v)],st.spots⟩,decide (0<x.most∧x.most≤((st.pairs++[(q,v)]).length:Int)))
def walkGo (x:WQ) (thr:Int→WAcc→Prog (WAcc×Bool)):Nat→Int→Int→Int→WAcc→Prog (WAcc×Bool)
 |0,_,_,_,st=> .stuck (.ret (st,true))
 |f+1,n,d,i,st=> .chk fun off=>if off=true then .ret (st,true) else
  (peekP (childAtI n d i)).bind fun w=> .chk fun off2=>if off2=true then .ret (st,true) else
  (if wKind w=2 then meetsP x (wAt w) ⟨st.pairs,st.spots++[(childAtI n d i,w)]⟩
   else if wKind w=3 then thr (wAt w) ⟨st.pairs,st.spots++[(childAtI n d i,w)]⟩
   else if wKind w=4 then (readP (wAt w)).bind fun t=>thr (wAt t) ⟨st.pairs,st.spots++[(childAtI n d i,w)]⟩
   else .ret (⟨st.pairs,st.spots++[(childAtI n d i,w)]⟩,false)).bind fun r=>
  if r.2=true then .ret (r.1,true) else
  if x.back=true then (if i=0 then .ret (r.1,false) else (readP (keyAtI n i)).bind fun q=>if q≤x.lo then .ret (r.1,false) else walkGo x thr f n d (wrap64 (i-1)) r.1)
  else if wrap64 (i+1)=d then .ret (r.1,false) else (readP (keyAtI n (wrap64 (i+1)))).bind fun q=>if x.hi<q then .ret (r.1,false) else walkGo x thr f n d (wrap64 (i+1)) r.1
def throughP (x:WQ):Nat→Int→WAcc→Prog (WAcc×Bool)
 |0,_,st=> .stuck (.ret (st,true))
 |f+1,n,st=>(routeP n (if x.back=true then x.hi else x.lo)).bind fun r=>walkGo x (throughP x f) (f+1) n r.1 r.2 st
def againP:List (Int×Int)→Prog Bool
 |[]=> .ret true
 |p::l=> .chk fun off=>if off=true then .ret true else (peekP p.1).bind fun w=>if w=p.2 then againP l else .ret false
def markGo (sf:Nat) (mk:Int→Prog Int):Nat→Int→Int→Int→Int→Prog Int
 |0,_,_,_,all=> .stuck (.ret all)
 |f+1,n,d,i,all=> .chk fun off=>if i<d∧off=false then
   (slotP sf (childAtI n d i)).bind fun w=>
   (if wKind w=2 then .ret (wrap64 (all+1))
    else if wKind w=3 then (mk (wAt w)).bind fun m=> .ret (wrap64 (all+m))
    else if wKind w=4 then (readP (wAt w)).bind fun t=>(mk (wAt t)).bind fun m=> .ret (wrap64 (all+m))
    else .ret all).bind fun all'=>markGo sf mk f n d (i+1) all'
  else .ret all
def markP:Nat→Int→Prog Int
 |0,_=> .stuck (.ret 0)
 |f+1,n=>(readP (n+4)).bind fun s=>if s=0 then
   (writeP (n+2) 1).bind fun _=>(readP n).bind fun d=>(markGo (f+1) (markP f) (f+1) n d 0 0).bind fun all=>(writeP (n+4) (wrap64 (all+1))).bind fun _=> .ret all
  else .ret (wrap64 (s-1))
def gatherGo (gt:Int→Int→Int→List (Int×Int)→Prog (List (Int×Int))):Nat→Int→Int→Int→Int→Int→Int→List (Int×Int)→Prog (List (Int×Int))
 |0,_,_,_,_,_,_,out=> .stuck (.ret out)
 |f+1,n,d,from_,to,i,rank,out=> .chk fun off=>if (i<d∧rank<to)∧off=false then
   (peekP (childAtI n d i)).bind fun w=>
   if wKind w=2 then
    (if from_≤rank then (readP (wAt w)).bind fun k=>(readP (wAt w+1)).bind fun v=> .ret (out++[(k,v)]) else .ret out).bind fun out'=>gatherGo gt f n d from_ to (i+1) (wrap64 (rank+1)) out'
   else if wKind w=3∨wKind w=4 then
    (if wKind w=4 then (readP (wAt w)).bind fun t=> .ret (wAt t) else .ret (wAt w)).bind fun a=>
    (readP (a+4)).bind fun s=>
    (if from_<wrap64 (rank+wrap64 (s-1)) then gt a (wrap64 (from_-rank)) (wrap64 (to-rank)) out else .ret out).bind fun out'=>gatherGo gt f n d from_ to (i+1) (wrap64 (rank+wrap64 (s-1))) out'
   else gatherGo gt f n d from_ to (i+1) rank out
  else .ret out
def gatherP:Nat→Int→Int→Int→List (Int×Int)→Prog (List (Int×Int))
 |0,_,_,_,out=> .stuck (.ret out)
 |f+1,n,from_,to,out=>(readP n).bind fun d=>gatherGo (gatherP f) (f+1) n d from_ to 0 0 out
def subL (l:List (Int×Int)) (at_ n:Int):List (Int×Int):=(l.drop at_.toNat).take n.toNat
def innerWs (n:Int) (q c:List Int):List Int:=if c.length=q.length+1 then innerW n q c else []
def growGo (gr:List (Int×Int)→Prog (Int×Bool)) (l:List (Int×Int)):Nat→Int→List Int→List Int→Prog (Int×Bool)
 |0,_,q,c=>(makeP (innerWs l.length q c) 0).bind fun a=> .ret (wOf 3 a,decide (0<a))
 |m+1,i,q,c=>(gr (subL l (fromI l.length i) (sizeI l.length i))).bind fun r=>if r.2=false then .ret (0,false) else
  growGo gr l m (i+1) (if 0<i then q++[pkey l (fromI l.length i).toNat] else q) (c++[r.1])
def growP:Nat→List (Int×Int)→Prog (Int×Bool)
 |0,_=> .stuck (.ret (0,false))
 |f+1,l=>if l.length=0 then (makeP [0] 0).bind fun a=> .ret (wOf 1 a,decide (0<a))
  else if l.length=1 then (makeP [pkey l 0,pval l 0] 0).bind fun a=> .ret (wOf 2 a,decide (0<a))
  else growGo (growP f) l (degreeI l.length).toNat 0 [] []
def growT (l:List (Int×Int)):Prog (Int×Bool):=growP (l.length+1) l
def topP (f:Nat) (t n:Int):Prog (Int×Bool):=
 if 2≤n then (makeP (innerWs n (List.replicate (maxI (degreeI n) 1-1).toNat 0) (List.replicate (maxI (degreeI n) 1).toNat 0)) 0).bind fun a=> .ret (wOf 3 a,decide (0<a))
 else (if n=1 then gatherP f t 0 1 [] else .ret []).bind fun p=> .chk fun off=>if off=true then .ret (0,false) else growT p
def partP (f:Nat) (t n x d i:Int):Prog Bool:=
 (gatherP f t (fromI n i) (fromI n i+sizeI n i) []).bind fun p=> .chk fun off=>if off=true then .ret true else
 (growT p).bind fun r=>if r.2=false then .ret false else
 (if 0<i∧p≠[] then writeP (keyAtI x i) (pkey p 0) else .ret ()).bind fun _=>(casP (childAtI x d i) 0 r.1).bind fun _=> .ret true
def claimGo (at_ t n x d:Int):Nat→Prog Bool
 |0=> .stuck (.ret true)
 |f+1=> .chk fun off=>if off=true then .ret true else (addP (wrap64 (at_+4)) 1).bind fun i=>if d≤i then .ret true else
  .chk fun off2=>if off2=true then .ret true else (partP f t n x d i).bind fun ok=>if ok=false then .ret false else claimGo at_ t n x d f
def restGo (f:Nat) (t n x d:Int):Nat→Int→Prog Bool
 |0,_=> .ret true
 |m+1,j=> .chk fun off=>if off=true then .ret true else (readP (childAtI x d j)).bind fun c=> .chk fun off2=>
  if c≠0∨off2=true then restGo f t n x d m (j+1) else (partP f t n x d j).bind fun ok=>if ok=false then .ret false else restGo f t n x d m (j+1)
def partsP (f:Nat) (at_ t n x:Int):Prog Bool:=
 (claimGo at_ t n x (degreeI n) f).bind fun ok=>if ok=false then .ret false else restGo f t n x (degreeI n) (degreeI n).toNat 0
def renewP (f:Nat) (at_:Int):Prog Bool:=
 (readP at_).bind fun t0=>(markP f (wAt t0)).bind fun n=>(readP (wrap64 (at_+3))).bind fun w=> .chk fun off=>if off=true then .ret true else
 (if w=0 then (topP f (wAt t0) n).bind fun r=>if r.2=false then .ret (0,false) else (casP (wrap64 (at_+3)) 0 r.1).bind fun _=>(readP (wrap64 (at_+3))).bind fun w'=> .ret (w',true)
  else .ret (w,true)).bind fun r=>if r.2=false then .ret false else
 (if 2≤n then partsP f at_ (wAt t0) n (wAt r.1) else .ret true).bind fun ok=>if ok=false then .ret false else
 (readP (wrap64 (at_+1))).bind fun g=>(readP (wrap64 (at_+2))).bind fun s=>(dcssP 0 g s (wOf 4 at_) r.1).bind fun o=> .ret (o !=3)
structure Entry where
 node:Int
 slot:Int
 word:Int
def startP (f:Nat) (e:Entry):Prog Bool:=
 (makeP (rebuildW e.word (wrap64 (e.node+2)) e.slot) 0).bind fun a=>if a≤0 then .ret false else
 (dcssP 0 (wrap64 (e.node+2)) e.slot e.word (wOf 4 a)).bind fun o=>if o=1 then renewP f a else if o=3 then .ret false else .ret true
def tallyGo (f:Nat):List Entry→Option Entry→Prog Unit
 |[],first=> .chk fun off=>if off=true then .ret () else (match first with
  |some e=>(startP f e).bind fun _=> .ret ()
  |none=> .ret ())
 |e::l,first=> .chk fun off=>if off=true then .ret () else
  (addP (wAt e.word+3) 1).bind fun c=>(readP (wAt e.word+1)).bind fun s=>tallyGo f l (if first.isNone=true∧limitI s≤wrap64 (c+1) then some e else first)
def freshP (o:Op) (w q:Int) (leaf there:Bool):Prog (Int×Bool):=
 if o.kind=3 then (makeP [0] 0).bind fun a=> .ret (wOf 1 a,decide (0<a)) else
 (makeP [o.key,o.val] 0).bind fun a=>if ¬0<a∨leaf=false∨there=true then .ret (wOf 2 a,decide (0<a)) else
 (makeP (innerWs 2 [if q<o.key then o.key else q] (if o.key<q then [wOf 2 a,w] else [w,wOf 2 a])) 0).bind fun b=> .ret (wOf 3 b,decide (0<b))
instance:Inhabited Res:=⟨Res.none⟩
def layP (f:Nat) (o:Op) (n s w:Int) (path:List Entry):Prog (Res×Bool):=
 (if wKind w=2 then (readP (wAt w)).bind fun q=>if q=o.key then (readP (wAt w+1)).bind fun v=> .ret (q,Res.mk 0 true q v 0 []) else .ret (q,Res.none) else .ret (0,Res.none)).bind fun r=>
 .chk fun off=>if off=true∨(o.kind=1∧r.2.found=true)∨(o.kind=3∧r.2.found=false) then .ret (r.2,true) else
 (freshP o w r.1 (decide (wKind w=2)) r.2.found).bind fun x=>if x.2=false then .ret (Res.err 8,true) else
 (dcssP 1 (wrap64 (n+2)) s w x.1).bind fun d=>if d=3 then .ret (Res.err 8,true) else
 (if d=1∧(o.kind≠2∨r.2.found=false) then tallyGo f path none else .ret ()).bind fun _=> .ret (r.2,decide (d=1))
def attemptGo (f:Nat) (o:Op):Nat→Int→List Entry→Prog (Res×Bool)
 |0,_,_=> .stuck (.ret (Res.none,true))
 |m+1,n,path=> .chk fun off=>if off=true then .ret (Res.none,true) else
  (childP n o.key).bind fun s=>(slotP m s).bind fun w=>
  if wKind w=4 then (renewP f (wAt w)).bind fun ok=>if ok=false then .ret (Res.err 8,true) else .ret (Res.none,false)
  else if wKind w=3 then attemptGo f o m (wAt w) (path++[⟨n,s,w⟩])
  else layP f o n s w path
def changeP (o:Op):Nat→Prog Res
 |0=> .stuck (.ret Res.none)
 |f+1=> .chk fun off=>if off=true then .ret Res.none else (attemptGo f o f 1 []).bind fun r=>if r.2=true then .ret r.1 else changeP o f
def askedW (o:Op):WQ:=
 if o.kind=5 then ⟨leastI,o.key,true,1,true⟩
 else if o.kind=6 then ⟨o.key,mostI,false,1,true⟩
 else if o.kind=8 then ⟨leastI,mostI,true,1,true⟩
 else if o.kind=9∨o.kind=10 then ⟨o.key,o.val,false,0,decide (o.kind=9)⟩
 else ⟨leastI,mostI,false,1,true⟩
def roundsGo (f:Nat) (o:Op):Nat→Prog Res
 |0=> .ret (Res.err 9)
 |b+1=> .chk fun off=>if off=true then .ret (Res.err 9) else
  (throughP (askedW o) f 1 ⟨[],[]⟩).bind fun r=> .chk fun off2=>if off2=true then .ret (Res.err 9) else
  (againP r.1.spots).bind fun same=>if same=true then .ret (o.answer r.1.pairs) else roundsGo f o b
def queryP (f:Nat) (o:Op) (budget:Int):Prog Res:=
 if o.kind=4 then (seekP o.key f 1).bind fun r=>if r.2=true then .ret ⟨0,true,o.key,r.1,0,[]⟩ else .ret Res.none
 else roundsGo f o budget.toNat
structure RunS where
 tape:List Int
 at_:Nat
 off:Bool
 next:Ask
def askS (q:Ask) (s:RunS):Int×RunS:=
 if s.off=true then (0,s) else if s.at_<s.tape.length then (keyAt s.tape s.at_,{s with at_:=s.at_+1}) else (0,{s with off:=true,next:=q})
def Prog.go {α:Type}:Prog α→RunS→α×RunS
 | .ret a,s=>(a,s)
 | .ask q k,s=>(k (askS q s).1).go (askS q s).2
 | .chk k,s=>(k s.off).go s
 | .stuck p,s=>p.go s
section
variable {α β:Type}
theorem go_ask (q:Ask) (k:Int→Prog α) (s:RunS):(Prog.ask q k).go s=(k (askS q s).1).go (askS q s).2:=rfl
theorem go_chk (k:Bool→Prog α) (s:RunS):(Prog.chk k).go s=(k s.off).go s:=rfl
theorem go_bind:∀(p:Prog α) (f:α→Prog β) (s:RunS),(p.bind f).go s=(f (p.go s).1).go (p.go s).2
 | .ret a,f,s=>rfl
 | .ask q k,f,s=>go_bind (k (askS q s).1) f (askS q s).2
 | .chk k,f,s=>go_bind (k s.off) f s
 | .stuck p,f,s=>go_bind p f s
def RunS.left (s:RunS):Nat:=if s.off=true then 0 else s.tape.length-s.at_+1
theorem askS_tape (q:Ask) (s:RunS):(askS q s).2.tape=s.tape:=by
 unfold askS
 by_cases h:s.off=true
 ·rw[if_pos h]
 ·rw[if_neg h]
  by_cases h2:s.at_<s.tape.length
  ·rw[if_pos h2]
  ·rw[if_neg h2]
theorem askS_off {q:Ask} {s:RunS} (h:s.off=true):askS q s=(0,s):=if_pos h
def Prog.rest {α:Type}:Prog α→List Int→Prog α
 | .ret a,_=> .ret a
 | .ask q k,[]=> .ask q k
 | .ask _ k,v::t=>(k v).rest t
 | .chk k,t=>(k false).rest t
 | .stuck p,t=> .stuck (p.rest t)
theorem go_off:∀(p:Prog α) (s:RunS),s.off=true→(p.go s).2=s
 | .ret a,s,h=>rfl
 | .ask q k,s,h=>by rw[go_ask,askS_off h];exact go_off _ s h
 | .chk k,s,h=>go_off (k s.off) s h
 | .stuck p,s,h=>go_off p s h
def Prog.next {α:Type}:Prog α→Option Ask
 | .ret _=>none
 | .ask q _=>some q
 | .chk k=>(k false).next
 | .stuck p=>p.next
def Prog.val {α:Type} [Inhabited α]:Prog α→α
 | .ret a=>a
 | .ask _ _=>default
 | .chk k=>(k false).val
 | .stuck p=>p.val
theorem go_rest [Inhabited α]:∀(p:Prog α) (s:RunS),s.off=false→s.at_≤s.tape.length→
  match (p.rest (s.tape.drop s.at_)).next with
  |none=>(p.go s).1=(p.rest (s.tape.drop s.at_)).val∧(p.go s).2.off=false
  |some q=>(p.go s).2.off=true∧(p.go s).2.next=q
 | .ret a,s,h,_=>⟨rfl,h⟩
 | .chk k,s,h,hl=>by
  have:=go_rest (k false) s h hl
  rw[go_chk,h]
  exact this
 | .stuck p,s,h,hl=>go_rest p s h hl
 | .ask q k,s,h,hl=>by
  by_cases hlt:s.at_<s.tape.length
  ·have e:askS q s=(keyAt s.tape s.at_,{s with at_:=s.at_+1}):=by unfold askS;rw[if_neg (by rw[h];decide),if_pos hlt]
   have ed:s.tape.drop s.at_=keyAt s.tape s.at_::s.tape.drop (s.at_+1):=by
    rw[List.drop_eq_getElem_cons hlt]
    unfold keyAt
    rw[List.getD_eq_getElem?_getD,List.getElem?_eq_getElem hlt];rfl
   have:=go_rest (k (keyAt s.tape s.at_)) {s with at_:=s.at_+1} h hlt
   rw[go_ask,e,ed]
   exact this
  ·have e:askS q s=(0,{s with off:=true,next:=q}):=by unfold askS;rw[if_neg (by rw[h];decide),if_neg hlt]
   have ed:s.tape.drop s.at_=[]:=by rw[List.drop_eq_nil_iff];omega
   rw[go_ask,e,ed]
   have hf:=go_off (k 0) {s with off:=true,next:=q} rfl
   show ((k 0).go {s with off:=true,next:=q}).2.off=true∧((k 0).go {s with off:=true,next:=q}).2.next=q
   rw[hf]
   exact ⟨rfl,rfl⟩
end
def i64B (x:Int):Prop:=-9223372036854775808≤x∧x≤9223372036854775807
theorem i64B.lo {x:Int} (h:i64B x):-9223372036854775808≤x:=h.1
theorem i64B.hi {x:Int} (h:i64B x):x≤9223372036854775807:=h.2
structure Ask.Ok (q:Ask):Prop where
 k0:1≤q.kind
 k1:q.kind≤5
 a:i64B q.a
 x:i64B q.x
 y:i64B q.y
 ws:∀v∈q.ws,i64B v
 len:q.ws.length≤1000000
def Prog.Ok {α:Type} (P:α→Prop):Prog α→Prop
 | .ret a=>P a
 | .ask q k=>q.Ok∧∀v,i64B v→(k v).Ok P
 | .chk k=>∀b,(k b).Ok P
 | .stuck p=>p.Ok P
structure RunS.Bd (s:RunS):Prop where
 vals:∀x∈s.tape,i64B x
 len:s.tape.length≤1000000000
 at_:s.at_≤s.tape.length
theorem wrap_bd (x:Int):i64B (wrap64 x):=by unfold wrap64 i64B;omega
theorem i64B_zero:i64B 0:=by unfold i64B;omega
theorem i64B.of {x:Int} (h0:-9223372036854775808≤x) (h1:x≤9223372036854775807):i64B x:=⟨h0,h1⟩
theorem wAt_i64 (w:Int) {d:Int} (h0:0≤d) (h1:d≤100):i64B (wAt w+d):=by have:=wAt_bd w;unfold i64B;omega
theorem wAt_i64' (w:Int):i64B (wAt w):=by have:=wAt_bd w;unfold i64B;omega
theorem wOf_i64 (k a:Int):i64B (wOf k a):=by have:=wOf_bd k a;unfold i64B;omega
theorem keyAt_i64 (n i:Int):i64B (keyAtI n i):=by
 unfold keyAtI i64B
 split
 ·rename_i h;have h1:=nearB_yes h.1;have h2:=nearB_yes h.2;omega
 ·omega
theorem childAt_i64 (n d i:Int):i64B (childAtI n d i):=by have:=childAtI_bd (n:=n) (d:=d) (i:=i);unfold i64B;omega
theorem askS_bd {s:RunS} (h:s.Bd) (q:Ask):i64B (askS q s).1∧(askS q s).2.Bd:=by
 unfold askS
 by_cases h1:s.off=true
 ·rw[if_pos h1];exact ⟨i64B_zero,h⟩
 ·rw[if_neg h1]
  by_cases h2:s.at_<s.tape.length
  ·rw[if_pos h2]
   exact ⟨h.vals _ (by unfold keyAt;rw[List.getD_eq_getElem?_getD,List.getElem?_eq_getElem h2];exact List.getElem_mem _),h.vals,h.len,h2⟩
  ·rw[if_neg h2]
   exact ⟨i64B_zero,h.vals,h.len,h.at_⟩
section
variable {α β:Type} {P P':α→Prop} {Q:β→Prop}
theorem ok_bind:∀{p:Prog α} {f:α→Prog β},p.Ok P→(∀a,P a→(f a).Ok Q)→(p.bind f).Ok Q
 | .ret a,f,hp,hf=>hf a hp
 | .ask q k,f,hp,hf=>⟨hp.1,fun v hv=>ok_bind (hp.2 v hv) hf⟩
 | .chk k,f,hp,hf=>fun b=>ok_bind (hp b) hf
 | .stuck p,f,hp,hf=>ok_bind (p:=p) hp hf
theorem ok_ite {c:Prop} [Decidable c] {p q:Prog α} (h1:c→p.Ok P) (h2:¬c→q.Ok P):(if c then p else q).Ok P:=by
 split
 ·exact h1 (by assumption)
 ·exact h2 (by assumption)
theorem go_ok:∀(p:Prog α) (s:RunS),p.Ok P→s.Bd→P (p.go s).1∧(p.go s).2.Bd
 | .ret a,s,hp,hs=>⟨hp,hs⟩
 | .ask q k,s,hp,hs=>go_ok (k (askS q s).1) (askS q s).2 (hp.2 _ (askS_bd hs q).1) (askS_bd hs q).2
 | .chk k,s,hp,hs=>go_ok (k s.off) s (hp s.off) hs
 | .stuck p,s,hp,hs=>go_ok p s hp hs
theorem go_tape:∀(p:Prog α) (s:RunS),(p.go s).2.tape=s.tape
 | .ret a,s=>rfl
 | .ask q k,s=>by rw[go_ask,go_tape,askS_tape]
 | .chk k,s=>go_tape (k s.off) s
 | .stuck p,s=>go_tape p s
theorem go_ex (p:Prog α) (s:RunS):∃v s',p.go s=(v,s'):=⟨_,_,rfl⟩
theorem go_okE {p:Prog α} {s s':RunS} {v:α} (hg:p.go s=(v,s')) (hp:p.Ok P) (hs:s.Bd):P v∧s'.Bd:=by
 have:=go_ok p s hp hs;rw[hg] at this;exact this
end
theorem askOk {k a x y t:Int} {ws:List Int} (k0:1≤k) (k1:k≤5) (ha:i64B a) (hx:i64B x) (hy:i64B y) (h:∀v∈ws,i64B v) (hl:ws.length≤1000000):Ask.Ok ⟨k,a,x,y,ws,t⟩:=⟨k0,k1,ha,hx,hy,h,hl⟩
theorem nilOk:∀v∈([]:List Int),i64B v:=fun v hv=>by cases hv
theorem readP_ok {a:Int} (h:i64B a):(readP a).Ok i64B:=⟨askOk (by decide) (by decide) h i64B_zero i64B_zero nilOk (by decide),fun v hv=>hv⟩
theorem writeP_ok {a x:Int} (h:i64B a) (hx:i64B x):(writeP a x).Ok (fun _=>True):=⟨askOk (by decide) (by decide) h hx i64B_zero nilOk (by decide),fun v hv=>trivial⟩
theorem casP_ok {a x y:Int} (h:i64B a) (hx:i64B x) (hy:i64B y):(casP a x y).Ok (fun _=>True):=⟨askOk (by decide) (by decide) h hx hy nilOk (by decide),fun v hv=>trivial⟩
theorem addP_ok {a x:Int} (h:i64B a) (hx:i64B x):(addP a x).Ok i64B:=⟨askOk (by decide) (by decide) h hx i64B_zero nilOk (by decide),fun v hv=>hv⟩
theorem makeP_ok {ws:List Int} {t:Int} (h:∀v∈ws,i64B v) (hl:ws.length≤1000000):(makeP ws t).Ok i64B:=⟨askOk (by decide) (by decide) i64B_zero i64B_zero i64B_zero h hl,fun v hv=>hv⟩
theorem peekP_ok {slot:Int} (h:i64B slot):(peekP slot).Ok i64B:=
 ok_bind (readP_ok h) fun w hw=>ok_ite (fun _=>ok_bind (readP_ok (wAt_i64 w (by decide) (by decide))) fun o _=>ok_ite (fun _=>readP_ok (wAt_i64 w (by decide) (by decide))) fun _=>readP_ok (wAt_i64 w (by decide) (by decide))) fun _=>hw
theorem helpP_ok {a:Int} (h0:0≤a) (h1:a≤65536):(helpP a).Ok (fun _=>True):=by
 have b:∀d,0≤d→d≤100→i64B (a+d):=fun d _ _=>by unfold i64B;omega
 refine ok_bind (readP_ok (by have:=b 0 (by decide) (by decide);simpa using this)) fun p hp=>ok_bind (readP_ok hp) fun g _=>ok_bind (casP_ok (b 4 (by decide) (by decide)) i64B_zero (by split<;>unfold i64B<;>omega)) fun _ _=> ?_
 refine ok_bind (readP_ok (b 4 (by decide) (by decide))) fun o _=>ok_bind (readP_ok (b 1 (by decide) (by decide))) fun s hs=>ok_bind (P:=i64B) (ok_ite (fun _=>readP_ok (b 3 (by decide) (by decide))) fun _=>readP_ok (b 2 (by decide) (by decide))) fun v hv=> ?_
 exact ok_bind (casP_ok hs (wOf_i64 _ _) hv) fun _ _=>trivial
theorem slotGo_ok {slot:Int} (h:i64B slot):∀(f:Nat) {w:Int},i64B w→(slotGo slot f w).Ok i64B
 |0,w,hw=>hw
 |f+1,w,hw=>fun b=>ok_ite (fun _=>ok_bind (helpP_ok (wAt_bd w).1 (wAt_bd w).2) fun _ _=>ok_bind (readP_ok h) fun w' hw'=>slotGo_ok h f hw') fun _=>hw
theorem slotP_ok {slot:Int} (h:i64B slot) (f:Nat):(slotP f slot).Ok i64B:=ok_bind (readP_ok h) fun _ hw=>slotGo_ok h f hw
theorem cond_i64 {c:Prop} [Decidable c] {a b:Int} (h1:i64B a) (h2:i64B b):i64B (if c then a else b):=by split<;>assumption
theorem one_i64:i64B 1:=by unfold i64B;omega
theorem two_i64:i64B 2:=by unfold i64B;omega
theorem dcssP_ok {tag guard place old x:Int} (hg:i64B guard) (hp:i64B place) (ho:i64B old) (hx:i64B x):(dcssP tag guard place old x).Ok (fun r=>0≤r∧r≤3):=by
 refine ok_bind (P:=i64B) (makeP_ok (fun v hv=> ?_) (by simp[dcssW])) fun a ha=>ok_ite (fun _=>by show (0:Int)≤3∧(3:Int)≤3;omega) fun hn=> ?_
 ·simp[dcssW] at hv;rcases hv with rfl|rfl|rfl|rfl|rfl<;>first|assumption|exact i64B_zero
 ·refine ok_bind (casP_ok hp ho (wOf_i64 _ _)) fun b _=>ok_ite (fun _=>by show (0:Int)≤0∧(0:Int)≤3;omega) fun _=>ok_bind (readP_ok hg) fun g _=> ?_
  refine ok_bind (casP_ok (wrap_bd _) i64B_zero (cond_i64 one_i64 two_i64)) fun _ _=>ok_bind (readP_ok (wrap_bd _)) fun o _=>ok_ite (fun _=> ?_) fun _=> ?_
  ·exact ok_bind (casP_ok hp (wOf_i64 _ _) hx) fun _ _=>by show (0:Int)≤1∧(1:Int)≤3;omega
  ·exact ok_bind (casP_ok hp (wOf_i64 _ _) ho) fun _ _=>by show (0:Int)≤2∧(2:Int)≤3;omega
def two64 (r:Int×Int):Prop:=i64B r.1∧i64B r.2
theorem downGo_ok {n k d:Int} (hd:i64B d):∀(f:Nat) {i:Int},i64B i→(downGo n k d f i).Ok two64
 |0,i,hi=>⟨hd,one_i64⟩
 |f+1,i,hi=>fun b=>ok_ite (fun h=>ok_bind (readP_ok (keyAt_i64 n i)) fun q _=>ok_ite (fun _=>⟨hd,hi⟩) fun _=>downGo_ok hd f ⟨by have:=h.1;omega,by have:=hi.hi;omega⟩) fun _=>⟨hd,one_i64⟩
theorem upGo_ok {n k d m:Int} (hd:i64B d) (hm:i64B m) (m1:1≤m):∀(f:Nat) {i:Int},1≤i→i64B i→(upGo n k d m f i).Ok two64
 |0,i,_,hi=>⟨hd,⟨by show _≤m-1;omega,by show m-1≤_;have:=hm.hi;omega⟩⟩
 |f+1,i,i1,hi=>fun b=>ok_ite (fun h=>ok_bind (readP_ok (keyAt_i64 n i)) fun q _=>ok_ite (fun _=>⟨hd,⟨by show _≤i-1;omega,by show i-1≤_;have:=hi.hi;omega⟩⟩) fun _=>upGo_ok hd hm m1 f (by omega) ⟨by omega,by have:=h.1;have:=hm.hi;omega⟩) fun _=>⟨hd,⟨by show _≤m-1;omega,by show m-1≤_;have:=hm.hi;omega⟩⟩
theorem routeP_ok {n k:Int} (hn:i64B n):(routeP n k).Ok two64:=by
 refine ok_bind (readP_ok hn) fun d hd=>ok_ite (fun _=>⟨hd,i64B_zero⟩) fun h1=>ok_bind (readP_ok (keyAt_i64 _ _)) fun first _=>ok_ite (fun _=>⟨hd,i64B_zero⟩) fun _=>ok_ite (fun _=>⟨hd,one_i64⟩) fun h2=> ?_
 refine ok_bind (readP_ok (keyAt_i64 _ _)) fun last _=>ok_ite (fun _=>⟨hd,wrap_bd _⟩) fun h3 b=>ok_ite (fun _=>⟨hd,i64B_zero⟩) fun h4=> ?_
 have hm:=wrap_bd (d-1)
 have hm2:=hm.hi
 generalize wrap64 (d-1)=m at*
 have hj:=guessI_le first last k m (by omega)
 generalize guessI first last k m=j at*
 have h5:¬j<1:=fun h=>h4 (.inr h)
 have up:(upGo n k d m (m-j).toNat (j+1)).Ok two64:=upGo_ok hd hm (by omega) _ (by omega) ⟨by omega,by
  by_cases hj1:1<j
  ·have:=hj.2 hj1;omega
  ·omega⟩
 exact ok_ite (fun h6=>ok_bind (readP_ok (keyAt_i64 _ _)) fun q _=>ok_ite (fun _=>downGo_ok hd _ ⟨by omega,by have:=hj.2 h6;omega⟩) fun _=>up) fun _=>up
theorem childP_ok {n k:Int} (hn:i64B n):(childP n k).Ok i64B:=ok_bind (routeP_ok hn) fun r _=>childAt_i64 _ _ _
theorem seekP_ok {k:Int}:∀(f:Nat) {n:Int},i64B n→(seekP k f n).Ok (fun r=>i64B r.1)
 |0,n,hn=>i64B_zero
 |f+1,n,hn=>fun b=>ok_ite (fun _=>i64B_zero) fun _=>ok_bind (childP_ok hn) fun s hs=>ok_bind (peekP_ok hs) fun w _=>
  ok_ite (fun _=>ok_bind (readP_ok (wAt_i64' w)) fun q _=>ok_ite (fun _=>ok_bind (readP_ok (wAt_i64 w (by decide) (by decide))) fun v hv=>hv) fun _=>i64B_zero) fun _=>
  ok_ite (fun _=>seekP_ok f (wAt_i64' w)) fun _=>ok_ite (fun _=>ok_bind (readP_ok (wAt_i64' w)) fun t _=>seekP_ok f (wAt_i64' t)) fun _=>i64B_zero
def LB (l:List (Int×Int)):Prop:=∀p∈l,i64B p.1∧i64B p.2
theorem LB.nil:LB []:=fun p hp=>by cases hp
theorem LB.snoc {l:List (Int×Int)} {a b:Int} (h:LB l) (ha:i64B a) (hb:i64B b):LB (l++[(a,b)]):=fun p hp=>by
 rcases List.mem_append.1 hp with hp|hp
 ·exact h p hp
 ·rw[List.mem_singleton.1 hp];exact ⟨ha,hb⟩
theorem LB.at_ {l:List (Int×Int)} (h:LB l) (i:Nat):i64B (pkey l i)∧i64B (pval l i):=by
 unfold pkey pval
 rw[List.getD_eq_getElem?_getD]
 by_cases hi:i<l.length
 ·rw[List.getElem?_eq_getElem hi];exact h _ (List.getElem_mem hi)
 ·rw[List.getElem?_eq_none (by omega)];exact ⟨i64B_zero,i64B_zero⟩
theorem LB.sub {l:List (Int×Int)} (h:LB l) (a b:Int):LB (subL l a b):=fun p hp=>h p (List.mem_of_mem_drop (List.mem_of_mem_take hp))
structure WAcc.B (st:WAcc):Prop where
 pairs:LB st.pairs
 spots:LB st.spots
theorem wAt_next {w:Int}:i64B (wAt w+1):=wAt_i64 w (by decide) (by decide)
theorem at_i64 {a d:Int} (h0:0≤a) (h1:a≤65536) (d0:0≤d) (d1:d≤100):i64B (a+d):=by unfold i64B;omega
theorem at_i64' {a:Int} (h0:0≤a) (h1:a≤65536):i64B a:=by unfold i64B;omega
theorem meetsP_ok {x:WQ} {a:Int} {st:WAcc} (h0:0≤a) (h1:a≤65536) (hs:st.B):(meetsP x a st).Ok (fun r=>r.1.B):=
 ok_bind (readP_ok (at_i64' h0 h1)) fun q hq=>ok_ite (fun _=>hs) fun _=>ok_bind (P:=i64B) (ok_ite (fun _=>readP_ok (at_i64 h0 h1 (by decide) (by decide))) fun _=>i64B_zero) fun v hv=>⟨hs.pairs.snoc hq hv,hs.spots⟩
theorem walkGo_ok {x:WQ} {thr:Int→WAcc→Prog (WAcc×Bool)} (ht:∀n st,0≤n→n≤65536→st.B→(thr n st).Ok (fun r=>r.1.B)):∀(f:Nat) (n d i:Int) (st:WAcc),st.B→(walkGo x thr f n d i st).Ok (fun r=>r.1.B)
 |0,n,d,i,st,hs=>hs
 |f+1,n,d,i,st,hs=>fun b=>ok_ite (fun _=>hs) fun _=>ok_bind (peekP_ok (childAt_i64 n d i)) fun w hw b2=>ok_ite (fun _=>hs) fun _=>
  have hs2:WAcc.B ⟨st.pairs,st.spots++[(childAtI n d i,w)]⟩:=⟨hs.pairs,hs.spots.snoc (childAt_i64 n d i) hw⟩
  ok_bind (P:=fun r:WAcc×Bool=>r.1.B) (ok_ite (fun _=>meetsP_ok (wAt_bd w).1 (wAt_bd w).2 hs2) fun _=>ok_ite (fun _=>ht _ _ (wAt_bd w).1 (wAt_bd w).2 hs2) fun _=>ok_ite (fun _=>ok_bind (readP_ok (wAt_i64' w)) fun t _=>ht _ _ (wAt_bd t).1 (wAt_bd t).2 hs2) fun _=>hs2) fun r hr=>
  ok_ite (fun _=>hr) fun _=>ok_ite (fun _=>ok_ite (fun _=>hr) fun _=>ok_bind (readP_ok (keyAt_i64 _ _)) fun q _=>ok_ite (fun _=>hr) fun _=>walkGo_ok ht f n d _ r.1 hr) fun _=>
  ok_ite (fun _=>hr) fun _=>ok_bind (readP_ok (keyAt_i64 _ _)) fun q _=>ok_ite (fun _=>hr) fun _=>walkGo_ok ht f n d _ r.1 hr
theorem throughP_ok {x:WQ}:∀(f:Nat) (n:Int) (st:WAcc),0≤n→n≤65536→st.B→(throughP x f n st).Ok (fun r=>r.1.B)
 |0,n,st,_,_,hs=>hs
 |f+1,n,st,h0,h1,hs=>ok_bind (routeP_ok (at_i64' h0 h1)) fun r _=>walkGo_ok (fun n st h0 h1 hs=>throughP_ok f n st h0 h1 hs) (f+1) n r.1 r.2 st hs
theorem againP_ok:∀(l:List (Int×Int)),LB l→(againP l).Ok (fun _=>True)
 |[],_=>trivial
 |p::l,h=>fun b=>ok_ite (fun _=>trivial) fun _=>ok_bind (peekP_ok (h p (List.mem_cons_self ..)).1) fun w _=>ok_ite (fun _=>againP_ok l fun q hq=>h q (List.mem_cons_of_mem _ hq)) fun _=>trivial
theorem markGo_ok {sf:Nat} {mk:Int→Prog Int} (hm:∀n,0≤n→n≤65536→(mk n).Ok i64B):∀(f:Nat) (n d i all:Int),i64B all→(markGo sf mk f n d i all).Ok i64B
 |0,n,d,i,all,h=>h
 |f+1,n,d,i,all,h=>fun b=>ok_ite (fun _=>ok_bind (slotP_ok (childAt_i64 n d i) sf) fun w hw=>ok_bind (P:=i64B)
   (ok_ite (fun _=>wrap_bd _) fun _=>ok_ite (fun _=>ok_bind (hm _ (wAt_bd w).1 (wAt_bd w).2) fun m _=>wrap_bd _) fun _=>ok_ite (fun _=>ok_bind (readP_ok (wAt_i64' w)) fun t _=>ok_bind (hm _ (wAt_bd t).1 (wAt_bd t).2) fun m _=>wrap_bd _) fun _=>h)
   fun all' h'=>markGo_ok hm f n d (i+1) all' h') fun _=>h
theorem markP_ok:∀(f:Nat) (n:Int),0≤n→n≤65536→(markP f n).Ok i64B
 |0,n,_,_=>i64B_zero
 |f+1,n,h0,h1=>ok_bind (readP_ok (at_i64 h0 h1 (by decide) (by decide))) fun s _=>ok_ite (fun _=>ok_bind (writeP_ok (at_i64 h0 h1 (by decide) (by decide)) one_i64) fun _ _=>ok_bind (readP_ok (at_i64' h0 h1)) fun d _=>
   ok_bind (markGo_ok (fun n h0 h1=>markP_ok f n h0 h1) (f+1) n d 0 0 i64B_zero) fun all ha=>ok_bind (writeP_ok (at_i64 h0 h1 (by decide) (by decide)) (wrap_bd _)) fun _ _=>ha) fun _=>wrap_bd _
theorem gatherGo_ok {gt:Int→Int→Int→List (Int×Int)→Prog (List (Int×Int))} (hg:∀n a b out,0≤n→n≤65536→LB out→(gt n a b out).Ok LB):∀(f:Nat) (n d from_ to i rank:Int) (out:List (Int×Int)),LB out→(gatherGo gt f n d from_ to i rank out).Ok LB
 |0,n,d,from_,to,i,rank,out,h=>h
 |f+1,n,d,from_,to,i,rank,out,h=>fun b=>ok_ite (fun _=>ok_bind (peekP_ok (childAt_i64 n d i)) fun w hw=>
   ok_ite (fun _=>ok_bind (P:=LB) (ok_ite (fun _=>ok_bind (readP_ok (wAt_i64' w)) fun k hk=>ok_bind (readP_ok wAt_next) fun v hv=>h.snoc hk hv) fun _=>h) fun out' h'=>gatherGo_ok hg f n d from_ to _ _ out' h')
   fun _=>ok_ite (fun _=>ok_bind (P:=fun a=>0≤a∧a≤65536) (ok_ite (fun _=>ok_bind (readP_ok (wAt_i64' w)) fun t _=>wAt_bd t) fun _=>wAt_bd w) fun a ha=>ok_bind (readP_ok (at_i64 ha.1 ha.2 (by decide) (by decide))) fun s _=>
    ok_bind (P:=LB) (ok_ite (fun _=>hg _ _ _ _ ha.1 ha.2 h) fun _=>h) fun out' h'=>gatherGo_ok hg f n d from_ to _ _ out' h')
   fun _=>gatherGo_ok hg f n d from_ to _ _ out h) fun _=>h
theorem gatherP_ok:∀(f:Nat) (n a b:Int) (out:List (Int×Int)),0≤n→n≤65536→LB out→(gatherP f n a b out).Ok LB
 |0,n,a,b,out,_,_,h=>h
 |f+1,n,a,b,out,h0,h1,h=>ok_bind (readP_ok (at_i64' h0 h1)) fun d _=>gatherGo_ok (fun n a b out h0 h1 h=>gatherP_ok f n a b out h0 h1 h) (f+1) n d a b 0 0 out h
def VB (l:List Int):Prop:=∀x∈l,i64B x
theorem VB.snoc {l:List Int} {a:Int} (h:VB l) (ha:i64B a):VB (l++[a]):=fun x hx=>by
 rcases List.mem_append.1 hx with hx|hx
 ·exact h x hx
 ·rw[List.mem_singleton.1 hx];exact ha
theorem VB.ite {c:Prop} [Decidable c] {a b:List Int} (h1:VB a) (h2:VB b):VB (if c then a else b):=by split<;>assumption
theorem innerWs_ok {n:Int} {q c:List Int} (hn:c.length=q.length+1→i64B n) (hq:VB q) (hc:VB c) (hl:c.length≤1000):VB (innerWs n q c)∧(innerWs n q c).length≤1000000:=by
 unfold innerWs
 split
 ·rename_i e
  refine ⟨fun x hx=> ?_, ?_⟩
  ·unfold innerW at hx
   rcases List.mem_append.1 hx with hx|hx
   ·rcases List.mem_append.1 hx with hx|hx
    ·simp only[List.mem_cons,List.not_mem_nil,or_false] at hx
     have:=hn e
     unfold i64B at this⊢
     omega
    ·exact hq x hx
   ·exact hc x hx
  ·unfold innerW;simp;omega
 ·exact ⟨fun x hx=>(by cases hx),by simp⟩
theorem growGo_ok {gr:List (Int×Int)→Prog (Int×Bool)} {l:List (Int×Int)} (hl:LB l) (hg:∀p,LB p→(gr p).Ok (fun r=>i64B r.1)):∀(m:Nat) (i:Int) (q c:List Int),(m:Int)+c.length=degreeI l.length→VB q→VB c→(growGo gr l m i q c).Ok (fun r=>i64B r.1)
 |0,i,q,c,hd,hq,hc=>by
  have hdl:=degreeI_le l.length
  have hz:=degreeI_zero (n:=(l.length:Int))
  have hn:c.length=q.length+1→i64B (l.length:Int):=fun e=>by
   unfold i64B
   by_cases h2:(l.length:Int)<2∨16384<(l.length:Int)
   ·have:=degreeI_none h2
    omega
   ·omega
  have:=innerWs_ok (n:=(l.length:Int)) (q:=q) (c:=c) hn hq hc (by omega)
  exact ok_bind (makeP_ok this.1 this.2) fun a _=>wOf_i64 _ _
 |m+1,i,q,c,hd,hq,hc=>ok_bind (hg _ (hl.sub _ _)) fun r hr=>ok_ite (fun _=>i64B_zero) fun _=>growGo_ok hl hg m (i+1) _ _ (by simp;omega) (VB.ite (hq.snoc (hl.at_ _).1) hq) (hc.snoc hr)
theorem one_ok {a:Int} (h:i64B a):VB [a]:=fun x hx=>by rw[List.mem_singleton.1 hx];exact h
theorem two_ok {a b:Int} (h:i64B a) (g:i64B b):VB [a,b]:=fun x hx=>by
 rcases List.mem_cons.1 hx with rfl|hx
 ·exact h
 ·rw[List.mem_singleton.1 hx];exact g
theorem growP_ok:∀(f:Nat) (l:List (Int×Int)),LB l→(growP f l).Ok (fun r=>i64B r.1)
 |0,l,_=>i64B_zero
 |f+1,l,h=>ok_ite (fun _=>ok_bind (makeP_ok (one_ok i64B_zero) (by decide)) fun a _=>wOf_i64 _ _) fun _=>ok_ite (fun _=>ok_bind (makeP_ok (two_ok (h.at_ 0).1 (h.at_ 0).2) (by simp)) fun a _=>wOf_i64 _ _) fun _=>
   growGo_ok h (fun p hp=>growP_ok f p hp) _ 0 [] [] (by have:=degreeI_nonneg l.length;simp;omega) (fun x hx=>by cases hx) (fun x hx=>by cases hx)
theorem growT_ok {l:List (Int×Int)} (h:LB l):(growT l).Ok (fun r=>i64B r.1):=growP_ok _ l h
theorem rep_ok (n:Nat):VB (List.replicate n 0):=fun x hx=>by rw[(List.mem_replicate.1 hx).2];exact i64B_zero
theorem topP_ok {f:Nat} {t n:Int} (h0:0≤t) (h1:t≤65536) (hn:i64B n):(topP f t n).Ok (fun r=>i64B r.1):=by
 have hd:=degreeI_le n
 have hw:=innerWs_ok (n:=n) (q:=List.replicate (maxI (degreeI n) 1-1).toNat 0) (c:=List.replicate (maxI (degreeI n) 1).toNat 0) (fun _=>hn) (rep_ok _) (rep_ok _) (by simp;unfold maxI;split<;>omega)
 exact ok_ite (fun _=>ok_bind (makeP_ok hw.1 hw.2) fun a _=>wOf_i64 _ _) fun _=>ok_bind (P:=LB) (ok_ite (fun _=>gatherP_ok f t 0 1 [] h0 h1 LB.nil) fun _=>LB.nil) fun p hp b=>ok_ite (fun _=>i64B_zero) fun _=>growT_ok hp
theorem partP_ok {f:Nat} {t n x d i:Int} (h0:0≤t) (h1:t≤65536):(partP f t n x d i).Ok (fun _=>True):=
 ok_bind (gatherP_ok f t _ _ [] h0 h1 LB.nil) fun p hp b=>ok_ite (fun _=>trivial) fun _=>ok_bind (growT_ok hp) fun r hr=>ok_ite (fun _=>trivial) fun _=>
  ok_bind (P:=fun _=>True) (ok_ite (fun _=>writeP_ok (keyAt_i64 _ _) (hp.at_ 0).1) fun _=>trivial) fun _ _=>ok_bind (casP_ok (childAt_i64 _ _ _) i64B_zero hr) fun _ _=>trivial
theorem claimGo_ok {at_ t n x d:Int} (h0:0≤t) (h1:t≤65536):∀(g f:Nat),(claimGo at_ t n x d f).Ok (fun _=>True)
 |_,0=>trivial
 |g,f+1=>fun b=>ok_ite (fun _=>trivial) fun _=>ok_bind (addP_ok (wrap_bd _) one_i64) fun i _=>ok_ite (fun _=>trivial) fun _ b2=>ok_ite (fun _=>trivial) fun _=>ok_bind (partP_ok h0 h1) fun ok _=>ok_ite (fun _=>trivial) fun _=>claimGo_ok h0 h1 g f
theorem restGo_ok {f:Nat} {t n x d:Int} (h0:0≤t) (h1:t≤65536):∀(m:Nat) (j:Int),(restGo f t n x d m j).Ok (fun _=>True)
 |0,_=>trivial
 |m+1,j=>fun b=>ok_ite (fun _=>trivial) fun _=>ok_bind (readP_ok (childAt_i64 _ _ _)) fun c _ b2=>ok_ite (fun _=>restGo_ok h0 h1 m (j+1)) fun _=>ok_bind (partP_ok h0 h1) fun ok _=>ok_ite (fun _=>trivial) fun _=>restGo_ok h0 h1 m (j+1)
theorem partsP_ok {f:Nat} {at_ t n x:Int} (h0:0≤t) (h1:t≤65536):(partsP f at_ t n x).Ok (fun _=>True):=
 ok_bind (claimGo_ok h0 h1 f f) fun ok _=>ok_ite (fun _=>trivial) fun _=>restGo_ok h0 h1 _ _
theorem renewP_ok {f:Nat} {at_:Int} (ha:i64B at_):(renewP f at_).Ok (fun _=>True):=
 ok_bind (readP_ok ha) fun t0 _=>ok_bind (markP_ok f _ (wAt_bd t0).1 (wAt_bd t0).2) fun n hn=>ok_bind (readP_ok (wrap_bd _)) fun w hw b=>ok_ite (fun _=>trivial) fun _=>
 ok_bind (P:=fun r:_×_=>i64B r.1) (ok_ite (fun _=>ok_bind (topP_ok (wAt_bd t0).1 (wAt_bd t0).2 hn) fun r hr=>ok_ite (fun _=>i64B_zero) fun _=>ok_bind (casP_ok (wrap_bd _) i64B_zero hr) fun _ _=>ok_bind (readP_ok (wrap_bd _)) fun w' hw'=>hw') fun _=>hw) fun r hr=>
 ok_ite (fun _=>trivial) fun _=>ok_bind (P:=fun _=>True) (ok_ite (fun _=>partsP_ok (wAt_bd t0).1 (wAt_bd t0).2) fun _=>trivial) fun ok _=>ok_ite (fun _=>trivial) fun _=>
 ok_bind (readP_ok (wrap_bd _)) fun g hg=>ok_bind (readP_ok (wrap_bd _)) fun s hs=>ok_bind (dcssP_ok hg hs (wOf_i64 _ _) hr) fun o _=>trivial
structure Entry.B (e:Entry):Prop where
 node:i64B e.node
 slot:i64B e.slot
 word:i64B e.word
theorem startP_ok {f:Nat} {e:Entry} (h:e.B):(startP f e).Ok (fun _=>True):=
 ok_bind (makeP_ok (fun v hv=>by
  simp[rebuildW] at hv
  rcases hv with rfl|rfl|rfl|rfl|rfl<;>first|exact h.word|exact h.slot|exact wrap_bd _|exact i64B_zero) (by simp[rebuildW])) fun a ha=>ok_ite (fun _=>trivial) fun _=>
 ok_bind (dcssP_ok (wrap_bd _) h.slot h.word (wOf_i64 _ _)) fun o _=>ok_ite (fun _=>renewP_ok ha) fun _=>ok_ite (fun _=>trivial) fun _=>trivial
theorem tallyGo_ok {f:Nat}:∀(l:List Entry) (first:Option Entry),(∀e∈l,e.B)→(∀e,first=some e→e.B)→(tallyGo f l first).Ok (fun _=>True)
 |[],first,_,hf=>fun b=>ok_ite (fun _=>trivial) fun _=>by
  rcases first with _|e
  ·exact trivial
  ·exact ok_bind (startP_ok (hf e rfl)) fun _ _=>trivial
 |e::l,first,hl,hf=>fun b=>ok_ite (fun _=>trivial) fun _=>ok_bind (addP_ok (wAt_i64 _ (by decide) (by decide)) one_i64) fun c _=>ok_bind (readP_ok wAt_next) fun s _=>tallyGo_ok l _ (fun x hx=>hl x (List.mem_cons_of_mem _ hx)) fun x hx=>by
  split at hx
  ·injection hx with hx;subst hx;exact hl _ (List.mem_cons_self ..)
  ·exact hf x hx
structure Op.B (o:Op):Prop where
 key:i64B o.key
 val:i64B o.val
theorem freshP_ok {o:Op} {w q:Int} {leaf there:Bool} (ho:o.B) (hw:i64B w) (hq:i64B q):(freshP o w q leaf there).Ok (fun r=>i64B r.1):=by
 refine ok_ite (fun _=>ok_bind (makeP_ok (one_ok i64B_zero) (by decide)) fun a _=>wOf_i64 _ _) fun _=>ok_bind (makeP_ok (two_ok ho.key ho.val) (by simp)) fun a _=>ok_ite (fun _=>wOf_i64 _ _) fun _=> ?_
 have:=innerWs_ok (n:=2) (q:=[if q<o.key then o.key else q]) (c:=if o.key<q then [wOf 2 a,w] else [w,wOf 2 a]) (fun _=>two_i64) (one_ok (cond_i64 ho.key hq)) (by split<;>first|exact two_ok (wOf_i64 _ _) hw|exact two_ok hw (wOf_i64 _ _)) (by split<;>simp)
 exact ok_bind (makeP_ok this.1 this.2) fun b _=>wOf_i64 _ _
theorem layP_ok {f:Nat} {o:Op} {n s w:Int} {path:List Entry} (ho:o.B) (hs:i64B s) (hw:i64B w) (hp:∀e∈path,e.B):(layP f o n s w path).Ok (fun _=>True):=
 ok_bind (P:=fun r:_×_=>i64B r.1) (ok_ite (fun _=>ok_bind (readP_ok (wAt_i64' w)) fun q hq=>ok_ite (fun _=>ok_bind (readP_ok wAt_next) fun v _=>hq) fun _=>hq) fun _=>i64B_zero) fun r hr b=>ok_ite (fun _=>trivial) fun _=>
 ok_bind (freshP_ok ho hw hr) fun x hx=>ok_ite (fun _=>trivial) fun _=>ok_bind (dcssP_ok (wrap_bd _) hs hw hx) fun d _=>ok_ite (fun _=>trivial) fun _=>
 ok_bind (P:=fun _=>True) (ok_ite (fun _=>tallyGo_ok path none hp (fun e he=>by cases he)) fun _=>trivial) fun _ _=>trivial
theorem attemptGo_ok {f:Nat} {o:Op} (ho:o.B):∀(m:Nat) (n:Int) (path:List Entry),i64B n→(∀e∈path,e.B)→(attemptGo f o m n path).Ok (fun _=>True)
 |0,n,path,_,_=>trivial
 |m+1,n,path,hn,hp=>fun b=>ok_ite (fun _=>trivial) fun _=>ok_bind (childP_ok hn) fun s hs=>ok_bind (slotP_ok hs m) fun w hw=>
  ok_ite (fun _=>ok_bind (renewP_ok (wAt_i64' w)) fun ok _=>ok_ite (fun _=>trivial) fun _=>trivial) fun _=>
  ok_ite (fun _=>attemptGo_ok ho m _ _ (wAt_i64' w) fun e he=>by
   rcases List.mem_append.1 he with he|he
   ·exact hp e he
   ·rw[List.mem_singleton.1 he];exact ⟨hn,hs,hw⟩) fun _=>layP_ok ho hs hw hp
theorem changeP_ok {o:Op} (ho:o.B):∀(f:Nat),(changeP o f).Ok (fun _=>True)
 |0=>trivial
 |f+1=>fun b=>ok_ite (fun _=>trivial) fun _=>ok_bind (attemptGo_ok ho f 1 [] one_i64 (fun e he=>by cases he)) fun r _=>ok_ite (fun _=>trivial) fun _=>changeP_ok ho f
theorem roundsGo_ok {f:Nat} {o:Op}:∀(b:Nat),(roundsGo f o b).Ok (fun _=>True)
 |0=>trivial
 |b+1=>fun b1=>ok_ite (fun _=>trivial) fun _=>ok_bind (throughP_ok f 1 ⟨[],[]⟩ (by decide) (by decide) ⟨LB.nil,LB.nil⟩) fun r hr b2=>ok_ite (fun _=>trivial) fun _=>ok_bind (againP_ok _ hr.spots) fun same _=>ok_ite (fun _=>trivial) fun _=>roundsGo_ok b
theorem queryP_ok {f:Nat} {o:Op} {budget:Int}:(queryP f o budget).Ok (fun _=>True):=
 ok_ite (fun _=>ok_bind (seekP_ok f one_i64) fun r _=>ok_ite (fun _=>trivial) fun _=>trivial) fun _=>roundsGo_ok _
theorem layP_nil {f:Nat} {o:Op} {n s w:Int} {path:List Entry} (ho:o.B) (hs:i64B s) (hw:i64B w) (hp:∀e∈path,e.B):(layP f o n s w path).Ok (fun r=>r.1.list=[]):=
 ok_bind (P:=fun r:Int×Res=>i64B r.1∧r.2.list=[]) (ok_ite (fun _=>ok_bind (readP_ok (wAt_i64' w)) fun q hq=>ok_ite (fun _=>ok_bind (readP_ok wAt_next) fun v _=>⟨hq,rfl⟩) fun _=>⟨hq,rfl⟩) fun _=>⟨i64B_zero,rfl⟩) fun r hr b=>ok_ite (fun _=>hr.2) fun _=>
 ok_bind (freshP_ok ho hw hr.1) fun x hx=>ok_ite (fun _=>rfl) fun _=>ok_bind (dcssP_ok (wrap_bd _) hs hw hx) fun d _=>ok_ite (fun _=>rfl) fun _=>
 ok_bind (P:=fun _=>True) (ok_ite (fun _=>tallyGo_ok path none hp (fun e he=>by cases he)) fun _=>trivial) fun _ _=>hr.2
theorem attemptGo_nil {f:Nat} {o:Op} (ho:o.B):∀(m:Nat) (n:Int) (path:List Entry),i64B n→(∀e∈path,e.B)→(attemptGo f o m n path).Ok (fun r=>r.1.list=[])
 |0,n,path,_,_=>rfl
 |m+1,n,path,hn,hp=>fun b=>ok_ite (fun _=>rfl) fun _=>ok_bind (childP_ok hn) fun s hs=>ok_bind (slotP_ok hs m) fun w hw=>
  ok_ite (fun _=>ok_bind (renewP_ok (wAt_i64' w)) fun ok _=>ok_ite (fun _=>rfl) fun _=>rfl) fun _=>
  ok_ite (fun _=>attemptGo_nil ho m _ _ (wAt_i64' w) fun e he=>by
   rcases List.mem_append.1 he with he|he
   ·exact hp e he
   ·rw[List.mem_singleton.1 he];exact ⟨hn,hs,hw⟩) fun _=>layP_nil ho hs hw hp
theorem changeP_nil {o:Op} (ho:o.B):∀(f:Nat),(changeP o f).Ok (fun r=>r.list=[])
 |0=>rfl
 |f+1=>fun b=>ok_ite (fun _=>rfl) fun _=>ok_bind (attemptGo_nil ho f 1 [] one_i64 (fun e he=>by cases he)) fun r hr=>ok_ite (fun _=>hr) fun _=>changeP_nil ho f
def Prog.Dp {α:Type}:Prog α→Nat→(α→Nat→Prop)→Prop
 |_,0,_=>True
 | .ret a,n+1,Q=>Q a (n+1)
 | .ask _ k,n+1,Q=>∀v,(k v).Dp n Q
 | .chk k,n+1,Q=>(k false).Dp (n+1) Q
 | .stuck _,_+1,_=>False
section
variable {α β:Type} {Q Q':α→Nat→Prop} {R:β→Nat→Prop} {n:Nat}
theorem dp_ret {a:α} (h:0<n→Q a n):(Prog.ret a).Dp n Q:=by
 cases n with
 |zero=>trivial
 |succ n=>exact h (by omega)
theorem dp_chk {k:Bool→Prog α} (h:(k false).Dp n Q):(Prog.chk k).Dp n Q:=by
 cases n with
 |zero=>trivial
 |succ n=>exact h
theorem dp_ask {q:Ask} {k:Int→Prog α} (h:∀m,m+1=n→∀v,(k v).Dp m Q):(Prog.ask q k).Dp n Q:=by
 cases n with
 |zero=>trivial
 |succ n=>exact h n rfl
theorem dp_mono:∀{p:Prog α} {n:Nat},p.Dp n Q→(∀a m,m≤n→0<m→Q a m→Q' a m)→p.Dp n Q'
 |_,0,_,_=>by unfold Prog.Dp;trivial
 | .ret a,n+1,h,i=>i a _ (Nat.le_refl _) (by omega) h
 | .ask q k,n+1,h,i=>fun v=>dp_mono (p:=k v) (n:=n) (h v) fun a m hm=>i a m (by omega)
 | .chk k,n+1,h,i=>dp_mono (p:=k false) (n:=n+1) h i
 | .stuck _,n+1,h,_=>h.elim
theorem dp_bind {f:α→Prog β}:∀{p:Prog α} {n:Nat},p.Dp n (fun a m=>(f a).Dp m R)→(p.bind f).Dp n R
 |_,0,_=>by unfold Prog.Dp;trivial
 | .ret a,n+1,h=>h
 | .ask q k,n+1,h=>fun v=>dp_bind (p:=k v) (n:=n) (h v)
 | .chk k,n+1,h=>dp_bind (p:=k false) (n:=n+1) h
 | .stuck _,n+1,h=>h.elim
def Prog.D {α:Type} (p:Prog α) (n:Nat):Prop:=p.Dp n fun _ m=>m≤n
def Prog.D1 {α:Type} (p:Prog α) (n:Nat):Prop:=p.Dp n fun _ m=>m<n
theorem Prog.D1.le {p:Prog α} (h:p.D1 n):p.D n:=dp_mono h fun _ _ _ _ e=>Nat.le_of_lt e
theorem d_ret {a:α}:(Prog.ret a).D n:=dp_ret fun _=>Nat.le_refl _
theorem Prog.D.bind {p:Prog α} {f:α→Prog β} (h:p.D n) (i:∀a m,m≤n→(f a).D m):(p.bind f).D n:=
 dp_bind (dp_mono h fun a m _ _ hm=>dp_mono (i a m hm) fun _ k _ _ hk=>Nat.le_trans hk hm)
theorem Prog.D1.bind {p:Prog α} {f:α→Prog β} (h:p.D1 n) (i:∀a m,m<n→(f a).D m):(p.bind f).D1 n:=
 dp_bind (dp_mono h fun a m _ _ hm=>dp_mono (i a m hm) fun _ k _ _ hk=>Nat.lt_of_le_of_lt hk hm)
theorem Prog.D.bind1 {p:Prog α} {f:α→Prog β} (h:p.D n) (i:∀a m,m≤n→(f a).D1 m):(p.bind f).D1 n:=
 dp_bind (dp_mono h fun a m _ _ hm=>dp_mono (i a m hm) fun _ k _ _ hk=>Nat.lt_of_lt_of_le hk hm)
theorem Prog.D1.bindl {p:Prog α} {f:α→Prog β} (h:p.D1 n) (i:∀a m,m<n→(f a).D m):(p.bind f).D n:=Prog.D1.le (Prog.D1.bind h i)
theorem d_ite {c:Prop} [Decidable c] {p q:Prog α} (h:c→p.D n) (i:¬c→q.D n):(if c then p else q).D n:=by split;exact h ‹_›;exact i ‹_›
theorem d1_ite {c:Prop} [Decidable c] {p q:Prog α} (h:c→p.D1 n) (i:¬c→q.D1 n):(if c then p else q).D1 n:=by split;exact h ‹_›;exact i ‹_›
theorem d_chk {k:Bool→Prog α} (h:∀b,(k b).D n):(Prog.chk k).D n:=dp_chk (h false)
theorem d1_chk {k:Bool→Prog α} (h:(k false).D1 n):(Prog.chk k).D1 n:=dp_chk h
end
section
variable {n:Nat}
theorem d_one {α:Type} {q:Ask} {k:Int→α}:(Prog.ask q fun v=> .ret (k v)).D1 n:=dp_ask fun m hm v=>dp_ret fun _=>by omega
theorem d_read {a:Int}:(readP a).D1 n:=d_one (k:=fun v=>v)
theorem d_write {a x:Int}:(writeP a x).D1 n:=d_one (k:=fun _=>())
theorem d_cas {a x y:Int}:(casP a x y).D1 n:=d_one (k:=fun v=>v==1)
theorem d_add {a x:Int}:(addP a x).D1 n:=d_one (k:=fun v=>v)
theorem d_make {ws:List Int} {t:Int}:(makeP ws t).D1 n:=d_one (k:=fun v=>v)
theorem d_peek {s:Int}:(peekP s).D1 n:=d_read.bind fun w m _=>d_ite (fun _=>d_read.bindl fun o _ _=>d_ite (fun _=>d_read.le) fun _=>d_read.le) fun _=>d_ret
theorem d_help {a:Int}:(helpP a).D1 n:=d_read.bind fun _ _ _=>d_read.bindl fun _ _ _=>d_cas.bindl fun _ _ _=>d_read.bindl fun _ _ _=>d_read.bindl fun _ _ _=>Prog.D1.bindl (d1_ite (fun _=>d_read) fun _=>d_read) fun _ _ _=>d_cas.bindl fun _ _ _=>d_ret
theorem d_slotGo {s:Int}:∀(f n:Nat) (w:Int),n≤f→(slotGo s f w).D n
 |0,n,w,h=>by
   obtain rfl:n=0:=by omega
   unfold Prog.D Prog.Dp;trivial
 |f+1,n,w,h=>d_chk fun off=>d_ite (fun _=>d_help.bindl fun _ m hm=>d_read.bindl fun w' k hk=>d_slotGo f k w' (by omega)) fun _=>d_ret
theorem d_slot {f:Nat} {s:Int} (h:n≤f+1):(slotP f s).D1 n:=d_read.bind fun w m hm=>d_slotGo f m w (by omega)
theorem d_dcss {t g p o x:Int}:(dcssP t g p o x).D1 n:=d_make.bind fun a _ _=>d_ite (fun _=>d_ret) fun _=>d_cas.bindl fun b _ _=>d_ite (fun _=>d_ret) fun _=>d_read.bindl fun _ _ _=>d_cas.bindl fun _ _ _=>d_read.bindl fun _ _ _=>d_ite (fun _=>d_cas.bindl fun _ _ _=>d_ret) fun _=>d_cas.bindl fun _ _ _=>d_ret
theorem d_down {a k d:Int}:∀(f n:Nat) (i:Int),(downGo a k d f i).D n
 |0,n,i=>d_ret
 |f+1,n,i=>d_chk fun off=>d_ite (fun _=>d_read.bindl fun q m _=>d_ite (fun _=>d_ret) fun _=>d_down f m _) fun _=>d_ret
theorem d_up {a k d m0:Int}:∀(f n:Nat) (i:Int),(upGo a k d m0 f i).D n
 |0,n,i=>d_ret
 |f+1,n,i=>d_chk fun off=>d_ite (fun _=>d_read.bindl fun q m _=>d_ite (fun _=>d_ret) fun _=>d_up f m _) fun _=>d_ret
theorem d_guess {a k d m f l:Int}:(guessP a k d m f l).D n:=d_chk fun off=>d_ite (fun _=>d_ret) fun _=>d_ite (fun _=>d_read.bindl fun q _ _=>d_ite (fun _=>d_down _ _ _) fun _=>d_up _ _ _) fun _=>d_up _ _ _
theorem d_route {a k:Int}:(routeP a k).D1 n:=d_read.bind fun d _ _=>d_ite (fun _=>d_ret) fun _=>d_read.bindl fun f _ _=>d_ite (fun _=>d_ret) fun _=>d_ite (fun _=>d_ret) fun _=>d_read.bindl fun l _ _=>d_ite (fun _=>d_ret) fun _=>d_guess
theorem d_child {a k:Int}:(childP a k).D1 n:=d_route.bind fun _ _ _=>d_ret
theorem d_seek {k:Int}:∀(f n:Nat) (a:Int),n≤f→(seekP k f a).D n
 |0,n,a,h=>by
   obtain rfl:n=0:=by omega
   unfold Prog.D Prog.Dp;trivial
 |f+1,n,a,h=>d_chk fun off=>d_ite (fun _=>d_ret) fun _=>d_child.bindl fun s m hm=>d_peek.bindl fun w m2 hm2=>
   d_ite (fun _=>d_read.bindl fun q _ _=>d_ite (fun _=>d_read.bindl fun _ _ _=>d_ret) fun _=>d_ret) fun _=>d_ite (fun _=>d_seek f m2 _ (by omega)) fun _=>d_ite (fun _=>d_read.bindl fun t m3 hm3=>d_seek f m3 _ (by omega)) fun _=>d_ret
theorem d_meets {x:WQ} {a:Int} {st:WAcc}:(meetsP x a st).D1 n:=d_read.bind fun q _ _=>d_ite (fun _=>d_ret) fun _=>Prog.D.bind (d_ite (fun _=>d_read.le) fun _=>d_ret) fun _ _ _=>d_ret
theorem d_walkGo {x:WQ} {thr:Int→WAcc→Prog (WAcc×Bool)} {N:Nat} (ht:∀a st m,m<N→(thr a st).D m) {nn:Int}:∀(f n:Nat) (d i:Int) (st:WAcc),n≤N→n≤f→(walkGo x thr f nn d i st).D n
 |0,n,d,i,st,_,h=>by
   obtain rfl:n=0:=by omega
   unfold Prog.D Prog.Dp;trivial
 |f+1,n,d,i,st,hN,h=>d_chk fun off=>d_ite (fun _=>d_ret) fun _=>d_peek.bindl fun w m hm=>d_chk fun off2=>d_ite (fun _=>d_ret) fun _=>
   Prog.D.bind (d_ite (fun _=>d_meets.le) fun _=>d_ite (fun _=>ht _ _ _ (by omega)) fun _=>d_ite (fun _=>d_read.bindl fun t m2 hm2=>ht _ _ _ (by omega)) fun _=>d_ret) fun r m2 hm2=>
   d_ite (fun _=>d_ret) fun _=>d_ite (fun _=>d_ite (fun _=>d_ret) fun _=>d_read.bindl fun q m3 hm3=>d_ite (fun _=>d_ret) fun _=>d_walkGo ht f m3 _ _ _ (by omega) (by omega)) fun _=>
   d_ite (fun _=>d_ret) fun _=>d_read.bindl fun q m3 hm3=>d_ite (fun _=>d_ret) fun _=>d_walkGo ht f m3 _ _ _ (by omega) (by omega)
theorem d_through {x:WQ}:∀(f n:Nat) (a:Int) (st:WAcc),n≤f→(throughP x f a st).D n
 |0,n,a,st,h=>by
   obtain rfl:n=0:=by omega
   unfold Prog.D Prog.Dp;trivial
 |f+1,n,a,st,h=>d_route.bindl fun r m hm=>d_walkGo (N:=m) (fun a st k hk=>d_through f k a st (by omega)) (f+1) m _ _ _ (Nat.le_refl _) (by omega)
theorem d_again:∀(l:List (Int×Int)) (n:Nat),(againP l).D n
 |[],n=>d_ret
 |p::l,n=>d_chk fun off=>d_ite (fun _=>d_ret) fun _=>d_peek.bindl fun w m _=>d_ite (fun _=>d_again l m) fun _=>d_ret
theorem d_markGo {sf:Nat} {mk:Int→Prog Int} {N:Nat} (hm:∀a m,m<N→(mk a).D m) (hs:N≤sf) {nn d:Int}:∀(f n:Nat) (i all:Int),n≤N→n≤f→(markGo sf mk f nn d i all).D n
 |0,n,i,all,_,h=>by
   obtain rfl:n=0:=by omega
   unfold Prog.D Prog.Dp;trivial
 |f+1,n,i,all,hN,h=>d_chk fun off=>d_ite (fun _=>Prog.D1.bindl (d_slot (by omega)) fun w m h1=>
   Prog.D.bind (d_ite (fun _=>d_ret) fun _=>d_ite (fun _=>Prog.D.bind (hm _ _ (by omega)) fun _ _ _=>d_ret) fun _=>d_ite (fun _=>d_read.bindl fun t m2 h2=>Prog.D.bind (hm _ _ (by omega)) fun _ _ _=>d_ret) fun _=>d_ret) fun all' m2 h2=>d_markGo hm hs f m2 _ _ (by omega) (by omega)) fun _=>d_ret
theorem d_mark:∀(f n:Nat) (a:Int),n≤f→(markP f a).D n
 |0,n,a,h=>by
   obtain rfl:n=0:=by omega
   unfold Prog.D Prog.Dp;trivial
 |f+1,n,a,h=>d_read.bindl fun s m hm=>d_ite (fun _=>d_write.bindl fun _ m2 h2=>d_read.bindl fun d m3 h3=>Prog.D.bind (d_markGo (N:=m3) (fun a k hk=>d_mark f k a (by omega)) (by omega) (f+1) m3 _ _ (Nat.le_refl _) (by omega)) fun _ _ _=>d_write.bindl fun _ _ _=>d_ret) fun _=>d_ret
theorem d_gatherGo {gt:Int→Int→Int→List (Int×Int)→Prog (List (Int×Int))} {N:Nat} (hg:∀a b c o m,m<N→(gt a b c o).D m) {nn d fr to:Int}:∀(f n:Nat) (i rank:Int) (out:List (Int×Int)),n≤N→n≤f→(gatherGo gt f nn d fr to i rank out).D n
 |0,n,i,rank,out,_,h=>by
   obtain rfl:n=0:=by omega
   unfold Prog.D Prog.Dp;trivial
 |f+1,n,i,rank,out,hN,h=>d_chk fun off=>d_ite (fun _=>d_peek.bindl fun w m hm=>
   d_ite (fun _=>Prog.D.bind (d_ite (fun _=>d_read.bindl fun _ _ _=>d_read.bindl fun _ _ _=>d_ret) fun _=>d_ret) fun o m2 h2=>d_gatherGo hg f m2 _ _ _ (by omega) (by omega)) fun _=>
   d_ite (fun _=>Prog.D.bind (d_ite (fun _=>d_read.bindl fun _ _ _=>d_ret) fun _=>d_ret) fun a m2 h2=>d_read.bindl fun s m3 h3=>Prog.D.bind (d_ite (fun _=>hg _ _ _ _ _ (by omega)) fun _=>d_ret) fun o m4 h4=>d_gatherGo hg f m4 _ _ _ (by omega) (by omega)) fun _=>d_gatherGo hg f m _ _ _ (by omega) (by omega)) fun _=>d_ret
theorem d_gather:∀(f n:Nat) (a fr to:Int) (out:List (Int×Int)),n≤f→(gatherP f a fr to out).D n
 |0,n,a,fr,to,out,h=>by
   obtain rfl:n=0:=by omega
   unfold Prog.D Prog.Dp;trivial
 |f+1,n,a,fr,to,out,h=>d_read.bindl fun d m hm=>d_gatherGo (N:=m) (fun a b c o k hk=>d_gather f k a b c o (by omega)) (f+1) m _ _ _ (Nat.le_refl _) (by omega)
theorem d_growGo {gr:List (Int×Int)→Prog (Int×Bool)} {l:List (Int×Int)} (hg:∀i n,0≤i→i<degreeI l.length→(gr (subL l (fromI l.length i) (sizeI l.length i))).D n):∀(m n:Nat) (i:Int) (q c:List Int),0≤i→i+m=degreeI l.length→(growGo gr l m i q c).D n
 |0,n,i,q,c,_,_=>d_make.bindl fun _ _ _=>d_ret
 |m+1,n,i,q,c,h0,h1=>Prog.D.bind (hg i n h0 (by omega)) fun r k _=>d_ite (fun _=>d_ret) fun _=>d_growGo hg m k _ _ _ (by omega) (by omega)
theorem d_grow:∀(f n:Nat) (l:List (Int×Int)),l.length<f→(growP f l).D n
 |0,n,l,h=>absurd h (by omega)
 |f+1,n,l,h=>d_ite (fun _=>d_make.bindl fun _ _ _=>d_ret) fun h0=>d_ite (fun _=>d_make.bindl fun _ _ _=>d_ret) fun h1=>by
   have hd:=degreeI_nonneg l.length
   refine d_growGo (fun i k i0 i1=>d_grow f k _ ?_) _ _ _ _ _ (Int.le_refl _) (by omega)
   have h2:2≤(l.length:Int):=by omega
   have h3:(l.length:Int)≤16384:=by
    rcases Int.lt_or_le 16384 (l.length:Int) with e|e
    ·have:degreeI l.length=0:=if_pos (.inr e)
     omega
    ·exact e
   have:=(sizeI_in h2 h3 i0 i1).2
   unfold subL
   rw[List.length_take]
   omega
theorem d_growT {l:List (Int×Int)}:(growT l).D n:=d_grow _ _ _ (by omega)
theorem d_top {f:Nat} {t k:Int} (h:n≤f):(topP f t k).D n:=d_ite (fun _=>d_make.bindl fun _ _ _=>d_ret) fun _=>Prog.D.bind (d_ite (fun _=>d_gather f n _ _ _ _ h) fun _=>d_ret) fun p m hm=>d_chk fun off=>d_ite (fun _=>d_ret) fun _=>d_growT
theorem d_part {f:Nat} {t k x d i:Int} (h:n≤f):(partP f t k x d i).D n:=Prog.D.bind (d_gather f n _ _ _ _ h) fun p m hm=>d_chk fun off=>d_ite (fun _=>d_ret) fun _=>Prog.D.bind d_growT fun r m2 _=>d_ite (fun _=>d_ret) fun _=>Prog.D.bind (d_ite (fun _=>d_write.le) fun _=>d_ret) fun _ _ _=>d_cas.bindl fun _ _ _=>d_ret
theorem d_claim {a t k x d:Int}:∀(f n:Nat),n≤f→(claimGo a t k x d f).D n
 |0,n,h=>by
   obtain rfl:n=0:=by omega
   unfold Prog.D Prog.Dp;trivial
 |f+1,n,h=>d_chk fun off=>d_ite (fun _=>d_ret) fun _=>d_add.bindl fun i m hm=>d_ite (fun _=>d_ret) fun _=>d_chk fun off2=>d_ite (fun _=>d_ret) fun _=>Prog.D.bind (d_part (by omega)) fun ok m2 h2=>d_ite (fun _=>d_ret) fun _=>d_claim f m2 (by omega)
theorem d_rest {f:Nat} {t k x d:Int}:∀(m n:Nat) (j:Int),n≤f→(restGo f t k x d m j).D n
 |0,n,j,h=>d_ret
 |m+1,n,j,h=>d_chk fun off=>d_ite (fun _=>d_ret) fun _=>d_read.bindl fun c m1 h1=>d_chk fun off2=>d_ite (fun _=>d_rest m m1 _ (by omega)) fun _=>Prog.D.bind (d_part (by omega)) fun ok m2 h2=>d_ite (fun _=>d_ret) fun _=>d_rest m m2 _ (by omega)
theorem d_parts {f:Nat} {a t k x:Int} (h:n≤f):(partsP f a t k x).D n:=Prog.D.bind (d_claim f n h) fun ok m hm=>d_ite (fun _=>d_ret) fun _=>d_rest _ _ _ (by omega)
theorem d_renew {f:Nat} {a:Int} (h:n≤f+1):(renewP f a).D1 n:=d_read.bind fun t m hm=>Prog.D.bind (d_mark f m _ (by omega)) fun k m2 h2=>d_read.bindl fun w m3 h3=>d_chk fun off=>d_ite (fun _=>d_ret) fun _=>
 Prog.D.bind (d_ite (fun _=>Prog.D.bind (d_top (by omega)) fun r m4 h4=>d_ite (fun _=>d_ret) fun _=>d_cas.bindl fun _ _ _=>d_read.bindl fun _ _ _=>d_ret) fun _=>d_ret) fun r m4 h4=>d_ite (fun _=>d_ret) fun _=>
 Prog.D.bind (d_ite (fun _=>d_parts (by omega)) fun _=>d_ret) fun ok m5 h5=>d_ite (fun _=>d_ret) fun _=>d_read.bindl fun g _ _=>d_read.bindl fun s _ _=>d_dcss.bindl fun o _ _=>d_ret
theorem d_start {f:Nat} {e:Entry} (h:n≤f):(startP f e).D n:=d_make.bindl fun a m hm=>d_ite (fun _=>d_ret) fun _=>d_dcss.bindl fun o m2 h2=>d_ite (fun _=>(d_renew (by omega)).le) fun _=>d_ite (fun _=>d_ret) fun _=>d_ret
theorem d_tally {f:Nat}:∀(l:List Entry) (n:Nat) (first:Option Entry),n≤f→(tallyGo f l first).D n
 |[],n,first,h=>d_chk fun off=>d_ite (fun _=>d_ret) fun _=>by
   cases first with
   |none=>exact d_ret
   |some e=>exact Prog.D.bind (d_start h) fun _ _ _=>d_ret
 |e::l,n,first,h=>d_chk fun off=>d_ite (fun _=>d_ret) fun _=>d_add.bindl fun c m hm=>d_read.bindl fun s m2 h2=>d_tally l m2 _ (by omega)
theorem d_fresh {o:Op} {w q:Int} {a b:Bool}:(freshP o w q a b).D n:=d_ite (fun _=>d_make.bindl fun _ _ _=>d_ret) fun _=>d_make.bindl fun _ _ _=>d_ite (fun _=>d_ret) fun _=>d_make.bindl fun _ _ _=>d_ret
theorem d_lay {f:Nat} {o:Op} {k s w:Int} {path:List Entry} (h:n≤f):(layP f o k s w path).D n:=
 Prog.D.bind (d_ite (fun _=>d_read.bindl fun q _ _=>d_ite (fun _=>d_read.bindl fun _ _ _=>d_ret) fun _=>d_ret) fun _=>d_ret) fun r m hm=>d_chk fun off=>d_ite (fun _=>d_ret) fun _=>
 Prog.D.bind d_fresh fun x m2 h2=>d_ite (fun _=>d_ret) fun _=>d_dcss.bindl fun d m3 h3=>d_ite (fun _=>d_ret) fun _=>Prog.D.bind (d_ite (fun _=>d_tally _ _ _ (by omega)) fun _=>d_ret) fun _ _ _=>d_ret
theorem d_attempt {f:Nat} {o:Op}:∀(m n:Nat) (a:Int) (path:List Entry),n≤f→n≤m→(attemptGo f o m a path).D1 n
 |0,n,a,path,_,h=>by
   obtain rfl:n=0:=by omega
   unfold Prog.D1 Prog.Dp;trivial
 |m+1,n,a,path,hf,h=>d1_chk (d1_ite (fun e=>absurd e (by decide)) fun _=>d_child.bind fun s k hk=>Prog.D1.bindl (d_slot (by omega)) fun w k2 h2=>
   d_ite (fun _=>Prog.D1.bindl (d_renew (by omega)) fun ok _ _=>d_ite (fun _=>d_ret) fun _=>d_ret) fun _=>d_ite (fun _=>(d_attempt m k2 _ _ (by omega) (by omega)).le) fun _=>d_lay (by omega))
theorem d_change {o:Op}:∀(f n:Nat),n=0∨n<f→(changeP o f).D n
 |0,n,h=>by
   obtain rfl:n=0:=by omega
   unfold Prog.D Prog.Dp;trivial
 |f+1,n,h=>d_chk fun off=>d_ite (fun _=>d_ret) fun _=>Prog.D1.bindl (d_attempt f n 1 [] (by omega) (by omega)) fun r m hm=>d_ite (fun _=>d_ret) fun _=>d_change f m (by omega)
theorem d_rounds {f:Nat} {o:Op}:∀(b n:Nat),n≤f→(roundsGo f o b).D n
 |0,n,h=>d_ret
 |b+1,n,h=>d_chk fun off=>d_ite (fun _=>d_ret) fun _=>Prog.D.bind (d_through f n _ _ h) fun r m hm=>d_chk fun off2=>d_ite (fun _=>d_ret) fun _=>Prog.D.bind (d_again _ _) fun same m2 h2=>d_ite (fun _=>d_ret) fun _=>d_rounds b m2 (by omega)
theorem d_query {f:Nat} {o:Op} {b:Int} (h:n≤f):(queryP f o b).D n:=d_ite (fun _=>Prog.D.bind (d_seek f n 1 h) fun r _ _=>d_ite (fun _=>d_ret) fun _=>d_ret) fun _=>d_rounds _ _ h
end
end Go.Proofs.YtblajeildolloaaGreat
