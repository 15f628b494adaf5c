import Derived.Shelf.Small.Bits
import Derived.Test.YtjpnmmjgdiiahaaGreatDoorRows
import Derived.WalkKit
import Derived.Deep.QuietTactic
import Derived.BigQuiet
import Derived.Deep.RegionHeld3
import Derived.Deep.DrawnRows
import Derived.Laws.Cover2
import Derived.Laws.FloatArith
import Derived.WalkLawsBesides
import Derived.Test.YtjpnmmjgdiiahaaGreatDoorK1
import Derived.Test.YtjpnmmjgdiiahaaGreatDoorK2
import Derived.Test.YtjpnmmjgdiiahaaGreatDoorK3
import Derived.Test.YtjpnmmjgdiiahaaGreatDoorK4
set_option linter.unusedVariables false
set_option linter.unusedSimpArgs false
namespace Hb
open Ieee
theorem order_gt {x y:Nat} (hx:x<9218868437227405312) (h:y<x):double.order x y=some .gt:=by
 rw [order_pos hx (by omega),Nat.compare_eq_gt.2 h]
theorem log2_at {m k:Nat} (h1:2 ^ 52≤m) (h2:m<2 ^ 53):Nat.log2 (m * 2 ^ k)=52+k:=by
 have hp:=Nat.two_pow_pos k
 have hne:m * 2 ^ k≠0:=Nat.mul_ne_zero (by omega) (by omega)
 refine (Nat.log2_eq_iff hne).2 ⟨?_,?_⟩
 ·rw [Nat.pow_add];exact Nat.mul_le_mul_right _ h1
 ·rw [show 52+k+1=53+k by omega,Nat.pow_add];exact Nat.mul_lt_mul_of_pos_right h2 hp
theorem cut_exact (m k:Nat) (h1:2 ^ 52≤m) (h2:m<2 ^ 53) (neg:Bool):Toward.even.cut neg (m * 2 ^ k) k=m:=by
 have hp:=Nat.two_pow_pos k
 unfold Toward.cut
 rw [log2_at h1 h2,Nat.min_eq_left (by omega),Nat.shiftLeft_eq,Nat.one_mul]
 simp only [Nat.mul_div_cancel _ hp,Nat.mul_mod_left]
 have e1:decide (2 ^ k<2 * 0)=false:=decide_eq_false (by omega)
 have e2:(2 ^ k==2 * 0)=false:=beq_eq_false_iff_ne.2 (by omega)
 simp [e1,e2]
theorem nearest_at {m k:Nat} {q p:Int} (h1:2 ^ 52≤m) (h2:m<2 ^ 53) (hp:q+(k:Int)=p) (hp1 : -1074≤p) (hp2:p≤971) :
  double.nearest false (m * 2 ^ k) q=(p+1074).toNat * 2 ^ 52+m:=by
 have g1:(double.fractionBits:Int)=52:=rfl
 have g2:double.binade=4503599627370496:=rfl
 have g3:double.infRung=9218868437227405312:=rfl
 have g4:double.leastPlace = -1074:=rfl
 have hne:m * 2 ^ k≠0:=Nat.mul_ne_zero (by omega) (Nat.ne_of_gt (Nat.two_pow_pos k))
 unfold Format.nearest
 rw [if_neg hne,log2_at h1 h2]
 simp only [g1,g2,g3,g4]
 have e1:max (q+((52+k:Nat):Int) - 52) (-1074)=p:=by omega
 rw [e1]
 have e2:(q - p).toNat=0:=by omega
 have e3:(p - q).toNat=k:=by omega
 rw [e2,e3,Nat.shiftLeft_zero,cut_exact m k h1 h2]
 have e4:(p - -1074).toNat=(p+1074).toNat:=by omega
 rw [e4]
 unfold Format.word
 rw [if_neg (by simp)]
 have h3:(p+1074).toNat≤2045:=by omega
 rw [Nat.min_eq_left (by omega)]
end Hb
namespace Hb
end Hb
namespace Go.Proofs.YtjpnmmjgdiiahaaGreatDoor
section
open Hb
end
end Go.Proofs.YtjpnmmjgdiiahaaGreatDoor
namespace Hb
def ofN (f:Nat):Nat:=
 if f / 4503599627370496 % 2048=0 then 0
 else if 1075≤f / 4503599627370496 % 2048 then (4503599627370496+f % 4503599627370496) * 2 ^ (f / 4503599627370496 % 2048 - 1075)
 else (4503599627370496+f % 4503599627370496) / 2 ^ (1075 - f / 4503599627370496 % 2048)
end Hb
namespace Go.Proofs.YtjpnmmjgdiiahaaGreatDoor
section
open Hb
def ofZ (f:Nat):Int:=if f<9223372036854775808 then (ofN f:Int) else -(ofN f:Int)
end
end Go.Proofs.YtjpnmmjgdiiahaaGreatDoor
namespace Hb
open Ieee
def Fin64 (f:Nat):Prop:=f % 9223372036854775808<9218868437227405312∧f<18446744073709551616
def fV (f:Nat):Int:=if f<9223372036854775808 then (rv f:Int) else -(rv (f - 9223372036854775808):Int)
theorem signed_cases (s:Bool) (m u:Nat):signed s m u=(if s then -1 else 1) * ((m * 2 ^ u:Nat):Int):=by
 unfold signed
 rw [Nat.shiftLeft_eq]
 cases s <;> simp
theorem signed_shift (s:Bool) (m a b:Nat):signed s m (a+b)=signed s m a * ((2 ^ b:Nat):Int):=by
 rw [signed_cases,signed_cases,Nat.pow_add,←Nat.mul_assoc,Int.natCast_mul (m * 2 ^ a),Int.mul_assoc]
theorem signed_not (s:Bool) (m a:Nat):signed (!s) m a = -signed s m a:=by
 rw [signed_cases,signed_cases]
 cases s <;> simp
theorem read_fin {f:Nat} (h:Fin64 f):∃ m p,double.read f = .number (decide (9223372036854775808≤f)) m p∧(-1074:Int)≤p∧signed (decide (9223372036854775808≤f)) m (p+1074).toNat=fV f∧m<2 ^ 53∧p≤971:=by
 have h1:double.signWeight=9223372036854775808:=rfl
 have h2:double.binade=4503599627370496:=rfl
 have h3:double.infRung=9218868437227405312:=rfl
 have h4:double.leastPlace = -1074:=rfl
 obtain ⟨ha,hb⟩:=h
 obtain ⟨g,hg⟩:∃ g,f % 9223372036854775808=g:=⟨_,rfl⟩
 rw [hg] at ha
 have e1:(f / 9223372036854775808 % 2==1)=decide (9223372036854775808≤f):=by
  by_cases h9:9223372036854775808≤f
  ·rw [decide_eq_true h9];exact beq_iff_eq.2 (by omega)
  ·rw [decide_eq_false h9];exact beq_eq_false_iff_ne.2 (by omega)
 have e2:fV f=(if decide (9223372036854775808≤f) then -1 else 1) * ((rv g:Nat):Int):=by
  unfold fV
  by_cases h9:9223372036854775808≤f
  ·rw [decide_eq_true h9,if_neg (by omega),if_pos rfl,show f - 9223372036854775808=g by omega];omega
  ·rw [decide_eq_false h9,if_pos (by omega),if_neg (by simp),show f=g by omega];omega
 rw [e2]
 generalize decide (9223372036854775808≤f)=s at *
 unfold Format.read
 simp only [h1,h2,h3,h4,e1,hg]
 unfold rv
 by_cases hr:g<4503599627370496
 ·rw [if_pos hr,if_pos (show g<2 ^ 52 from hr)]
  exact ⟨g,-1074,rfl,Int.le_refl _,by rw [signed_cases];simp,Nat.lt_of_lt_of_le hr (by decide),by decide⟩
 ·rw [if_neg hr,if_pos ha,if_neg (show ¬g<2 ^ 52 from hr)]
  refine ⟨_,_,rfl,by omega,?_,by omega,by omega⟩
  have e3:(-1074+((g / 4503599627370496 - 1:Nat):Int)+1074).toNat=g / 4503599627370496 - 1:=by omega
  rw [e3,signed_cases]
theorem compare_scale {M N:Int} {K:Nat} (hK:0<K):compare (M * (K:Int)) (N * (K:Int))=compare M N:=by
 have hK':(0:Int)<(K:Int):=by omega
 rcases Int.lt_trichotomy M N with h | h | h
 ·rw [Int.compare_eq_lt.2 h,Int.compare_eq_lt.2 (Int.mul_lt_mul_of_pos_right h hK')]
 ·subst h;rw [Int.compare_eq_eq.2 rfl,Int.compare_eq_eq.2 rfl]
 ·rw [Int.compare_eq_gt.2 h,Int.compare_eq_gt.2 (Int.mul_lt_mul_of_pos_right h hK')]
theorem order_fin {x y:Nat} (hx:Fin64 x) (hy:Fin64 y):double.order x y=some (compare (fV x) (fV y)):=by
 obtain ⟨m,p,e1,hp,hm,_⟩:=read_fin hx
 obtain ⟨n,q,e2,hq,hn,_⟩:=read_fin hy
 unfold Format.order
 rw [e1,e2]
 generalize decide (9223372036854775808≤x)=s at *
 generalize decide (9223372036854775808≤y)=t at *
 show some (compare (signed s m (p - min p q).toNat) (signed t n (q - min p q).toNat))=_
 obtain ⟨b,hb⟩:∃ b:Nat,(min p q+1074)=(b:Int):=⟨(min p q+1074).toNat,by omega⟩
 rw [←hm,←hn,show (p+1074).toNat=(p - min p q).toNat+b by omega,show (q+1074).toNat=(q - min p q).toNat+b by omega,signed_shift,signed_shift,compare_scale (Nat.two_pow_pos b)]
theorem nearest_word {s:Bool} {mag:Nat} {p:Int} (hm:mag≠0) (hp : -1074≤p):∃ r,double.nearest s mag p=double.word s r∧0<r∧r≤9218868437227405312:=by
 have g1:(double.fractionBits:Int)=52:=rfl
 have g2:double.binade=4503599627370496:=rfl
 have g3:double.infRung=9218868437227405312:=rfl
 have g4:double.leastPlace = -1074:=rfl
 unfold Format.nearest
 rw [if_neg hm]
 simp only [g1,g2,g3,g4]
 obtain ⟨l,hl⟩:∃ l,max (p+(mag.log2:Int) - 52) (-1074)=l:=⟨_,rfl⟩
 rw [hl]
 refine ⟨_,rfl,?_,Nat.min_le_right _ _⟩
 refine Nat.lt_min.2 ⟨?_,by decide⟩
 by_cases h:l = -1074
 ·subst h
  have e1:(-1074 - p).toNat=0:=by omega
  rw [e1]
  have e2:Toward.even.cut s (mag <<< (p - -1074).toNat) 0=mag <<< (p - -1074).toNat:=by
   unfold Toward.cut
   rw [Nat.zero_min]
   simp [Nat.mod_one,Nat.div_one]
  rw [e2,Nat.shiftLeft_eq]
  have:=Nat.mul_pos (Nat.pos_of_ne_zero hm) (Nat.two_pow_pos (p - -1074).toNat)
  omega
 ·have h9:1≤(l - -1074).toNat:=by omega
  have:=Nat.mul_le_mul_right 4503599627370496 h9
  omega
theorem nearest_zero (s:Bool) (p:Int):double.nearest s 0 p=double.word s 0:=by
 unfold Format.nearest
 rw [if_pos rfl]
theorem word_val (s:Bool) (r:Nat):double.word s r=(if s then 9223372036854775808 else 0)+r:=by
 unfold Format.word
 cases s
 ·simp
 ·simp;rfl
theorem word_fin {s:Bool} {r:Nat} (h:r<9218868437227405312):Fin64 (double.word s r)∧fV (double.word s r)=(if s then -1 else 1) * (rv r:Int):=by
 rw [word_val]
 cases s
 ·simp only [Bool.false_eq_true,if_false,Nat.zero_add]
  refine ⟨⟨by omega,by omega⟩,?_⟩
  unfold fV;rw [if_pos (by omega)];omega
 ·simp only [if_true]
  refine ⟨⟨by omega,by omega⟩,?_⟩
  unfold fV
  rw [if_neg (by omega),show 9223372036854775808+r - 9223372036854775808=r by omega];omega
theorem rv_zero:rv 0=0:=rfl
theorem rv_pos {r:Nat} (h:0<r):0<rv r:=by have:=rv_lt h;rw [rv_zero] at this;exact this
theorem zero_fin:Fin64 0∧fV 0=0:=⟨⟨by decide,by decide⟩,rfl⟩
theorem order_word {s:Bool} {r:Nat} (h0:0<r) (h:r≤9218868437227405312):double.order (double.word s r) 0=some (if s then .lt else .gt):=by
 rcases Nat.lt_or_ge r 9218868437227405312 with h1 | h1
 ·obtain ⟨h2,h3⟩:=word_fin (s:=s) h1
  rw [order_fin h2 zero_fin.1,h3,zero_fin.2]
  have:=rv_pos h0
  cases s
  ·simp only [Bool.false_eq_true,if_false];rw [Int.compare_eq_gt.2 (by omega)]
  ·simp only [if_true];rw [Int.compare_eq_lt.2 (by omega)]
 ·obtain rfl:r=9218868437227405312:=by omega
  cases s <;> decide +kernel
theorem order_word0 (s:Bool):double.order (double.word s 0) 0=some .eq:=by cases s <;> decide +kernel
theorem word_lt64 {s:Bool} {r:Nat} (h:r≤9218868437227405312):double.word s r<18446744073709551616:=by
 rw [word_val];cases s
 ·simp;omega
 ·simp;omega
theorem sub_fin {x y:Nat} (hx:Fin64 x) (hy:Fin64 y):∃ r,double.sub x y=some r∧r<18446744073709551616∧double.order r 0=some (compare (fV x) (fV y)):=by
 obtain ⟨m,p,e1,hp,hm,_⟩:=read_fin hx
 obtain ⟨n,q,e2,hq,hn,_⟩:=read_fin hy
 unfold Format.sub
 rw [e1,e2]
 generalize decide (9223372036854775808≤x)=s at *
 generalize decide (9223372036854775808≤y)=t at *
 show ∃ r,(Option.map double.write (some (.number (if signed s m (p - min p q).toNat+signed (!t) n (q - min p q).toNat=0 then s && !t else decide (signed s m (p - min p q).toNat+signed (!t) n (q - min p q).toNat<0)) (signed s m (p - min p q).toNat+signed (!t) n (q - min p q).toNat).natAbs (min p q))))=some r∧_
 obtain ⟨b,hb⟩:∃ b:Nat,(min p q+1074)=(b:Int):=⟨(min p q+1074).toNat,by omega⟩
 have hT:fV x - fV y=(signed s m (p - min p q).toNat+signed (!t) n (q - min p q).toNat) * ((2 ^ b:Nat):Int):=by
  rw [←hm,←hn,show (p+1074).toNat=(p - min p q).toNat+b by omega,show (q+1074).toNat=(q - min p q).toNat+b by omega,signed_shift,signed_shift,signed_not,Int.add_mul,Int.neg_mul]
  omega
 generalize signed s m (p - min p q).toNat+signed (!t) n (q - min p q).toNat=T at *
 have hpos:(0:Int)<((2 ^ b:Nat):Int):=by have:=Nat.two_pow_pos b;omega
 refine ⟨_,rfl,?_⟩
 show double.nearest _ _ _<_∧_
 by_cases hT0:T=0
 ·subst hT0
  rw [if_pos rfl,show Int.natAbs 0=0 from rfl,nearest_zero]
  rw [Int.zero_mul] at hT
  exact ⟨word_lt64 (by omega),by rw [Int.compare_eq_eq.2 (show fV x=fV y by omega)];exact order_word0 _⟩
 ·rw [if_neg hT0]
  obtain ⟨r,hr,h1,h2⟩:=nearest_word (s:=decide (T<0)) (mag:=T.natAbs) (p:=min p q) (by omega) (by omega)
  rw [hr]
  refine ⟨word_lt64 h2,?_⟩
  show double.order (double.nearest (decide (T<0)) T.natAbs (min p q)) 0=_
  rw [hr,order_word h1 h2]
  congr 1
  by_cases hn:T<0
  ·have:T * ((2 ^ b:Nat):Int)<0:=Int.mul_neg_of_neg_of_pos hn hpos
   rw [decide_eq_true hn,if_pos rfl,Int.compare_eq_lt.2 (by omega)]
  ·have:0<T * ((2 ^ b:Nat):Int):=Int.mul_pos (by omega) hpos
   rw [decide_eq_false hn,if_neg (by simp),Int.compare_eq_gt.2 (by omega)]
set_option exponentiation.threshold 5000
theorem log2_bounds {a:Nat} (h:a≠0):2 ^ a.log2≤a∧a<2 ^ (a.log2+1):=(Nat.log2_eq_iff h).1 rfl
theorem log2_shift {a:Nat} (h:a≠0) (k:Nat):(a * 2 ^ k).log2=a.log2+k:=by
 have hp:=Nat.two_pow_pos k
 obtain ⟨h1,h2⟩:=log2_bounds h
 refine (Nat.log2_eq_iff (Nat.mul_ne_zero h (by omega))).2 ⟨?_,?_⟩
 ·rw [Nat.pow_add];exact Nat.mul_le_mul_right _ h1
 ·rw [show a.log2+k+1=a.log2+1+k by omega,Nat.pow_add];exact Nat.mul_lt_mul_of_pos_right h2 hp
theorem log2_le52 {a:Nat} (h:a≠0) (ha:a<2 ^ 53):a.log2≤52:=by
 have h1:=(log2_bounds h).1
 have h2:2 ^ a.log2<2 ^ 53:=Nat.lt_of_le_of_lt h1 ha
 have:=(Nat.pow_lt_pow_iff_right (show 1<2 by decide)).1 h2
 omega
theorem rv_low {r:Nat} (h:r<2 ^ 53):rv r=r:=by
 unfold rv
 by_cases h1:r<2 ^ 52
 ·rw [if_pos h1]
 ·rw [if_neg h1]
  have e1:r / 2 ^ 52=1:=by omega
  rw [e1]
  have e2:r % 2 ^ 52=r - 2 ^ 52:=by omega
  rw [e2]
  simp
  omega
theorem rv_at {m q:Nat} (h1:2 ^ 52≤m) (h2:m<2 ^ 53):rv (q * 2 ^ 52+m)=m * 2 ^ q:=by
 have e1:(q * 2 ^ 52+m) / 2 ^ 52=q+1:=by omega
 have e2:(q * 2 ^ 52+m) % 2 ^ 52=m - 2 ^ 52:=by omega
 unfold rv
 rw [if_neg (by omega),e1,e2,show 2 ^ 52+(m - 2 ^ 52)=m by omega,show q+1 - 1=q by omega]
theorem cut_none (way:Toward) (s:Bool) (n:Nat):way.cut s n 0=n:=by
 unfold Toward.cut
 rw [Nat.zero_min]
 cases way <;> simp [Nat.mod_one,Nat.div_one]
theorem nearest_fin {s:Bool} {a k:Nat} {p:Int} (ha:a<2 ^ 53) (hp : -1074≤p) (hk:p+(k:Int)≤971) :
  Fin64 (double.nearest s (a * 2 ^ k) p)∧fV (double.nearest s (a * 2 ^ k) p)=signed s (a * 2 ^ k) (p+1074).toNat:=by
 by_cases h0:a=0
 ·subst h0
  rw [Nat.zero_mul,nearest_zero]
  obtain ⟨h1,h2⟩:=word_fin (s:=s) (show 0<9218868437227405312 by decide)
  refine ⟨h1,?_⟩
  rw [h2,signed_cases,rv_zero,Nat.zero_mul]
 ·have hne:a * 2 ^ k≠0:=Nat.mul_ne_zero h0 (Nat.ne_of_gt (Nat.two_pow_pos k))
  have g1:(double.fractionBits:Int)=52:=rfl
  have g2:double.binade=4503599627370496:=rfl
  have g3:double.infRung=9218868437227405312:=rfl
  have g4:double.leastPlace = -1074:=rfl
  have hl:=log2_le52 h0 ha
  obtain ⟨b1,b2⟩:=log2_bounds h0
  obtain ⟨r,hr,hr1,hr2⟩:∃ r,double.nearest s (a * 2 ^ k) p=double.word s r∧r<9218868437227405312∧rv r=a * 2 ^ k * 2 ^ (p+1074).toNat:=by
   unfold Format.nearest
   rw [if_neg hne,log2_shift h0]
   simp only [g1,g2,g3,g4]
   generalize a.log2=z at *
   obtain ⟨l,hl9⟩:∃ l,max (p+((z+k:Nat):Int) - 52) (-1074)=l:=⟨_,rfl⟩
   rw [hl9]
   by_cases hc:p+((z+k:Nat):Int) - 52 ≤ -1074
   ·obtain rfl:l = -1074:=by omega
    have e1:(-1074 - p).toNat=0:=by omega
    rw [e1,cut_none,Nat.shiftLeft_eq,show (-1074 - -1074:Int).toNat=0 by rfl,Nat.zero_mul,Nat.zero_add,show (p - -1074).toNat=(p+1074).toNat by omega]
    have hlt:a * 2 ^ k * 2 ^ (p+1074).toNat<2 ^ 53:=by
     rw [Nat.mul_assoc,←Nat.pow_add]
     refine Nat.lt_of_lt_of_le (Nat.mul_lt_mul_of_pos_right b2 (Nat.two_pow_pos _)) ?_
     rw [←Nat.pow_add]
     exact Nat.pow_le_pow_right (by decide) (by omega)
    rw [Nat.min_eq_left (by omega)]
    exact ⟨_,rfl,by omega,rv_low hlt⟩
   ·obtain ⟨m,hm⟩:∃ m,a * 2 ^ (52 - z)=m:=⟨_,rfl⟩
    have m1:2 ^ 52≤m:=by
     rw [←hm]
     refine Nat.le_trans ?_ (Nat.mul_le_mul_right _ b1)
     rw [←Nat.pow_add]
     exact Nat.pow_le_pow_right (by decide) (by omega)
    have m2:m<2 ^ 53:=by
     rw [←hm]
     refine Nat.lt_of_lt_of_le (Nat.mul_lt_mul_of_pos_right b2 (Nat.two_pow_pos _)) ?_
     rw [←Nat.pow_add]
     exact Nat.pow_le_pow_right (by decide) (by omega)
    have hkept:Toward.even.cut s ((a * 2 ^ k) <<< (p - l).toNat) (l - p).toNat=m:=by
     rcases Nat.le_total (z+k) 52 with h | h
     ·rw [show (l - p).toNat=0 by omega,cut_none,Nat.shiftLeft_eq,←hm,Nat.mul_assoc,←Nat.pow_add]
      congr 2
      omega
     ·rw [show (p - l).toNat=0 by omega,Nat.shiftLeft_zero,show a * 2 ^ k=m * 2 ^ (z+k - 52) by
       rw [←hm,Nat.mul_assoc,←Nat.pow_add];congr 2;omega,show (l - p).toNat=z+k - 52 by omega]
      exact cut_exact m _ m1 m2 s
    rw [hkept]
    have hq:(l - -1074).toNat≤2045:=by omega
    generalize hq9:(l - -1074).toNat=q at *
    rw [Nat.min_eq_left (by omega)]
    refine ⟨_,rfl,by omega,?_⟩
    rw [show q * 4503599627370496+m=q * 2 ^ 52+m from rfl,rv_at m1 m2,←hm,Nat.mul_assoc,Nat.mul_assoc,←Nat.pow_add,←Nat.pow_add]
    congr 2
    omega
  rw [hr]
  obtain ⟨h1,h2⟩:=word_fin (s:=s) hr1
  refine ⟨h1,?_⟩
  rw [h2,hr2,signed_cases]
def U74:Int:=((2 ^ 1074:Nat):Int)
theorem U74_pos:0<U74:=Int.natCast_pos.2 (Nat.two_pow_pos _)
theorem cut_zero (s:Bool) (n d:Nat):Toward.zero.cut s n d=n / 2 ^ d:=by
 unfold Toward.cut
 rw [Nat.shiftLeft_eq,Nat.one_mul]
 simp only [Bool.toNat_false,Nat.add_zero]
 rcases Nat.le_total d (n.log2+2) with h | h
 ·rw [Nat.min_eq_left h]
 ·rw [Nat.min_eq_right h]
  have h1:n<2 ^ (n.log2+2):=by
   by_cases h0:n=0
   ·rw [h0];exact Nat.two_pow_pos _
   ·exact Nat.lt_trans (log2_bounds h0).2 (Nat.pow_lt_pow_right (by decide) (by omega))
  rw [Nat.div_eq_of_lt h1,Nat.div_eq_of_lt (Nat.lt_of_lt_of_le h1 (Nat.pow_le_pow_right (by decide) h))]
theorem tdiv_signed (s:Bool) (m a b:Nat):(signed s m a).tdiv ((2 ^ b:Nat):Int)=signed s (m * 2 ^ a / 2 ^ b) 0:=by
 rw [signed_cases,signed_cases]
 cases s
 ·simp only [Bool.false_eq_true,if_false,Int.one_mul,Nat.pow_zero,Nat.mul_one]
  exact (Int.ofNat_tdiv _ _).symm
 ·simp only [if_true,Nat.pow_zero,Nat.mul_one,Int.neg_mul,Int.one_mul,Int.neg_tdiv]
  rw [Int.ofNat_tdiv]
def cutF (f:Nat):Nat:=double.write ((double.read f).integral .zero)
theorem cut_fin {f:Nat} (h:Fin64 f):Fin64 (cutF f)∧fV (cutF f)=(fV f).tdiv U74 * U74:=by
 obtain ⟨m,p,e1,hp,hm,hm53,hp9⟩:=read_fin h
 unfold cutF
 rw [e1]
 generalize decide (9223372036854775808≤f)=s at *
 show Fin64 (double.nearest s (Toward.zero.cut s (m <<< p.toNat) (-p).toNat) 0)∧fV (double.nearest s (Toward.zero.cut s (m <<< p.toNat) (-p).toNat) 0)=_
 rw [cut_zero,Nat.shiftLeft_eq]
 have hU:U74=((2 ^ 1074:Nat):Int):=rfl
 rw [←hm,hU,tdiv_signed,←signed_shift,Nat.zero_add]
 rcases Int.le_total 0 p with h0 | h0
 ·have e2:(-p).toNat=0:=by omega
  rw [e2,Nat.pow_zero,Nat.div_one]
  obtain ⟨q,rfl⟩:∃ q:Nat,p=(q:Int):=⟨p.toNat,by omega⟩
  obtain ⟨h1,h2⟩:=nearest_fin (s:=s) (k:=q) (p:=0) hm53 (by omega) (by omega)
  rw [show ((q:Int)).toNat=q by omega]
  refine ⟨h1,?_⟩
  rw [h2,show ((q:Int)+1074).toNat=q+1074 by omega,Nat.pow_add,←Nat.mul_assoc,Nat.mul_div_cancel _ (Nat.two_pow_pos _)]
  rfl
 ·obtain ⟨d,rfl⟩:∃ d:Nat,p = -(d:Int):=⟨(-p).toNat,by omega⟩
  rw [show (-(d:Int)).toNat=0 by omega,Nat.pow_zero,Nat.mul_one,show (- -(d:Int)).toNat=d by omega]
  have hlt:m / 2 ^ d<2 ^ 53:=Nat.lt_of_le_of_lt (Nat.div_le_self _ _) hm53
  obtain ⟨h1,h2⟩:=nearest_fin (s:=s) (k:=0) (p:=0) hlt (by omega) (by omega)
  rw [Nat.pow_zero,Nat.mul_one] at h1 h2
  refine ⟨h1,?_⟩
  rw [h2]
  have e3:m * 2 ^ (-(d:Int)+1074).toNat / 2 ^ 1074=m / 2 ^ d:=by
   rw [show 1074=d+(-(d:Int)+1074).toNat by omega,Nat.pow_add]
   exact Nat.mul_div_mul_right _ _ (Nat.two_pow_pos _)
  rw [e3]
  rfl
def cmpE (a b:Int):Int:=if a<b then -1 else if b<a then 1 else 0
theorem tdiv_bounds {F U:Int} (hU:0<U):F<(F.tdiv U+1) * U∧(F.tdiv U - 1) * U<F:=by
 have h1:=Int.mul_tdiv_add_tmod F U
 have h2:=Int.tmod_lt_of_pos F hU
 have h3:=Int.lt_tmod_of_pos F hU
 rw [Int.add_mul,Int.sub_mul,Int.one_mul,Int.mul_comm (F.tdiv U) U]
 omega
theorem cmp_mixed {F y U n:Int} (hU:0<U) (hn:F.tdiv U=n):(if cmpE n y≠0 then cmpE n y else cmpE F (n * U))=cmpE F (y * U):=by
 obtain ⟨h1,h2⟩:=tdiv_bounds (F:=F) hU
 rw [hn] at h1 h2
 rcases Int.lt_trichotomy n y with h | h | h
 ·have h3:(n+1) * U≤y * U:=Int.mul_le_mul_of_nonneg_right (by omega) (Int.le_of_lt hU)
  have e1:cmpE n y = -1:=by unfold cmpE;rw [if_pos h]
  have e2:cmpE F (y * U) = -1:=by unfold cmpE;rw [if_pos (by omega)]
  rw [e1,e2];rfl
 ·subst h
  have e1:cmpE n n=0:=by unfold cmpE;rw [if_neg (by omega),if_neg (by omega)]
  rw [e1];rfl
 ·have h3:y * U≤(n - 1) * U:=Int.mul_le_mul_of_nonneg_right (by omega) (Int.le_of_lt hU)
  have e1:cmpE n y=1:=by unfold cmpE;rw [if_neg (by omega),if_pos h]
  have e2:cmpE F (y * U)=1:=by unfold cmpE;rw [if_neg (by omega),if_pos (by omega)]
  rw [e1,e2];rfl
theorem cmpE_scale {a b U:Int} (hU:0<U):cmpE (a * U) (b * U)=cmpE a b:=by
 unfold cmpE
 have h1:a * U<b * U↔a<b:=⟨fun h=>Int.lt_of_mul_lt_mul_right h (Int.le_of_lt hU),fun h=>Int.mul_lt_mul_of_pos_right h hU⟩
 have h2:b * U<a * U↔b<a:=⟨fun h=>Int.lt_of_mul_lt_mul_right h (Int.le_of_lt hU),fun h=>Int.mul_lt_mul_of_pos_right h hU⟩
 simp only [h1,h2]
theorem cmpE_swap (a b:Int):cmpE a b = -cmpE b a:=by
 unfold cmpE
 rcases Int.lt_trichotomy a b with h | h | h
 ·rw [if_pos h,if_neg (by omega),if_pos h]
 ·subst h;simp
 ·rw [if_neg (by omega),if_pos h,if_pos h];rfl
theorem ofZ_cut {f:Nat} (h:Fin64 f):Go.Proofs.YtjpnmmjgdiiahaaGreatDoor.ofZ f=(fV f).tdiv U74:=by
 obtain ⟨ha,hb⟩:=h
 have key:∀ g,g<9218868437227405312→ofN g=rv g / 2 ^ 1074:=by
  intro g hg
  have e1:g / 4503599627370496 % 2048=g / 4503599627370496:=by omega
  unfold ofN
  rw [e1]
  by_cases h0:g / 4503599627370496=0
  ·rw [if_pos h0,rv_low (show g<2 ^ 53 by omega),Nat.div_eq_of_lt]
   exact Nat.lt_of_lt_of_le (show g<2 ^ 53 by omega) (Nat.pow_le_pow_right (by decide) (by decide))
  ·rw [if_neg h0]
   have e2:rv g=(4503599627370496+g % 4503599627370496) * 2 ^ (g / 4503599627370496 - 1):=by
    unfold rv;rw [if_neg (show ¬g<2 ^ 52 by omega)]
   rw [e2]
   generalize 4503599627370496+g % 4503599627370496=M
   generalize g / 4503599627370496=e at *
   by_cases h1:1075≤e
   ·rw [if_pos h1,show e - 1=e - 1075+1074 by omega,Nat.pow_add,←Nat.mul_assoc,Nat.mul_div_cancel _ (Nat.two_pow_pos _)]
   ·rw [if_neg h1]
    have e3:2 ^ 1074=2 ^ (1075 - e) * 2 ^ (e - 1):=by rw [←Nat.pow_add];congr 1;omega
    rw [e3,Nat.mul_div_mul_right _ _ (Nat.two_pow_pos _)]
 unfold Go.Proofs.YtjpnmmjgdiiahaaGreatDoor.ofZ fV U74
 by_cases h1:f<9223372036854775808
 ·rw [if_pos h1,if_pos h1,key f (by omega)]
  exact (Int.ofNat_tdiv _ _)
 ·rw [if_neg h1,if_neg h1,Int.neg_tdiv,←Int.ofNat_tdiv]
  have:ofN f=ofN (f - 9223372036854775808):=by
   unfold ofN
   rw [show (f - 9223372036854775808) / 4503599627370496 % 2048=f / 4503599627370496 % 2048 by omega,show (f - 9223372036854775808) % 4503599627370496=f % 4503599627370496 by omega]
  rw [this,key _ (by omega)]
theorem cut_shift {s:Bool} {n:Nat} (hn:n≠0) (d j:Nat):Toward.even.cut s (n * 2 ^ j) (d+j)=Toward.even.cut s n d:=by
 have hp:=Nat.two_pow_pos j
 unfold Toward.cut
 rw [log2_shift hn,Nat.shiftLeft_eq,Nat.shiftLeft_eq,Nat.one_mul,Nat.one_mul,show n.log2+j+2=n.log2+2+j by omega,show min (d+j) (n.log2+2+j)=min d (n.log2+2)+j by omega,Nat.pow_add]
 generalize 2 ^ min d (n.log2+2)=G
 simp only [Nat.mul_div_mul_right _ _ hp,Nat.mul_mod_mul_right]
 generalize n % G=R
 generalize 2 ^ j=J at *
 have e1:decide (G * J<2 * (R * J))=decide (G<2 * R):=by
  rw [←Nat.mul_assoc]
  exact decide_eq_decide.2 ⟨fun h=>Nat.lt_of_mul_lt_mul_right h,fun h=>Nat.mul_lt_mul_of_pos_right h hp⟩
 have e2:(G * J==2 * (R * J))=(G==2 * R):=by
  rw [←Nat.mul_assoc]
  by_cases h:G=2 * R
  ·rw [h];simp
  ·rw [beq_eq_false_iff_ne.2 h]
   exact beq_eq_false_iff_ne.2 (fun h9=>h (Nat.eq_of_mul_eq_mul_right hp h9))
 rw [e1,e2]
theorem nearest_shift (s:Bool) (a j:Nat) (p:Int):double.nearest s (a * 2 ^ j) p=double.nearest s a (p+(j:Int)):=by
 by_cases h0:a=0
 ·subst h0;rw [Nat.zero_mul,nearest_zero,nearest_zero]
 ·have hne:a * 2 ^ j≠0:=Nat.mul_ne_zero h0 (Nat.ne_of_gt (Nat.two_pow_pos j))
  have g1:(double.fractionBits:Int)=52:=rfl
  have g2:double.binade=4503599627370496:=rfl
  have g3:double.infRung=9218868437227405312:=rfl
  have g4:double.leastPlace = -1074:=rfl
  unfold Format.nearest
  rw [if_neg hne,if_neg h0,log2_shift h0]
  simp only [g1,g2,g3,g4]
  rw [show p+((a.log2+j:Nat):Int) - 52=p+(j:Int)+(a.log2:Int) - 52 by omega]
  generalize max (p+(j:Int)+(a.log2:Int) - 52) (-1074)=l
  have key:Toward.even.cut s ((a * 2 ^ j) <<< (p - l).toNat) (l - p).toNat=Toward.even.cut s (a <<< (p+(j:Int) - l).toNat) (l - (p+(j:Int))).toNat:=by
   rw [Nat.shiftLeft_eq,Nat.shiftLeft_eq]
   rcases Int.le_total l p with h | h
   ·rw [show (l - p).toNat=0 by omega,show (l - (p+(j:Int))).toNat=0 by omega,Nat.mul_assoc,←Nat.pow_add]
    congr 3
    omega
   ·rcases Int.le_total l (p+(j:Int)) with h2 | h2
    ·rw [show (p - l).toNat=0 by omega,Nat.pow_zero,Nat.mul_one,show (l - (p+(j:Int))).toNat=0 by omega]
     have hne2:a * 2 ^ (p+(j:Int) - l).toNat≠0:=Nat.mul_ne_zero h0 (Nat.ne_of_gt (Nat.two_pow_pos _))
     have h3:=cut_shift (s:=s) hne2 0 (l - p).toNat
     rw [Nat.zero_add,Nat.mul_assoc,←Nat.pow_add,show (p+(j:Int) - l).toNat+(l - p).toNat=j by omega] at h3
     exact h3
    ·rw [show (p - l).toNat=0 by omega,show (p+(j:Int) - l).toNat=0 by omega,Nat.pow_zero,Nat.mul_one,Nat.mul_one]
     have h3:=cut_shift (s:=s) h0 (l - (p+(j:Int))).toNat j
     rw [←h3]
     congr 1
     omega
  rw [key]
theorem fin_word {f:Nat} (h:Fin64 f):∃ s r,f=double.word s r∧r<9218868437227405312:=by
 obtain ⟨h1,h2⟩:=h
 by_cases h3:f<9223372036854775808
 ·exact ⟨false,f,by rw [word_val];simp,by omega⟩
 ·exact ⟨true,f - 9223372036854775808,by rw [word_val];simp;omega,by omega⟩
theorem fV_inj {x y:Nat} (hx:Fin64 x) (hy:Fin64 y) (h0:fV x≠0) (h:fV x=fV y):x=y:=by
 obtain ⟨s,r,rfl,h1⟩:=fin_word hx
 obtain ⟨t,q,rfl,h2⟩:=fin_word hy
 rw [(word_fin h1).2,(word_fin h2).2] at h
 rw [(word_fin h1).2] at h0
 have e:∀ a b:Nat,rv a=rv b→a=b:=fun a b e=>by
  rcases Nat.lt_trichotomy a b with h | h | h
  ·have:=rv_lt h;omega
  ·exact h
  ·have:=rv_lt h;omega
 cases s <;> cases t <;> simp only [Bool.false_eq_true,if_false,if_true] at h h0
 ·rw [e r q (by omega)]
 ·omega
 ·omega
 ·rw [e r q (by omega)]
def Num64 (f:Nat):Prop:=∃ s r,f=double.word s r∧r≤9218868437227405312
theorem nearest_num (s:Bool) (m:Nat) (p:Int):Num64 (double.nearest s m p):=by
 by_cases hm:m=0
 ·subst hm;rw [nearest_zero];exact ⟨s,0,rfl,by omega⟩
 ·unfold Format.nearest
  rw [if_neg hm]
  exact ⟨s,_,rfl,Nat.min_le_right _ _⟩
theorem add_num {x y:Nat} (hx:Fin64 x) (hy:Fin64 y):∃ r,double.add x y=some r∧Num64 r:=by
 obtain ⟨m,p,e1,_⟩:=read_fin hx
 obtain ⟨n,q,e2,_⟩:=read_fin hy
 unfold Format.add
 rw [e1,e2]
 exact ⟨_,rfl,nearest_num _ _ _⟩
theorem sub_num {x y:Nat} (hx:Fin64 x) (hy:Fin64 y):∃ r,double.sub x y=some r∧Num64 r:=by
 obtain ⟨m,p,e1,_⟩:=read_fin hx
 obtain ⟨n,q,e2,_⟩:=read_fin hy
 unfold Format.sub
 rw [e1,e2]
 exact ⟨_,rfl,nearest_num _ _ _⟩
theorem mul_num {x y:Nat} (hx:Fin64 x) (hy:Fin64 y):∃ r,double.mul x y=some r∧Num64 r:=by
 obtain ⟨m,p,e1,_⟩:=read_fin hx
 obtain ⟨n,q,e2,_⟩:=read_fin hy
 unfold Format.mul
 rw [e1,e2]
 exact ⟨_,rfl,nearest_num _ _ _⟩
theorem read_nonzero {y:Nat} (hy:Fin64 y) (h:y % 9223372036854775808≠0) {s:Bool} {m:Nat} {p:Int} (e:double.read y = .number s m p):m≠0:=by
 intro hm
 subst hm
 obtain ⟨m',p',e1,_,h3,_⟩:=read_fin hy
 rw [e] at e1
 injection e1 with _ e2 _
 subst e2
 rw [signed_cases,Nat.zero_mul] at h3
 obtain ⟨t,r,rfl,hr⟩:=fin_word hy
 rw [(word_fin hr).2] at h3
 have h4:0<r:=by
  rcases Nat.eq_zero_or_pos r with h9 | h9
  ·subst h9;rw [word_val] at h;cases t <;> simp at h
  ·exact h9
 have:=rv_pos h4
 cases t <;> simp at h3 <;> omega
theorem div_num {x y:Nat} (hx:Fin64 x) (hy:Fin64 y) (h:y % 9223372036854775808≠0):∃ r,double.div x y=some r∧Num64 r:=by
 obtain ⟨m,p,e1,_⟩:=read_fin hx
 obtain ⟨n,q,e2,_⟩:=read_fin hy
 have hn:=read_nonzero hy h e2
 unfold Format.div
 rw [e1,e2]
 unfold Datum.quotient
 simp only [if_neg hn]
 exact ⟨_,rfl,nearest_num _ _ _⟩
theorem read_one:double.read 4607182418800017408 = .number false 4503599627370496 (-52):=by decide +kernel
theorem read_mone:double.read 13830554455654793216 = .number true 4503599627370496 (-52):=by decide +kernel
theorem mul_sign {r:Nat} (s:Bool) (h:r<9218868437227405312) (h0:0<r):double.mul r (if s then 13830554455654793216 else 4607182418800017408)=some (double.word s r):=by
 have ew:double.word false r=r:=by rw [word_val];simp
 obtain ⟨f1,f2⟩:=word_fin (s:=false) h
 obtain ⟨g1,g2⟩:=word_fin (s:=s) h
 rw [ew] at f1 f2
 obtain ⟨m,p,e1,hp,hm,hm53,hp9⟩:=read_fin f1
 have hs:decide (9223372036854775808≤r)=false:=decide_eq_false (by omega)
 rw [hs] at e1 hm
 have hr:=rv_pos h0
 have key:double.nearest s (m * 2 ^ 52) (p - 52)=double.word s r:=by
  rw [nearest_shift,show p - 52+((52:Nat):Int)=p by omega]
  obtain ⟨h1,h2⟩:=nearest_fin (s:=s) (a:=m) (k:=0) (p:=p) hm53 hp (by omega)
  rw [Nat.pow_zero,Nat.mul_one] at h1 h2
  have e9:fV (double.nearest s m p)=fV (double.word s r):=by
   rw [h2,g2]
   rw [f2,signed_cases] at hm
   simp only [Bool.false_eq_true,if_false,Int.one_mul] at hm
   rw [signed_cases,hm]
  refine fV_inj h1 g1 ?_ e9
  rw [e9,g2]
  cases s <;> simp <;> omega
 unfold Format.mul
 rw [e1]
 cases s
 ·simp only [Bool.false_eq_true,if_false]
  rw [read_one]
  exact congrArg some key
 ·simp only [if_true]
  rw [read_mone]
  exact congrArg some key
theorem mul_nought:double.mul 0 0=some 0:=by decide +kernel
def flowM (F:Nat):Option Nat:=if F % 9223372036854775808=9218868437227405312 then none else some (if F % 9223372036854775808=0 then 0 else F)
def Flo64 (f:Nat):Prop:=Fin64 f∧f≠9223372036854775808
theorem flowM_flo {F G:Nat} (h:Num64 F) (hG:flowM F=some G):Flo64 G:=by
 obtain ⟨s,r,rfl,hr⟩:=h
 unfold flowM at hG
 rw [word_val] at hG
 have e1:((if s then 9223372036854775808 else 0)+r) % 9223372036854775808=r:=by cases s <;> simp <;> omega
 rw [e1] at hG
 by_cases h1:r=9218868437227405312
 ·rw [if_pos h1] at hG;cases hG
 ·rw [if_neg h1] at hG
  injection hG with hG
  by_cases h2:r=0
  ·rw [if_pos h2] at hG;subst hG;exact ⟨zero_fin.1,by decide⟩
  ·rw [if_neg h2] at hG
   subst hG
   refine ⟨?_,by cases s <;> simp <;> omega⟩
   rw [←word_val]
   exact (word_fin (by omega)).1
theorem fin_num {f:Nat} (h:Fin64 f):Num64 f:=by
 obtain ⟨s,r,rfl,hr⟩:=fin_word h
 exact ⟨s,r,rfl,by omega⟩
end Hb
namespace Ht
open Go Go.RowKit Hb
theorem TAtP.wide {w:World} {P Q:Nat→Prop} {t:Tm} {sl:Value} (h:TAtP w P t sl) (hP:∀ b,P b→Q b):TAtP w Q t sl:=TAtP.keep t h (fun b hp=>⟨hP b hp,rfl⟩)
end Ht
namespace Go.Proofs.YtjpnmmjgdiiahaaGreatDoor
section
open Go.RowKit Hb Ht
attribute [local go_sem] Oper.semAt_some
def zeroT:Tm:=.mk 0 [] [] 0 0 []
def Grow (P:Nat→Prop) (w w':World) (b:Nat):Prop:=P b∨(w.heap.size≤b∧b<w'.heap.size)
theorem TBox.frozen {w:World} {g:Nat} {t:Tm} {sl:Value} (h:TBox w g t sl) (j:Nat):w.frozen? ⟨g,j,none⟩=false:=by
 unfold TBox at h
 simp [World.frozen?,h]
theorem TBox.set6 {w:World} {g:Nat} {t0:Tm} {sl0:Value} (h:TBox w g t0 sl0) {k v b:Int} {n m:List UInt8} (ts:List Tm) (sl:Value) {nb mb:ByteArray} (hn:(⟨n.toArray⟩:ByteArray)=nb) (hm:(⟨m.toArray⟩:ByteArray)=mb) :
  TBox ((((((w.setCell ⟨g,0,none⟩ (.int .i64 k)).setCell ⟨g,1,none⟩ (.string nb)).setCell ⟨g,2,none⟩ (.string mb)).setCell ⟨g,3,none⟩ (.int .u64 b)).setCell ⟨g,4,none⟩ (.int .i64 v)).setCell ⟨g,5,none⟩ sl) g (.mk k n m b v ts) sl ∧
   w.grownBy ((((((w.setCell ⟨g,0,none⟩ (.int .i64 k)).setCell ⟨g,1,none⟩ (.string nb)).setCell ⟨g,2,none⟩ (.string mb)).setCell ⟨g,3,none⟩ (.int .u64 b)).setCell ⟨g,4,none⟩ (.int .i64 v)).setCell ⟨g,5,none⟩ sl) (some g):=by
 subst hn hm
 constructor
 ·unfold TBox at h ⊢
  simp [World.setCell,Array.getElem?_modify,h,Ht.cells6,Tm.k,Tm.n,Tm.m,Tm.b,Tm.v]
 ·exact gb_setCell (gb_setCell (gb_setCell (gb_setCell (gb_setCell (gb_setCell (gb_refl w (some g)) 0 _) 1 _) 2 _) 3 _) 4 _) 5 _
theorem TBox.frozens {w:World} {g:Nat} {t:Tm} {sl:Value} (h:TBox w g t sl):w.frozen? ⟨g,0,none⟩=false∧w.frozen? ⟨g,1,none⟩=false∧w.frozen? ⟨g,2,none⟩=false∧w.frozen? ⟨g,3,none⟩=false∧w.frozen? ⟨g,4,none⟩=false∧w.frozen? ⟨g,5,none⟩=false:=
 ⟨h.frozen 0,h.frozen 1,h.frozen 2,h.frozen 3,h.frozen 4,h.frozen 5⟩
def TmPost (w:World) (P:Nat→Prop) (t:Tm) (e:Ending) (w':World):Prop:=∃ sl,e = .returned (valT t sl)∧TAtP w' (Grow P w w') t sl∧Below w.heap.size w w'
theorem TAtP.leaf (w:World) (P:Nat→Prop) {t:Tm} {A:Option Addr} {c:Nat} (h:t.as = []) (hc:c≤maxLen) (ho:okF t):TAtP w P t (.slice A 0 c):=by
 rw [TAtP.iff]
 refine ⟨A,c,by rw [h];rfl,by rw [h];exact Nat.zero_le _,hc,by rw [h];exact Nat.zero_le _,ho,fun hne=>absurd h hne⟩
structure LimP (w:World) (P:Nat→Prop) (A:Option Addr) (n c:Nat) (l:List Nat):Prop where
 len:l.length=n
 cap:n≤c
 max:c≤maxLen
 dig:Dig 4294967296 l
 rd:l ≠ []→∃ b o,A=some ⟨b,o,none⟩∧P b∧∀ i v,(u32s l)[i]?=some v→w.cell? ⟨b,o+i,none⟩=some v
section
variable {w w':World} {P Q:Nat→Prop} {A:Option Addr} {n c B:Nat} {l:List Nat}
theorem LimP.keep (h:LimP w P A n c l) (hb:∀ b,P b→Q b∧w'.heap[b]?=w.heap[b]?):LimP w' Q A n c l:=
 ⟨h.len,h.cap,h.max,h.dig,fun hl=>by
  obtain ⟨b,o,e,hp,hc⟩:=h.rd hl
  exact ⟨b,o,e,(hb b hp).1,fun i v hv=>(World.cell?_of_block (a:=⟨b,o+i,none⟩) (hb b hp).2).trans (hc i v hv)⟩⟩
theorem u32s_nil_iff {l:List Nat} : u32s l ≠ []↔l ≠ []:=by cases l <;> simp [u32s]
theorem LimP.sl (h:LimP w P A n c l) (hb:∀ b,P b→b<B):SlU w B A n c l:=
 ⟨h.len,h.cap,h.max,h.dig,fun hx=>by
  obtain ⟨b,o,e,hp,hc⟩:=h.rd (u32s_nil_iff.1 hx)
  exact ⟨b,o,e,hb b hp,hc⟩⟩
theorem LimP.of_own (h:OwnU w B A n c (u32s l)) (hd:Dig 4294967296 l):LimP w (fun b=>B≤b∧b<w.heap.size) A n c l:=by
 have hl:l.length=n:=by rw [←u32s_length];exact h.length
 refine ⟨hl,h.cap.1,h.cap.2,hd,fun hx=>?_⟩
 have hn:0<n:=by rw [←hl];exact List.length_pos_iff.2 hx
 obtain ⟨g,rfl,h1,h2⟩:=h.at_ hn
 refine ⟨g,0,rfl,⟨h1,h2⟩,fun i v hi=>?_⟩
 have:=World.ownsRow.cells h (g:=g) rfl i v hi
 rw [add_zero' g i] at this
 rw [Nat.zero_add];exact this
theorem LimP.nil (w:World) (P:Nat→Prop) (A:Option Addr) {c:Nat} (hc:c≤maxLen):LimP w P A 0 c []:=⟨rfl,Nat.zero_le _,hc,Dig.nil _,fun h=>absurd rfl h⟩
end
end
section
open Go.RowKit Hb Ht
inductive Nm where
 | int (z:Int)
 | flo (f:Nat)
structure Nv where
 g:Bool
 A:Option Addr
 n:Nat
 c:Nat
 l:List Nat
 f:Nat
 b:Bool
def Nv.vals (q:Nv):List Value:=[.bool q.g,.slice q.A q.n q.c,.float .f64 q.f,.bool q.b]
def Nv.v (q:Nv):Value:=.agg q.vals.toArray
def Nv.nm (q:Nv):Nm:=if q.b then .flo q.f else .int (ival q.g q.l)
structure Nv.At (w:World) (P:Nat→Prop) (q:Nv):Prop where
 lim:LimP w P q.A q.n q.c q.l
 sm:q.n≤10000
 fl:Flo64 q.f
 sh:tooLong (ival q.g q.l)=false
def nought:Nv:=⟨false,none,0,0,[],0,false⟩
section
variable {w w':World} {P Q:Nat→Prop} {q:Nv}
theorem Nv.At.keep (h:q.At w P) (hb:∀ b,P b→Q b∧w'.heap[b]?=w.heap[b]?):q.At w' Q:=⟨h.lim.keep hb,h.sm,h.fl,h.sh⟩
theorem Nv.At.wide (h:q.At w P) (hb:∀ b,P b→Q b):q.At w Q:=h.keep fun b hp=>⟨hb b hp,rfl⟩
theorem Nv.At.up (h:q.At w (fun b=>b<w.heap.size)) (hb:Below w.heap.size w w'):q.At w' (fun b=>b<w'.heap.size):=h.keep fun b hp=>⟨Nat.lt_of_lt_of_le hp hb.size,hb.block b hp⟩
theorem flo0:Flo64 0:=⟨zero_fin.1,by decide⟩
theorem short0:tooLong 0=false:=by unfold tooLong;rw [show Int.natAbs 0=0 from rfl,blen_zero];decide
theorem ival_nil (g:Bool):ival g []=0:=by cases g <;> rfl
theorem nought_at (w:World) (P:Nat→Prop):nought.At w P:=⟨LimP.nil w P none (c:=0) (by unfold maxLen;omega),Nat.zero_le _,flo0,by rw [show ival nought.g nought.l=0 from ival_nil _];exact short0⟩
def flv (f:Nat):Nv:=⟨false,none,0,0,[],f,true⟩
theorem flv_at (w:World) (P:Nat→Prop) {f:Nat} (h:Flo64 f):(flv f).At w P:=⟨LimP.nil w P none (c:=0) (by unfold maxLen;omega),Nat.zero_le _,h,by rw [show ival (flv f).g (flv f).l=0 from ival_nil _];exact short0⟩
end
def NBox (w:World) (g:Nat) (q:Nv):Prop:=w.heap[g]?=some (.cells q.vals.toArray 70 (0,0))
section
variable {w w':World} {g:Nat} {q:Nv}
theorem NBox.lt (h:NBox w g q):g<w.heap.size:=(Array.getElem?_eq_some_iff.1 h).1
theorem NBox.below {B:Nat} (h:NBox w g q) (hb:Below B w w') (hB:g<B):NBox w' g q:=(hb.block g hB).trans h
theorem NBox.gro {N:Nat} (h:NBox w g q) (hg:w.grownBy w' (some N)) (hne:g≠N):NBox w' g q:=(hg.block g h.lt (fun e=>by injection e with e;omega)).trans h
theorem NBox.cells (h:NBox w g q):w.cell? ⟨g,0,none⟩=some (.bool q.g)∧w.cell? ⟨g,1,none⟩=some (.slice q.A q.n q.c)∧w.cell? ⟨g,2,none⟩=some (.float .f64 q.f)∧w.cell? ⟨g,3,none⟩=some (.bool q.b):=by
 unfold NBox at h
 refine ⟨?_,?_,?_,?_⟩ <;> simp [World.cell?,h,Nv.vals]
theorem NBox.frozens (h:NBox w g q):w.frozen? ⟨g,0,none⟩=false∧w.frozen? ⟨g,1,none⟩=false∧w.frozen? ⟨g,2,none⟩=false∧w.frozen? ⟨g,3,none⟩=false:=by
 unfold NBox at h
 simp [World.frozen?,h]
theorem NBox.new (w:World) (q:Nv):NBox (w.alloc (.cells q.vals.toArray 70)) w.heap.size q:=heap_alloc_new w _
theorem NBox.set4 (h:NBox w g q) (r:Nv):NBox ((((w.setCell ⟨g,0,none⟩ (.bool r.g)).setCell ⟨g,1,none⟩ (.slice r.A r.n r.c)).setCell ⟨g,2,none⟩ (.float .f64 r.f)).setCell ⟨g,3,none⟩ (.bool r.b)) g r ∧
  w.grownBy ((((w.setCell ⟨g,0,none⟩ (.bool r.g)).setCell ⟨g,1,none⟩ (.slice r.A r.n r.c)).setCell ⟨g,2,none⟩ (.float .f64 r.f)).setCell ⟨g,3,none⟩ (.bool r.b)) (some g):=by
 constructor
 ·unfold NBox at h ⊢
  simp [World.setCell,Array.getElem?_modify,h,Nv.vals]
 ·exact gb_setCell (gb_setCell (gb_setCell (gb_setCell (gb_refl w (some g)) 0 _) 1 _) 2 _) 3 _
end
end
section
open Go.RowKit Hb Ht
attribute [local go_sem ↓] Go.wp_at_zero Go.wp_at_succ
def sgB:Ordering→Nat
 | .lt=>13830554455654793216
 | .eq=>0
 | .gt=>4607182418800017408
set_option maxRecDepth 100000 in
theorem sign_f {F:Nat} {o:Ordering} (h:Ieee.double.order F 0=some o) (w:World):Calls Tryz.prog 64 #[.float .f64 F] w fun e w'=>e = .returned (.float .f64 (sgB o))∧w=w':=by
 have ho:FloatKind.f64.format.order F 0=some o:=h
 obtain ⟨b1,h1⟩:∃ b,(FloatKind.f64.format.order F 0==some .lt)=b:=⟨_,rfl⟩
 obtain ⟨b2,h2⟩:∃ b,(FloatKind.f64.format.order F 0==some .gt)=b:=⟨_,rfl⟩
 have e1:b1=(some o==some .lt):=by rw [←h1,ho]
 have e2:b2=(some o==some .gt):=by rw [←h2,ho]
 clear ho h
 cases o
 all_goals
  simp only [sgB]
  first
   | (obtain rfl:b1=true:=e1)
   | (obtain rfl:b1=false:=e1)
  first
   | (obtain rfl:b2=true:=e2)
   | (obtain rfl:b2=false:=e2)
  go_enter Tryz.func64,Tryz.ntmps64
  go_wp2
  go_ret
  exact ⟨rfl,rfl⟩
theorem clear_sign' {F:Nat} (h:F<18446744073709551616):bits .andNot .u64 (F:Int) 9223372036854775808=((F % 9223372036854775808:Nat):Int):=by
 have h1:=bits_andNot_u64 F 9223372036854775808 h (by decide)
 rw [show ((9223372036854775808:Nat):Int)=9223372036854775808 from rfl] at h1
 rw [h1,show 18446744073709551615 - 9223372036854775808=2 ^ 63 - 1 from rfl,Nat.and_two_pow_sub_one_eq_mod]
set_option maxRecDepth 100000 in
theorem Abs_w {F R:Nat} (hF:F<18446744073709551616) (hR:F % 9223372036854775808=R) (w:World) :
  Calls Tryz.prog 86 #[.float .f64 F] w fun e w'=>e = .returned (.float .f64 R)∧w=w':=by
 have hb:=run_bits F
 have hb2:=run_frombits R
 have hb3:=clear_sign' hF
 rw [hR] at hb3
 go_enter Tryz.func86,Tryz.ntmps86
 go_wp2
 go_ret
 exact ⟨rfl,rfl⟩
theorem order_self_num {F:Nat} (h:Num64 F):Ieee.double.order F F=some .eq:=by
 obtain ⟨s,r,rfl,hr⟩:=h
 rcases Nat.lt_or_ge r 9218868437227405312 with h1 | h1
 ·rw [order_fin (word_fin h1).1 (word_fin h1).1,Int.compare_eq_eq.2 rfl]
 ·obtain rfl:r=9218868437227405312:=by omega
  cases s <;> decide +kernel
theorem num_lt {F:Nat} (h:Num64 F):F<18446744073709551616∧F % 9223372036854775808≤9218868437227405312:=by
 obtain ⟨s,r,rfl,hr⟩:=h
 rw [word_val]
 cases s <;> simp <;> omega
set_option maxRecDepth 100000 in
theorem IsNaN_w {F:Nat} (hF:Num64 F) (w:World) :
  Calls Tryz.prog 166 #[.float .f64 F] w fun e w'=>e = .returned (.bool false)∧w=w':=by
 have ho:FloatKind.f64.format.order F F=some .eq:=order_self_num hF
 go_enter Tryz.func166,Tryz.ntmps166
 go_wp2
 go_ret
 exact ⟨rfl,rfl⟩
set_option maxRecDepth 100000 in
theorem IsInf_w {F:Nat} (hF:Num64 F) {b:Bool} (hb:decide (F % 9223372036854775808=9218868437227405312)=b) (w:World) :
  Calls Tryz.prog 165 #[.float .f64 F,.int .i64 0] w fun e w'=>e = .returned (.bool b)∧w=w':=by
 obtain ⟨R,hR⟩:∃ R,F % 9223372036854775808=R:=⟨_,rfl⟩
 have ho:=order_inf R (by rw [←hR];exact (num_lt hF).2)
 rw [hR] at hb
 rw [hb] at ho
 have HA:=Lib.hid (Abs_w (num_lt hF).1 hR)
 clear hb hR hF
 go_enter Tryz.func165,Tryz.ntmps165
 go_wp2_with fail
 refine (HA.out _).mono ?_
 rintro ex w5 ⟨rfl,rfl⟩
 go_wp2
 go_ret
 exact ⟨rfl,rfl⟩
def BBox (w:World) (g:Nat) (t:Tm) (sl:Value):Prop:=w.heap[g]?=some (.cells (Ht.cells6 t sl).toArray 99 (0,0))
theorem BBox.lt {w:World} {g:Nat} {t:Tm} {sl:Value} (h:BBox w g t sl):g<w.heap.size:=(Array.getElem?_eq_some_iff.1 h).1
theorem BBox.below {w w':World} {g B:Nat} {t:Tm} {sl:Value} (h:BBox w g t sl) (hb:Below B w w') (hB:g<B):BBox w' g t sl:=(hb.block g hB).trans h
def BallP (w:World) (lo:Nat) (t:Tm) (v:Value):Prop:=∃ g sl,v = .iface 95 (.pointer (some ⟨g,0,none⟩))∧lo≤g∧BBox w g t sl∧TAtP w (fun b=>lo≤b∧b<w.heap.size) t sl
theorem BallP.below {w w':World} {lo:Nat} {t:Tm} {v:Value} (h:BallP w lo t v) (hb:Below w.heap.size w w'):BallP w' lo t v:=by
 obtain ⟨g,sl,e,h1,h2,h3⟩:=h
 exact ⟨g,sl,e,h1,h2.below hb h2.lt,TAtP.keep _ h3 (fun b hb2=>⟨⟨hb2.1,Nat.lt_of_lt_of_le hb2.2 hb.size⟩,hb.block b hb2.2⟩)⟩
theorem BallP.lower {w:World} {lo lo':Nat} {t:Tm} {v:Value} (h:BallP w lo t v) (hl:lo'≤lo):BallP w lo' t v:=by
 obtain ⟨g,sl,e,h1,h2,h3⟩:=h
 exact ⟨g,sl,e,Nat.le_trans hl h1,h2,TAtP.keep _ h3 (fun b hb=>⟨⟨Nat.le_trans hl hb.1,hb.2⟩,rfl⟩)⟩
theorem BallP.gro {w w':World} {lo N:Nat} {t:Tm} {v:Value} (h:BallP w lo t v) (hg:w.grownBy w' (some N)) (hN:N<lo):BallP w' lo t v:=by
 obtain ⟨g,sl,e,h1,h2,h3⟩:=h
 exact ⟨g,sl,e,h1,(hg.block g h2.lt (fun e=>by injection e with e;omega)).trans h2,TAtP.keep _ h3 (fun b hb=>⟨⟨hb.1,Nat.lt_of_lt_of_le hb.2 hg.size⟩,hg.block b hb.2 (fun e=>by injection e with e;have:=hb.1;omega)⟩)⟩
theorem BallP.iface {w:World} {lo:Nat} {t:Tm} {v:Value} (h:BallP w lo t v):∃ g,v = .iface 95 (.pointer (some ⟨g,0,none⟩)):=let ⟨g,_,e,_⟩:=h;⟨g,e⟩
set_option maxRecDepth 100000 in
theorem atom_any (nb:ByteArray) (w:World):Calls Tryz.prog 132 #[.string nb] w fun e w'=>e = .returned (.agg #[.int .i64 2,.string nb,.string ⟨#[]⟩,.int .u64 0,.int .i64 0,.slice none 0 0])∧Below w.heap.size w w':=by
 have hX0:TBox (w.alloc (.cells #[.int .i64 0,.string ⟨#[]⟩,.string ⟨#[]⟩,.int .u64 0,.int .i64 0,.slice none 0 0] 25)) w.heap.size zeroT (.slice none 0 0):=TBox.new w rfl rfl
 obtain ⟨c0,c1,c2,c3,c4,c5⟩:=hX0.cells rfl rfl
 obtain ⟨z0,z1,z2,z3,z4,z5⟩:=hX0.frozens
 have HX:=Lib.hid (hX0.set6 (k:=2) (b:=0) (v:=0) (n:=nb.data.toList) (m:=[]) (nb:=nb) (mb:=⟨#[]⟩) [] (.slice none 0 0) (by simp) rfl)
 have HB:=Lib.hid (show Below w.heap.size w (w.alloc (.cells #[.int .i64 0,.string ⟨#[]⟩,.string ⟨#[]⟩,.int .u64 0,.int .i64 0,.slice none 0 0] 25)) from (Below.refl _ _).alloc (Nat.le_refl _) _)
 have HZ:=Lib.hid (World.size_alloc w (.cells #[.int .i64 0,.string ⟨#[]⟩,.string ⟨#[]⟩,.int .u64 0,.int .i64 0,.slice none 0 0] 25))
 clear hX0
 go_enter Tryz.func132,Tryz.ntmps132
 go_upto_region 1 with fail
 generalize w.alloc (.cells #[.int .i64 0,.string ⟨#[]⟩,.string ⟨#[]⟩,.int .u64 0,.int .i64 0,.slice none 0 0] 25)=w0 at *
 go_wp2
 obtain ⟨hbx,hgr⟩:=HX.out
 generalize (((((w0.setCell ⟨w.heap.size,0,none⟩ (.int .i64 2)).setCell ⟨w.heap.size,1,none⟩ (.string nb)).setCell ⟨w.heap.size,2,none⟩ (.string ⟨#[]⟩)).setCell ⟨w.heap.size,3,none⟩ (.int .u64 0)).setCell ⟨w.heap.size,4,none⟩ (.int .i64 0)).setCell ⟨w.heap.size,5,none⟩ (.slice none 0 0)=w6 at *
 obtain ⟨r0,r1,r2,r3,r4,r5⟩:=hbx.cells (nb:=nb) (mb:=⟨#[]⟩) (by simp) rfl
 refine bodyPost_ret (v:=.agg #[.int .i64 2,.string nb,.string ⟨#[]⟩,.int .u64 0,.int .i64 0,.slice none 0 0]) (by simp [results,Tryz.results132,go_sem,r0,r1,r2,r3,r4,r5]) rfl ⟨rfl,?_⟩
 exact HB.out.grown hgr (by have:=HZ.out;omega) (fun j e=>by injection e with e;omega)
set_option maxRecDepth 100000 in
theorem of_any (nb:ByteArray) (A:Option Addr) (n c:Nat) (w:World):Calls Tryz.prog 133 #[.string nb,.slice A n c] w fun e w'=>e = .returned (.agg #[.int .i64 5,.string nb,.string ⟨#[]⟩,.int .u64 0,.int .i64 0,.slice A n c])∧Below w.heap.size w w':=by
 have hX0:TBox (w.alloc (.cells #[.int .i64 0,.string ⟨#[]⟩,.string ⟨#[]⟩,.int .u64 0,.int .i64 0,.slice none 0 0] 25)) w.heap.size zeroT (.slice none 0 0):=TBox.new w rfl rfl
 obtain ⟨c0,c1,c2,c3,c4,c5⟩:=hX0.cells rfl rfl
 obtain ⟨z0,z1,z2,z3,z4,z5⟩:=hX0.frozens
 have HX:=Lib.hid (hX0.set6 (k:=5) (b:=0) (v:=0) (n:=nb.data.toList) (m:=[]) (nb:=nb) (mb:=⟨#[]⟩) [] (.slice A n c) (by simp) rfl)
 have HB:=Lib.hid (show Below w.heap.size w (w.alloc (.cells #[.int .i64 0,.string ⟨#[]⟩,.string ⟨#[]⟩,.int .u64 0,.int .i64 0,.slice none 0 0] 25)) from (Below.refl _ _).alloc (Nat.le_refl _) _)
 have HZ:=Lib.hid (World.size_alloc w (.cells #[.int .i64 0,.string ⟨#[]⟩,.string ⟨#[]⟩,.int .u64 0,.int .i64 0,.slice none 0 0] 25))
 clear hX0
 go_enter Tryz.func133,Tryz.ntmps133
 go_upto_region 1 with fail
 generalize w.alloc (.cells #[.int .i64 0,.string ⟨#[]⟩,.string ⟨#[]⟩,.int .u64 0,.int .i64 0,.slice none 0 0] 25)=w0 at *
 go_wp2
 obtain ⟨hbx,hgr⟩:=HX.out
 generalize (((((w0.setCell ⟨w.heap.size,0,none⟩ (.int .i64 5)).setCell ⟨w.heap.size,1,none⟩ (.string nb)).setCell ⟨w.heap.size,2,none⟩ (.string ⟨#[]⟩)).setCell ⟨w.heap.size,3,none⟩ (.int .u64 0)).setCell ⟨w.heap.size,4,none⟩ (.int .i64 0)).setCell ⟨w.heap.size,5,none⟩ (.slice A n c)=w6 at *
 obtain ⟨r0,r1,r2,r3,r4,r5⟩:=hbx.cells (nb:=nb) (mb:=⟨#[]⟩) (by simp) rfl
 refine bodyPost_ret (v:=.agg #[.int .i64 5,.string nb,.string ⟨#[]⟩,.int .u64 0,.int .i64 0,.slice A n c]) (by simp [results,Tryz.results133,go_sem,r0,r1,r2,r3,r4,r5]) rfl ⟨rfl,?_⟩
 exact HB.out.grown hgr (by have:=HZ.out;omega) (fun j e=>by injection e with e;omega)
set_option maxRecDepth 100000 in
theorem throw_any (k v b:Int) (n m:List UInt8) (ts:List Tm) (nb mb:ByteArray) (hn:(⟨n.toArray⟩:ByteArray)=nb) (hm:(⟨m.toArray⟩:ByteArray)=mb) (A:Option Addr) (q c:Nat) (w:World):Calls Tryz.prog 131 #[.agg #[.int .i64 k,.string nb,.string mb,.int .u64 b,.int .i64 v,.slice A q c]] w
  fun e w'=>∃ g,e = .returned (.iface 95 (.pointer (some ⟨g,0,none⟩)))∧w.heap.size≤g∧BBox w' g (.mk k n m b v ts) (.slice A q c)∧Below w.heap.size w w':=by
 have hX0:TBox (w.alloc (.cells #[.int .i64 k,.string nb,.string mb,.int .u64 b,.int .i64 v,.slice A q c] 25)) w.heap.size (.mk k n m b v ts) (.slice A q c):=TBox.new w hn hm
 obtain ⟨x0,x1,x2,x3,x4,x5⟩:=hX0.cells hn hm
 have HB:=Lib.hid (show Below w.heap.size w ((w.alloc (.cells #[.int .i64 k,.string nb,.string mb,.int .u64 b,.int .i64 v,.slice A q c] 25)).alloc (.cells #[.int .i64 k,.string nb,.string mb,.int .u64 b,.int .i64 v,.slice A q c] 99)) from ((Below.refl _ _).alloc (Nat.le_refl _) _).alloc (by simp) _)
 have HX:=Lib.hid (show BBox ((w.alloc (.cells #[.int .i64 k,.string nb,.string mb,.int .u64 b,.int .i64 v,.slice A q c] 25)).alloc (.cells #[.int .i64 k,.string nb,.string mb,.int .u64 b,.int .i64 v,.slice A q c] 99)) (w.heap.size+1) (.mk k n m b v ts) (.slice A q c) from by
  have h:=heap_alloc_new (w.alloc (.cells #[.int .i64 k,.string nb,.string mb,.int .u64 b,.int .i64 v,.slice A q c] 25)) (.cells #[.int .i64 k,.string nb,.string mb,.int .u64 b,.int .i64 v,.slice A q c] 99)
  rw [World.size_alloc] at h
  subst hn hm
  exact h)
 clear hX0
 go_enter Tryz.func131,Tryz.ntmps131
 go_wp2
 go_ret
 exact ⟨_,rfl,by omega,HX.out,HB.out⟩
inductive Rs where
 | ok (x:Nm)
 | bad (t:Tm)
def Out (w:World) (lo lb:Nat) (r:Rs) (q:Nv) (ev:Value):Prop:=(r = .ok q.nm∧ev = .nilIface∧q.At w (fun b=>lo≤b∧b<w.heap.size))∨(∃ t,r = .bad t∧q=nought∧BallP w lb t ev)
def NPostL (lo:Nat) (w:World) (r:Rs) (e:Ending) (w':World):Prop:=Below w.heap.size w w'∧∃ q ev,e = .returned (.tuple #[q.v,ev])∧Out w' lo w.heap.size r q ev
abbrev NPost (w:World) (r:Rs) (e:Ending) (w':World):Prop:=NPostL w.heap.size w r e w'
theorem Nv.At.upL {w w':World} {q:Nv} {lo:Nat} (h:q.At w (fun b=>lo≤b∧b<w.heap.size)) (hb:Below w.heap.size w w'):q.At w' (fun b=>lo≤b∧b<w'.heap.size):=h.keep fun b hp=>⟨⟨hp.1,Nat.lt_of_lt_of_le hp.2 hb.size⟩,hb.block b hp.2⟩
theorem Out.up {w w':World} {lo lb:Nat} {r:Rs} {q:Nv} {ev:Value} (h:Out w lo lb r q ev) (hb:Below w.heap.size w w'):Out w' lo lb r q ev:=by
 rcases h with ⟨h1,h2,h3⟩ | ⟨t,h1,h2,h3⟩
 ·exact .inl ⟨h1,h2,h3.upL hb⟩
 ·exact .inr ⟨t,h1,h2,h3.below hb⟩
theorem Out.lower {w:World} {lo lb lo' lb':Nat} {r:Rs} {q:Nv} {ev:Value} (h:Out w lo lb r q ev) (hl:lo'≤lo) (hl2:lb'≤lb):Out w lo' lb' r q ev:=by
 rcases h with ⟨h1,h2,h3⟩ | ⟨t,h1,h2,h3⟩
 ·exact .inl ⟨h1,h2,h3.wide (fun b hb=>⟨Nat.le_trans hl hb.1,hb.2⟩)⟩
 ·exact .inr ⟨t,h1,h2,h3.lower hl2⟩
end
end Go.Proofs.YtjpnmmjgdiiahaaGreatDoor
