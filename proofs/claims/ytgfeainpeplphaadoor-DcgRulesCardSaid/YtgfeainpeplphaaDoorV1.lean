set_option linter.unusedVariables false
set_option linter.unusedSimpArgs false
namespace Hb
def nv (b:Nat):List Nat→Nat
 | []=>0
 | x :: l=>x+b * nv b l
def Dig (b:Nat) (l:List Nat):Prop:=∀ x∈l,x<b
theorem Dig.nil (b:Nat):Dig b []:=by intro x hx;cases hx
theorem Dig.cons {b x:Nat} {l:List Nat} (hx:x<b) (h:Dig b l):Dig b (x :: l):=by
 intro y hy
 rcases List.mem_cons.1 hy with rfl | hy
 ·exact hx
 ·exact h y hy
theorem Dig.head {b x:Nat} {l:List Nat} (h:Dig b (x :: l)):x<b:=h x (by simp)
theorem Dig.tail {b x:Nat} {l:List Nat} (h:Dig b (x :: l)):Dig b l:=fun y hy=>h y (by simp [hy])
theorem Dig.append {b:Nat} {l m:List Nat} (h:Dig b l) (k:Dig b m):Dig b (l ++ m):=by
 intro y hy
 rcases List.mem_append.1 hy with hy | hy
 ·exact h y hy
 ·exact k y hy
theorem Dig.take {b:Nat} {l:List Nat} (h:Dig b l) (k:Nat):Dig b (l.take k):=fun y hy=>h y (List.mem_of_mem_take hy)
theorem Dig.getD {b:Nat} {l:List Nat} (h:Dig b l) (hb:0<b) (k:Nat):l.getD k 0<b:=by
 rw [List.getD_eq_getElem?_getD]
 cases hk:l[k]? with
 | none=>simpa using hb
 | some x=>exact h x (List.mem_of_getElem? hk)
theorem Dig.replicate (b n:Nat) (hb:0<b):Dig b (List.replicate n 0):=by
 intro x hx
 rw [(List.mem_replicate.1 hx).2];exact hb
theorem nv_cons (b x:Nat) (l:List Nat):nv b (x :: l)=x+b * nv b l:=rfl
theorem nv_single (b x:Nat):nv b [x]=x:=by simp [nv]
theorem nv_append (b:Nat) (l m:List Nat):nv b (l ++ m)=nv b l+b ^ l.length * nv b m:=by
 induction l with
 | nil=>simp [nv]
 | cons x l ih=>
  simp only [List.cons_append,nv,ih,List.length_cons,Nat.pow_succ,Nat.mul_add]
  rw [Nat.mul_comm (b ^ l.length) b,Nat.mul_assoc]
  omega
theorem nv_snoc (b:Nat) (l:List Nat) (x:Nat):nv b (l ++ [x])=nv b l+b ^ l.length * x:=by
 rw [nv_append,nv_single]
theorem nv_lt {b:Nat} {l:List Nat} (h:Dig b l):nv b l<b ^ l.length:=by
 induction l with
 | nil=>simp [nv]
 | cons x l ih=>
  have hx:=h.head
  have hl:=ih h.tail
  simp only [nv,List.length_cons,Nat.pow_succ]
  have h1:b * (nv b l+1)≤b * b ^ l.length:=Nat.mul_le_mul_left _ hl
  rw [Nat.mul_comm (b ^ l.length) b]
  rw [Nat.mul_add] at h1
  omega
theorem nv_mod {b x:Nat} {l:List Nat} (hx:x<b):nv b (x :: l) % b=x:=by
 rw [nv_cons,Nat.add_mul_mod_self_left,Nat.mod_eq_of_lt hx]
theorem nv_div {b x:Nat} {l:List Nat} (hx:x<b):nv b (x :: l) / b=nv b l:=by
 rw [nv_cons,Nat.add_mul_div_left _ _ (by omega),Nat.div_eq_of_lt hx,Nat.zero_add]
theorem nv_inj {b:Nat} : ∀ {l m:List Nat},Dig b l→Dig b m→l.length=m.length→nv b l=nv b m→l=m
 | [],[],_,_,_,_=>rfl
 | [],_ :: _,_,_,h,_=>by simp at h
 | _ :: _,[],_,_,h,_=>by simp at h
 | x :: l,y :: m,hl,hm,hlen,h=>by
  have h1:=nv_mod (l:=l) hl.head
  have h2:=nv_mod (l:=m) hm.head
  have h3:=nv_div (l:=l) hl.head
  have h4:=nv_div (l:=m) hm.head
  rw [h] at h1 h3
  have e1:x=y:=h1.symm.trans h2
  have e2:nv b l=nv b m:=h3.symm.trans h4
  rw [e1,nv_inj hl.tail hm.tail (by simpa using hlen) e2]
def Nrm (l:List Nat):Prop:=∀ h:l ≠ [],l.getLast h≠0
theorem Nrm.nil:Nrm []:=fun h=>absurd rfl h
theorem Nrm.tail {x:Nat} {l:List Nat} (h:Nrm (x :: l)):Nrm l:=by
 intro hl
 have:=h (by simp)
 rwa [List.getLast_cons hl] at this
theorem nv_pos {b:Nat} (hb:0<b) {l:List Nat} (h:Nrm l) (hl:l ≠ []):0<nv b l:=by
 induction l with
 | nil=>exact absurd rfl hl
 | cons x l ih=>
  by_cases he:l = []
  ·subst he
   have:=h hl
   simp at this
   simp [nv];omega
  ·have:=ih h.tail he
   rw [nv_cons]
   have:=Nat.mul_pos hb this
   omega
theorem nv_ge {b:Nat} {l:List Nat} (h:Nrm l) (hl:l ≠ []):b ^ (l.length - 1)≤nv b l:=by
 induction l with
 | nil=>exact absurd rfl hl
 | cons x l ih=>
  by_cases he:l = []
  ·subst he
   have:=h hl
   simp at this
   simp [nv];omega
  ·have h1:=ih h.tail he
   have hlen:0<l.length:=List.length_pos_iff.2 he
   rw [nv_cons]
   have e:(x :: l).length - 1=(l.length - 1)+1:=by simp;omega
   rw [e,Nat.pow_succ,Nat.mul_comm]
   have:=Nat.mul_le_mul_left b h1
   omega
theorem pow_lt_pow' {b m n:Nat} (hb:1<b) (h:b ^ m<b ^ n):m<n:=by
 rcases Nat.lt_or_ge m n with h1 | h1
 ·exact h1
 ·have:=Nat.pow_le_pow_right (n:=b) (by omega) h1;omega
theorem nrm_inj {b:Nat} (hb:1<b) {l m:List Nat} (hl:Dig b l) (hm:Dig b m) (nl:Nrm l) (nm:Nrm m) (h:nv b l=nv b m):l=m:=by
 refine nv_inj hl hm ?_ h
 have key:∀ {l m:List Nat},Dig b l→Dig b m→Nrm l→Nrm m→nv b l=nv b m→l.length≤m.length:=by
  intro l m hl hm nl nm h
  by_cases he:l = []
  ·simp [he]
  ·have h1:=nv_ge (b:=b) nl he
   have h2:=nv_lt hm
   have:=pow_lt_pow' hb (Nat.lt_of_le_of_lt (h ▸ h1) h2)
   have hlen:0<l.length:=List.length_pos_iff.2 he
   omega
 exact Nat.le_antisymm (key hl hm nl nm h) (key hm hl nm nl h.symm)
def tlen:List Nat→Nat
 | []=>0
 | x :: l=>if tlen l=0 then (if x=0 then 0 else 1) else tlen l+1
def tr (l:List Nat):List Nat:=l.take (tlen l)
theorem tlen_le (l:List Nat):tlen l≤l.length:=by
 induction l with
 | nil=>simp [tlen]
 | cons x l ih=>simp only [tlen,List.length_cons];split <;> (try split) <;> omega
theorem tr_length (l:List Nat):(tr l).length=tlen l:=by
 rw [tr,List.length_take];exact Nat.min_eq_left (tlen_le l)
theorem tr_cons (x:Nat) (l:List Nat):tr (x :: l)=if tlen l=0 then (if x=0 then [] else [x]) else x :: tr l:=by
 simp only [tr,tlen]
 split
 ·split <;> simp
 ·simp
theorem nv_tr (b:Nat) (l:List Nat):nv b (tr l)=nv b l:=by
 induction l with
 | nil=>rfl
 | cons x l ih=>
  rw [tr_cons]
  split
  ·rename_i h
   have:nv b l=0:=by rw [←ih,tr,h];simp [nv]
   split
   ·rename_i hx;simp [nv,this,hx]
   ·simp [nv,this]
  ·simp [nv,ih]
theorem Dig.tr {b:Nat} {l:List Nat} (h:Dig b l):Dig b (tr l):=h.take _
theorem tlen_last {l:List Nat} (h:0<tlen l):l.getD (tlen l - 1) 0≠0:=by
 induction l with
 | nil=>simp [tlen] at h
 | cons x l ih=>
  simp only [tlen] at h ⊢
  split
  ·split
   ·rename_i h1 h2;simp [h1,h2] at h
   ·rename_i h1 h2;simpa using h2
  ·rename_i h1
   have h3:0<tlen l:=by omega
   have e:tlen l+1 - 1=(tlen l - 1)+1:=by omega
   rw [e,List.getD_cons_succ]
   exact ih h3
theorem nrm_of_getD {l:List Nat} (h:l ≠ []→l.getD (l.length - 1) 0≠0):Nrm l:=by
 intro hl
 have:=h hl
 rw [List.getLast_eq_getElem]
 have hlen:0<l.length:=List.length_pos_iff.2 hl
 rwa [List.getD_eq_getElem?_getD,List.getElem?_eq_getElem (by omega)] at this
theorem tr_nrm (l:List Nat):Nrm (tr l):=by
 refine nrm_of_getD fun h=>?_
 have h0:0<tlen l:=by rw [←tr_length];exact List.length_pos_iff.2 h
 rw [tr_length]
 have:=tlen_last h0
 rwa [tr,List.getD_eq_getElem?_getD,List.getElem?_take_of_lt (by omega),←List.getD_eq_getElem?_getD]
theorem tlen_take_last {l:List Nat} {n:Nat} (hn:tlen l≤n+1) (h:l.getD n 0=0):tlen l≤n:=by
 rcases Nat.lt_or_ge n (tlen l) with h1 | h1
 ·have h2:tlen l=n+1:=by omega
  have h3:=tlen_last (l:=l) (by omega)
  rw [h2] at h3
  exact absurd h h3
 ·exact h1
theorem getD_ge_tlen {l:List Nat} {k:Nat} (h:tlen l≤k):l.getD k 0=0:=by
 induction l generalizing k with
 | nil=>simp
 | cons x l ih=>
  simp only [tlen] at h
  split at h
  ·rename_i h1
   split at h
   ·rename_i h2
    cases k with
    | zero=>simpa using h2
    | succ k=>rw [List.getD_cons_succ];exact ih (by omega)
   ·cases k with
    | zero=>omega
    | succ k=>rw [List.getD_cons_succ];exact ih (by omega)
  ·cases k with
   | zero=>omega
   | succ k=>rw [List.getD_cons_succ];exact ih (by omega)
theorem tlen_eq_of {l:List Nat} {n:Nat} (hn:tlen l≤n) (h:n=0∨l.getD (n - 1) 0≠0):tlen l=n:=by
 rcases h with h | h
 ·omega
 ·rcases Nat.lt_or_ge (tlen l) n with h1 | h1
  ·exact absurd (getD_ge_tlen (l:=l) (k:=n - 1) (by omega)) h
  ·omega
theorem tlen_zero_iff {b:Nat} (hb:0<b) (l:List Nat):tlen l=0↔nv b l=0:=by
 rw [←nv_tr b l]
 constructor
 ·intro h;rw [tr,h];simp [nv]
 ·intro h
  rcases Nat.eq_zero_or_pos (tlen l) with h1 | h1
  ·exact h1
  ·have:=nv_pos hb (tr_nrm l) (by rw [←List.length_pos_iff,tr_length];exact h1)
   omega
def digs (b:Nat) (n:Nat):List Nat:=if _h:1<b∧n≠0 then n % b :: digs b (n / b) else []
termination_by n
decreasing_by exact Nat.div_lt_self (by omega) _h.1
theorem digs_zero (b:Nat):digs b 0 = []:=by rw [digs];simp
theorem digs_pos {b n:Nat} (hb:1<b) (hn:n≠0):digs b n=n % b :: digs b (n / b):=by
 rw [digs,dif_pos ⟨hb,hn⟩]
theorem nv_digs {b:Nat} (hb:1<b) (n:Nat):nv b (digs b n)=n:=by
 induction n using Nat.strongRecOn with
 | _ n ih=>
  by_cases hn:n=0
  ·subst hn;rw [digs_zero];rfl
  ·rw [digs_pos hb hn,nv_cons,ih _ (Nat.div_lt_self (by omega) hb)]
   exact Nat.mod_add_div n b
theorem dig_digs {b:Nat} (hb:1<b) (n:Nat):Dig b (digs b n):=by
 induction n using Nat.strongRecOn with
 | _ n ih=>
  by_cases hn:n=0
  ·subst hn;rw [digs_zero];exact Dig.nil b
  ·rw [digs_pos hb hn]
   exact Dig.cons (Nat.mod_lt _ (by omega)) (ih _ (Nat.div_lt_self (by omega) hb))
theorem nrm_cons {b x:Nat} {l:List Nat} (hl:Nrm l) (h:x+b * nv b l≠0):Nrm (x :: l):=by
 intro hne
 by_cases he:l = []
 ·subst he
  simpa [nv] using h
 ·rw [List.getLast_cons he];exact hl he
theorem nrm_digs {b:Nat} (hb:1<b) (n:Nat):Nrm (digs b n):=by
 induction n using Nat.strongRecOn with
 | _ n ih=>
  by_cases hn:n=0
  ·subst hn;rw [digs_zero];exact Nrm.nil
  ·rw [digs_pos hb hn]
   refine nrm_cons (b:=b) (ih _ (Nat.div_lt_self (by omega) hb)) ?_
   rw [nv_digs hb,Nat.mod_add_div];exact hn
theorem tr_eq_digs {b:Nat} (hb:1<b) {l:List Nat} (h:Dig b l):tr l=digs b (nv b l):=
 nrm_inj hb h.tr (dig_digs hb _) (tr_nrm l) (nrm_digs hb _) (by rw [nv_tr,nv_digs hb])
theorem digs_eq_nil {b:Nat} (hb:1<b) (n:Nat):digs b n = []↔n=0:=by
 constructor
 ·intro h;rw [←nv_digs hb n,h];rfl
 ·rintro rfl;exact digs_zero b
theorem digs_length_le {b:Nat} (hb:1<b) {n k:Nat} (h:n<b ^ k):(digs b n).length≤k:=by
 by_cases hn:n=0
 ·subst hn;simp [digs_zero]
 ·have h1:=nv_ge (b:=b) (nrm_digs hb n) (by rwa [ne_eq,digs_eq_nil hb])
  rw [nv_digs hb] at h1
  have:=pow_lt_pow' hb (Nat.lt_of_le_of_lt h1 h)
  omega
theorem lt_of_digs_length {b:Nat} (hb:1<b) {n k:Nat} (h:(digs b n).length≤k):n<b ^ k:=by
 have h1:=nv_lt (dig_digs hb n)
 rw [nv_digs hb] at h1
 exact Nat.lt_of_lt_of_le h1 (Nat.pow_le_pow_right (by omega) h)
theorem digs_length_le_iff {b:Nat} (hb:1<b) {n k:Nat} : (digs b n).length≤k↔n<b ^ k:=
 ⟨lt_of_digs_length hb,digs_length_le hb⟩
theorem getD_eq {l:List Nat} {k:Nat} (h:k<l.length):l.getD k 0=l[k]:=by
 rw [List.getD_eq_getElem?_getD,List.getElem?_eq_getElem h];rfl
theorem take_succ_nv (b:Nat) (l:List Nat) {k:Nat} (h:k<l.length):nv b (l.take (k+1))=nv b (l.take k)+b ^ k * l.getD k 0:=by
 rw [List.take_succ_eq_append_getElem h,nv_snoc,List.length_take,Nat.min_eq_left (by omega),getD_eq h]
theorem drop_nv (b:Nat) (l:List Nat) {k:Nat} (h:k<l.length):nv b (l.drop k)=l.getD k 0+b * nv b (l.drop (k+1)):=by
 rw [List.drop_eq_getElem_cons h,nv_cons,getD_eq h]
def blen (n:Nat):Nat:=(digs 2 n).length
theorem blen_le_iff {n k:Nat} : blen n≤k↔n<2 ^ k:=digs_length_le_iff (by omega)
theorem blen_eq_of {n k:Nat} (h1:2 ^ k≤n) (h2:n<2 ^ (k+1)):blen n=k+1:=by
 have a:=blen_le_iff.2 h2
 rcases Nat.lt_or_ge k (blen n) with h | h
 ·omega
 ·have:=blen_le_iff.1 h;omega
theorem blen_zero:blen 0=0:=by simp [blen,digs_zero]
theorem blen_log2 {n:Nat} (h:n≠0):blen n=Nat.log2 n+1:=blen_eq_of (Nat.log2_self_le h) Nat.lt_log2_self
theorem blen_pos {n:Nat} (h:n≠0):0<blen n:=by rw [blen_log2 h];omega
theorem blen_bounds {n:Nat} (h:n≠0):2 ^ (blen n - 1)≤n∧n<2 ^ blen n:=by
 rw [blen_log2 h];exact ⟨Nat.log2_self_le h,Nat.lt_log2_self⟩
theorem blen_add_mul {k x y:Nat} (hx:x<2 ^ k) (hy:y≠0):blen (x+2 ^ k * y)=k+blen y:=by
 obtain ⟨h1,h2⟩:=blen_bounds hy
 have hp:=blen_pos hy
 have e:k+blen y=(k+(blen y - 1))+1:=by omega
 rw [e]
 refine blen_eq_of ?_ ?_
 ·rw [Nat.pow_add];have:=Nat.mul_le_mul_left (2 ^ k) h1;omega
 ·rw [show k+(blen y - 1)+1=k+blen y by omega,Nat.pow_add]
  have:=Nat.mul_le_mul_left (2 ^ k) (show y+1≤2 ^ blen y from h2)
  rw [Nat.mul_add] at this
  omega
theorem blen_mono {m n:Nat} (h:m≤n):blen m≤blen n:=blen_le_iff.2 (Nat.lt_of_le_of_lt h (blen_le_iff.1 (Nat.le_refl _)))
abbrev W:Nat:=4294967296
theorem W_pow_eq (k:Nat):W ^ k=2 ^ (32 * k):=by rw [Nat.pow_mul]
theorem W128:W ^ 128=2 ^ 4096:=by rw [W_pow_eq,show 32 * 128=4096 from rfl]
theorem M_pos:0<2 ^ 4096:=Nat.pow_pos (a:=2) (n:=4096) (by decide)
theorem blen_limbs {l:List Nat} (hd:Dig W l) (h0:0<tlen l):blen (nv W l)=32 * (tlen l - 1)+blen (l.getD (tlen l - 1) 0):=by
 have hl:=tlen_last h0
 have e:tr l=l.take (tlen l - 1) ++ [l.getD (tlen l - 1) 0]:=by
  have h1:tlen l - 1<l.length:=by have:=tlen_le l;omega
  have h2:l.take (tlen l - 1+1)=l.take (tlen l - 1) ++ [l.getD (tlen l - 1) 0]:=by rw [List.take_succ_eq_append_getElem h1,getD_eq h1]
  rw [tr,←h2]
  congr 1
  omega
 rw [←nv_tr,e,nv_snoc,List.length_take,Nat.min_eq_left (by have:=tlen_le l;omega),W_pow_eq]
 refine blen_add_mul ?_ hl
 have:=nv_lt (hd.take (tlen l - 1))
 rwa [List.length_take,Nat.min_eq_left (by have:=tlen_le l;omega),W_pow_eq] at this
theorem pow_succ_mul (b k x:Nat):b ^ (k+1) * x=b ^ k * (b * x):=by rw [Nat.pow_succ,Nat.mul_assoc]
def nvp (b:Nat) (l:List Nat) (k:Nat):Nat:=nv b (l.take k)
theorem nvp_zero (b:Nat) (l:List Nat):nvp b l 0=0:=by simp [nvp,nv]
theorem nvp_succ (b:Nat) (l:List Nat) (k:Nat):nvp b l (k+1)=nvp b l k+b ^ k * l.getD k 0:=by
 unfold nvp
 rcases Nat.lt_or_ge k l.length with h | h
 ·exact take_succ_nv b l h
 ·rw [List.take_of_length_le (by omega),List.take_of_length_le h,List.getD_eq_getElem?_getD,List.getElem?_eq_none h];simp
theorem nvp_all {b:Nat} {l:List Nat} {k:Nat} (h:l.length≤k):nvp b l k=nv b l:=by
 unfold nvp;rw [List.take_of_length_le h]
theorem nv_set (b:Nat) {l:List Nat} {p:Nat} (h:p<l.length) (v:Nat):nv b (l.set p v)+b ^ p * l.getD p 0=nv b l+b ^ p * v:=by
 induction l generalizing p with
 | nil=>simp at h
 | cons x l ih=>
  cases p with
  | zero=>simp [nv];omega
  | succ p=>
   have h2:=ih (p:=p) (by simpa using h)
   simp only [List.set_cons_succ,nv,List.getD_cons_succ,Nat.pow_succ]
   have h3:=congrArg (fun t=>b * t) h2
   simp only [Nat.mul_add,←Nat.mul_assoc] at h3
   rw [Nat.mul_comm (b ^ p) b]
   omega
theorem Dig.set {b:Nat} {l:List Nat} (h:Dig b l) {v:Nat} (hv:v<b) (p:Nat):Dig b (l.set p v):=by
 intro y hy
 rcases List.mem_or_eq_of_mem_set hy with hy | rfl
 ·exact h y hy
 ·exact hv
theorem lget_set_ne {l:List Nat} {p j v:Nat} (h:p≠j):(l.set p v).getD j 0=l.getD j 0:=by
 rw [List.getD_eq_getElem?_getD,List.getD_eq_getElem?_getD,List.getElem?_set_ne h]
end Hb
namespace Ht
inductive Tm where
 | mk (k:Int) (n m:List UInt8) (b v:Int) (as_:List Tm):Tm
namespace Tm
def k:Tm→Int | mk k _ _ _ _ _=>k
def n:Tm→List UInt8 | mk _ n _ _ _ _=>n
def m:Tm→List UInt8 | mk _ _ m _ _ _=>m
def b:Tm→Int | mk _ _ _ b _ _=>b
def v:Tm→Int | mk _ _ _ _ v _=>v
def as:Tm→List Tm | mk _ _ _ _ _ as_=>as_
end Tm
instance:Inhabited Tm:=⟨.mk 0 [] [] 0 0 []⟩
def zeroT:Tm:=.mk 0 [] [] 0 0 []
mutual
/-- how many nodes -/
def sz:Tm→Nat
 | .mk _ _ _ _ _ as_=>szs as_+1
def szs:List Tm→Nat
 | []=>0
 | a :: as_=>sz a+szs as_
end
theorem sz_pos (t:Tm):0<sz t:=by cases t;simp [sz]
theorem sz_mem {a:Tm} {as_:List Tm} (h:a∈as_):sz a≤szs as_:=by
 induction as_ with
 | nil=>cases h
 | cons x as_ ih=>
  simp only [szs]
  rcases List.mem_cons.1 h with rfl | h
  ·omega
  ·have:=ih h;omega
theorem Tm.ind {p:Tm→Prop} (h:∀ k n m b v as_,(∀ a∈as_,p a)→p (.mk k n m b v as_)) (t:Tm):p t:=by
 have key:∀ N t,sz t≤N→p t:=by
  intro N
  induction N with
  | zero=>intro t ht;have:=sz_pos t;omega
  | succ N ih=>
   intro t ht
   obtain ⟨k,n,m,b,v,as_⟩:=t
   refine h _ _ _ _ _ _ (fun a ha=>ih a ?_)
   have:=sz_mem ha
   simp only [sz] at ht
   omega
 exact key _ t (Nat.le_refl _)
mutual
def cnt:Tm→Nat→Nat
 | .mk _ _ _ _ _ as_,n=>cnts as_ (n+1)
def cnts:List Tm→Nat→Nat
 | [],n=>n
 | a :: as_,n=>if 4000<n then n else cnts as_ (cnt a n)
end
theorem cnts_le:∀ (as_:List Tm),(∀ a∈as_,∀ n,n≤cnt a n)→∀ n,n≤cnts as_ n
 | [],_,n=>by simp [cnts]
 | a :: as_,h,n=>by
  simp only [cnts]
  split
  ·omega
  ·have h1:=h a (by simp) n
   have h2:=cnts_le as_ (fun x hx=>h x (by simp [hx])) (cnt a n)
   omega
theorem cnt_ge (t:Tm):∀ n,n≤cnt t n:=by
 refine Tm.ind (p:=fun t=>∀ n,n≤cnt t n) (fun k nm m b v as_ ih n=>?_) t
 simp only [cnt]
 have:=cnts_le as_ ih (n+1)
 omega
theorem cnts_ge (as_:List Tm) (n:Nat):n≤cnts as_ n:=cnts_le as_ (fun a _=>cnt_ge a) n
def Counts (f:Nat→Nat) (s:Nat):Prop:=∀ n,(n+s≤4000→f n=n+s)∧(4000<n+s→4000<f n)∧f n≤n+s
theorem cnts_counts:∀ (as_:List Tm),(∀ a∈as_,Counts (cnt a) (sz a))→Counts (cnts as_) (szs as_)
 | [],_=>fun n=>by simp [cnts,szs]
 | a :: as_,h=>fun n=>by
  have ha:=h a (by simp)
  have hs:=cnts_counts as_ (fun x hx=>h x (by simp [hx]))
  simp only [cnts,szs]
  by_cases hn:4000<n
  ·rw [if_pos hn];refine ⟨fun h=>by omega,fun _=>hn,by omega⟩
  ·rw [if_neg hn]
   obtain ⟨a1,a2,a3⟩:=ha n
   obtain ⟨b1,b2,b3⟩:=hs (cnt a n)
   refine ⟨fun h=>?_,fun h=>?_,by omega⟩
   ·rw [b1 (by omega),a1 (by omega)];omega
   ·by_cases hc:n+sz a≤4000
    ·rw [a1 hc] at b2 ⊢
     exact b2 (by omega)
    ·have:=a2 (by omega)
     have:=cnts_ge as_ (cnt a n)
     omega
theorem cnt_counts (t:Tm):Counts (cnt t) (sz t):=by
 refine Tm.ind (p:=fun t=>Counts (cnt t) (sz t)) (fun k nm m b v as_ ih=>?_) t
 intro n
 obtain ⟨a1,a2,a3⟩:=cnts_counts as_ ih (n+1)
 simp only [cnt,sz]
 exact ⟨fun h=>by rw [a1 (by omega)];omega,fun h=>a2 (by omega),by omega⟩
def nodes (t:Tm):Nat:=min (cnt t 0) 4001
theorem nodes_le {t:Tm} : nodes t≤4000↔sz t≤4000:=by
 obtain ⟨h1,h2,_⟩:=cnt_counts t 0
 unfold nodes
 constructor
 ·intro h
  refine Decidable.byContradiction fun hn=>?_
  have:=h2 (by omega)
  omega
 ·intro h
  rw [h1 (by omega)]
  omega
section
variable (utf canon:List UInt8→Bool) (flo:Int→Bool)
def stray (t:Tm):Bool:=
 (t.n ≠ [] && t.k≠2 && t.k≠5) || (t.m ≠ [] && t.k≠3) || (t.b≠0 && t.k≠4) || (t.v≠0 && t.k≠1) || (t.as.length≠0 && t.k≠5)
def one (t:Tm):Int:=
 if t.k<1∨5<t.k∨stray t=true∨t.v<0∨(t.k=5∧(t.as.length=0∨64<t.as.length)) then 20
 else if utf t.n=false∨1000<t.n.length then 21
 else if t.k=3∧canon t.m=false then 22
 else if t.k=4∧flo t.b=false then 23
 else 0
mutual
def errs:Tm→Int
 | .mk k n m b v as_=>if one utf canon flo (.mk k n m b v as_)≠0 then one utf canon flo (.mk k n m b v as_) else errss as_
def errss:List Tm→Int
 | []=>0
 | a :: as_=>if errs a≠0 then errs a else errss as_
end
def check (t:Tm):Int:=if 4000<nodes t then 24 else errs utf canon flo t
def checks:List Tm→Int
 | []=>0
 | a :: as_=>if check utf canon flo a≠0 then check utf canon flo a else checks as_
end
end Ht
namespace Ht
def atomT (s:List UInt8):Tm:=.mk 2 s [] 0 0 []
def varT (n:Int):Tm:=.mk 1 [] [] 0 n []
def cmpT (s:List UInt8) (as_:List Tm):Tm:=.mk 5 s [] 0 0 as_
def sComma:List UInt8:=[44]
def sArrow:List UInt8:=[45,62]
def sSemi:List UInt8:=[59]
def sBar:List UInt8:=[124]
def sDot:List UInt8:=[46]
def sNot:List UInt8:=[92,43]
def sCurly:List UInt8:=[123,125]
def sNil:List UInt8:=[91,93]
def sCut:List UInt8:=[33]
def sEq:List UInt8:=[61]
def sTrue:List UInt8:=[116,114,117,101]
def sPhrase:List UInt8:=[112,104,114,97,115,101]
def sRule:List UInt8:=[45,45,62]
def sNeck:List UInt8:=[58,45]
def sType:List UInt8:=[116,121,112,101,95,101,114,114,111,114]
def sCallable:List UInt8:=[99,97,108,108,97,98,108,101]
def sList:List UInt8:=[108,105,115,116]
def sDcgRule:List UInt8:=[100,99,103,95,114,117,108,101]
def sRepr:List UInt8:=[114,101,112,114,101,115,101,110,116,97,116,105,111,110,95,101,114,114,111,114]
def sArity:List UInt8:=[109,97,120,95,97,114,105,116,121]
def sRes:List UInt8:=[114,101,115,111,117,114,99,101,95,101,114,114,111,114]
def sNodes:List UInt8:=[110,111,100,101,115]
def sInst:List UInt8:=[105,110,115,116,97,110,116,105,97,116,105,111,110,95,101,114,114,111,114]
def typedT (kind:List UInt8) (t:Tm):Tm:=cmpT sType [atomT kind,t]
def arityT:Tm:=cmpT sRepr [atomT sArity]
def nodesT:Tm:=cmpT sRes [atomT sNodes]
def eqT (f to:Tm):Tm:=cmpT sEq [f,to]
def isC (t:Tm) (s:List UInt8) (n:Nat):Bool:=decide (t.k=5) && decide (t.n=s) && decide (t.as.length=n)
def elems:Tm→List Tm × Tm
 | .mk k n m b v [x,y]=>if k=5∧n=sDot then (x :: (elems y).1,(elems y).2) else ([],.mk k n m b v [x,y])
 | t=>([],t)
def isNil (t:Tm):Bool:=decide (t.k=2) && decide (t.n=sNil)
def endT (l:List Tm) (e:Tm):Tm:=l.foldr (fun x r=>cmpT sDot [x,r]) e
def putT (t f to:Tm):Except Tm Tm:=if 62<t.as.length then .error arityT else .ok (cmpT t.n (t.as ++ [f,to]))
def mkB:Tm→Tm→Tm→Int→Except Tm (Tm × Int)
 | .mk k n m b v as_,f,to,nx=>
  if k=1 then .ok (cmpT sPhrase [.mk k n m b v as_,f,to],nx)
  else if k=5 then
   match as_ with
   | [x,y]=>
    if n=sComma∨n=sArrow then
     match mkB x f (varT nx) (nx+1) with
     | .error e=>.error e
     | .ok (a,n1)=>match mkB y (varT nx) to n1 with
      | .error e=>.error e
      | .ok (c,n2)=>.ok (cmpT n [a,c],n2)
    else if n=sSemi∨n=sBar then
     match mkB x f to nx with
     | .error e=>.error e
     | .ok (a,n1)=>match mkB y f to n1 with
      | .error e=>.error e
      | .ok (c,n2)=>.ok (cmpT sSemi [a,c],n2)
    else if n=sDot then
     if isNil (elems (.mk k n m b v [x,y])).2 then .ok (eqT f (endT (elems (.mk k n m b v [x,y])).1 to),nx) else .error (typedT sList (.mk k n m b v [x,y]))
    else (putT (.mk k n m b v [x,y]) f to).map fun g=>(g,nx)
   | [x]=>
    if n=sNot then
     match mkB x f (varT nx) (nx+1) with
     | .error e=>.error e
     | .ok (a,n1)=>.ok (cmpT sComma [cmpT sNot [a],eqT f to],n1)
    else if n=sCurly then .ok (cmpT sComma [x,eqT f to],nx)
    else (putT (.mk k n m b v [x]) f to).map fun g=>(g,nx)
   | as_=>(putT (.mk k n m b v as_) f to).map fun g=>(g,nx)
  else if k=2 then
   if n=sCurly then .ok (cmpT sComma [atomT sTrue,eqT f to],nx)
   else if n=sCut then .ok (cmpT sComma [.mk k n m b v as_,eqT f to],nx)
   else if n=sNil then .ok (eqT f to,nx)
   else (putT (.mk k n m b v as_) f to).map fun g=>(g,nx)
  else .error (typedT sCallable (.mk k n m b v as_))
def whole (t:Tm):Except Tm Tm:=if 4000<nodes t then .error nodesT else .ok t
def bodyT (t f to:Tm) (nx:Int):Except Tm (Tm × Int):=
 match mkB t f to nx with
 | .error e=>.error e
 | .ok (g,n)=>match whole g with
  | .error e=>.error e
  | .ok g=>.ok (g,n)
mutual
/-- a term's variables,behind others -/
def vars:Tm→List Int→List Int
 | .mk k _ _ _ v as_,out=>varss as_ (if k=1∧v∉out then out ++ [v] else out)
def varss:List Tm→List Int→List Int
 | [],out=>out
 | a :: as_,out=>varss as_ (vars a out)
end
mutual
def HasV (x:Int):Tm→Prop
 | .mk k _ _ _ v as_=>(k=1∧v=x)∨HasVs x as_
def HasVs (x:Int):List Tm→Prop
 | []=>False
 | a :: as_=>HasV x a∨HasVs x as_
end
theorem hasVs_iff {x:Int} {as_:List Tm} : HasVs x as_↔∃ a∈as_,HasV x a:=by
 induction as_ with
 | nil=>simp [HasVs]
 | cons a as_ ih=>simp [HasVs,ih]
theorem varss_mem:∀ (as_:List Tm),(∀ a∈as_,∀ out x,x∈vars a out↔x∈out∨HasV x a)→∀ out x,x∈varss as_ out↔x∈out∨HasVs x as_
 | [],_,out,x=>by simp [varss,HasVs]
 | a :: as_,h,out,x=>by
  simp only [varss,HasVs]
  rw [varss_mem as_ (fun y hy=>h y (by simp [hy])),h a (by simp),or_assoc]
theorem vars_mem (t:Tm):∀ out x,x∈vars t out↔x∈out∨HasV x t:=by
 refine Tm.ind (p:=fun t=>∀ out x,x∈vars t out↔x∈out∨HasV x t) (fun k n m b v as_ ih out x=>?_) t
 simp only [vars,HasV]
 rw [varss_mem as_ ih]
 by_cases hk:k=1
 ·by_cases hv:v∈out
  ·rw [if_neg (fun h=>h.2 hv)]
   constructor
   ·rintro (h | h)
    ·exact .inl h
    ·exact .inr (.inr h)
   ·rintro (h | ⟨_,rfl⟩ | h)
    ·exact .inl h
    ·exact .inl hv
    ·exact .inr h
  ·rw [if_pos ⟨hk,hv⟩,List.mem_append,List.mem_singleton]
   constructor
   ·rintro ((h | rfl) | h)
    ·exact .inl h
    ·exact .inr (.inl ⟨hk,rfl⟩)
    ·exact .inr (.inr h)
   ·rintro (h | ⟨_,rfl⟩ | h)
    ·exact .inl (.inl h)
    ·exact .inl (.inr rfl)
    ·exact .inr h
 ·rw [if_neg (fun h=>hk h.1)]
  constructor
  ·rintro (h | h)
   ·exact .inl h
   ·exact .inr (.inr h)
  ·rintro (h | ⟨h,_⟩ | h)
   ·exact .inl h
   ·exact absurd h hk
   ·exact .inr h
theorem vars_len (t:Tm):∀ out,(vars t out).length≤out.length+sz t:=by
 refine Tm.ind (p:=fun t=>∀ out,(vars t out).length≤out.length+sz t) (fun k n m b v as_ ih out=>?_) t
 have key:∀ (as_:List Tm),(∀ a∈as_,∀ out,(vars a out).length≤out.length+sz a)→∀ out,(varss as_ out).length≤out.length+szs as_:=by
  intro as_
  induction as_ with
  | nil=>intro _ out;simp [varss,szs]
  | cons a as_ ih=>
   intro h out
   simp only [varss,szs]
   have h1:=ih (fun x hx=>h x (by simp [hx])) (vars a out)
   have h2:=h a (by simp) out
   omega
 simp only [vars,sz]
 have h1:=key as_ ih (if k=1∧v∉out then out ++ [v] else out)
 have h2:(if k=1∧v∉out then out ++ [v] else out).length≤out.length+1:=by split <;> simp
 omega
def above (t:Tm):Int:=(vars t []).foldl (fun n x=>max n (x+1)) 0
theorem foldl_max (l:List Int):∀ n:Int,n≤l.foldl (fun n x=>max n (x+1)) n∧(∀ x∈l,x+1≤l.foldl (fun n x=>max n (x+1)) n)∧(l.foldl (fun n x=>max n (x+1)) n=n∨∃ x∈l,l.foldl (fun n x=>max n (x+1)) n=x+1):=by
 induction l with
 | nil=>intro n;simp
 | cons y l ih=>
  intro n
  simp only [List.foldl_cons]
  obtain ⟨h1,h2,h3⟩:=ih (max n (y+1))
  refine ⟨by omega,fun x hx=>?_,?_⟩
  ·rcases List.mem_cons.1 hx with rfl | hx
   ·omega
   ·exact h2 x hx
  ·rcases h3 with h3 | ⟨x,hx,h3⟩
   ·rw [h3]
    by_cases h:n≤y+1
    ·exact .inr ⟨y,by simp,by omega⟩
    ·exact .inl (by omega)
   ·exact .inr ⟨x,by simp [hx],h3⟩
theorem above_nn (t:Tm):0≤above t:=(foldl_max (vars t []) 0).1
def ruleT (t:Tm):Except Tm Tm:=
 if isC t sRule 2=false then .error (typedT sDcgRule t)
 else
  let h0:=t.as.getD 0 zeroT
  let pushed:=isC h0 sComma 2
  let h:=if pushed then h0.as.getD 0 zeroT else h0
  let p:=h0.as.getD 1 zeroT
  if h.k=1 then .error (atomT sInst)
  else if h.k=3∨h.k=4 then .error (typedT sCallable h)
  else if pushed=true∧isNil (elems p).2=false then .error (typedT sList p)
  else
   let n:=above t
   match putT h (varT n) (varT (n+1)) with
   | .error e=>.error e
   | .ok hd=>
    if pushed then
     match mkB (t.as.getD 1 zeroT) (varT n) (varT (n+2)) (n+3) with
     | .error e=>.error e
     | .ok (g,_)=>whole (cmpT sNeck [hd,cmpT sComma [g,eqT (varT (n+1)) (endT (elems p).1 (varT (n+2)))]])
    else
     match mkB (t.as.getD 1 zeroT) (varT n) (varT (n+1)) (n+2) with
     | .error e=>.error e
     | .ok (g,_)=>whole (cmpT sNeck [hd,g])
end Ht
namespace Ht
inductive Mk:Tm→Tm→Tm→Int→Tm→Int→Prop
 | phrase (t f to:Tm) (nx:Int) (h:t.k=1):Mk t f to nx (cmpT sPhrase [t,f,to]) nx
 | seq (n m:List UInt8) (b v:Int) (x y f to:Tm) (nx:Int) (a c:Tm) (n1 n2:Int) (h:n=sComma∨n=sArrow) (ha:Mk x f (varT nx) (nx+1) a n1) (hc:Mk y (varT nx) to n1 c n2):Mk (.mk 5 n m b v [x,y]) f to nx (cmpT n [a,c]) n2
 | alt (n m:List UInt8) (b v:Int) (x y f to:Tm) (nx:Int) (a c:Tm) (n1 n2:Int) (ha:Mk x f to nx a n1) (hc:Mk y f to n1 c n2):Mk (.mk 5 n m b v [x,y]) f to nx (cmpT sSemi [a,c]) n2
 | lst (t f to:Tm) (nx:Int) (h:isNil (elems t).2=true):Mk t f to nx (eqT f (endT (elems t).1 to)) nx
 | neg (m:List UInt8) (b v:Int) (x f to:Tm) (nx:Int) (a:Tm) (n1:Int) (ha:Mk x f (varT nx) (nx+1) a n1):Mk (.mk 5 sNot m b v [x]) f to nx (cmpT sComma [cmpT sNot [a],eqT f to]) n1
 | curly (n m:List UInt8) (b v:Int) (x f to:Tm) (nx:Int):Mk (.mk 5 n m b v [x]) f to nx (cmpT sComma [x,eqT f to]) nx
 | tru (t f to:Tm) (nx:Int):Mk t f to nx (cmpT sComma [atomT sTrue,eqT f to]) nx
 | cut (t f to:Tm) (nx:Int):Mk t f to nx (cmpT sComma [t,eqT f to]) nx
 | nil (t f to:Tm) (nx:Int):Mk t f to nx (eqT f to) nx
 | put (t f to:Tm) (nx:Int) (h:t.as.length≤62):Mk t f to nx (cmpT t.n (t.as ++ [f,to])) nx
theorem put_ok {t f to g:Tm} {nx n':Int} (h:(putT t f to).map (fun g=>(g,nx)) = .ok (g,n')):Mk t f to nx g n':=by
 unfold putT at h
 split at h
 ·cases h
 ·cases h
  exact .put t f to nx (by omega)
theorem mkB_mk (t:Tm):∀ f to nx g n',mkB t f to nx = .ok (g,n')→Mk t f to nx g n':=by
 refine Tm.ind (p:=fun t=>∀ f to nx g n',mkB t f to nx = .ok (g,n')→Mk t f to nx g n') (fun k n m b v as_ ih f to nx g n' h=>?_) t
 rw [mkB.eq_def] at h
 dsimp only at h
 split at h
 ·next hk=>cases h;exact .phrase _ _ _ _ hk
 split at h
 ·next hk5=>
  subst hk5
  split at h
  ·next x y=>
   split at h
   ·next hn=>
    split at h
    ·cases h
    ·next a n1 ha=>
     split at h
     ·cases h
     ·next c n2 hc=>
      cases h
      exact .seq _ _ _ _ _ _ _ _ _ _ _ _ _ hn (ih x (by simp) _ _ _ _ _ ha) (ih y (by simp) _ _ _ _ _ hc)
   ·split at h
    ·split at h
     ·cases h
     ·next a n1 ha=>
      split at h
      ·cases h
      ·next c n2 hc=>
       cases h
       exact .alt _ _ _ _ _ _ _ _ _ _ _ _ _ (ih x (by simp) _ _ _ _ _ ha) (ih y (by simp) _ _ _ _ _ hc)
    ·split at h
     ·split at h
      ·next hl=>cases h;exact .lst _ _ _ _ hl
      ·cases h
     ·exact put_ok h
  ·next x=>
   split at h
   ·next hn=>
    subst hn
    split at h
    ·cases h
    ·next a n1 ha=>
     cases h
     exact .neg _ _ _ _ _ _ _ _ _ (ih x (by simp) _ _ _ _ _ ha)
   ·split at h
    ·cases h;exact .curly _ _ _ _ _ _ _ _
    ·exact put_ok h
  ·exact put_ok h
 ·split at h
  ·split at h
   ·cases h;exact .tru _ _ _ _
   ·split at h
    ·cases h;exact .cut _ _ _ _
    ·split at h
     ·cases h;exact .nil _ _ _ _
     ·exact put_ok h
  ·cases h
theorem Mk.next {t f to g:Tm} {nx n':Int} (h:Mk t f to nx g n'):nx≤n'∧n'+1≤nx+sz t:=by
 induction h with
 | seq n m b v x y f to nx a c n1 n2 h ha hc iha ihc=>simp only [sz,szs];omega
 | alt n m b v x y f to nx a c n1 n2 ha hc iha ihc=>simp only [sz,szs];omega
 | neg m b v x f to nx a n1 ha iha=>simp only [sz,szs];omega
 | phrase t f to nx h=>have:=sz_pos t;omega
 | lst t f to nx h=>have:=sz_pos t;omega
 | curly n m b v x f to nx=>simp only [sz];omega
 | tru t f to nx=>have:=sz_pos t;omega
 | cut t f to nx=>have:=sz_pos t;omega
 | nil t f to nx=>have:=sz_pos t;omega
 | put t f to nx h=>have:=sz_pos t;omega
theorem elems_eq (t:Tm):elems t=([],t)∨∃ n m b v x y,t = .mk 5 n m b v [x,y]∧elems t=(x :: (elems y).1,(elems y).2):=by
 rw [elems.eq_def]
 split
 ·split
  ·next h=>obtain ⟨rfl,_⟩:=h;exact .inr ⟨_,_,_,_,_,_,rfl,rfl⟩
  ·exact .inl rfl
 ·exact .inl rfl
end Ht
namespace Ht
section
variable {utf canon:List UInt8→Bool} {flo:Int→Bool}
theorem errss_iff {as_:List Tm} : errss utf canon flo as_=0↔∀ a∈as_,errs utf canon flo a=0:=by
 induction as_ with
 | nil=>simp [errss]
 | cons a as_ ih=>
  rw [errss]
  by_cases h:errs utf canon flo a=0
  ·rw [if_neg (by simp [h]),ih];simp [h]
  ·rw [if_pos h];simp [h]
theorem errs_iff {t:Tm} : errs utf canon flo t=0↔one utf canon flo t=0∧∀ a∈t.as,errs utf canon flo a=0:=by
 obtain ⟨k,n,m,b,v,as_⟩:=t
 rw [errs,←errss_iff]
 show _↔_∧errss utf canon flo as_=0
 by_cases h:one utf canon flo (.mk k n m b v as_)=0
 ·rw [if_neg (by simp [h])];simp [h]
 ·rw [if_pos h];simp [h]
theorem check_iff {t:Tm} : check utf canon flo t=0↔sz t≤4000∧errs utf canon flo t=0:=by
 unfold check
 by_cases h:4000<nodes t
 ·rw [if_pos h]
  have:¬sz t≤4000:=fun h2=>by rw [←nodes_le] at h2;omega
  simp [this]
 ·rw [if_neg h]
  have:sz t≤4000:=nodes_le.1 (by omega)
  simp [this]
theorem sz_arg {t a:Tm} (h:a∈t.as):sz a<sz t:=by
 obtain ⟨k,n,m,b,v,as_⟩:=t
 have:=sz_mem (show a∈as_ from h)
 simp only [sz];omega
theorem check_arg {t a:Tm} (h:check utf canon flo t=0) (ha:a∈t.as):check utf canon flo a=0:=by
 rw [check_iff] at h ⊢
 have:=sz_arg ha
 exact ⟨by omega,(errs_iff.1 h.2).2 a ha⟩
theorem one_iff {t:Tm} : one utf canon flo t=0↔(1≤t.k∧t.k≤5)∧stray t=false∧0≤t.v∧(t.k=5→1≤t.as.length∧t.as.length≤64)∧utf t.n=true∧t.n.length≤1000∧(t.k=3→canon t.m=true)∧(t.k=4→flo t.b=true):=by
 unfold one
 by_cases h1:t.k<1∨5<t.k∨stray t=true∨t.v<0∨(t.k=5∧(t.as.length=0∨64<t.as.length))
 ·rw [if_pos h1]
  constructor
  ·intro h;cases h
  ·rintro ⟨a1,a2,a3,a4,_⟩
   rcases h1 with h | h | h | h | ⟨h,h2⟩
   ·omega
   ·omega
   ·rw [a2] at h;cases h
   ·omega
   ·have:=a4 h;omega
 ·rw [if_neg h1]
  have hs:stray t=false:=by
   cases h:stray t with
   | false=>rfl
   | true=>exact absurd (.inr (.inr (.inl h))) h1
  have h5:t.k=5→1≤t.as.length∧t.as.length≤64:=fun h=>by
   constructor
   ·refine Decidable.byContradiction fun hn=>h1 (.inr (.inr (.inr (.inr ⟨h,.inl (by omega)⟩))))
   ·refine Decidable.byContradiction fun hn=>h1 (.inr (.inr (.inr (.inr ⟨h,.inr (by omega)⟩))))
  have hk:1≤t.k∧t.k≤5:=⟨Decidable.byContradiction fun hn=>h1 (.inl (by omega)),Decidable.byContradiction fun hn=>h1 (.inr (.inl (by omega)))⟩
  have hv:0≤t.v:=Decidable.byContradiction fun hn=>h1 (.inr (.inr (.inr (.inl (by omega)))))
  by_cases h2:utf t.n=false∨1000<t.n.length
  ·rw [if_pos h2]
   constructor
   ·intro h;cases h
   ·rintro ⟨_,_,_,_,a5,a6,_⟩
    rcases h2 with h | h
    ·rw [a5] at h;cases h
    ·omega
  ·rw [if_neg h2]
   have hu:utf t.n=true:=by
    cases h:utf t.n with
    | true=>rfl
    | false=>exact absurd (.inl h) h2
   have hl:t.n.length≤1000:=Decidable.byContradiction fun hn=>h2 (.inr (by omega))
   by_cases h3:t.k=3∧canon t.m=false
   ·rw [if_pos h3]
    constructor
    ·intro h;cases h
    ·rintro ⟨_,_,_,_,_,_,a7,_⟩
     rw [a7 h3.1] at h3;cases h3.2
   ·rw [if_neg h3]
    have hc:t.k=3→canon t.m=true:=fun h=>by
     cases h9:canon t.m with
     | true=>rfl
     | false=>exact absurd ⟨h,h9⟩ h3
    by_cases h4:t.k=4∧flo t.b=false
    ·rw [if_pos h4]
     constructor
     ·intro h;cases h
     ·rintro ⟨_,_,_,_,_,_,_,a8⟩
      rw [a8 h4.1] at h4;cases h4.2
    ·rw [if_neg h4]
     have hf:t.k=4→flo t.b=true:=fun h=>by
      cases h9:flo t.b with
      | true=>rfl
      | false=>exact absurd ⟨h,h9⟩ h4
     exact ⟨fun _=>⟨hk,hs,hv,h5,hu,hl,hc,hf⟩,fun _=>rfl⟩
theorem check_one {t:Tm} (h:check utf canon flo t=0):one utf canon flo t=0:=(errs_iff.1 (check_iff.1 h).2).1
theorem elems_len (t:Tm):(elems t).1.length<sz t:=by
 refine Tm.ind (p:=fun t=>(elems t).1.length<sz t) (fun k n m b v as_ ih=>?_) t
 rcases elems_eq (.mk k n m b v as_) with e | ⟨n',m',b',v',y,z,e,e2⟩
 ·rw [e];exact sz_pos _
 ·rw [e2]
  cases e
  have:=ih z (by simp)
  simp only [sz,szs,List.length_cons]
  omega
def Names (utf:List UInt8→Bool):Prop:=utf sComma=true∧utf sSemi=true∧utf sDot=true∧utf sNot=true∧utf sEq=true∧utf sTrue=true∧utf sPhrase=true∧utf sNeck=true∧utf []=true
theorem errs_cmp {s:List UInt8} {as_:List Tm} (hu:utf s=true) (hs:s.length≤1000) (hl:1≤as_.length∧as_.length≤64) (ha:∀ a∈as_,errs utf canon flo a=0):errs utf canon flo (cmpT s as_)=0:=by
 rw [errs_iff]
 refine ⟨?_,ha⟩
 rw [one_iff]
 unfold cmpT
 simp only [Tm.k,Tm.n,Tm.m,Tm.b,Tm.v,Tm.as,stray]
 exact ⟨by decide,by simp,by decide,fun _=>hl,hu,hs,fun h=>absurd h (by decide),fun h=>absurd h (by decide)⟩
theorem errs_var {x:Int} (hn:utf []=true) (hx:0≤x):errs utf canon flo (varT x)=0:=by
 rw [errs_iff]
 refine ⟨?_,fun a ha=>by simp [varT,Tm.as] at ha⟩
 rw [one_iff]
 unfold varT
 simp only [Tm.k,Tm.n,Tm.m,Tm.b,Tm.v,Tm.as,stray]
 exact ⟨by decide,by simp,hx,fun h=>absurd h (by decide),hn,by decide,fun h=>absurd h (by decide),fun h=>absurd h (by decide)⟩
theorem errs_atom {s:List UInt8} (hu:utf s=true) (hs:s.length≤1000):errs utf canon flo (atomT s)=0:=by
 rw [errs_iff]
 refine ⟨?_,fun a ha=>by simp [atomT,Tm.as] at ha⟩
 rw [one_iff]
 unfold atomT
 simp only [Tm.k,Tm.n,Tm.m,Tm.b,Tm.v,Tm.as,stray]
 exact ⟨by decide,by simp,by decide,fun h=>absurd h (by decide),hu,hs,fun h=>absurd h (by decide),fun h=>absurd h (by decide)⟩
theorem errs_eqT {f to:Tm} (hN:Names utf) (hf:errs utf canon flo f=0) (ht:errs utf canon flo to=0):errs utf canon flo (eqT f to)=0:=
 errs_cmp hN.2.2.2.2.1 (by decide) (by simp) (fun a ha=>by
  rcases List.mem_cons.1 ha with rfl | ha
  ·exact hf
  ·rw [List.mem_singleton.1 ha];exact ht)
theorem errs_two {s:List UInt8} {f to:Tm} (hs:utf s=true) (hl:s.length≤1000) (hf:errs utf canon flo f=0) (ht:errs utf canon flo to=0):errs utf canon flo (cmpT s [f,to])=0:=
 errs_cmp hs hl (by simp) (fun a ha=>by
  rcases List.mem_cons.1 ha with rfl | ha
  ·exact hf
  ·rw [List.mem_singleton.1 ha];exact ht)
theorem errs_endT {l:List Tm} {e:Tm} (hN:Names utf) (hl:∀ a∈l,errs utf canon flo a=0) (he:errs utf canon flo e=0):errs utf canon flo (endT l e)=0:=by
 induction l with
 | nil=>exact he
 | cons a l ih=>
  exact errs_two hN.2.2.1 (by decide) (hl a (by simp)) (ih (fun x hx=>hl x (by simp [hx])))
theorem elems_errs (t:Tm):errs utf canon flo t=0→∀ a∈(elems t).1,errs utf canon flo a=0:=by
 refine Tm.ind (p:=fun t=>errs utf canon flo t=0→∀ a∈(elems t).1,errs utf canon flo a=0) (fun k n m b v as_ ih h=>?_) t
 rcases elems_eq (.mk k n m b v as_) with e | ⟨n',m',b',v',y,z,e,e2⟩
 ·rw [e];simp
 ·rw [e2]
  cases e
  have hh:=(errs_iff.1 h).2
  intro a ha
  rcases List.mem_cons.1 ha with rfl | ha
  ·exact hh a (by simp [Tm.as])
  ·exact ih z (by simp) (hh z (by simp [Tm.as])) a ha
theorem Mk.errs {t f to g:Tm} {nx n':Int} (hN:Names utf) (h:Mk t f to nx g n'):0≤nx→errs utf canon flo t=0→errs utf canon flo f=0→errs utf canon flo to=0→errs utf canon flo g=0:=by
 obtain ⟨n1,n2,n3,n4,n5,n6,n7,n8,n9⟩:=hN
 have hN:Names utf:=⟨n1,n2,n3,n4,n5,n6,n7,n8,n9⟩
 induction h with
 | phrase t f to nx h=>
  intro _ ht hf hto
  refine errs_cmp n7 (by decide) (by simp) (fun a ha=>?_)
  simp only [List.mem_cons,List.not_mem_nil,or_false] at ha
  rcases ha with rfl | rfl | rfl
  ·exact ht
  ·exact hf
  ·exact hto
 | seq n m b v x y f to nx a c n1 n2 h ha hc iha ihc=>
  intro h0 ht hf hto
  have hh:=errs_iff.1 ht
  have h1:=one_iff.1 hh.1
  have:=ha.next
  exact errs_two h1.2.2.2.2.1 h1.2.2.2.2.2.1 (iha (by omega) (hh.2 x (by simp [Tm.as])) hf (errs_var n9 h0)) (ihc (by omega) (hh.2 y (by simp [Tm.as])) (errs_var n9 h0) hto)
 | alt n m b v x y f to nx a c n1 n2' ha hc iha ihc=>
  intro h0 ht hf hto
  have hh:=errs_iff.1 ht
  have:=ha.next
  exact errs_two n2 (by decide) (iha (by omega) (hh.2 x (by simp [Tm.as])) hf hto) (ihc (by omega) (hh.2 y (by simp [Tm.as])) hf hto)
 | lst t f to nx h=>
  intro h0 ht hf hto
  exact errs_eqT hN hf (errs_endT hN (elems_errs t ht) hto)
 | neg m b v x f to nx a n1' ha iha=>
  intro h0 ht hf hto
  have hh:=errs_iff.1 ht
  refine errs_two n1 (by decide) (errs_cmp n4 (by decide) (by simp) (fun z hz=>?_)) (errs_eqT hN hf hto)
  rw [List.mem_singleton.1 hz]
  exact iha (by omega) (hh.2 x (by simp [Tm.as])) hf (errs_var n9 h0)
 | curly n m b v x f to nx=>
  intro h0 ht hf hto
  exact errs_two n1 (by decide) ((errs_iff.1 ht).2 x (by simp [Tm.as])) (errs_eqT hN hf hto)
 | tru t f to nx=>
  intro h0 ht hf hto
  exact errs_two n1 (by decide) (errs_atom n6 (by decide)) (errs_eqT hN hf hto)
 | cut t f to nx=>
  intro h0 ht hf hto
  exact errs_two n1 (by decide) ht (errs_eqT hN hf hto)
 | nil t f to nx=>
  intro h0 ht hf hto
  exact errs_eqT hN hf hto
 | put t f to nx h=>
  intro h0 ht hf hto
  have hh:=errs_iff.1 ht
  have h1:=one_iff.1 hh.1
  refine errs_cmp h1.2.2.2.2.1 h1.2.2.2.2.2.1 (by simp;omega) (fun a ha=>?_)
  simp only [List.mem_append,List.mem_cons,List.not_mem_nil,or_false] at ha
  rcases ha with ha | rfl | rfl
  ·exact hh.2 a ha
  ·exact hf
  ·exact hto
end
end Ht
namespace Ht
theorem isC_iff {t:Tm} {s:List UInt8} {n:Nat} : isC t s n=true↔t.k=5∧t.n=s∧t.as.length=n:=by
 unfold isC;simp [and_assoc]
section
end
end Ht
