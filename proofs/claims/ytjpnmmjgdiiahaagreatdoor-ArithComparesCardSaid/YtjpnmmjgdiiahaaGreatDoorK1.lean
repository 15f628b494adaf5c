set_option linter.unusedVariables false
set_option linter.unusedSimpArgs false
namespace Hb
def nv (b:Nat):List Nat→Nat
 | []=>0
 | x :: l=>x+b * nv b l
def Dig (b:Nat) (l:List Nat):Prop:=∀ x∈l,x<b
theorem Dig.nil (b:Nat):Dig b []:=by intro x hx;cases hx
theorem Dig.cons {b x:Nat} {l:List Nat} (hx:x<b) (h:Dig b l):Dig b (x :: l):=by
 intro y hy
 rcases List.mem_cons.1 hy with rfl | hy
 ·exact hx
 ·exact h y hy
theorem Dig.head {b x:Nat} {l:List Nat} (h:Dig b (x :: l)):x<b:=h x (by simp)
theorem Dig.tail {b x:Nat} {l:List Nat} (h:Dig b (x :: l)):Dig b l:=fun y hy=>h y (by simp [hy])
theorem Dig.append {b:Nat} {l m:List Nat} (h:Dig b l) (k:Dig b m):Dig b (l ++ m):=by
 intro y hy
 rcases List.mem_append.1 hy with hy | hy
 ·exact h y hy
 ·exact k y hy
theorem Dig.take {b:Nat} {l:List Nat} (h:Dig b l) (k:Nat):Dig b (l.take k):=fun y hy=>h y (List.mem_of_mem_take hy)
theorem Dig.drop {b:Nat} {l:List Nat} (h:Dig b l) (k:Nat):Dig b (l.drop k):=fun y hy=>h y (List.mem_of_mem_drop hy)
theorem Dig.getD {b:Nat} {l:List Nat} (h:Dig b l) (hb:0<b) (k:Nat):l.getD k 0<b:=by
 rw [List.getD_eq_getElem?_getD]
 cases hk:l[k]? with
 | none=>simpa using hb
 | some x=>exact h x (List.mem_of_getElem? hk)
theorem Dig.replicate (b n:Nat) (hb:0<b):Dig b (List.replicate n 0):=by
 intro x hx
 rw [(List.mem_replicate.1 hx).2];exact hb
theorem nv_nil (b:Nat):nv b []=0:=rfl
theorem nv_cons (b x:Nat) (l:List Nat):nv b (x :: l)=x+b * nv b l:=rfl
theorem nv_single (b x:Nat):nv b [x]=x:=by simp [nv]
theorem nv_append (b:Nat) (l m:List Nat):nv b (l ++ m)=nv b l+b ^ l.length * nv b m:=by
 induction l with
 | nil=>simp [nv]
 | cons x l ih=>
  simp only [List.cons_append,nv,ih,List.length_cons,Nat.pow_succ,Nat.mul_add]
  rw [Nat.mul_comm (b ^ l.length) b,Nat.mul_assoc]
  omega
theorem nv_replicate (b n:Nat):nv b (List.replicate n 0)=0:=by
 induction n with
 | zero=>rfl
 | succ n ih=>simp [List.replicate_succ,nv,ih]
theorem nv_snoc (b:Nat) (l:List Nat) (x:Nat):nv b (l ++ [x])=nv b l+b ^ l.length * x:=by
 rw [nv_append,nv_single]
theorem nv_lt {b:Nat} {l:List Nat} (h:Dig b l):nv b l<b ^ l.length:=by
 induction l with
 | nil=>simp [nv]
 | cons x l ih=>
  have hx:=h.head
  have hl:=ih h.tail
  simp only [nv,List.length_cons,Nat.pow_succ]
  have h1:b * (nv b l+1)≤b * b ^ l.length:=Nat.mul_le_mul_left _ hl
  rw [Nat.mul_comm (b ^ l.length) b]
  rw [Nat.mul_add] at h1
  omega
theorem nv_take_drop (b:Nat) (l:List Nat) (k:Nat):nv b l=nv b (l.take k)+b ^ (min k l.length) * nv b (l.drop k):=by
 conv=>lhs;rw [←List.take_append_drop k l]
 rw [nv_append,List.length_take]
theorem nv_mod {b x:Nat} {l:List Nat} (hx:x<b):nv b (x :: l) % b=x:=by
 rw [nv_cons,Nat.add_mul_mod_self_left,Nat.mod_eq_of_lt hx]
theorem nv_div {b x:Nat} {l:List Nat} (hx:x<b):nv b (x :: l) / b=nv b l:=by
 rw [nv_cons,Nat.add_mul_div_left _ _ (by omega),Nat.div_eq_of_lt hx,Nat.zero_add]
theorem nv_inj {b:Nat} : ∀ {l m:List Nat},Dig b l→Dig b m→l.length=m.length→nv b l=nv b m→l=m
 | [],[],_,_,_,_=>rfl
 | [],_ :: _,_,_,h,_=>by simp at h
 | _ :: _,[],_,_,h,_=>by simp at h
 | x :: l,y :: m,hl,hm,hlen,h=>by
  have h1:=nv_mod (l:=l) hl.head
  have h2:=nv_mod (l:=m) hm.head
  have h3:=nv_div (l:=l) hl.head
  have h4:=nv_div (l:=m) hm.head
  rw [h] at h1 h3
  have e1:x=y:=h1.symm.trans h2
  have e2:nv b l=nv b m:=h3.symm.trans h4
  rw [e1,nv_inj hl.tail hm.tail (by simpa using hlen) e2]
def Nrm (l:List Nat):Prop:=∀ h:l ≠ [],l.getLast h≠0
theorem Nrm.nil:Nrm []:=fun h=>absurd rfl h
theorem Nrm.tail {x:Nat} {l:List Nat} (h:Nrm (x :: l)):Nrm l:=by
 intro hl
 have:=h (by simp)
 rwa [List.getLast_cons hl] at this
theorem nv_pos {b:Nat} (hb:0<b) {l:List Nat} (h:Nrm l) (hl:l ≠ []):0<nv b l:=by
 induction l with
 | nil=>exact absurd rfl hl
 | cons x l ih=>
  by_cases he:l = []
  ·subst he
   have:=h hl
   simp at this
   simp [nv];omega
  ·have:=ih h.tail he
   rw [nv_cons]
   have:=Nat.mul_pos hb this
   omega
theorem nv_ge {b:Nat} {l:List Nat} (h:Nrm l) (hl:l ≠ []):b ^ (l.length - 1)≤nv b l:=by
 induction l with
 | nil=>exact absurd rfl hl
 | cons x l ih=>
  by_cases he:l = []
  ·subst he
   have:=h hl
   simp at this
   simp [nv];omega
  ·have h1:=ih h.tail he
   have hlen:0<l.length:=List.length_pos_iff.2 he
   rw [nv_cons]
   have e:(x :: l).length - 1=(l.length - 1)+1:=by simp;omega
   rw [e,Nat.pow_succ,Nat.mul_comm]
   have:=Nat.mul_le_mul_left b h1
   omega
theorem pow_lt_pow' {b m n:Nat} (hb:1<b) (h:b ^ m<b ^ n):m<n:=by
 rcases Nat.lt_or_ge m n with h1 | h1
 ·exact h1
 ·have:=Nat.pow_le_pow_right (n:=b) (by omega) h1;omega
theorem nrm_inj {b:Nat} (hb:1<b) {l m:List Nat} (hl:Dig b l) (hm:Dig b m) (nl:Nrm l) (nm:Nrm m) (h:nv b l=nv b m):l=m:=by
 refine nv_inj hl hm ?_ h
 have key:∀ {l m:List Nat},Dig b l→Dig b m→Nrm l→Nrm m→nv b l=nv b m→l.length≤m.length:=by
  intro l m hl hm nl nm h
  by_cases he:l = []
  ·simp [he]
  ·have h1:=nv_ge (b:=b) nl he
   have h2:=nv_lt hm
   have:=pow_lt_pow' hb (Nat.lt_of_le_of_lt (h ▸ h1) h2)
   have hlen:0<l.length:=List.length_pos_iff.2 he
   omega
 exact Nat.le_antisymm (key hl hm nl nm h) (key hm hl nm nl h.symm)
def tlen:List Nat→Nat
 | []=>0
 | x :: l=>if tlen l=0 then (if x=0 then 0 else 1) else tlen l+1
def tr (l:List Nat):List Nat:=l.take (tlen l)
theorem tlen_le (l:List Nat):tlen l≤l.length:=by
 induction l with
 | nil=>simp [tlen]
 | cons x l ih=>simp only [tlen,List.length_cons];split <;> (try split) <;> omega
theorem tr_length (l:List Nat):(tr l).length=tlen l:=by
 rw [tr,List.length_take];exact Nat.min_eq_left (tlen_le l)
theorem tr_cons (x:Nat) (l:List Nat):tr (x :: l)=if tlen l=0 then (if x=0 then [] else [x]) else x :: tr l:=by
 simp only [tr,tlen]
 split
 ·split <;> simp
 ·simp
theorem nv_tr (b:Nat) (l:List Nat):nv b (tr l)=nv b l:=by
 induction l with
 | nil=>rfl
 | cons x l ih=>
  rw [tr_cons]
  split
  ·rename_i h
   have:nv b l=0:=by rw [←ih,tr,h];simp [nv]
   split
   ·rename_i hx;simp [nv,this,hx]
   ·simp [nv,this]
  ·simp [nv,ih]
theorem Dig.tr {b:Nat} {l:List Nat} (h:Dig b l):Dig b (tr l):=h.take _
theorem tlen_last {l:List Nat} (h:0<tlen l):l.getD (tlen l - 1) 0≠0:=by
 induction l with
 | nil=>simp [tlen] at h
 | cons x l ih=>
  simp only [tlen] at h ⊢
  split
  ·split
   ·rename_i h1 h2;simp [h1,h2] at h
   ·rename_i h1 h2;simpa using h2
  ·rename_i h1
   have h3:0<tlen l:=by omega
   have e:tlen l+1 - 1=(tlen l - 1)+1:=by omega
   rw [e,List.getD_cons_succ]
   exact ih h3
theorem nrm_of_getD {l:List Nat} (h:l ≠ []→l.getD (l.length - 1) 0≠0):Nrm l:=by
 intro hl
 have:=h hl
 rw [List.getLast_eq_getElem]
 have hlen:0<l.length:=List.length_pos_iff.2 hl
 rwa [List.getD_eq_getElem?_getD,List.getElem?_eq_getElem (by omega)] at this
theorem nrm_getD {l:List Nat} (h:Nrm l) (hl:l ≠ []):l.getD (l.length - 1) 0≠0:=by
 have:=h hl
 have hlen:0<l.length:=List.length_pos_iff.2 hl
 rw [List.getLast_eq_getElem] at this
 rwa [List.getD_eq_getElem?_getD,List.getElem?_eq_getElem (by omega)]
theorem tr_nrm (l:List Nat):Nrm (tr l):=by
 refine nrm_of_getD fun h=>?_
 have h0:0<tlen l:=by rw [←tr_length];exact List.length_pos_iff.2 h
 rw [tr_length]
 have:=tlen_last h0
 rwa [tr,List.getD_eq_getElem?_getD,List.getElem?_take_of_lt (by omega),←List.getD_eq_getElem?_getD]
theorem tlen_take_last {l:List Nat} {n:Nat} (hn:tlen l≤n+1) (h:l.getD n 0=0):tlen l≤n:=by
 rcases Nat.lt_or_ge n (tlen l) with h1 | h1
 ·have h2:tlen l=n+1:=by omega
  have h3:=tlen_last (l:=l) (by omega)
  rw [h2] at h3
  exact absurd h h3
 ·exact h1
theorem getD_ge_tlen {l:List Nat} {k:Nat} (h:tlen l≤k):l.getD k 0=0:=by
 induction l generalizing k with
 | nil=>simp
 | cons x l ih=>
  simp only [tlen] at h
  split at h
  ·rename_i h1
   split at h
   ·rename_i h2
    cases k with
    | zero=>simpa using h2
    | succ k=>rw [List.getD_cons_succ];exact ih (by omega)
   ·cases k with
    | zero=>omega
    | succ k=>rw [List.getD_cons_succ];exact ih (by omega)
  ·cases k with
   | zero=>omega
   | succ k=>rw [List.getD_cons_succ];exact ih (by omega)
theorem tlen_eq_of {l:List Nat} {n:Nat} (hn:tlen l≤n) (h:n=0∨l.getD (n - 1) 0≠0):tlen l=n:=by
 rcases h with h | h
 ·omega
 ·rcases Nat.lt_or_ge (tlen l) n with h1 | h1
  ·exact absurd (getD_ge_tlen (l:=l) (k:=n - 1) (by omega)) h
  ·omega
theorem tlen_of_nrm {l:List Nat} (h:Nrm l):tlen l=l.length:=by
 refine tlen_eq_of (tlen_le l) ?_
 by_cases hl:l = []
 ·left;simp [hl]
 ·exact .inr (nrm_getD h hl)
theorem tlen_zero_iff {b:Nat} (hb:0<b) (l:List Nat):tlen l=0↔nv b l=0:=by
 rw [←nv_tr b l]
 constructor
 ·intro h;rw [tr,h];simp [nv]
 ·intro h
  rcases Nat.eq_zero_or_pos (tlen l) with h1 | h1
  ·exact h1
  ·have:=nv_pos hb (tr_nrm l) (by rw [←List.length_pos_iff,tr_length];exact h1)
   omega
def digs (b:Nat) (n:Nat):List Nat:=if _h:1<b∧n≠0 then n % b :: digs b (n / b) else []
termination_by n
decreasing_by exact Nat.div_lt_self (by omega) _h.1
theorem digs_zero (b:Nat):digs b 0 = []:=by rw [digs];simp
theorem digs_pos {b n:Nat} (hb:1<b) (hn:n≠0):digs b n=n % b :: digs b (n / b):=by
 rw [digs,dif_pos ⟨hb,hn⟩]
theorem nv_digs {b:Nat} (hb:1<b) (n:Nat):nv b (digs b n)=n:=by
 induction n using Nat.strongRecOn with
 | _ n ih=>
  by_cases hn:n=0
  ·subst hn;rw [digs_zero];rfl
  ·rw [digs_pos hb hn,nv_cons,ih _ (Nat.div_lt_self (by omega) hb)]
   exact Nat.mod_add_div n b
theorem dig_digs {b:Nat} (hb:1<b) (n:Nat):Dig b (digs b n):=by
 induction n using Nat.strongRecOn with
 | _ n ih=>
  by_cases hn:n=0
  ·subst hn;rw [digs_zero];exact Dig.nil b
  ·rw [digs_pos hb hn]
   exact Dig.cons (Nat.mod_lt _ (by omega)) (ih _ (Nat.div_lt_self (by omega) hb))
theorem nrm_cons {b x:Nat} {l:List Nat} (hl:Nrm l) (h:x+b * nv b l≠0):Nrm (x :: l):=by
 intro hne
 by_cases he:l = []
 ·subst he
  simpa [nv] using h
 ·rw [List.getLast_cons he];exact hl he
theorem nrm_digs {b:Nat} (hb:1<b) (n:Nat):Nrm (digs b n):=by
 induction n using Nat.strongRecOn with
 | _ n ih=>
  by_cases hn:n=0
  ·subst hn;rw [digs_zero];exact Nrm.nil
  ·rw [digs_pos hb hn]
   refine nrm_cons (b:=b) (ih _ (Nat.div_lt_self (by omega) hb)) ?_
   rw [nv_digs hb,Nat.mod_add_div];exact hn
theorem tr_eq_digs {b:Nat} (hb:1<b) {l:List Nat} (h:Dig b l):tr l=digs b (nv b l):=
 nrm_inj hb h.tr (dig_digs hb _) (tr_nrm l) (nrm_digs hb _) (by rw [nv_tr,nv_digs hb])
theorem digs_eq_nil {b:Nat} (hb:1<b) (n:Nat):digs b n = []↔n=0:=by
 constructor
 ·intro h;rw [←nv_digs hb n,h];rfl
 ·rintro rfl;exact digs_zero b
theorem digs_length_le {b:Nat} (hb:1<b) {n k:Nat} (h:n<b ^ k):(digs b n).length≤k:=by
 by_cases hn:n=0
 ·subst hn;simp [digs_zero]
 ·have h1:=nv_ge (b:=b) (nrm_digs hb n) (by rwa [ne_eq,digs_eq_nil hb])
  rw [nv_digs hb] at h1
  have:=pow_lt_pow' hb (Nat.lt_of_le_of_lt h1 h)
  omega
theorem lt_of_digs_length {b:Nat} (hb:1<b) {n k:Nat} (h:(digs b n).length≤k):n<b ^ k:=by
 have h1:=nv_lt (dig_digs hb n)
 rw [nv_digs hb] at h1
 exact Nat.lt_of_lt_of_le h1 (Nat.pow_le_pow_right (by omega) h)
theorem digs_length_le_iff {b:Nat} (hb:1<b) {n k:Nat} : (digs b n).length≤k↔n<b ^ k:=
 ⟨lt_of_digs_length hb,digs_length_le hb⟩
theorem nv_lt_of_len {b:Nat} {l m:List Nat} (hb:0<b) (hl:Dig b l) (nm:Nrm m) (h:l.length<m.length):nv b l<nv b m:=by
 have h1:=nv_lt hl
 have h2:=nv_ge (b:=b) nm (by intro he;simp [he] at h)
 exact Nat.lt_of_lt_of_le h1 (Nat.le_trans (Nat.pow_le_pow_right hb (by omega)) h2)
theorem getD_eq {l:List Nat} {k:Nat} (h:k<l.length):l.getD k 0=l[k]:=by
 rw [List.getD_eq_getElem?_getD,List.getElem?_eq_getElem h];rfl
theorem take_succ_nv (b:Nat) (l:List Nat) {k:Nat} (h:k<l.length):nv b (l.take (k+1))=nv b (l.take k)+b ^ k * l.getD k 0:=by
 rw [List.take_succ_eq_append_getElem h,nv_snoc,List.length_take,Nat.min_eq_left (by omega),getD_eq h]
theorem drop_nv (b:Nat) (l:List Nat) {k:Nat} (h:k<l.length):nv b (l.drop k)=l.getD k 0+b * nv b (l.drop (k+1)):=by
 rw [List.drop_eq_getElem_cons h,nv_cons,getD_eq h]
def blen (n:Nat):Nat:=(digs 2 n).length
theorem blen_le_iff {n k:Nat} : blen n≤k↔n<2 ^ k:=digs_length_le_iff (by omega)
theorem blen_eq_of {n k:Nat} (h1:2 ^ k≤n) (h2:n<2 ^ (k+1)):blen n=k+1:=by
 have a:=blen_le_iff.2 h2
 rcases Nat.lt_or_ge k (blen n) with h | h
 ·omega
 ·have:=blen_le_iff.1 h;omega
theorem blen_zero:blen 0=0:=by simp [blen,digs_zero]
theorem blen_log2 {n:Nat} (h:n≠0):blen n=Nat.log2 n+1:=blen_eq_of (Nat.log2_self_le h) Nat.lt_log2_self
theorem blen_pos {n:Nat} (h:n≠0):0<blen n:=by rw [blen_log2 h];omega
theorem blen_bounds {n:Nat} (h:n≠0):2 ^ (blen n - 1)≤n∧n<2 ^ blen n:=by
 rw [blen_log2 h];exact ⟨Nat.log2_self_le h,Nat.lt_log2_self⟩
theorem blen_add_mul {k x y:Nat} (hx:x<2 ^ k) (hy:y≠0):blen (x+2 ^ k * y)=k+blen y:=by
 obtain ⟨h1,h2⟩:=blen_bounds hy
 have hp:=blen_pos hy
 have e:k+blen y=(k+(blen y - 1))+1:=by omega
 rw [e]
 refine blen_eq_of ?_ ?_
 ·rw [Nat.pow_add];have:=Nat.mul_le_mul_left (2 ^ k) h1;omega
 ·rw [show k+(blen y - 1)+1=k+blen y by omega,Nat.pow_add]
  have:=Nat.mul_le_mul_left (2 ^ k) (show y+1≤2 ^ blen y from h2)
  rw [Nat.mul_add] at this
  omega
theorem blen_mono {m n:Nat} (h:m≤n):blen m≤blen n:=blen_le_iff.2 (Nat.lt_of_le_of_lt h (blen_le_iff.1 (Nat.le_refl _)))
abbrev W:Nat:=4294967296
theorem W_pow_eq (k:Nat):W ^ k=2 ^ (32 * k):=by rw [Nat.pow_mul]
theorem W128:W ^ 128=2 ^ 4096:=by rw [W_pow_eq,show 32 * 128=4096 from rfl]
theorem M_pos:0<2 ^ 4096:=Nat.pow_pos (a:=2) (n:=4096) (by decide)
theorem blen_limbs {l:List Nat} (hd:Dig W l) (h0:0<tlen l):blen (nv W l)=32 * (tlen l - 1)+blen (l.getD (tlen l - 1) 0):=by
 have hl:=tlen_last h0
 have e:tr l=l.take (tlen l - 1) ++ [l.getD (tlen l - 1) 0]:=by
  have h1:tlen l - 1<l.length:=by have:=tlen_le l;omega
  have h2:l.take (tlen l - 1+1)=l.take (tlen l - 1) ++ [l.getD (tlen l - 1) 0]:=by rw [List.take_succ_eq_append_getElem h1,getD_eq h1]
  rw [tr,←h2]
  congr 1
  omega
 rw [←nv_tr,e,nv_snoc,List.length_take,Nat.min_eq_left (by have:=tlen_le l;omega),W_pow_eq]
 refine blen_add_mul ?_ hl
 have:=nv_lt (hd.take (tlen l - 1))
 rwa [List.length_take,Nat.min_eq_left (by have:=tlen_le l;omega),W_pow_eq] at this
theorem pow_succ_mul (b k x:Nat):b ^ (k+1) * x=b ^ k * (b * x):=by rw [Nat.pow_succ,Nat.mul_assoc]
theorem set_zeros (o:List Nat) (m s:Nat):(o ++ List.replicate (m+1) 0).set o.length s=(o ++ [s]) ++ List.replicate m 0:=by
 rw [List.set_append_right _ _ (Nat.le_refl _),Nat.sub_self,List.replicate_succ,List.set_cons_zero,List.append_assoc];rfl
theorem set_zeros' {o:List Nat} {k n s:Nat} (hk:o.length=k) (hn:k<n):(o ++ List.replicate (n - k) 0).set k s=(o ++ [s]) ++ List.replicate (n - (k+1)) 0:=by
 subst hk
 obtain ⟨m,hm⟩:∃ m,n - o.length=m+1:=⟨n - o.length - 1,by omega⟩
 rw [hm,set_zeros]
 congr 2
 omega
def nvp (b:Nat) (l:List Nat) (k:Nat):Nat:=nv b (l.take k)
theorem nvp_zero (b:Nat) (l:List Nat):nvp b l 0=0:=by simp [nvp,nv]
theorem nvp_succ (b:Nat) (l:List Nat) (k:Nat):nvp b l (k+1)=nvp b l k+b ^ k * l.getD k 0:=by
 unfold nvp
 rcases Nat.lt_or_ge k l.length with h | h
 ·exact take_succ_nv b l h
 ·rw [List.take_of_length_le (by omega),List.take_of_length_le h,List.getD_eq_getElem?_getD,List.getElem?_eq_none h];simp
theorem nvp_all {b:Nat} {l:List Nat} {k:Nat} (h:l.length≤k):nvp b l k=nv b l:=by
 unfold nvp;rw [List.take_of_length_le h]
theorem nvp_lt {b:Nat} {l:List Nat} (hd:Dig b l) (hb:0<b) (k:Nat):nvp b l k<b ^ k:=by
 have h:=nv_lt (hd.take k)
 unfold nvp
 exact Nat.lt_of_lt_of_le h (Nat.pow_le_pow_right hb (by rw [List.length_take];omega))
theorem add_step {b k v c x y X Y:Nat} (h:v+b ^ k * c=X+Y):(v+b ^ k * ((x+y+c) % b))+b ^ (k+1) * ((x+y+c) / b)=(X+b ^ k * x)+(Y+b ^ k * y):=by
 have h2:=Nat.mod_add_div (x+y+c) b
 rw [pow_succ_mul,Nat.add_assoc,←Nat.mul_add,h2,Nat.mul_add,Nat.mul_add]
 omega
theorem sub_step {b k v c x y X Y d c':Nat} (h:v+Y=X+b ^ k * c) (hd:d+y+c=x+b * c'):(v+b ^ k * d)+(Y+b ^ k * y)=(X+b ^ k * x)+b ^ (k+1) * c':=by
 rw [pow_succ_mul]
 have h2:=congrArg (fun t=>b ^ k * t) hd
 simp only [Nat.mul_add] at h2
 omega
theorem nv_set (b:Nat) {l:List Nat} {p:Nat} (h:p<l.length) (v:Nat):nv b (l.set p v)+b ^ p * l.getD p 0=nv b l+b ^ p * v:=by
 induction l generalizing p with
 | nil=>simp at h
 | cons x l ih=>
  cases p with
  | zero=>simp [nv];omega
  | succ p=>
   have h2:=ih (p:=p) (by simpa using h)
   simp only [List.set_cons_succ,nv,List.getD_cons_succ,Nat.pow_succ]
   have h3:=congrArg (fun t=>b * t) h2
   simp only [Nat.mul_add,←Nat.mul_assoc] at h3
   rw [Nat.mul_comm (b ^ p) b]
   omega
theorem Dig.set {b:Nat} {l:List Nat} (h:Dig b l) {v:Nat} (hv:v<b) (p:Nat):Dig b (l.set p v):=by
 intro y hy
 rcases List.mem_or_eq_of_mem_set hy with hy | rfl
 ·exact h y hy
 ·exact hv
theorem lget_set_ne {l:List Nat} {p j v:Nat} (h:p≠j):(l.set p v).getD j 0=l.getD j 0:=by
 rw [List.getD_eq_getElem?_getD,List.getD_eq_getElem?_getD,List.getElem?_set_ne h]
theorem mul_step {b p v v' c x y d V t:Nat} (hset:v'+b ^ p * d=v+b ^ p * (t % b)) (ht:t=x * y+d+c) (h:v+b ^ p * c=V) :
  v'+b ^ (p+1) * (t / b)=V+b ^ p * (x * y):=by
 have h2:=Nat.mod_add_div t b
 rw [pow_succ_mul]
 have h3:b ^ p * (t % b)+b ^ p * (b * (t / b))=b ^ p * t:=by rw [←Nat.mul_add,h2]
 have h4:b ^ p * t=b ^ p * (x * y)+b ^ p * d+b ^ p * c:=by rw [ht,Nat.mul_add,Nat.mul_add]
 omega
theorem mul_lt {x y d c:Nat} (hx:x<4294967296) (hy:y<4294967296) (hd:d<4294967296) (hc:c<4294967296):x * y≤18446744065119617025∧(x * y+d+c) / 4294967296<4294967296:=by
 have h:x * y≤4294967295 * 4294967295:=Nat.mul_le_mul (by omega) (by omega)
 omega
theorem nv_drop_zero {b:Nat} {l:List Nat} {M:Nat} (_hb:0<b) (h:nv b l<b ^ M) (hM:M≤l.length):nv b (l.drop M)=0:=by
 have h1:=nv_take_drop b l M
 rw [Nat.min_eq_left hM] at h1
 rcases Nat.eq_zero_or_pos (nv b (l.drop M)) with h2 | h2
 ·exact h2
 ·have:=Nat.mul_le_mul_left (b ^ M) h2
  omega
theorem nv_split {b:Nat} {l:List Nat} {k:Nat} (hk:k≤l.length):nv b l=nv b (l.take k)+b ^ k * nv b (l.drop k):=by
 have h1:=nv_take_drop b l k
 rwa [Nat.min_eq_left hk] at h1
theorem nvp_of_lt {b:Nat} {l:List Nat} {M:Nat} (hb:0<b) (h:nv b l<b ^ M):nvp b l M=nv b l:=by
 rcases Nat.lt_or_ge l.length M with h1 | h1
 ·exact nvp_all (by omega)
 ·have h2:=nv_drop_zero hb h h1
  have h3:=nv_split (b:=b) h1
  rw [h2,Nat.mul_zero,Nat.add_zero] at h3
  exact h3.symm
theorem nvp_mono {b:Nat} {l:List Nat} {M N:Nat} (h:nvp b l N<b ^ M) (hb:0<b) (hMN:M≤N):nvp b l M=nvp b l N:=by
 have h1:=nvp_of_lt (l:=l.take N) hb h
 unfold nvp at h1 ⊢
 rwa [List.take_take,Nat.min_eq_left hMN] at h1
theorem down_step {b S D x y X Y:Nat} (hb:b=S * D) (hS:0<S) (hX:X=y+b * Y):(x+b * X) / S=(x / S+(y * D) % b)+b * (X / S):=by
 have hDb:0<D∨D=0:=by omega
 have e1:(x+b * X) / S=x / S+D * X:=by
  rw [hb,Nat.mul_assoc,Nat.add_mul_div_left _ _ hS]
 have e2:X % S=y % S:=by rw [hX,hb,Nat.mul_assoc,Nat.add_mul_mod_self_left]
 have e3:(y * D) % b=D * (y % S):=by rw [hb,Nat.mul_comm y D,Nat.mul_comm S D,Nat.mul_mod_mul_left]
 have e4:D * X=b * (X / S)+D * (X % S):=by
  have:=Nat.div_add_mod X S
  have h5:D * (S * (X / S)+X % S)=D * X:=by rw [this]
  rw [Nat.mul_add,←Nat.mul_assoc,Nat.mul_comm D S,←hb] at h5
  exact h5.symm
 rw [e1,e3,e4,e2]
 omega
theorem div_of_shift {A B Q R S:Nat} (hS:0<S) (h:R+(B * S) * Q=A * S) (hR:R<B * S):A / B=Q∧A % B=R / S∧R / S<B:=by
 have hd:S ∣ R:=by
  have h1:S ∣ R+(B * S) * Q:=⟨A,by rw [h,Nat.mul_comm]⟩
  have h2:S ∣ (B * S) * Q:=⟨B * Q,by rw [Nat.mul_comm B S,Nat.mul_assoc]⟩
  exact (Nat.dvd_add_left h2).1 h1
 obtain ⟨r,rfl⟩:=hd
 rw [Nat.mul_div_cancel_left _ hS]
 have h3:S * (r+B * Q)=S * A:=by
  rw [Nat.mul_add,Nat.mul_comm S A,←h,Nat.mul_comm B S,Nat.mul_assoc]
 have h4:=Nat.eq_of_mul_eq_mul_left hS h3
 have h5:r<B:=by
  rw [Nat.mul_comm B S] at hR
  exact Nat.lt_of_mul_lt_mul_left hR
 subst h4
 exact ⟨by rw [Nat.add_mul_div_left _ _ (by omega),Nat.div_eq_of_lt h5,Nat.zero_add],by rw [Nat.add_mul_mod_self_left,Nat.mod_eq_of_lt h5],h5⟩
end Hb
namespace Ht
inductive Tm where
 | mk (k:Int) (n m:List UInt8) (b v:Int) (as_:List Tm):Tm
namespace Tm
def k:Tm→Int | mk k _ _ _ _ _=>k
def n:Tm→List UInt8 | mk _ n _ _ _ _=>n
def m:Tm→List UInt8 | mk _ _ m _ _ _=>m
def b:Tm→Int | mk _ _ _ b _ _=>b
def v:Tm→Int | mk _ _ _ _ v _=>v
def as:Tm→List Tm | mk _ _ _ _ _ as_=>as_
end Tm
instance:Inhabited Tm:=⟨.mk 0 [] [] 0 0 []⟩
mutual
/-- how many nodes -/
def sz:Tm→Nat
 | .mk _ _ _ _ _ as_=>szs as_+1
def szs:List Tm→Nat
 | []=>0
 | a :: as_=>sz a+szs as_
end
theorem sz_pos (t:Tm):0<sz t:=by cases t;simp [sz]
theorem sz_mem {a:Tm} {as_:List Tm} (h:a∈as_):sz a≤szs as_:=by
 induction as_ with
 | nil=>cases h
 | cons x as_ ih=>
  simp only [szs]
  rcases List.mem_cons.1 h with rfl | h
  ·omega
  ·have:=ih h;omega
theorem Tm.ind {p:Tm→Prop} (h:∀ k n m b v as_,(∀ a∈as_,p a)→p (.mk k n m b v as_)) (t:Tm):p t:=by
 have key:∀ N t,sz t≤N→p t:=by
  intro N
  induction N with
  | zero=>intro t ht;have:=sz_pos t;omega
  | succ N ih=>
   intro t ht
   obtain ⟨k,n,m,b,v,as_⟩:=t
   refine h _ _ _ _ _ _ (fun a ha=>ih a ?_)
   have:=sz_mem ha
   simp only [sz] at ht
   omega
 exact key _ t (Nat.le_refl _)
mutual
def cnt:Tm→Nat→Nat
 | .mk _ _ _ _ _ as_,n=>cnts as_ (n+1)
def cnts:List Tm→Nat→Nat
 | [],n=>n
 | a :: as_,n=>if 4000<n then n else cnts as_ (cnt a n)
end
theorem cnts_le:∀ (as_:List Tm),(∀ a∈as_,∀ n,n≤cnt a n)→∀ n,n≤cnts as_ n
 | [],_,n=>by simp [cnts]
 | a :: as_,h,n=>by
  simp only [cnts]
  split
  ·omega
  ·have h1:=h a (by simp) n
   have h2:=cnts_le as_ (fun x hx=>h x (by simp [hx])) (cnt a n)
   omega
theorem cnt_ge (t:Tm):∀ n,n≤cnt t n:=by
 refine Tm.ind (p:=fun t=>∀ n,n≤cnt t n) (fun k nm m b v as_ ih n=>?_) t
 simp only [cnt]
 have:=cnts_le as_ ih (n+1)
 omega
theorem cnts_ge (as_:List Tm) (n:Nat):n≤cnts as_ n:=cnts_le as_ (fun a _=>cnt_ge a) n
def Counts (f:Nat→Nat) (s:Nat):Prop:=∀ n,(n+s≤4000→f n=n+s)∧(4000<n+s→4000<f n)∧f n≤n+s
theorem cnts_counts:∀ (as_:List Tm),(∀ a∈as_,Counts (cnt a) (sz a))→Counts (cnts as_) (szs as_)
 | [],_=>fun n=>by simp [cnts,szs]
 | a :: as_,h=>fun n=>by
  have ha:=h a (by simp)
  have hs:=cnts_counts as_ (fun x hx=>h x (by simp [hx]))
  simp only [cnts,szs]
  by_cases hn:4000<n
  ·rw [if_pos hn];refine ⟨fun h=>by omega,fun _=>hn,by omega⟩
  ·rw [if_neg hn]
   obtain ⟨a1,a2,a3⟩:=ha n
   obtain ⟨b1,b2,b3⟩:=hs (cnt a n)
   refine ⟨fun h=>?_,fun h=>?_,by omega⟩
   ·rw [b1 (by omega),a1 (by omega)];omega
   ·by_cases hc:n+sz a≤4000
    ·rw [a1 hc] at b2 ⊢
     exact b2 (by omega)
    ·have:=a2 (by omega)
     have:=cnts_ge as_ (cnt a n)
     omega
theorem cnt_counts (t:Tm):Counts (cnt t) (sz t):=by
 refine Tm.ind (p:=fun t=>Counts (cnt t) (sz t)) (fun k nm m b v as_ ih=>?_) t
 intro n
 obtain ⟨a1,a2,a3⟩:=cnts_counts as_ ih (n+1)
 simp only [cnt,sz]
 exact ⟨fun h=>by rw [a1 (by omega)];omega,fun h=>a2 (by omega),by omega⟩
def nodes (t:Tm):Nat:=min (cnt t 0) 4001
theorem nodes_le {t:Tm} : nodes t≤4000↔sz t≤4000:=by
 obtain ⟨h1,h2,_⟩:=cnt_counts t 0
 unfold nodes
 constructor
 ·intro h
  refine Decidable.byContradiction fun hn=>?_
  have:=h2 (by omega)
  omega
 ·intro h
  rw [h1 (by omega)]
  omega
section
variable (utf canon:List UInt8→Bool) (flo:Int→Bool)
def stray (t:Tm):Bool:=
 (t.n ≠ [] && t.k≠2 && t.k≠5) || (t.m ≠ [] && t.k≠3) || (t.b≠0 && t.k≠4) || (t.v≠0 && t.k≠1) || (t.as.length≠0 && t.k≠5)
def one (t:Tm):Int:=
 if t.k<1∨5<t.k∨stray t=true∨t.v<0∨(t.k=5∧(t.as.length=0∨64<t.as.length)) then 20
 else if utf t.n=false∨1000<t.n.length then 21
 else if t.k=3∧canon t.m=false then 22
 else if t.k=4∧flo t.b=false then 23
 else 0
mutual
def errs:Tm→Int
 | .mk k n m b v as_=>if one utf canon flo (.mk k n m b v as_)≠0 then one utf canon flo (.mk k n m b v as_) else errss as_
def errss:List Tm→Int
 | []=>0
 | a :: as_=>if errs a≠0 then errs a else errss as_
end
def check (t:Tm):Int:=if 4000<nodes t then 24 else errs utf canon flo t
end
end Ht
namespace Ht
def atomT (s:List UInt8):Tm:=.mk 2 s [] 0 0 []
def cmpT (s:List UInt8) (as_:List Tm):Tm:=.mk 5 s [] 0 0 as_
end Ht
namespace Ht
section
variable {utf canon:List UInt8→Bool} {flo:Int→Bool}
theorem errss_iff {as_:List Tm} : errss utf canon flo as_=0↔∀ a∈as_,errs utf canon flo a=0:=by
 induction as_ with
 | nil=>simp [errss]
 | cons a as_ ih=>
  rw [errss]
  by_cases h:errs utf canon flo a=0
  ·rw [if_neg (by simp [h]),ih];simp [h]
  ·rw [if_pos h];simp [h]
theorem errs_iff {t:Tm} : errs utf canon flo t=0↔one utf canon flo t=0∧∀ a∈t.as,errs utf canon flo a=0:=by
 obtain ⟨k,n,m,b,v,as_⟩:=t
 rw [errs,←errss_iff]
 show _↔_∧errss utf canon flo as_=0
 by_cases h:one utf canon flo (.mk k n m b v as_)=0
 ·rw [if_neg (by simp [h])];simp [h]
 ·rw [if_pos h];simp [h]
theorem check_iff {t:Tm} : check utf canon flo t=0↔sz t≤4000∧errs utf canon flo t=0:=by
 unfold check
 by_cases h:4000<nodes t
 ·rw [if_pos h]
  have:¬sz t≤4000:=fun h2=>by rw [←nodes_le] at h2;omega
  simp [this]
 ·rw [if_neg h]
  have:sz t≤4000:=nodes_le.1 (by omega)
  simp [this]
theorem one_iff {t:Tm} : one utf canon flo t=0↔(1≤t.k∧t.k≤5)∧stray t=false∧0≤t.v∧(t.k=5→1≤t.as.length∧t.as.length≤64)∧utf t.n=true∧t.n.length≤1000∧(t.k=3→canon t.m=true)∧(t.k=4→flo t.b=true):=by
 unfold one
 by_cases h1:t.k<1∨5<t.k∨stray t=true∨t.v<0∨(t.k=5∧(t.as.length=0∨64<t.as.length))
 ·rw [if_pos h1]
  constructor
  ·intro h;cases h
  ·rintro ⟨a1,a2,a3,a4,_⟩
   rcases h1 with h | h | h | h | ⟨h,h2⟩
   ·omega
   ·omega
   ·rw [a2] at h;cases h
   ·omega
   ·have:=a4 h;omega
 ·rw [if_neg h1]
  have hs:stray t=false:=by
   cases h:stray t with
   | false=>rfl
   | true=>exact absurd (.inr (.inr (.inl h))) h1
  have h5:t.k=5→1≤t.as.length∧t.as.length≤64:=fun h=>by
   constructor
   ·refine Decidable.byContradiction fun hn=>h1 (.inr (.inr (.inr (.inr ⟨h,.inl (by omega)⟩))))
   ·refine Decidable.byContradiction fun hn=>h1 (.inr (.inr (.inr (.inr ⟨h,.inr (by omega)⟩))))
  have hk:1≤t.k∧t.k≤5:=⟨Decidable.byContradiction fun hn=>h1 (.inl (by omega)),Decidable.byContradiction fun hn=>h1 (.inr (.inl (by omega)))⟩
  have hv:0≤t.v:=Decidable.byContradiction fun hn=>h1 (.inr (.inr (.inr (.inl (by omega)))))
  by_cases h2:utf t.n=false∨1000<t.n.length
  ·rw [if_pos h2]
   constructor
   ·intro h;cases h
   ·rintro ⟨_,_,_,_,a5,a6,_⟩
    rcases h2 with h | h
    ·rw [a5] at h;cases h
    ·omega
  ·rw [if_neg h2]
   have hu:utf t.n=true:=by
    cases h:utf t.n with
    | true=>rfl
    | false=>exact absurd (.inl h) h2
   have hl:t.n.length≤1000:=Decidable.byContradiction fun hn=>h2 (.inr (by omega))
   by_cases h3:t.k=3∧canon t.m=false
   ·rw [if_pos h3]
    constructor
    ·intro h;cases h
    ·rintro ⟨_,_,_,_,_,_,a7,_⟩
     rw [a7 h3.1] at h3;cases h3.2
   ·rw [if_neg h3]
    have hc:t.k=3→canon t.m=true:=fun h=>by
     cases h9:canon t.m with
     | true=>rfl
     | false=>exact absurd ⟨h,h9⟩ h3
    by_cases h4:t.k=4∧flo t.b=false
    ·rw [if_pos h4]
     constructor
     ·intro h;cases h
     ·rintro ⟨_,_,_,_,_,_,_,a8⟩
      rw [a8 h4.1] at h4;cases h4.2
    ·rw [if_neg h4]
     have hf:t.k=4→flo t.b=true:=fun h=>by
      cases h9:flo t.b with
      | true=>rfl
      | false=>exact absurd ⟨h,h9⟩ h4
     exact ⟨fun _=>⟨hk,hs,hv,h5,hu,hl,hc,hf⟩,fun _=>rfl⟩
theorem check_one {t:Tm} (h:check utf canon flo t=0):one utf canon flo t=0:=(errs_iff.1 (check_iff.1 h).2).1
end
end Ht
