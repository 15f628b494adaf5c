set_option linter.unusedVariables false
set_option linter.unusedSimpArgs false
namespace Hb
def nv (b:Nat):List Nat→Nat
 | []=>0
 | x :: l=>x+b * nv b l
def Dig (b:Nat) (l:List Nat):Prop:=∀ x∈l,x<b
theorem Dig.nil (b:Nat):Dig b []:=by intro x hx;cases hx
theorem Dig.cons {b x:Nat} {l:List Nat} (hx:x<b) (h:Dig b l):Dig b (x :: l):=by
 intro y hy
 rcases List.mem_cons.1 hy with rfl | hy
 ·exact hx
 ·exact h y hy
theorem Dig.head {b x:Nat} {l:List Nat} (h:Dig b (x :: l)):x<b:=h x (by simp)
theorem Dig.tail {b x:Nat} {l:List Nat} (h:Dig b (x :: l)):Dig b l:=fun y hy=>h y (by simp [hy])
theorem Dig.append {b:Nat} {l m:List Nat} (h:Dig b l) (k:Dig b m):Dig b (l ++ m):=by
 intro y hy
 rcases List.mem_append.1 hy with hy | hy
 ·exact h y hy
 ·exact k y hy
theorem Dig.take {b:Nat} {l:List Nat} (h:Dig b l) (k:Nat):Dig b (l.take k):=fun y hy=>h y (List.mem_of_mem_take hy)
theorem Dig.drop {b:Nat} {l:List Nat} (h:Dig b l) (k:Nat):Dig b (l.drop k):=fun y hy=>h y (List.mem_of_mem_drop hy)
theorem Dig.getD {b:Nat} {l:List Nat} (h:Dig b l) (hb:0<b) (k:Nat):l.getD k 0<b:=by
 rw [List.getD_eq_getElem?_getD]
 cases hk:l[k]? with
 | none=>simpa using hb
 | some x=>exact h x (List.mem_of_getElem? hk)
theorem Dig.replicate (b n:Nat) (hb:0<b):Dig b (List.replicate n 0):=by
 intro x hx
 rw [(List.mem_replicate.1 hx).2];exact hb
theorem nv_cons (b x:Nat) (l:List Nat):nv b (x :: l)=x+b * nv b l:=rfl
theorem nv_single (b x:Nat):nv b [x]=x:=by simp [nv]
theorem nv_append (b:Nat) (l m:List Nat):nv b (l ++ m)=nv b l+b ^ l.length * nv b m:=by
 induction l with
 | nil=>simp [nv]
 | cons x l ih=>
  simp only [List.cons_append,nv,ih,List.length_cons,Nat.pow_succ,Nat.mul_add]
  rw [Nat.mul_comm (b ^ l.length) b,Nat.mul_assoc]
  omega
theorem nv_replicate (b n:Nat):nv b (List.replicate n 0)=0:=by
 induction n with
 | zero=>rfl
 | succ n ih=>simp [List.replicate_succ,nv,ih]
theorem nv_snoc (b:Nat) (l:List Nat) (x:Nat):nv b (l ++ [x])=nv b l+b ^ l.length * x:=by
 rw [nv_append,nv_single]
theorem nv_lt {b:Nat} {l:List Nat} (h:Dig b l):nv b l<b ^ l.length:=by
 induction l with
 | nil=>simp [nv]
 | cons x l ih=>
  have hx:=h.head
  have hl:=ih h.tail
  simp only [nv,List.length_cons,Nat.pow_succ]
  have h1:b * (nv b l+1)≤b * b ^ l.length:=Nat.mul_le_mul_left _ hl
  rw [Nat.mul_comm (b ^ l.length) b]
  rw [Nat.mul_add] at h1
  omega
theorem nv_take_drop (b:Nat) (l:List Nat) (k:Nat):nv b l=nv b (l.take k)+b ^ (min k l.length) * nv b (l.drop k):=by
 conv=>lhs;rw [←List.take_append_drop k l]
 rw [nv_append,List.length_take]
theorem nv_mod {b x:Nat} {l:List Nat} (hx:x<b):nv b (x :: l) % b=x:=by
 rw [nv_cons,Nat.add_mul_mod_self_left,Nat.mod_eq_of_lt hx]
theorem nv_div {b x:Nat} {l:List Nat} (hx:x<b):nv b (x :: l) / b=nv b l:=by
 rw [nv_cons,Nat.add_mul_div_left _ _ (by omega),Nat.div_eq_of_lt hx,Nat.zero_add]
theorem nv_inj {b:Nat} : ∀ {l m:List Nat},Dig b l→Dig b m→l.length=m.length→nv b l=nv b m→l=m
 | [],[],_,_,_,_=>rfl
 | [],_ :: _,_,_,h,_=>by simp at h
 | _ :: _,[],_,_,h,_=>by simp at h
 | x :: l,y :: m,hl,hm,hlen,h=>by
  have h1:=nv_mod (l:=l) hl.head
  have h2:=nv_mod (l:=m) hm.head
  have h3:=nv_div (l:=l) hl.head
  have h4:=nv_div (l:=m) hm.head
  rw [h] at h1 h3
  have e1:x=y:=h1.symm.trans h2
  have e2:nv b l=nv b m:=h3.symm.trans h4
  rw [e1,nv_inj hl.tail hm.tail (by simpa using hlen) e2]
def Nrm (l:List Nat):Prop:=∀ h:l ≠ [],l.getLast h≠0
theorem Nrm.nil:Nrm []:=fun h=>absurd rfl h
theorem Nrm.tail {x:Nat} {l:List Nat} (h:Nrm (x :: l)):Nrm l:=by
 intro hl
 have:=h (by simp)
 rwa [List.getLast_cons hl] at this
theorem nv_pos {b:Nat} (hb:0<b) {l:List Nat} (h:Nrm l) (hl:l ≠ []):0<nv b l:=by
 induction l with
 | nil=>exact absurd rfl hl
 | cons x l ih=>
  by_cases he:l = []
  ·subst he
   have:=h hl
   simp at this
   simp [nv];omega
  ·have:=ih h.tail he
   rw [nv_cons]
   have:=Nat.mul_pos hb this
   omega
theorem nv_ge {b:Nat} {l:List Nat} (h:Nrm l) (hl:l ≠ []):b ^ (l.length - 1)≤nv b l:=by
 induction l with
 | nil=>exact absurd rfl hl
 | cons x l ih=>
  by_cases he:l = []
  ·subst he
   have:=h hl
   simp at this
   simp [nv];omega
  ·have h1:=ih h.tail he
   have hlen:0<l.length:=List.length_pos_iff.2 he
   rw [nv_cons]
   have e:(x :: l).length - 1=(l.length - 1)+1:=by simp;omega
   rw [e,Nat.pow_succ,Nat.mul_comm]
   have:=Nat.mul_le_mul_left b h1
   omega
theorem pow_lt_pow' {b m n:Nat} (hb:1<b) (h:b ^ m<b ^ n):m<n:=by
 rcases Nat.lt_or_ge m n with h1 | h1
 ·exact h1
 ·have:=Nat.pow_le_pow_right (n:=b) (by omega) h1;omega
theorem nrm_inj {b:Nat} (hb:1<b) {l m:List Nat} (hl:Dig b l) (hm:Dig b m) (nl:Nrm l) (nm:Nrm m) (h:nv b l=nv b m):l=m:=by
 refine nv_inj hl hm ?_ h
 have key:∀ {l m:List Nat},Dig b l→Dig b m→Nrm l→Nrm m→nv b l=nv b m→l.length≤m.length:=by
  intro l m hl hm nl nm h
  by_cases he:l = []
  ·simp [he]
  ·have h1:=nv_ge (b:=b) nl he
   have h2:=nv_lt hm
   have:=pow_lt_pow' hb (Nat.lt_of_le_of_lt (h ▸ h1) h2)
   have hlen:0<l.length:=List.length_pos_iff.2 he
   omega
 exact Nat.le_antisymm (key hl hm nl nm h) (key hm hl nm nl h.symm)
def tlen:List Nat→Nat
 | []=>0
 | x :: l=>if tlen l=0 then (if x=0 then 0 else 1) else tlen l+1
def tr (l:List Nat):List Nat:=l.take (tlen l)
theorem tlen_le (l:List Nat):tlen l≤l.length:=by
 induction l with
 | nil=>simp [tlen]
 | cons x l ih=>simp only [tlen,List.length_cons];split <;> (try split) <;> omega
theorem tr_length (l:List Nat):(tr l).length=tlen l:=by
 rw [tr,List.length_take];exact Nat.min_eq_left (tlen_le l)
theorem tr_cons (x:Nat) (l:List Nat):tr (x :: l)=if tlen l=0 then (if x=0 then [] else [x]) else x :: tr l:=by
 simp only [tr,tlen]
 split
 ·split <;> simp
 ·simp
theorem nv_tr (b:Nat) (l:List Nat):nv b (tr l)=nv b l:=by
 induction l with
 | nil=>rfl
 | cons x l ih=>
  rw [tr_cons]
  split
  ·rename_i h
   have:nv b l=0:=by rw [←ih,tr,h];simp [nv]
   split
   ·rename_i hx;simp [nv,this,hx]
   ·simp [nv,this]
  ·simp [nv,ih]
theorem Dig.tr {b:Nat} {l:List Nat} (h:Dig b l):Dig b (tr l):=h.take _
theorem tlen_last {l:List Nat} (h:0<tlen l):l.getD (tlen l - 1) 0≠0:=by
 induction l with
 | nil=>simp [tlen] at h
 | cons x l ih=>
  simp only [tlen] at h ⊢
  split
  ·split
   ·rename_i h1 h2;simp [h1,h2] at h
   ·rename_i h1 h2;simpa using h2
  ·rename_i h1
   have h3:0<tlen l:=by omega
   have e:tlen l+1 - 1=(tlen l - 1)+1:=by omega
   rw [e,List.getD_cons_succ]
   exact ih h3
theorem nrm_of_getD {l:List Nat} (h:l ≠ []→l.getD (l.length - 1) 0≠0):Nrm l:=by
 intro hl
 have:=h hl
 rw [List.getLast_eq_getElem]
 have hlen:0<l.length:=List.length_pos_iff.2 hl
 rwa [List.getD_eq_getElem?_getD,List.getElem?_eq_getElem (by omega)] at this
theorem nrm_getD {l:List Nat} (h:Nrm l) (hl:l ≠ []):l.getD (l.length - 1) 0≠0:=by
 have:=h hl
 have hlen:0<l.length:=List.length_pos_iff.2 hl
 rw [List.getLast_eq_getElem] at this
 rwa [List.getD_eq_getElem?_getD,List.getElem?_eq_getElem (by omega)]
theorem tr_nrm (l:List Nat):Nrm (tr l):=by
 refine nrm_of_getD fun h=>?_
 have h0:0<tlen l:=by rw [←tr_length];exact List.length_pos_iff.2 h
 rw [tr_length]
 have:=tlen_last h0
 rwa [tr,List.getD_eq_getElem?_getD,List.getElem?_take_of_lt (by omega),←List.getD_eq_getElem?_getD]
theorem tlen_take_last {l:List Nat} {n:Nat} (hn:tlen l≤n+1) (h:l.getD n 0=0):tlen l≤n:=by
 rcases Nat.lt_or_ge n (tlen l) with h1 | h1
 ·have h2:tlen l=n+1:=by omega
  have h3:=tlen_last (l:=l) (by omega)
  rw [h2] at h3
  exact absurd h h3
 ·exact h1
theorem getD_ge_tlen {l:List Nat} {k:Nat} (h:tlen l≤k):l.getD k 0=0:=by
 induction l generalizing k with
 | nil=>simp
 | cons x l ih=>
  simp only [tlen] at h
  split at h
  ·rename_i h1
   split at h
   ·rename_i h2
    cases k with
    | zero=>simpa using h2
    | succ k=>rw [List.getD_cons_succ];exact ih (by omega)
   ·cases k with
    | zero=>omega
    | succ k=>rw [List.getD_cons_succ];exact ih (by omega)
  ·cases k with
   | zero=>omega
   | succ k=>rw [List.getD_cons_succ];exact ih (by omega)
theorem tlen_eq_of {l:List Nat} {n:Nat} (hn:tlen l≤n) (h:n=0∨l.getD (n - 1) 0≠0):tlen l=n:=by
 rcases h with h | h
 ·omega
 ·rcases Nat.lt_or_ge (tlen l) n with h1 | h1
  ·exact absurd (getD_ge_tlen (l:=l) (k:=n - 1) (by omega)) h
  ·omega
theorem tlen_of_nrm {l:List Nat} (h:Nrm l):tlen l=l.length:=by
 refine tlen_eq_of (tlen_le l) ?_
 by_cases hl:l = []
 ·left;simp [hl]
 ·exact .inr (nrm_getD h hl)
theorem tr_of_nrm {l:List Nat} (h:Nrm l):tr l=l:=by rw [tr,tlen_of_nrm h,List.take_length]
theorem tlen_zero_iff {b:Nat} (hb:0<b) (l:List Nat):tlen l=0↔nv b l=0:=by
 rw [←nv_tr b l]
 constructor
 ·intro h;rw [tr,h];simp [nv]
 ·intro h
  rcases Nat.eq_zero_or_pos (tlen l) with h1 | h1
  ·exact h1
  ·have:=nv_pos hb (tr_nrm l) (by rw [←List.length_pos_iff,tr_length];exact h1)
   omega
def digs (b:Nat) (n:Nat):List Nat:=if _h:1<b∧n≠0 then n % b :: digs b (n / b) else []
termination_by n
decreasing_by exact Nat.div_lt_self (by omega) _h.1
theorem digs_zero (b:Nat):digs b 0 = []:=by rw [digs];simp
theorem digs_pos {b n:Nat} (hb:1<b) (hn:n≠0):digs b n=n % b :: digs b (n / b):=by
 rw [digs,dif_pos ⟨hb,hn⟩]
theorem nv_digs {b:Nat} (hb:1<b) (n:Nat):nv b (digs b n)=n:=by
 induction n using Nat.strongRecOn with
 | _ n ih=>
  by_cases hn:n=0
  ·subst hn;rw [digs_zero];rfl
  ·rw [digs_pos hb hn,nv_cons,ih _ (Nat.div_lt_self (by omega) hb)]
   exact Nat.mod_add_div n b
theorem dig_digs {b:Nat} (hb:1<b) (n:Nat):Dig b (digs b n):=by
 induction n using Nat.strongRecOn with
 | _ n ih=>
  by_cases hn:n=0
  ·subst hn;rw [digs_zero];exact Dig.nil b
  ·rw [digs_pos hb hn]
   exact Dig.cons (Nat.mod_lt _ (by omega)) (ih _ (Nat.div_lt_self (by omega) hb))
theorem nrm_cons {b x:Nat} {l:List Nat} (hl:Nrm l) (h:x+b * nv b l≠0):Nrm (x :: l):=by
 intro hne
 by_cases he:l = []
 ·subst he
  simpa [nv] using h
 ·rw [List.getLast_cons he];exact hl he
theorem nrm_digs {b:Nat} (hb:1<b) (n:Nat):Nrm (digs b n):=by
 induction n using Nat.strongRecOn with
 | _ n ih=>
  by_cases hn:n=0
  ·subst hn;rw [digs_zero];exact Nrm.nil
  ·rw [digs_pos hb hn]
   refine nrm_cons (b:=b) (ih _ (Nat.div_lt_self (by omega) hb)) ?_
   rw [nv_digs hb,Nat.mod_add_div];exact hn
theorem tr_eq_digs {b:Nat} (hb:1<b) {l:List Nat} (h:Dig b l):tr l=digs b (nv b l):=
 nrm_inj hb h.tr (dig_digs hb _) (tr_nrm l) (nrm_digs hb _) (by rw [nv_tr,nv_digs hb])
theorem nrm_eq_digs {b:Nat} (hb:1<b) {l:List Nat} (h:Dig b l) (hn:Nrm l):l=digs b (nv b l):=by
 rw [←tr_eq_digs hb h,tr_of_nrm hn]
theorem digs_eq_nil {b:Nat} (hb:1<b) (n:Nat):digs b n = []↔n=0:=by
 constructor
 ·intro h;rw [←nv_digs hb n,h];rfl
 ·rintro rfl;exact digs_zero b
theorem digs_length_le {b:Nat} (hb:1<b) {n k:Nat} (h:n<b ^ k):(digs b n).length≤k:=by
 by_cases hn:n=0
 ·subst hn;simp [digs_zero]
 ·have h1:=nv_ge (b:=b) (nrm_digs hb n) (by rwa [ne_eq,digs_eq_nil hb])
  rw [nv_digs hb] at h1
  have:=pow_lt_pow' hb (Nat.lt_of_le_of_lt h1 h)
  omega
theorem lt_of_digs_length {b:Nat} (hb:1<b) {n k:Nat} (h:(digs b n).length≤k):n<b ^ k:=by
 have h1:=nv_lt (dig_digs hb n)
 rw [nv_digs hb] at h1
 exact Nat.lt_of_lt_of_le h1 (Nat.pow_le_pow_right (by omega) h)
theorem digs_length_le_iff {b:Nat} (hb:1<b) {n k:Nat} : (digs b n).length≤k↔n<b ^ k:=
 ⟨lt_of_digs_length hb,digs_length_le hb⟩
theorem nv_lt_of_len {b:Nat} {l m:List Nat} (hb:0<b) (hl:Dig b l) (nm:Nrm m) (h:l.length<m.length):nv b l<nv b m:=by
 have h1:=nv_lt hl
 have h2:=nv_ge (b:=b) nm (by intro he;simp [he] at h)
 exact Nat.lt_of_lt_of_le h1 (Nat.le_trans (Nat.pow_le_pow_right hb (by omega)) h2)
theorem getD_eq {l:List Nat} {k:Nat} (h:k<l.length):l.getD k 0=l[k]:=by
 rw [List.getD_eq_getElem?_getD,List.getElem?_eq_getElem h];rfl
theorem take_succ_nv (b:Nat) (l:List Nat) {k:Nat} (h:k<l.length):nv b (l.take (k+1))=nv b (l.take k)+b ^ k * l.getD k 0:=by
 rw [List.take_succ_eq_append_getElem h,nv_snoc,List.length_take,Nat.min_eq_left (by omega),getD_eq h]
theorem drop_nv (b:Nat) (l:List Nat) {k:Nat} (h:k<l.length):nv b (l.drop k)=l.getD k 0+b * nv b (l.drop (k+1)):=by
 rw [List.drop_eq_getElem_cons h,nv_cons,getD_eq h]
def blen (n:Nat):Nat:=(digs 2 n).length
theorem blen_le_iff {n k:Nat} : blen n≤k↔n<2 ^ k:=digs_length_le_iff (by omega)
theorem blen_eq_of {n k:Nat} (h1:2 ^ k≤n) (h2:n<2 ^ (k+1)):blen n=k+1:=by
 have a:=blen_le_iff.2 h2
 rcases Nat.lt_or_ge k (blen n) with h | h
 ·omega
 ·have:=blen_le_iff.1 h;omega
theorem blen_zero:blen 0=0:=by simp [blen,digs_zero]
theorem blen_log2 {n:Nat} (h:n≠0):blen n=Nat.log2 n+1:=blen_eq_of (Nat.log2_self_le h) Nat.lt_log2_self
theorem blen_pos {n:Nat} (h:n≠0):0<blen n:=by rw [blen_log2 h];omega
theorem blen_bounds {n:Nat} (h:n≠0):2 ^ (blen n - 1)≤n∧n<2 ^ blen n:=by
 rw [blen_log2 h];exact ⟨Nat.log2_self_le h,Nat.lt_log2_self⟩
theorem blen_add_mul {k x y:Nat} (hx:x<2 ^ k) (hy:y≠0):blen (x+2 ^ k * y)=k+blen y:=by
 obtain ⟨h1,h2⟩:=blen_bounds hy
 have hp:=blen_pos hy
 have e:k+blen y=(k+(blen y - 1))+1:=by omega
 rw [e]
 refine blen_eq_of ?_ ?_
 ·rw [Nat.pow_add];have:=Nat.mul_le_mul_left (2 ^ k) h1;omega
 ·rw [show k+(blen y - 1)+1=k+blen y by omega,Nat.pow_add]
  have:=Nat.mul_le_mul_left (2 ^ k) (show y+1≤2 ^ blen y from h2)
  rw [Nat.mul_add] at this
  omega
theorem blen_mono {m n:Nat} (h:m≤n):blen m≤blen n:=blen_le_iff.2 (Nat.lt_of_le_of_lt h (blen_le_iff.1 (Nat.le_refl _)))
abbrev W:Nat:=4294967296
theorem W_pow_eq (k:Nat):W ^ k=2 ^ (32 * k):=by rw [Nat.pow_mul]
theorem W128:W ^ 128=2 ^ 4096:=by rw [W_pow_eq,show 32 * 128=4096 from rfl]
theorem M_pos:0<2 ^ 4096:=Nat.pow_pos (a:=2) (n:=4096) (by decide)
theorem blen_limbs {l:List Nat} (hd:Dig W l) (h0:0<tlen l):blen (nv W l)=32 * (tlen l - 1)+blen (l.getD (tlen l - 1) 0):=by
 have hl:=tlen_last h0
 have e:tr l=l.take (tlen l - 1) ++ [l.getD (tlen l - 1) 0]:=by
  have h1:tlen l - 1<l.length:=by have:=tlen_le l;omega
  have h2:l.take (tlen l - 1+1)=l.take (tlen l - 1) ++ [l.getD (tlen l - 1) 0]:=by rw [List.take_succ_eq_append_getElem h1,getD_eq h1]
  rw [tr,←h2]
  congr 1
  omega
 rw [←nv_tr,e,nv_snoc,List.length_take,Nat.min_eq_left (by have:=tlen_le l;omega),W_pow_eq]
 refine blen_add_mul ?_ hl
 have:=nv_lt (hd.take (tlen l - 1))
 rwa [List.length_take,Nat.min_eq_left (by have:=tlen_le l;omega),W_pow_eq] at this
theorem pow_succ_mul (b k x:Nat):b ^ (k+1) * x=b ^ k * (b * x):=by rw [Nat.pow_succ,Nat.mul_assoc]
theorem set_zeros (o:List Nat) (m s:Nat):(o ++ List.replicate (m+1) 0).set o.length s=(o ++ [s]) ++ List.replicate m 0:=by
 rw [List.set_append_right _ _ (Nat.le_refl _),Nat.sub_self,List.replicate_succ,List.set_cons_zero,List.append_assoc];rfl
theorem set_zeros' {o:List Nat} {k n s:Nat} (hk:o.length=k) (hn:k<n):(o ++ List.replicate (n - k) 0).set k s=(o ++ [s]) ++ List.replicate (n - (k+1)) 0:=by
 subst hk
 obtain ⟨m,hm⟩:∃ m,n - o.length=m+1:=⟨n - o.length - 1,by omega⟩
 rw [hm,set_zeros]
 congr 2
 omega
def nvp (b:Nat) (l:List Nat) (k:Nat):Nat:=nv b (l.take k)
theorem nvp_zero (b:Nat) (l:List Nat):nvp b l 0=0:=by simp [nvp,nv]
theorem nvp_succ (b:Nat) (l:List Nat) (k:Nat):nvp b l (k+1)=nvp b l k+b ^ k * l.getD k 0:=by
 unfold nvp
 rcases Nat.lt_or_ge k l.length with h | h
 ·exact take_succ_nv b l h
 ·rw [List.take_of_length_le (by omega),List.take_of_length_le h,List.getD_eq_getElem?_getD,List.getElem?_eq_none h];simp
theorem nvp_all {b:Nat} {l:List Nat} {k:Nat} (h:l.length≤k):nvp b l k=nv b l:=by
 unfold nvp;rw [List.take_of_length_le h]
theorem add_step {b k v c x y X Y:Nat} (h:v+b ^ k * c=X+Y):(v+b ^ k * ((x+y+c) % b))+b ^ (k+1) * ((x+y+c) / b)=(X+b ^ k * x)+(Y+b ^ k * y):=by
 have h2:=Nat.mod_add_div (x+y+c) b
 rw [pow_succ_mul,Nat.add_assoc,←Nat.mul_add,h2,Nat.mul_add,Nat.mul_add]
 omega
theorem sub_step {b k v c x y X Y d c':Nat} (h:v+Y=X+b ^ k * c) (hd:d+y+c=x+b * c'):(v+b ^ k * d)+(Y+b ^ k * y)=(X+b ^ k * x)+b ^ (k+1) * c':=by
 rw [pow_succ_mul]
 have h2:=congrArg (fun t=>b ^ k * t) hd
 simp only [Nat.mul_add] at h2
 omega
theorem nv_set (b:Nat) {l:List Nat} {p:Nat} (h:p<l.length) (v:Nat):nv b (l.set p v)+b ^ p * l.getD p 0=nv b l+b ^ p * v:=by
 induction l generalizing p with
 | nil=>simp at h
 | cons x l ih=>
  cases p with
  | zero=>simp [nv];omega
  | succ p=>
   have h2:=ih (p:=p) (by simpa using h)
   simp only [List.set_cons_succ,nv,List.getD_cons_succ,Nat.pow_succ]
   have h3:=congrArg (fun t=>b * t) h2
   simp only [Nat.mul_add,←Nat.mul_assoc] at h3
   rw [Nat.mul_comm (b ^ p) b]
   omega
theorem Dig.set {b:Nat} {l:List Nat} (h:Dig b l) {v:Nat} (hv:v<b) (p:Nat):Dig b (l.set p v):=by
 intro y hy
 rcases List.mem_or_eq_of_mem_set hy with hy | rfl
 ·exact h y hy
 ·exact hv
theorem lget_set_ne {l:List Nat} {p j v:Nat} (h:p≠j):(l.set p v).getD j 0=l.getD j 0:=by
 rw [List.getD_eq_getElem?_getD,List.getD_eq_getElem?_getD,List.getElem?_set_ne h]
theorem mul_step {b p v v' c x y d V t:Nat} (hset:v'+b ^ p * d=v+b ^ p * (t % b)) (ht:t=x * y+d+c) (h:v+b ^ p * c=V) :
  v'+b ^ (p+1) * (t / b)=V+b ^ p * (x * y):=by
 have h2:=Nat.mod_add_div t b
 rw [pow_succ_mul]
 have h3:b ^ p * (t % b)+b ^ p * (b * (t / b))=b ^ p * t:=by rw [←Nat.mul_add,h2]
 have h4:b ^ p * t=b ^ p * (x * y)+b ^ p * d+b ^ p * c:=by rw [ht,Nat.mul_add,Nat.mul_add]
 omega
theorem mul_lt {x y d c:Nat} (hx:x<4294967296) (hy:y<4294967296) (hd:d<4294967296) (hc:c<4294967296):x * y≤18446744065119617025∧(x * y+d+c) / 4294967296<4294967296:=by
 have h:x * y≤4294967295 * 4294967295:=Nat.mul_le_mul (by omega) (by omega)
 omega
end Hb
namespace Hf
inductive Ed where
 | lo
 | num (z:Int)
 | hi
 deriving DecidableEq
def lob:Ed→Int→Prop
 | .lo,_=>True
 | .num x,z=>x≤z
 | .hi,_=>False
def hib:Ed→Int→Prop
 | .lo,_=>False
 | .num y,z=>z≤y
 | .hi,_=>True
abbrev R:=Ed × Ed
def inR (z:Int) (r:R):Prop:=lob r.1 z∧hib r.2 z
def ok (r:R):Prop:=∃ z,inR z r
def mem (z:Int) (l:List R):Prop:=∃ r∈l,inR z r
def Sep (r s:R):Prop:=∃ y x,r.2 = .num y∧s.1 = .num x∧y+1<x
def NF:List R→Prop
 | []=>True
 | [r]=>ok r
 | r :: s :: l=>ok r∧Sep r s∧NF (s :: l)
theorem lob_mono {e:Ed} {a b:Int} (h:lob e a) (hab:a≤b):lob e b:=by
 cases e with
 | lo=>trivial
 | num x=>exact Int.le_trans h hab
 | hi=>exact h.elim
theorem hib_mono {e:Ed} {a b:Int} (h:hib e b) (hab:a≤b):hib e a:=by
 cases e with
 | lo=>exact h.elim
 | num x=>exact Int.le_trans hab h
 | hi=>trivial
theorem mem_nil {z:Int} : ¬mem z []:=fun ⟨_,h,_⟩=>by simp at h
theorem mem_cons {z:Int} {r:R} {l:List R} : mem z (r :: l)↔inR z r∨mem z l:=by
 constructor
 ·rintro ⟨s,hs,h⟩
  rcases List.mem_cons.1 hs with rfl | hs
  ·exact .inl h
  ·exact .inr ⟨s,hs,h⟩
 ·rintro (h | ⟨s,hs,h⟩)
  ·exact ⟨r,List.mem_cons_self,h⟩
  ·exact ⟨s,List.mem_cons_of_mem _ hs,h⟩
theorem NF.head {r:R} {l:List R} (h:NF (r :: l)):ok r:=by
 cases l with
 | nil=>exact h
 | cons s l=>exact h.1
theorem NF.tail {r:R} {l:List R} (h:NF (r :: l)):NF l:=by
 cases l with
 | nil=>trivial
 | cons s l=>exact h.2.2
theorem NF.above {r:R} {l:List R} (h:NF (r :: l)) {z:Int} (hz:mem z l):∃ y,r.2 = .num y∧y+1<z:=by
 induction l generalizing r with
 | nil=>exact (mem_nil hz).elim
 | cons s l ih=>
  obtain ⟨⟨_,_⟩,⟨y,x,e1,e2,hyx⟩,hs⟩:=h
  refine ⟨y,e1,?_⟩
  rcases mem_cons.1 hz with hz | hz
  ·have h1:=hz.1
   rw [e2] at h1
   change x≤z at h1
   omega
  ·obtain ⟨y2,e3,h3⟩:=ih hs hz
   obtain ⟨z2,h4,h5⟩:=hs.head
   rw [e2] at h4
   rw [e3] at h5
   change x≤z2 at h4
   change z2≤y2 at h5
   omega
theorem NF.below {r:R} {l:List R} (h:NF (r :: l)) {z:Int} (hz:mem z (r :: l)):lob r.1 z:=by
 rcases mem_cons.1 hz with hz | hz
 ·exact hz.1
 ·obtain ⟨y,e1,h1⟩:=h.above hz
  obtain ⟨z2,h4,h5⟩:=h.head
  rw [e1] at h5
  change z2≤y at h5
  exact lob_mono h4 (by omega)
theorem low_eq {r s:R} {l m:List R} (hl:NF (r :: l)) (hm:NF (s :: m)) (h:∀ z,mem z (r :: l)→mem z (s :: m)) (h':∀ z,mem z (s :: m)→mem z (r :: l)):r.1=s.1:=by
 have key:∀ {r s:R} {l m:List R},NF (r :: l)→NF (s :: m)→(∀ z,mem z (r :: l)→mem z (s :: m))→∀ x,s.1 = .num x→∃ x',r.1 = .num x'∧x≤x':=by
  intro r s l m hl hm h x hx
  obtain ⟨z,h1,h2⟩:=hl.head
  have hn:∀ z,mem z (r :: l)→x≤z:=fun z hz=>by
   have:=hm.below (h z hz)
   rw [hx] at this
   exact this
  obtain ⟨a,b⟩:=r
  cases a with
  | lo=>
   have hz:inR (min z (x - 1)) (Ed.lo,b):=⟨trivial,hib_mono h2 (by omega)⟩
   have:=hn _ (mem_cons.2 (.inl hz))
   omega
  | num x'=>
   refine ⟨x',rfl,hn _ (mem_cons.2 (.inl ⟨Int.le_refl _,hib_mono h2 h1⟩))⟩
  | hi=>exact h1.elim
 have hi1:r.1 ≠ .hi:=fun e=>by obtain ⟨z,h1,_⟩:=hl.head;rw [e] at h1;exact h1
 have hi2:s.1 ≠ .hi:=fun e=>by obtain ⟨z,h1,_⟩:=hm.head;rw [e] at h1;exact h1
 cases e1:r.1 with
 | hi=>exact (hi1 e1).elim
 | lo=>
  cases e2:s.1 with
  | hi=>exact (hi2 e2).elim
  | lo=>rfl
  | num x=>
   obtain ⟨x',e3,_⟩:=key hl hm h x e2
   rw [e1] at e3
   cases e3
 | num a=>
  obtain ⟨b,e2,h2⟩:=key hm hl h' a e1
  obtain ⟨a',e3,h3⟩:=key hl hm h b e2
  rw [e1] at e3
  injection e3 with e3
  rw [e2]
  congr 1
  omega
theorem high_eq {r s:R} {l m:List R} (hl:NF (r :: l)) (hm:NF (s :: m)) (h:∀ z,mem z (r :: l)→mem z (s :: m)) (h':∀ z,mem z (s :: m)→mem z (r :: l)) (hlo:r.1=s.1):r.2=s.2:=by
 have key:∀ {r s:R} {l m:List R},NF (r :: l)→NF (s :: m)→(∀ z,mem z (r :: l)→mem z (s :: m))→r.1=s.1→∀ y,s.2 = .num y→∃ y',r.2 = .num y'∧y'≤y:=by
  intro r s l m hl hm h hlo y hy
  obtain ⟨z,h1,h2⟩:=hl.head
  obtain ⟨z',h3,h4⟩:=hm.head
  rw [hy] at h4
  change z'≤y at h4
  have hno:¬mem (y+1) (s :: m):=fun hz=>by
   rcases mem_cons.1 hz with hz | hz
   ·have:=hz.2
    rw [hy] at this
    change y+1≤y at this
    omega
   ·obtain ⟨y2,e3,h5⟩:=hm.above hz
    rw [hy] at e3
    injection e3 with e3
    omega
  have hlb:lob r.1 (y+1):=by rw [hlo];exact lob_mono h3 (by omega)
  cases e:r.2 with
  | lo=>rw [e] at h2;exact h2.elim
  | hi=>exact (hno (h _ (mem_cons.2 (.inl ⟨hlb,by rw [e];trivial⟩)))).elim
  | num y'=>
   refine ⟨y',rfl,?_⟩
   refine Int.not_lt.1 fun hlt=>hno (h _ (mem_cons.2 (.inl ⟨hlb,?_⟩)))
   rw [e]
   show y+1≤y'
   omega
 have lo1:r.2 ≠ .lo:=fun e=>by obtain ⟨z,_,h1⟩:=hl.head;rw [e] at h1;exact h1
 have lo2:s.2 ≠ .lo:=fun e=>by obtain ⟨z,_,h1⟩:=hm.head;rw [e] at h1;exact h1
 cases e1:r.2 with
 | lo=>exact (lo1 e1).elim
 | hi=>
  cases e2:s.2 with
  | lo=>exact (lo2 e2).elim
  | hi=>rfl
  | num y=>
   obtain ⟨y',e3,_⟩:=key hl hm h hlo y e2
   rw [e1] at e3
   cases e3
 | num a=>
  obtain ⟨b,e2,h2⟩:=key hm hl h' hlo.symm a e1
  obtain ⟨a',e3,h3⟩:=key hl hm h hlo b e2
  rw [e1] at e3
  injection e3 with e3
  rw [e2]
  congr 1
  omega
theorem NF.uniq:∀ {l m:List R},NF l→NF m→(∀ z,mem z l↔mem z m)→l=m
 | [],[],_,_,_=>rfl
 | [],s :: m,_,hm,h=>by
  obtain ⟨z,hz⟩:=hm.head
  exact (mem_nil ((h z).2 (mem_cons.2 (.inl hz)))).elim
 | r :: l,[],hl,_,h=>by
  obtain ⟨z,hz⟩:=hl.head
  exact (mem_nil ((h z).1 (mem_cons.2 (.inl hz)))).elim
 | r :: l,s :: m,hl,hm,h=>by
  have e1:=low_eq hl hm (fun z=>(h z).1) (fun z=>(h z).2)
  have e2:=high_eq hl hm (fun z=>(h z).1) (fun z=>(h z).2) e1
  obtain rfl:r=s:=Prod.ext e1 e2
  congr 1
  refine NF.uniq hl.tail hm.tail fun z=>⟨fun hz=>?_,fun hz=>?_⟩
  ·rcases mem_cons.1 ((h z).1 (mem_cons.2 (.inr hz))) with h1 | h1
   ·obtain ⟨y,e3,h3⟩:=hl.above hz
    have:=h1.2
    rw [e3] at this
    change z≤y at this
    omega
   ·exact h1
  ·rcases mem_cons.1 ((h z).2 (mem_cons.2 (.inr hz))) with h1 | h1
   ·obtain ⟨y,e3,h3⟩:=hm.above hz
    have:=h1.2
    rw [e3] at this
    change z≤y at this
    omega
   ·exact h1
def leE:Ed→Ed→Prop
 | .lo,_=>True
 | _,.hi=>True
 | .num x,.num y=>x≤y
 | _,_=>False
instance:(a b:Ed)→Decidable (leE a b)
 | .lo,.lo=>isTrue trivial
 | .lo,.num _=>isTrue trivial
 | .lo,.hi=>isTrue trivial
 | .num _,.hi=>isTrue trivial
 | .hi,.hi=>isTrue trivial
 | .num x,.num y=>inferInstanceAs (Decidable (x≤y))
 | .num _,.lo=>isFalse id
 | .hi,.lo=>isFalse id
 | .hi,.num _=>isFalse id
def succE:Ed→Ed
 | .num x=>.num (x+1)
 | e=>e
theorem leE_refl (a:Ed):leE a a:=by cases a <;> simp [leE]
theorem leE_trans {a b c:Ed} (h:leE a b) (k:leE b c):leE a c:=by
 cases a <;> cases b <;> cases c <;> simp_all [leE]
 omega
theorem leE_lob {a b:Ed} {z:Int} (h:leE a b) (k:lob b z):lob a z:=by
 cases a <;> cases b <;> simp_all [leE,lob]
 omega
theorem leE_hib {a b:Ed} {z:Int} (h:leE a b) (k:hib a z):hib b z:=by
 cases a <;> cases b <;> simp_all [leE,hib]
 omega
theorem Sep.lt {r s:R} (h:Sep r s) (hs:ok s) {y:Int} (hy:s.2 = .num y):∃ x,r.2 = .num x∧x+1<y+1:=by
 obtain ⟨a,b,e1,e2,hab⟩:=h
 obtain ⟨z,h1,h2⟩:=hs
 rw [e2] at h1
 rw [hy] at h2
 change b≤z at h1
 change z≤y at h2
 exact ⟨a,e1,by omega⟩
theorem Sep.trans {r s t:R} (h:Sep r s) (hs:ok s) (k:Sep s t):Sep r t:=by
 obtain ⟨y,x,e1,e2,h1⟩:=k
 obtain ⟨a,e3,h2⟩:=h.lt hs e1
 exact ⟨a,x,e3,e2,by omega⟩
theorem NF.iff:∀ {l:List R},NF l↔(∀ r∈l,ok r)∧l.Pairwise Sep
 | []=>by simp [NF]
 | [r]=>by simp [NF]
 | r :: s :: l=>by
  have ih:=NF.iff (l:=s :: l)
  show (ok r∧Sep r s∧NF (s :: l))↔_
  rw [ih]
  constructor
  ·rintro ⟨h1,h2,h3,h4⟩
   refine ⟨fun t ht=>?_,List.pairwise_cons.2 ⟨fun t ht=>?_,h4⟩⟩
   ·rcases List.mem_cons.1 ht with rfl | ht
    ·exact h1
    ·exact h3 t ht
   ·rcases List.mem_cons.1 ht with rfl | ht
    ·exact h2
    ·exact h2.trans (h3 s List.mem_cons_self) ((List.pairwise_cons.1 h4).1 t ht)
  ·rintro ⟨h1,h2⟩
   obtain ⟨h3,h4⟩:=List.pairwise_cons.1 h2
   exact ⟨h1 r List.mem_cons_self,h3 s List.mem_cons_self,fun t ht=>h1 t (List.mem_cons_of_mem _ ht),h4⟩
def pushR:List R→R→List R
 | [],r=>[r]
 | s :: acc,r=>if leE r.1 (succE s.2) then (if leE r.2 s.2 then s :: acc else (s.1,r.2) :: acc) else r :: s :: acc
def PInv (acc:List R):Prop:=(∀ r∈acc,ok r)∧acc.Pairwise fun a b=>Sep b a
theorem leE_total {a b:Ed} (h:¬leE a b):leE b a:=by
 cases a <;> cases b <;> simp_all [leE]
 omega
theorem push_inv {acc:List R} {r:R} (h:PInv acc) (hr:ok r) (hle:∀ s∈acc,leE s.1 r.1):PInv (pushR acc r)∧(∀ z,mem z (pushR acc r)↔mem z acc∨inR z r)∧∀ s∈pushR acc r,leE s.1 r.1:=by
 cases acc with
 | nil=>
  refine ⟨⟨by simpa [pushR] using hr,by simp [pushR]⟩,fun z=>?_,by simp [pushR,leE_refl]⟩
  show mem z [r]↔_
  rw [mem_cons]
  constructor
  ·rintro (h | h)
   ·exact .inr h
   ·exact (mem_nil h).elim
  ·rintro (h | h)
   ·exact (mem_nil h).elim
   ·exact .inl h
 | cons s acc=>
  obtain ⟨h1,h2⟩:=h
  obtain ⟨h3,h4⟩:=List.pairwise_cons.1 h2
  have hs:=h1 s List.mem_cons_self
  have hsr:=hle s List.mem_cons_self
  have hpe:pushR (s :: acc) r=if leE r.1 (succE s.2) then (if leE r.2 s.2 then s :: acc else (s.1,r.2) :: acc) else r :: s :: acc:=rfl
  rw [hpe]
  by_cases c1:leE r.1 (succE s.2)
  ·rw [if_pos c1]
   by_cases c2:leE r.2 s.2
   ·rw [if_pos c2]
    refine ⟨⟨h1,h2⟩,fun z=>?_,hle⟩
    constructor
    ·exact .inl
    ·rintro (h | h)
     ·exact h
     ·exact mem_cons.2 (.inl ⟨leE_lob hsr h.1,leE_hib c2 h.2⟩)
   ·rw [if_neg c2]
    have c3:=leE_total c2
    refine ⟨⟨fun t ht=>?_,List.pairwise_cons.2 ⟨fun t ht=>?_,h4⟩⟩,fun z=>?_,fun t ht=>?_⟩
    ·rcases List.mem_cons.1 ht with rfl | ht
     ·obtain ⟨z,k1,k2⟩:=hs
      exact ⟨z,k1,leE_hib c3 k2⟩
     ·exact h1 t (List.mem_cons_of_mem _ ht)
    ·obtain ⟨y,x,e1,e2,k⟩:=h3 t ht
     exact ⟨y,x,e1,e2,k⟩
    ·rw [mem_cons,mem_cons]
     constructor
     ·rintro (h | h)
      ·by_cases c4:hib s.2 z
       ·exact .inl (.inl ⟨h.1,c4⟩)
       ·refine .inr ⟨?_,h.2⟩
        cases e:s.2 with
        | lo=>
         obtain ⟨z',_,k2⟩:=hs
         rw [e] at k2
         exact k2.elim
        | hi=>rw [e] at c4;exact (c4 trivial).elim
        | num y=>
         rw [e] at c4 c1
         refine leE_lob c1 ?_
         show y+1≤z
         have:¬z≤y:=c4
         omega
      ·exact .inl (.inr h)
     ·rintro ((h | h) | h)
      ·exact .inl ⟨h.1,leE_hib c3 h.2⟩
      ·exact .inr h
      ·exact .inl ⟨leE_lob hsr h.1,h.2⟩
    ·rcases List.mem_cons.1 ht with rfl | ht
     ·exact hsr
     ·exact hle t (List.mem_cons_of_mem _ ht)
  ·rw [if_neg c1]
   have hsep:Sep s r:=by
    cases e:s.2 with
    | lo=>
     obtain ⟨z',_,k2⟩:=hs
     rw [e] at k2
     exact k2.elim
    | hi=>rw [e] at c1;cases e2:r.1 <;> rw [e2] at c1 <;> simp [succE,leE] at c1
    | num y=>
     rw [e] at c1
     cases e2:r.1 with
     | lo=>rw [e2] at c1;simp [leE] at c1
     | hi=>
      obtain ⟨z',k1,_⟩:=hr
      rw [e2] at k1
      exact k1.elim
     | num x=>
      rw [e2] at c1
      refine ⟨y,x,e,e2,?_⟩
      have:¬x≤y+1:=c1
      omega
   refine ⟨⟨fun t ht=>?_,List.pairwise_cons.2 ⟨fun t ht=>?_,h2⟩⟩,fun z=>?_,fun t ht=>?_⟩
   ·rcases List.mem_cons.1 ht with rfl | ht
    ·exact hr
    ·exact h1 t ht
   ·rcases List.mem_cons.1 ht with rfl | ht
    ·exact hsep
    ·exact (h3 t ht).trans hs hsep
   ·rw [mem_cons]
    exact ⟨fun h=>h.symm,fun h=>h.symm⟩
   ·rcases List.mem_cons.1 ht with rfl | ht
    ·exact leE_refl _
    ·exact hle t ht
def normalP (l:List R):List R:=(l.foldl pushR []).reverse
theorem fold_inv:∀ {l acc:List R},PInv acc→(∀ r∈l,ok r)→l.Pairwise (fun a b=>leE a.1 b.1)→(∀ s∈acc,∀ r∈l,leE s.1 r.1)→PInv (l.foldl pushR acc)∧∀ z,mem z (l.foldl pushR acc)↔mem z acc∨mem z l
 | [],acc,h,_,_,_=>⟨h,fun z=>⟨.inl,fun k=>k.elim id fun k=>(mem_nil k).elim⟩⟩
 | r :: l,acc,h,hok,hp,hle=>by
  obtain ⟨p1,p2⟩:=List.pairwise_cons.1 hp
  obtain ⟨k1,k2,k3⟩:=push_inv h (hok r List.mem_cons_self) (fun s hs=>hle s hs r List.mem_cons_self)
  obtain ⟨i1,i2⟩:=fold_inv k1 (fun t ht=>hok t (List.mem_cons_of_mem _ ht)) p2 (fun s hs t ht=>leE_trans (k3 s hs) (p1 t ht))
  refine ⟨i1,fun z=>?_⟩
  show mem z (l.foldl pushR (pushR acc r))↔_
  rw [i2,k2,mem_cons]
  exact or_assoc
theorem mem_reverse {z:Int} {l:List R} : mem z l.reverse↔mem z l:=by simp [mem]
theorem normalP_NF {l:List R} (hok:∀ r∈l,ok r) (hp:l.Pairwise (fun a b=>leE a.1 b.1)):NF (normalP l)∧∀ z,mem z (normalP l)↔mem z l:=by
 obtain ⟨⟨h1,h2⟩,h3⟩:=fold_inv (l:=l) (acc:=[]) ⟨by simp,List.Pairwise.nil⟩ hok hp (by simp)
 refine ⟨NF.iff.2 ⟨fun r hr=>h1 r (by simpa [normalP] using hr),List.pairwise_reverse.2 h2⟩,fun z=>?_⟩
 unfold normalP
 rw [mem_reverse,h3]
 exact ⟨fun h=>h.elim (fun k=>(mem_nil k).elim) id,.inr⟩
def sweep (f:Int→Bool):Option Ed→List Int→List R
 | none,[]=>[]
 | some e,[]=>[(e,.hi)]
 | none,x :: t=>if f x=true then sweep f (some (.num x)) t else sweep f none t
 | some e,x :: t=>if f x=true then sweep f (some e) t else (e,.num (x - 1)) :: sweep f none t
theorem const_to {f:Int→Bool} {b:Int} {t:List Int} (hc:∀ z,b≤z→z+1∉t→f (z+1)=f z):∀ (n:Nat),(∀ x∈t,b+n<x)→f (b+n)=f b
 | 0,_=>by simp
 | n+1,h=>by
  have ih:=const_to hc n fun x hx=>by have:=h x hx;omega
  have h1:=hc (b+n) (by omega) fun hm=>by have:=h _ hm;omega
  rw [show b+((n+1:Nat):Int)=b+n+1 by omega,h1,ih]
theorem const_below {f:Int→Bool} {b:Int} {t:List Int} (hc:∀ z,b≤z→z+1∉t→f (z+1)=f z) {z:Int} (hz:b≤z) (h:∀ x∈t,z<x):f z=f b:=by
 have:=const_to hc (z - b).toNat (fun x hx=>by have:=h x hx;omega)
 rwa [show b+((z - b).toNat:Int)=z by omega] at this
theorem sweep_spec {f:Int→Bool} : ∀ (t:List Int) (b:Int),(∀ x∈t,b<x)→t.Pairwise (· < ·)→(∀ z,b≤z→z+1∉t→f (z+1)=f z) →
  (f b=false→NF (sweep f none t)∧(∀ z,mem z (sweep f none t)↔b≤z∧f z=true)∧∀ r∈sweep f none t,∃ y,r.1 = .num y∧b<y) ∧
  (∀ e,f b=true→lob e b→NF (sweep f (some e) t)∧(∀ z,mem z (sweep f (some e) t)↔(lob e z∧z≤b)∨(b≤z∧f z=true))∧∀ r∈sweep f (some e) t,r.1=e∨∃ y,r.1 = .num y∧b<y)
 | [],b,hb,hp,hc=>by
  refine ⟨fun hf=>⟨trivial,fun z=>⟨fun h=>(mem_nil h).elim,fun ⟨h1,h2⟩=>?_⟩,by simp [sweep]⟩,fun e hf he=>⟨⟨b,he,trivial⟩,fun z=>?_,by simp [sweep]⟩⟩
  ·rw [const_below hc h1 (by simp),hf] at h2
   cases h2
  ·show mem z [(e,.hi)]↔_
   rw [mem_cons]
   constructor
   ·rintro (h | h)
    ·by_cases hz:z≤b
     ·exact .inl ⟨h.1,hz⟩
     ·exact .inr ⟨by omega,by rw [const_below hc (by omega) (by simp),hf]⟩
    ·exact (mem_nil h).elim
   ·rintro (h | h)
    ·exact .inl ⟨h.1,trivial⟩
    ·exact .inl ⟨lob_mono he h.1,trivial⟩
 | x :: t,b,hb,hp,hc=>by
  obtain ⟨p1,p2⟩:=List.pairwise_cons.1 hp
  have hbx:=hb x List.mem_cons_self
  have hcx:∀ z,x≤z→z+1∉t→f (z+1)=f z:=fun z hz hm=>hc z (by omega) fun h=>by
   rcases List.mem_cons.1 h with h | h
   ·omega
   ·exact hm h
  have hbel:∀ z,b≤z→z<x→f z=f b:=fun z h1 h2=>const_below hc h1 fun y hy=>by
   rcases List.mem_cons.1 hy with rfl | hy
   ·exact h2
   ·have:=p1 y hy;omega
  obtain ⟨iA,iB⟩:=sweep_spec t x p1 p2 hcx
  refine ⟨fun hf=>?_,fun e hf he=>?_⟩
  ·by_cases hx:f x=true
   ·rw [show sweep f none (x :: t)=sweep f (some (.num x)) t from if_pos hx]
    obtain ⟨i1,i2,i3⟩:=iB (.num x) hx (Int.le_refl _)
    refine ⟨i1,fun z=>?_,fun r hr=>?_⟩
    ·rw [i2]
     constructor
     ·rintro (⟨h1,h2⟩ | ⟨h1,h2⟩)
      ·have h1:x≤z:=h1
       obtain rfl:z=x:=by omega
       exact ⟨by omega,hx⟩
      ·exact ⟨by omega,h2⟩
     ·rintro ⟨h1,h2⟩
      by_cases hz:z<x
      ·rw [hbel z h1 hz,hf] at h2;cases h2
      ·exact .inr ⟨by omega,h2⟩
    ·rcases i3 r hr with h | ⟨y,h1,h2⟩
     ·exact ⟨x,h,hbx⟩
     ·exact ⟨y,h1,by omega⟩
   ·rw [show sweep f none (x :: t)=sweep f none t from if_neg hx]
    obtain ⟨i1,i2,i3⟩:=iA (by simpa using hx)
    refine ⟨i1,fun z=>?_,fun r hr=>?_⟩
    ·rw [i2]
     constructor
     ·exact fun ⟨h1,h2⟩=>⟨by omega,h2⟩
     ·rintro ⟨h1,h2⟩
      by_cases hz:z<x
      ·rw [hbel z h1 hz,hf] at h2;cases h2
      ·exact ⟨by omega,h2⟩
    ·obtain ⟨y,h1,h2⟩:=i3 r hr
     exact ⟨y,h1,by omega⟩
  ·have hex:lob e x:=lob_mono he (by omega)
   by_cases hx:f x=true
   ·rw [show sweep f (some e) (x :: t)=sweep f (some e) t from if_pos hx]
    obtain ⟨i1,i2,i3⟩:=iB e hx hex
    refine ⟨i1,fun z=>?_,fun r hr=>?_⟩
    ·rw [i2]
     constructor
     ·rintro (⟨h1,h2⟩ | ⟨h1,h2⟩)
      ·by_cases hz:z≤b
       ·exact .inl ⟨h1,hz⟩
       ·refine .inr ⟨by omega,?_⟩
        by_cases hzx:z<x
        ·rw [hbel z (by omega) hzx,hf]
        ·obtain rfl:z=x:=by omega
         exact hx
      ·exact .inr ⟨by omega,h2⟩
     ·rintro (⟨h1,h2⟩ | ⟨h1,h2⟩)
      ·exact .inl ⟨h1,by omega⟩
      ·by_cases hzx:x≤z
       ·exact .inr ⟨hzx,h2⟩
       ·exact .inl ⟨lob_mono he h1,by omega⟩
    ·rcases i3 r hr with h | ⟨y,h1,h2⟩
     ·exact .inl h
     ·exact .inr ⟨y,h1,by omega⟩
   ·rw [show sweep f (some e) (x :: t)=(e,.num (x - 1)) :: sweep f none t from if_neg hx]
    have hx':f x=false:=by simpa using hx
    obtain ⟨i1,i2,i3⟩:=iA hx'
    have hok:ok (e,.num (x - 1)):=⟨b,he,show b≤x - 1 by omega⟩
    refine ⟨NF.iff.2 ⟨fun r hr=>?_,List.pairwise_cons.2 ⟨fun r hr=>?_,(NF.iff.1 i1).2⟩⟩,fun z=>?_,fun r hr=>?_⟩
    ·rcases List.mem_cons.1 hr with rfl | hr
     ·exact hok
     ·exact (NF.iff.1 i1).1 r hr
    ·obtain ⟨y,h1,h2⟩:=i3 r hr
     exact ⟨x - 1,y,rfl,h1,by omega⟩
    ·rw [mem_cons,i2]
     constructor
     ·rintro (⟨h1,h2⟩ | ⟨h1,h2⟩)
      ·have h2:z≤x - 1:=h2
       by_cases hz:z≤b
       ·exact .inl ⟨h1,hz⟩
       ·exact .inr ⟨by omega,by rw [hbel z (by omega) (by omega),hf]⟩
      ·exact .inr ⟨by omega,h2⟩
     ·rintro (⟨h1,h2⟩ | ⟨h1,h2⟩)
      ·exact .inl ⟨h1,show z≤x - 1 by omega⟩
      ·by_cases hzx:z<x
       ·exact .inl ⟨lob_mono he h1,show z≤x - 1 by omega⟩
       ·exact .inr ⟨by omega,h2⟩
    ·rcases List.mem_cons.1 hr with rfl | hr
     ·exact .inl rfl
     ·obtain ⟨y,h1,h2⟩:=i3 r hr
      exact .inr ⟨y,h1,by omega⟩
theorem sweep_NF {f:Int→Bool} {t:List Int} {low:Bool} (hp:t.Pairwise (· < ·)) (hc:∀ z,z+1∉t→f (z+1)=f z) {b:Int} (hb:∀ x∈t,b<x) (hl:∀ z,z≤b→f z=low) :
  NF (sweep f (if low=true then some .lo else none) t)∧∀ z,mem z (sweep f (if low=true then some .lo else none) t)↔f z=true:=by
 obtain ⟨hA,hB⟩:=sweep_spec t b hb hp fun z _=>hc z
 cases low with
 | true=>
  rw [if_pos rfl]
  obtain ⟨h1,h2,_⟩:=hB .lo (hl b (Int.le_refl _)) trivial
  refine ⟨h1,fun z=>?_⟩
  rw [h2]
  constructor
  ·rintro (⟨_,h⟩ | ⟨_,h⟩)
   ·exact hl z h
   ·exact h
  ·intro h
   by_cases hz:z≤b
   ·exact .inl ⟨trivial,hz⟩
   ·exact .inr ⟨by omega,h⟩
 | false=>
  rw [if_neg (by simp)]
  obtain ⟨h1,h2,_⟩:=hA (hl b (Int.le_refl _))
  refine ⟨h1,fun z=>?_⟩
  rw [h2]
  constructor
  ·exact And.right
  ·intro h
   by_cases hz:z≤b
   ·rw [hl z hz] at h;cases h
   ·exact ⟨by omega,h⟩
def numL:Ed→List Int
 | .num x=>[x]
 | _=>[]
def rawT (l:List R):List Int:=l.flatMap fun r=>numL r.1 ++ (numL r.2).map (· + 1)
def inB (z:Int) (r:R):Bool:=decide (leE r.1 (.num z)) && decide (leE (.num z) r.2)
def memB (z:Int) (l:List R):Bool:=l.any (inB z)
def lowR (r:R):Bool:=decide (r.1 = .lo) && !decide (r.2 = .lo)
def lowB (l:List R):Bool:=l.any lowR
theorem inB_iff {z:Int} {r:R} : inB z r=true↔inR z r:=by
 obtain ⟨a,b⟩:=r
 simp only [inB,inR,Bool.and_eq_true,decide_eq_true_eq]
 cases a <;> cases b <;> simp [leE,lob,hib]
theorem memB_iff {z:Int} {l:List R} : memB z l=true↔mem z l:=by
 simp only [memB,List.any_eq_true,mem,inB_iff]
theorem raw_lo {l:List R} {r:R} (hr:r∈l) {x:Int} (h:r.1 = .num x):x∈rawT l:=
 List.mem_flatMap.2 ⟨r,hr,List.mem_append.2 (.inl (by rw [h];exact List.mem_singleton.2 rfl))⟩
theorem raw_hi {l:List R} {r:R} (hr:r∈l) {y:Int} (h:r.2 = .num y):y+1∈rawT l:=
 List.mem_flatMap.2 ⟨r,hr,List.mem_append.2 (.inr (by rw [h];exact List.mem_singleton.2 rfl))⟩
theorem inR_step {l:List R} {r:R} (hr:r∈l) {z:Int} (h:z+1∉rawT l):inR (z+1) r↔inR z r:=by
 have h1:lob r.1 (z+1)↔lob r.1 z:=by
  cases e:r.1 with
  | lo=>exact Iff.rfl
  | hi=>exact Iff.rfl
  | num x=>
   have:x≠z+1:=fun e2=>h (e2 ▸ raw_lo hr e)
   show x≤z+1↔x≤z
   omega
 have h2:hib r.2 (z+1)↔hib r.2 z:=by
  cases e:r.2 with
  | lo=>exact Iff.rfl
  | hi=>exact Iff.rfl
  | num y=>
   have:y+1≠z+1:=fun e2=>h (e2 ▸ raw_hi hr e)
   show z+1≤y↔z≤y
   omega
 unfold inR
 rw [h1,h2]
theorem memB_step {l:List R} {z:Int} (h:z+1∉rawT l):memB (z+1) l=memB z l:=by
 have:memB (z+1) l=true↔memB z l=true:=by
  rw [memB_iff,memB_iff]
  exact ⟨fun ⟨r,hr,k⟩=>⟨r,hr,(inR_step hr h).1 k⟩,fun ⟨r,hr,k⟩=>⟨r,hr,(inR_step hr h).2 k⟩⟩
 exact Bool.eq_iff_iff.2 this
theorem memB_low {l:List R} {b z:Int} (hb:∀ x∈rawT l,b<x) (hz:z≤b):memB z l=lowB l:=by
 have:memB z l=true↔lowB l=true:=by
  rw [memB_iff]
  simp only [lowB,List.any_eq_true,mem]
  refine exists_congr fun r=>and_congr_right fun hr=>?_
  simp only [lowR,inR,Bool.and_eq_true,decide_eq_true_eq,Bool.not_eq_true',decide_eq_false_iff_not]
  refine and_congr ?_ ?_
  ·cases e:r.1 with
   | lo=>exact ⟨fun _=>rfl,fun _=>trivial⟩
   | hi=>exact ⟨fun k=>k.elim,fun k=>(by cases k)⟩
   | num x=>
    have:=hb x (raw_lo hr e)
    exact ⟨fun k=>(by have k:x≤z:=k;omega),fun k=>(by cases k)⟩
  ·cases e:r.2 with
   | lo=>exact ⟨fun k=>k.elim,fun k=>(k rfl).elim⟩
   | hi=>exact ⟨fun _ k=>(by cases k),fun _=>trivial⟩
   | num y=>
    have:=hb (y+1) (raw_hi hr e)
    exact ⟨fun _ k=>(by cases k),fun _=>show z≤y by omega⟩
 exact Bool.eq_iff_iff.2 this
def builtP (w:Bool→Bool→Bool) (a b:List R) (t:List Int):List R:=
 sweep (fun z=>w (memB z a) (memB z b)) (if w (lowB a) (lowB b)=true then some .lo else none) t
theorem exists_below:∀ t:List Int,∃ b,∀ x∈t,b<x
 | []=>⟨0,by simp⟩
 | x :: t=>by
  obtain ⟨b,h⟩:=exists_below t
  refine ⟨min b (x - 1),fun y hy=>?_⟩
  rcases List.mem_cons.1 hy with rfl | hy
  ·omega
  ·have:=h y hy;omega
theorem built_spec {w:Bool→Bool→Bool} {a b:List R} {t:List Int} (hp:t.Pairwise (· < ·)) (hta:∀ x∈rawT a,x∈t) (htb:∀ x∈rawT b,x∈t) :
  NF (builtP w a b t)∧∀ z,mem z (builtP w a b t)↔w (memB z a) (memB z b)=true:=by
 obtain ⟨c,hc⟩:=exists_below t
 exact sweep_NF hp (fun z hz=>by rw [memB_step fun h=>hz (hta _ h),memB_step fun h=>hz (htb _ h)]) hc
  (fun z hz=>by rw [memB_low (fun x hx=>hc x (hta x hx)) hz,memB_low (fun x hx=>hc x (htb x hx)) hz])
def pieceP:List R→Ed→Bool × Ed
 | [],_=>(false,.hi)
 | r :: d,low=>if leE r.1 low then (if leE low r.2 then (true,r.2) else pieceP d low) else (false,match r.1 with | .num x=>.num (x - 1) | e=>e)
def below (z:Int):Ed→Prop
 | .lo=>False
 | .num x=>z<x
 | .hi=>True
theorem memB_cons {z:Int} {r:R} {d:List R} : memB z (r :: d)=(inB z r || memB z d):=rfl
theorem piece_spec:∀ {d:List R} {low:Ed},NF d→low ≠ .hi→(∀ z,¬below z low→hib (pieceP d low).2 z→memB z d=(pieceP d low).1)∧((pieceP d low).2 = .hi∨∃ y,(pieceP d low).2 = .num y∧lob low y)
 | [],low,_,_=>⟨fun z _ _=>rfl,.inl rfl⟩
 | r :: d,low,h,hl=>by
  obtain ⟨z0,o1,o2⟩:=h.head
  by_cases c1:leE r.1 low
  ·by_cases c2:leE low r.2
   ·rw [show pieceP (r :: d) low=(true,r.2) from (if_pos c1).trans (if_pos c2)]
    refine ⟨fun z h1 h2=>?_,?_⟩
    ·refine memB_iff.2 (mem_cons.2 (.inl ⟨?_,h2⟩))
     refine leE_lob c1 ?_
     cases low with
     | lo=>trivial
     | hi=>exact (hl rfl).elim
     | num x=>show x≤z;exact Int.not_lt.1 h1
    ·cases e:r.2 with
     | hi=>exact .inl rfl
     | lo=>rw [e] at o2;exact o2.elim
     | num y=>
      refine .inr ⟨y,rfl,?_⟩
      rw [e] at c2
      cases low with
      | lo=>trivial
      | hi=>exact (hl rfl).elim
      | num x=>exact c2
   ·rw [show pieceP (r :: d) low=pieceP d low from (if_pos c1).trans (if_neg c2)]
    obtain ⟨i1,i2⟩:=piece_spec (low:=low) h.tail hl
    refine ⟨fun z h1 h2=>?_,i2⟩
    rw [memB_cons,i1 z h1 h2]
    have:inB z r=false:=by
     refine Bool.eq_false_iff.2 fun k=>?_
     have k2:=(inB_iff.1 k).2
     cases low with
     | lo=>exact c2 trivial
     | hi=>exact hl rfl
     | num x=>
      cases e:r.2 with
      | hi=>rw [e] at c2;exact c2 trivial
      | lo=>rw [e] at k2;exact k2
      | num y=>
       rw [e] at c2 k2
       have c2:¬x≤y:=c2
       have k2:z≤y:=k2
       have h1:¬z<x:=h1
       omega
    rw [this,Bool.false_or]
  ·cases e:r.1 with
   | lo=>rw [e] at c1;exact (c1 trivial).elim
   | hi=>rw [e] at o1;exact o1.elim
   | num x=>
    rw [show pieceP (r :: d) low=(false,.num (x - 1)) from by unfold pieceP;rw [if_neg c1,e]]
    rw [e] at c1
    refine ⟨fun z h1 h2=>?_,.inr ⟨x - 1,rfl,?_⟩⟩
    ·refine Bool.eq_false_iff.2 fun k=>?_
     have:=h.below (memB_iff.1 k)
     rw [e] at this
     have k1:x≤z:=this
     have k2:z≤x - 1:=h2
     omega
    ·cases low with
     | lo=>trivial
     | hi=>exact (hl rfl).elim
     | num y=>
      have c1:¬x≤y:=c1
      show y≤x - 1
      omega
structure MI (w:Bool→Bool→Bool) (a b out:List R) (low:Ed):Prop where
 ok:∀ r∈out,ok r
 srt:out.Pairwise fun r s=>leE r.1 s.1
 le:∀ r∈out,leE r.1 low
 mem:∀ z,mem z out↔below z low∧w (memB z a) (memB z b)=true
theorem MI.start {w:Bool→Bool→Bool} {a b:List R} : MI w a b [] .lo:=⟨by simp,List.Pairwise.nil,by simp,fun z=>⟨fun h=>(mem_nil h).elim,fun h=>h.1.elim⟩⟩
theorem mem_append {z:Int} {l m:List R} : mem z (l ++ m)↔mem z l∨mem z m:=by
 simp only [mem,List.mem_append]
 constructor
 ·rintro ⟨r,h | h,k⟩
  ·exact .inl ⟨r,h,k⟩
  ·exact .inr ⟨r,h,k⟩
 ·rintro (⟨r,h,k⟩ | ⟨r,h,k⟩)
  ·exact ⟨r,.inl h,k⟩
  ·exact ⟨r,.inr h,k⟩
def minE (a b:Ed):Ed:=if leE b a∧¬leE a b then b else a
theorem minE_hib {a b:Ed} {z:Int} (h:hib (minE a b) z):hib a z∧hib b z:=by
 unfold minE at h
 by_cases c:leE b a∧¬leE a b
 ·rw [if_pos c] at h
  exact ⟨leE_hib c.1 h,h⟩
 ·rw [if_neg c] at h
  refine ⟨h,leE_hib (a:=a) ?_ h⟩
  by_cases k:leE a b
  ·exact k
  ·exact (c ⟨leE_total k,k⟩).elim
theorem minE_or (a b:Ed):minE a b=a∨minE a b=b:=by
 unfold minE
 by_cases c:leE b a∧¬leE a b
 ·rw [if_pos c];exact .inr rfl
 ·rw [if_neg c];exact .inl rfl
theorem MI.step {w:Bool→Bool→Bool} {a b out:List R} {low:Ed} (h:MI w a b out low) (ha:NF a) (hb:NF b) (hl:low ≠ .hi) {e:Ed} (he:minE (pieceP a low).2 (pieceP b low).2=e) :
  MI w a b (out ++ if w (pieceP a low).1 (pieceP b low).1=true then [(low,e)] else []) (succE e)∧(e = .hi∨∃ y,e = .num y∧lob low y):=by
 obtain ⟨a1,a2⟩:=piece_spec (low:=low) ha hl
 obtain ⟨b1,b2⟩:=piece_spec (low:=low) hb hl
 have hcase:e = .hi∨∃ y,e = .num y∧lob low y:=by
  rw [←he]
  rcases minE_or (pieceP a low).2 (pieceP b low).2 with k | k <;> rw [k]
  ·exact a2
  ·exact b2
 have hle:leE low (succE e):=by
  rcases hcase with rfl | ⟨y,rfl,hy⟩
  ·cases low <;> trivial
  ·cases low with
   | lo=>trivial
   | hi=>exact (hl rfl).elim
   | num x=>have hy:x≤y:=hy;show x≤y+1;omega
 have hin:∀ z,¬below z low→hib e z→w (memB z a) (memB z b)=w (pieceP a low).1 (pieceP b low).1:=fun z h1 h2=>by
  rw [←he] at h2
  obtain ⟨k1,k2⟩:=minE_hib h2
  rw [a1 z h1 k1,b1 z h1 k2]
 have hbz:∀ z,below z (succE e)↔below z low∨(¬below z low∧hib e z):=fun z=>by
  rcases hcase with rfl | ⟨y,rfl,hy⟩
  ·by_cases k:below z low
   ·exact ⟨fun _=>.inl k,fun _=>trivial⟩
   ·exact ⟨fun _=>.inr ⟨k,trivial⟩,fun _=>trivial⟩
  ·show z<y+1↔below z low∨(¬below z low∧z≤y)
   cases low with
   | lo=>
    show z<y+1↔False∨(¬False∧z≤y)
    constructor
    ·exact fun k=>.inr ⟨id,by omega⟩
    ·rintro (k | ⟨_,k⟩)
     ·exact k.elim
     ·omega
   | hi=>exact (hl rfl).elim
   | num x=>
    have hy:x≤y:=hy
    show z<y+1↔z<x∨(¬z<x∧z≤y)
    omega
 have hlow:∀ z,inR z (low,e)↔¬below z low∧hib e z:=fun z=>by
  refine and_congr ?_ Iff.rfl
  cases low with
  | lo=>exact ⟨fun _=>id,fun _=>trivial⟩
  | hi=>exact (hl rfl).elim
  | num x=>exact ⟨fun k=>Int.not_lt.2 k,fun k=>Int.not_lt.1 k⟩
 refine ⟨?_,hcase⟩
 by_cases c:w (pieceP a low).1 (pieceP b low).1=true
 ·rw [if_pos c]
  refine ⟨fun r hr=>?_,?_,fun r hr=>?_,fun z=>?_⟩
  ·rcases List.mem_append.1 hr with hr | hr
   ·exact h.ok r hr
   ·obtain rfl:=List.mem_singleton.1 hr
    rcases hcase with rfl | ⟨y,rfl,hy⟩
    ·cases low with
     | lo=>exact ⟨0,trivial,trivial⟩
     | hi=>exact (hl rfl).elim
     | num x=>exact ⟨x,Int.le_refl x,trivial⟩
    ·exact ⟨y,hy,Int.le_refl y⟩
  ·refine List.pairwise_append.2 ⟨h.srt,List.pairwise_singleton _ _,fun r hr s hs=>?_⟩
   obtain rfl:=List.mem_singleton.1 hs
   exact h.le r hr
  ·rcases List.mem_append.1 hr with hr | hr
   ·exact leE_trans (h.le r hr) hle
   ·obtain rfl:=List.mem_singleton.1 hr
    exact hle
  ·rw [mem_append,h.mem,mem_cons,hlow,hbz]
   constructor
   ·rintro (⟨k1,k2⟩ | ⟨k1,k2⟩ | k)
    ·exact ⟨.inl k1,k2⟩
    ·exact ⟨.inr ⟨k1,k2⟩,by rw [hin z k1 k2];exact c⟩
    ·exact (mem_nil k).elim
   ·rintro ⟨k1 | ⟨k1,k2⟩,k3⟩
    ·exact .inl ⟨k1,k3⟩
    ·exact .inr (.inl ⟨k1,k2⟩)
 ·rw [if_neg c,List.append_nil]
  refine ⟨h.ok,h.srt,fun r hr=>leE_trans (h.le r hr) hle,fun z=>?_⟩
  rw [h.mem,hbz]
  constructor
  ·exact fun ⟨k1,k2⟩=>⟨.inl k1,k2⟩
  ·rintro ⟨k1 | ⟨k1,k2⟩,k3⟩
   ·exact ⟨k1,k3⟩
   ·rw [hin z k1 k2] at k3
    exact (c k3).elim
def fin (l:List R):Prop:=∀ r∈l,∃ x y,r=(.num x,.num y)
def cnt1 (n:Int):R→Int
 | (.num x,.num y)=>max 0 (min y n - x+1)
 | _=>0
def cnt (n:Int):List R→Int
 | []=>0
 | r :: l=>cnt1 n r+cnt n l
def size1:R→Int
 | (.num x,.num y)=>y - x+1
 | _=>0
def sizeP:List R→Int
 | []=>0
 | r :: l=>size1 r+sizeP l
def shE (n:Int):Ed→Ed
 | .num x=>.num (x+n)
 | e=>e
def mulE (n:Int):Ed→Ed
 | .num x=>.num (x * n)
 | .lo=>if 0<n then .lo else .hi
 | .hi=>if 0<n then .hi else .lo
def scR (n:Int) (r:R):R:=if 0<n then (mulE n r.1,mulE n r.2) else (mulE n r.2,mulE n r.1)
def tnA:Ed→List Int
 | .num x=>[x]
 | _=>[]
def tnB:Ed→List Int
 | .num y=>[y+1]
 | _=>[]
def tnR (r:R):List Int:=tnA r.1 ++ tnB r.2
def tnL (L:List R):List Int:=L.flatMap tnR
theorem tnL_append (L N:List R):tnL (L ++ N)=tnL L ++ tnL N:=by simp [tnL]
theorem tnL_take {L:List R} {k:Nat} {r:R} (h:L[k]?=some r):tnL (L.take (k+1))=tnL (L.take k) ++ tnA r.1 ++ tnB r.2:=by
 rw [List.take_add_one,h,tnL_append]
 simp [tnL,tnR]
theorem tnL_length (L:List R):(tnL L).length≤2 * L.length:=by
 induction L with
 | nil=>exact Nat.le_refl _
 | cons r L ih=>
  have e:tnL (r :: L)=tnR r ++ tnL L:=by simp [tnL]
  rw [e,List.length_append,List.length_cons]
  have:(tnR r).length≤2:=by
   obtain ⟨a,b⟩:=r
   cases a <;> cases b <;> simp [tnR,tnA,tnB]
  omega
def Asc (l:List Int):Prop:=l.Pairwise (· < ·)
theorem Asc.ins {l:List Int} {k:Nat} {z:Int} (h:Asc l) (h1:∀ x∈l.take k,x<z) (h2:∀ x∈l.drop k,z<x):Asc (l.take k ++ z :: l.drop k):=by
 have h3:Asc (l.take k ++ l.drop k):=by rw [List.take_append_drop];exact h
 obtain ⟨a,b,c⟩:=List.pairwise_append.1 h3
 refine List.pairwise_append.2 ⟨a,List.pairwise_cons.2 ⟨h2,b⟩,fun x hx y hy=>?_⟩
 rcases List.mem_cons.1 hy with rfl | hy
 ·exact h1 x hx
 ·exact c x hx y hy
theorem mem_ins {l:List Int} {k:Nat} {z x:Int} : x∈l.take k ++ z :: l.drop k↔x=z∨x∈l:=by
 constructor
 ·intro h
  rcases List.mem_append.1 h with h | h
  ·exact .inr (List.mem_of_mem_take h)
  ·rcases List.mem_cons.1 h with h | h
   ·exact .inl h
   ·exact .inr (List.mem_of_mem_drop h)
 ·rintro (rfl | h)
  ·exact List.mem_append_right _ List.mem_cons_self
  ·rw [←List.take_append_drop k l] at h
   rcases List.mem_append.1 h with h | h
   ·exact List.mem_append_left _ h
   ·exact List.mem_append_right _ (List.mem_cons_of_mem _ h)
theorem Asc.above {l:List Int} {k:Nat} {z:Int} (h:Asc l) (h2:∀ x,l[k]?=some x→z<x):∀ x∈l.drop k,z<x:=by
 intro x hx
 cases e:l.drop k with
 | nil=>rw [e] at hx;cases hx
 | cons y t=>
  have hy:l[k]?=some y:=by
   have:=congrArg (fun m=>m[0]?) e
   simpa using this
  rw [e] at hx
  rcases List.mem_cons.1 hx with rfl | hx
  ·exact h2 _ hy
  ·have h3:Asc (l.take k ++ l.drop k):=by rw [List.take_append_drop];exact h
   obtain ⟨_,b,_⟩:=List.pairwise_append.1 h3
   rw [e] at b
   have:=(List.pairwise_cons.1 b).1 x hx
   have:=h2 _ hy
   omega
end Hf
namespace Ht
inductive Tm where
 | mk (k:Int) (n m:List UInt8) (b v:Int) (as_:List Tm):Tm
namespace Tm
def k:Tm→Int | mk k _ _ _ _ _=>k
def n:Tm→List UInt8 | mk _ n _ _ _ _=>n
def m:Tm→List UInt8 | mk _ _ m _ _ _=>m
def b:Tm→Int | mk _ _ _ b _ _=>b
def v:Tm→Int | mk _ _ _ _ v _=>v
def as:Tm→List Tm | mk _ _ _ _ _ as_=>as_
end Tm
instance:Inhabited Tm:=⟨.mk 0 [] [] 0 0 []⟩
mutual
/-- how many nodes -/
def sz:Tm→Nat
 | .mk _ _ _ _ _ as_=>szs as_+1
def szs:List Tm→Nat
 | []=>0
 | a :: as_=>sz a+szs as_
end
theorem sz_pos (t:Tm):0<sz t:=by cases t;simp [sz]
theorem sz_mem {a:Tm} {as_:List Tm} (h:a∈as_):sz a≤szs as_:=by
 induction as_ with
 | nil=>cases h
 | cons x as_ ih=>
  simp only [szs]
  rcases List.mem_cons.1 h with rfl | h
  ·omega
  ·have:=ih h;omega
theorem Tm.ind {p:Tm→Prop} (h:∀ k n m b v as_,(∀ a∈as_,p a)→p (.mk k n m b v as_)) (t:Tm):p t:=by
 have key:∀ N t,sz t≤N→p t:=by
  intro N
  induction N with
  | zero=>intro t ht;have:=sz_pos t;omega
  | succ N ih=>
   intro t ht
   obtain ⟨k,n,m,b,v,as_⟩:=t
   refine h _ _ _ _ _ _ (fun a ha=>ih a ?_)
   have:=sz_mem ha
   simp only [sz] at ht
   omega
 exact key _ t (Nat.le_refl _)
mutual
def cnt:Tm→Nat→Nat
 | .mk _ _ _ _ _ as_,n=>cnts as_ (n+1)
def cnts:List Tm→Nat→Nat
 | [],n=>n
 | a :: as_,n=>if 4000<n then n else cnts as_ (cnt a n)
end
theorem cnts_le:∀ (as_:List Tm),(∀ a∈as_,∀ n,n≤cnt a n)→∀ n,n≤cnts as_ n
 | [],_,n=>by simp [cnts]
 | a :: as_,h,n=>by
  simp only [cnts]
  split
  ·omega
  ·have h1:=h a (by simp) n
   have h2:=cnts_le as_ (fun x hx=>h x (by simp [hx])) (cnt a n)
   omega
theorem cnt_ge (t:Tm):∀ n,n≤cnt t n:=by
 refine Tm.ind (p:=fun t=>∀ n,n≤cnt t n) (fun k nm m b v as_ ih n=>?_) t
 simp only [cnt]
 have:=cnts_le as_ ih (n+1)
 omega
theorem cnts_ge (as_:List Tm) (n:Nat):n≤cnts as_ n:=cnts_le as_ (fun a _=>cnt_ge a) n
def Counts (f:Nat→Nat) (s:Nat):Prop:=∀ n,(n+s≤4000→f n=n+s)∧(4000<n+s→4000<f n)∧f n≤n+s
theorem cnts_counts:∀ (as_:List Tm),(∀ a∈as_,Counts (cnt a) (sz a))→Counts (cnts as_) (szs as_)
 | [],_=>fun n=>by simp [cnts,szs]
 | a :: as_,h=>fun n=>by
  have ha:=h a (by simp)
  have hs:=cnts_counts as_ (fun x hx=>h x (by simp [hx]))
  simp only [cnts,szs]
  by_cases hn:4000<n
  ·rw [if_pos hn];refine ⟨fun h=>by omega,fun _=>hn,by omega⟩
  ·rw [if_neg hn]
   obtain ⟨a1,a2,a3⟩:=ha n
   obtain ⟨b1,b2,b3⟩:=hs (cnt a n)
   refine ⟨fun h=>?_,fun h=>?_,by omega⟩
   ·rw [b1 (by omega),a1 (by omega)];omega
   ·by_cases hc:n+sz a≤4000
    ·rw [a1 hc] at b2 ⊢
     exact b2 (by omega)
    ·have:=a2 (by omega)
     have:=cnts_ge as_ (cnt a n)
     omega
theorem cnt_counts (t:Tm):Counts (cnt t) (sz t):=by
 refine Tm.ind (p:=fun t=>Counts (cnt t) (sz t)) (fun k nm m b v as_ ih=>?_) t
 intro n
 obtain ⟨a1,a2,a3⟩:=cnts_counts as_ ih (n+1)
 simp only [cnt,sz]
 exact ⟨fun h=>by rw [a1 (by omega)];omega,fun h=>a2 (by omega),by omega⟩
def nodes (t:Tm):Nat:=min (cnt t 0) 4001
theorem nodes_le {t:Tm} : nodes t≤4000↔sz t≤4000:=by
 obtain ⟨h1,h2,_⟩:=cnt_counts t 0
 unfold nodes
 constructor
 ·intro h
  refine Decidable.byContradiction fun hn=>?_
  have:=h2 (by omega)
  omega
 ·intro h
  rw [h1 (by omega)]
  omega
section
variable (utf canon:List UInt8→Bool) (flo:Int→Bool)
def stray (t:Tm):Bool:=
 (t.n ≠ [] && t.k≠2 && t.k≠5) || (t.m ≠ [] && t.k≠3) || (t.b≠0 && t.k≠4) || (t.v≠0 && t.k≠1) || (t.as.length≠0 && t.k≠5)
def one (t:Tm):Int:=
 if t.k<1∨5<t.k∨stray t=true∨t.v<0∨(t.k=5∧(t.as.length=0∨64<t.as.length)) then 20
 else if utf t.n=false∨1000<t.n.length then 21
 else if t.k=3∧canon t.m=false then 22
 else if t.k=4∧flo t.b=false then 23
 else 0
mutual
def errs:Tm→Int
 | .mk k n m b v as_=>if one utf canon flo (.mk k n m b v as_)≠0 then one utf canon flo (.mk k n m b v as_) else errss as_
def errss:List Tm→Int
 | []=>0
 | a :: as_=>if errs a≠0 then errs a else errss as_
end
def check (t:Tm):Int:=if 4000<nodes t then 24 else errs utf canon flo t
end
end Ht
namespace Ht
def atomT (s:List UInt8):Tm:=.mk 2 s [] 0 0 []
def cmpT (s:List UInt8) (as_:List Tm):Tm:=.mk 5 s [] 0 0 as_
end Ht
namespace Ht
section
variable {utf canon:List UInt8→Bool} {flo:Int→Bool}
theorem errss_iff {as_:List Tm} : errss utf canon flo as_=0↔∀ a∈as_,errs utf canon flo a=0:=by
 induction as_ with
 | nil=>simp [errss]
 | cons a as_ ih=>
  rw [errss]
  by_cases h:errs utf canon flo a=0
  ·rw [if_neg (by simp [h]),ih];simp [h]
  ·rw [if_pos h];simp [h]
theorem errs_iff {t:Tm} : errs utf canon flo t=0↔one utf canon flo t=0∧∀ a∈t.as,errs utf canon flo a=0:=by
 obtain ⟨k,n,m,b,v,as_⟩:=t
 rw [errs,←errss_iff]
 show _↔_∧errss utf canon flo as_=0
 by_cases h:one utf canon flo (.mk k n m b v as_)=0
 ·rw [if_neg (by simp [h])];simp [h]
 ·rw [if_pos h];simp [h]
theorem check_iff {t:Tm} : check utf canon flo t=0↔sz t≤4000∧errs utf canon flo t=0:=by
 unfold check
 by_cases h:4000<nodes t
 ·rw [if_pos h]
  have:¬sz t≤4000:=fun h2=>by rw [←nodes_le] at h2;omega
  simp [this]
 ·rw [if_neg h]
  have:sz t≤4000:=nodes_le.1 (by omega)
  simp [this]
theorem sz_arg {t a:Tm} (h:a∈t.as):sz a<sz t:=by
 obtain ⟨k,n,m,b,v,as_⟩:=t
 have:=sz_mem (show a∈as_ from h)
 simp only [sz];omega
theorem check_arg {t a:Tm} (h:check utf canon flo t=0) (ha:a∈t.as):check utf canon flo a=0:=by
 rw [check_iff] at h ⊢
 have:=sz_arg ha
 exact ⟨by omega,(errs_iff.1 h.2).2 a ha⟩
theorem one_iff {t:Tm} : one utf canon flo t=0↔(1≤t.k∧t.k≤5)∧stray t=false∧0≤t.v∧(t.k=5→1≤t.as.length∧t.as.length≤64)∧utf t.n=true∧t.n.length≤1000∧(t.k=3→canon t.m=true)∧(t.k=4→flo t.b=true):=by
 unfold one
 by_cases h1:t.k<1∨5<t.k∨stray t=true∨t.v<0∨(t.k=5∧(t.as.length=0∨64<t.as.length))
 ·rw [if_pos h1]
  constructor
  ·intro h;cases h
  ·rintro ⟨a1,a2,a3,a4,_⟩
   rcases h1 with h | h | h | h | ⟨h,h2⟩
   ·omega
   ·omega
   ·rw [a2] at h;cases h
   ·omega
   ·have:=a4 h;omega
 ·rw [if_neg h1]
  have hs:stray t=false:=by
   cases h:stray t with
   | false=>rfl
   | true=>exact absurd (.inr (.inr (.inl h))) h1
  have h5:t.k=5→1≤t.as.length∧t.as.length≤64:=fun h=>by
   constructor
   ·refine Decidable.byContradiction fun hn=>h1 (.inr (.inr (.inr (.inr ⟨h,.inl (by omega)⟩))))
   ·refine Decidable.byContradiction fun hn=>h1 (.inr (.inr (.inr (.inr ⟨h,.inr (by omega)⟩))))
  have hk:1≤t.k∧t.k≤5:=⟨Decidable.byContradiction fun hn=>h1 (.inl (by omega)),Decidable.byContradiction fun hn=>h1 (.inr (.inl (by omega)))⟩
  have hv:0≤t.v:=Decidable.byContradiction fun hn=>h1 (.inr (.inr (.inr (.inl (by omega)))))
  by_cases h2:utf t.n=false∨1000<t.n.length
  ·rw [if_pos h2]
   constructor
   ·intro h;cases h
   ·rintro ⟨_,_,_,_,a5,a6,_⟩
    rcases h2 with h | h
    ·rw [a5] at h;cases h
    ·omega
  ·rw [if_neg h2]
   have hu:utf t.n=true:=by
    cases h:utf t.n with
    | true=>rfl
    | false=>exact absurd (.inl h) h2
   have hl:t.n.length≤1000:=Decidable.byContradiction fun hn=>h2 (.inr (by omega))
   by_cases h3:t.k=3∧canon t.m=false
   ·rw [if_pos h3]
    constructor
    ·intro h;cases h
    ·rintro ⟨_,_,_,_,_,_,a7,_⟩
     rw [a7 h3.1] at h3;cases h3.2
   ·rw [if_neg h3]
    have hc:t.k=3→canon t.m=true:=fun h=>by
     cases h9:canon t.m with
     | true=>rfl
     | false=>exact absurd ⟨h,h9⟩ h3
    by_cases h4:t.k=4∧flo t.b=false
    ·rw [if_pos h4]
     constructor
     ·intro h;cases h
     ·rintro ⟨_,_,_,_,_,_,_,a8⟩
      rw [a8 h4.1] at h4;cases h4.2
    ·rw [if_neg h4]
     have hf:t.k=4→flo t.b=true:=fun h=>by
      cases h9:flo t.b with
      | true=>rfl
      | false=>exact absurd ⟨h,h9⟩ h4
     exact ⟨fun _=>⟨hk,hs,hv,h5,hu,hl,hc,hf⟩,fun _=>rfl⟩
theorem check_one {t:Tm} (h:check utf canon flo t=0):one utf canon flo t=0:=(errs_iff.1 (check_iff.1 h).2).1
end
end Ht
