/- Made queries answer as specified (part Wt) -/
import Derived.Test.YtnmibokjpedkiaaGreatDoorWq
set_option maxRecDepth 100000
set_option maxHeartbeats 4000000
set_option linter.all false
namespace Go.Proofs.YtnmibokjpedkiaaGreatDoor
open Go.Am
section
attribute [local simp, local push_cast] num boo str
abbrev KV (k:Int) (v:Val):Prop:=v.kind=0\/v.kind=k
def KR (ts:List Int) (r:Row):Prop:= ∀c,c<ts.length->KV (ts.getD c default) (r.getD c default)
def KX (ts:List Int) (k:Int) (e:Ex):Prop:= ∀row:Row,KR ts row->KV k (zG row e)
theorem yS (k:Int):KV k zl:= .inl rfl
theorem gd (b:Bool):KV 2 (ofV b):= .inr rfl
theorem xJ {c:Prop} [Decidable c] {k:Int} {a b:Val} (ha:KV k a) (hb:KV k b):KV k (if c then a else b):=by split<;>assumption
theorem kv_equal (a b:Val):KV 2 (yY a b):=xJ (yS _) (gd _)
theorem kv_less (a b:Val):KV 2 (vL a b):=xJ (yS _) (gd _)
theorem kv_not (a:Val):KV 2 (notM a):=xJ (yS _) (gd _)
theorem kv_and (a b:Val):KV 2 (andM a b):=xJ (gd _) (xJ (yS _) (gd _))
theorem kv_or (a b:Val):KV 2 (orM a b):=xJ (gd _) (xJ (yS _) (gd _))
theorem kv_in (v:Val): ∀(l:List Val) (out:Val),KV 2 out->KV 2 (inM v out l)
 | [],out,h=>h
 | x::l,out,h=>kv_in v l _ (kv_or _ _)
theorem kv_valid (v:Val) (k:Int) (h:v.kind=k):KV k (vc v):=xJ (.inr h) (yS _)
theorem kv_arith {op k:Int} {a b:Val} (h:k=1/\op≠12\/k=3/\KV 3 a):KV k (u6 op a b):=by
 unfold u6
 split
 ·exact yS _
 rename_i hv;have h0:a.kind≠0\/a.kind=0:=Za
 split
 ·rename_i h1;rcases h with ⟨rfl,_⟩ | ⟨rfl,h3⟩
  ·exact xJ (kv_valid _ 1 rfl) (yS _)
  ·rcases h3 with h3 | h3<;>omega
 ·split
  ·rename_i h1 h2;rcases h with ⟨rfl,h3⟩ | ⟨rfl,h3⟩
   ·exact absurd h2.2 h3
   ·exact kv_valid _ 3 rfl
  ·exact yS _
theorem kv_bool {op:Int} (h:14<=op/\op<=25\/op=28) (l:List Val):KV 2 (zB op l):=by
 have:op=14\/op=15\/op=16\/op=17\/op=18\/op=19\/op=20\/op=21\/op=22\/op=23\/op=24\/op=25\/op=28:=Za;rcases this with rfl | rfl | rfl | rfl | rfl | rfl | rfl | rfl | rfl | rfl | rfl | rfl | rfl
 ·exact kv_equal _ _
 ·exact kv_not _
 ·exact kv_less _ _
 ·exact kv_not _
 ·exact kv_less _ _
 ·exact kv_not _
 ·exact gd _
 ·exact gd _
 ·exact kv_and _ _
 ·exact kv_or _ _
 ·exact kv_not _
 ·exact gd _
 ·exact kv_in _ _ _ (gd _)
theorem qg (row:Row) {op:Int} (h:6<=op) (h2:op≠26) (ks:List Ex) {k:Int} (ha:KV k (zB op (ks.map (zG row)))):KV k (zG row (bin op ks)):=by
 rw [wM];unfold yf;show KV k (if yU (bin op ks)=false then zl else if op=2 then _ else if op=3 then _ else if op=4 then _ else if op=5 then _ else if op=26 then _ else zB op (ks.map (zG row)));rw [if_neg (show¬op=2 from Za),if_neg (show¬op=3 from Za),if_neg (show¬op=4 from Za),if_neg (show¬op=5 from Za),if_neg h2];exact xJ (yS _) ha
theorem kv_mvals {k:Int} {v:Val} (h:v∈yK k):KV k v:=by
 unfold yK at h;rcases YB.1 h with rfl | h
 ·exact .inl rfl
 split at h
 ·rename_i hk;obtain ⟨n,_,rfl⟩:=Yv.1 h;exact .inr hk.symm
 split at h
 ·rename_i hk;simp only [YB,List.not_mem_nil,or_false] at h;rcases h with rfl | rfl<;>exact .inr hk.symm
 split at h
 ·rename_i hk;obtain ⟨n,_,rfl⟩:=Yv.1 h;exact .inr hk.symm
 ·cases h
theorem kv_at {l:List Val} {k:Int} (h: ∀v∈l,KV k v) (n:Nat):KV k (l.getD n default):=by
 by_cases hn:n<l.length
 ·exact h _ (zk hn)
 ·rw [Yf,List.getElem?_eq_none Za];exact .inl rfl
theorem KF{p:Prop}(h:p:=by
 subst this;rw [wM];exact xJ (yS _) (.inr rfl)):p:=h
theorem kx_const {v:Val} {k:Int} (h:KV k v) (row:Row):KV k (zG row (kj v k)):=by
 unfold kj
 split
 ·rename_i h1;have:k=1:=by rcases h with h | h<;>omega
  exact KF
 split
 ·rename_i h1;have:k=2:=by rcases h with h | h<;>omega
  exact KF
 split
 ·rename_i h1;have:k=3:=by rcases h with h | h<;>omega
  exact KF
 ·rw [wM];exact xJ (yS _) (yS _)
theorem KL{p:Prop}(h:p:=by
 rw [if_pos rfl];exact kv_at (fun v=>kv_mvals) _):p:=h
theorem kx_pick (xs ts:List Int) {k:Int} (p:Nat):KX ts k (xg xs ts k p).1:=by
 intro row hrow;have hd:=zu xs p (n:=((cols ts k).length:Int)+2) Za;unfold xg
 split
 ·have hm:(cols ts k).getD (drawn xs p ((cols ts k).length+2)).toNat default∈cols ts k:=zk Za;obtain ⟨j,h1,h2,h3⟩:=cols_mem hm;rw [wM];unfold yf;refine xJ (yS _) ?_;show KV k (if 0<=((cols ts k).getD (drawn xs p ((cols ts k).length+2)).toNat default)/\((cols ts k).getD (drawn xs p ((cols ts k).length+2)).toNat default)<row.length then row.getD ((cols ts k).getD (drawn xs p ((cols ts k).length+2)).toNat default).toNat default else zl);rw [h1,YA];refine xJ ?_ (yS _);have:=hrow j h2;rw [show ts.getD j default=ts.getD j 0 from rfl,h3] at this;exact this
 ·refine kx_const ?_ row;unfold u9;exact KL
theorem eval_case (row:Row) (ks:List Ex) {k:Int} (h1:KV k ((ks.map (zG row)).getD 1 default)) (h2:KV k ((ks.map (zG row)).getD 2 default)):KV k (zG row (bin 26 ks)):=by
 rw [wM];refine xJ (yS _) ?_;show KV k (if zM ((ks.map (zG row)).getD 0 default)=1 then (ks.map (zG row)).getD 1 default else (ks.map (zG row)).getD 2 default);exact xJ h1 h2
theorem kx_step {xs ts:List Int} {f:Int->Nat->Ex×Nat} {k:Int} (hf: ∀q,KX ts k (f k q).1) (p:Nat) (hk:Kn k):KX ts k (yn xs ts f k p).1:=by
 intro row hrow;have hv: ∀q,KV k (zG row (f k q).1):=fun q=>hf q row hrow;have hB: ∀{op:Int},(14<=op/\op<=25\/op=28)-> ∀ks,KV 2 (zG row (bin op ks)):=fun h ks=>qg row Za Za ks (kv_bool h _);have d5:=zu xs (p+2) (n:=5) Za;unfold yn
 split
 ·exact kx_pick xs ts _ row hrow
 split
 ·exact eval_case row _ (hv _) (hv _)
 split
 ·refine qg row Za Za _ ?_;show KV k (if (zG row (f k (p+2)).1).kind=0 then zG row (f k (f k (p+2)).2).1 else zG row (f k (p+2)).1);exact xJ (hv _) (hv _)
 split
 ·rename_i h1;subst h1
  split
  ·refine qg row Za Za _ ?_;unfold zB;rw [if_pos Za];exact kv_arith (.inl ⟨rfl,Za⟩)
  split
  ·exact qg row Za Za _ (kv_arith (.inl ⟨rfl,Zi⟩))
  ·refine qg row Za Za _ ?_;show KV 1 (if (zG row (f 3 (p+3)).1).kind=3 then ⟨1,(zG row (f 3 (p+3)).1).text.size,ByteArray.empty⟩ else zl);exact xJ (.inr rfl) (yS _)
 split
 ·rename_i h3;subst h3;exact qg row Za Za _ (kv_arith (.inr ⟨rfl,hv _⟩))
 ·have:k=2:=Za;subst this;unfold qo;have e2:=zu xs (p+3+1) (n:=2) Za;have e7:=zu xs (p+3+1) (n:=7) Za
  split
  ·exact hB Za _
  split
  ·exact hB Za _
  split
  ·exact hB Za _
  split
  ·exact hB Za _
  ·exact hB Za _
theorem kx_expr (xs ts:List Int) {k:Int} (hk:Kn k): ∀(d:Nat) (p:Nat),KX ts k (ye xs ts d k p).1
 | 0,p=>kx_pick xs ts p
 | 1,p=>kx_pick xs ts p
 | d+2,p=>kx_step (kx_expr xs ts hk (d+1)) p hk
theorem kr_app {a b:List Int} {r t:Row} (hl:r.length=a.length) (ha:KR a r) (hb:KR b t):KR (a++b) (r++t):=fun c hc=>by
 rw [Yb] at hc;simp only [Yf];by_cases h:c<a.length
 ·rw [List.getElem?_append_left h,List.getElem?_append_left Za,←Yf,←Yf];exact ha c h
 ·rw [List.getElem?_append_right Za,List.getElem?_append_right Za,←Yf,←Yf,hl];exact hb _ Za
theorem kr_nulls (ts:List Int) (n:Nat):KR ts (zX n):=fun c _=>by
 unfold zX;by_cases h:c<n
 ·have:(List.replicate n zl).getD c default∈List.replicate n zl:=zk (Zc h);rw [Uv this];exact yS _
 ·have:(List.replicate n zl).getD c default=default:=by rw [Yf,List.getElem?_eq_none (by rw [YQ];omega)];rfl
  rw [this];exact .inl rfl
theorem kr_nil (r:Row):KR [] r:=fun c h=>absurd h Zd
def First (cs:List Col):Prop:=1<=cs.length/\(cs.getD 0 default).type=1
theorem First.app {a:List Col} (h:First a) (b:List Col):First (a++b):=by
 refine ⟨by rw [Yb];have:=h.1;omega,?_⟩;rw [Yf,List.getElem?_append_left (by have:=h.1;omega),<-Yf];exact h.2
theorem forM_first (xs:List Int) (i:Nat): ∀(n k:Nat) (cols:List Col) (fs:List Fk) (q:Nat),First cols->First (forM xs i n k cols fs q).1
 | 0,_,_,_,_,h=>h
 | n+1,k,cols,fs,q,h=>by
   simp only [forM]
   split
   ·exact h
   ·split
    ·exact forM_first xs i n (k+1) _ _ _ (h.app _)
    ·exact h
theorem schemaM_first (xs:List Int) (p:Nat): ∀T∈(xe xs p).1,First T.columns:=by
 have key: ∀n,∀t∈(xM xs p n).1,First t.columns:=by
  intro n
  induction n with
  | zero=>simp [xM]
  | succ n ih=>
    intro t ht;simp only [xM,Yr,YK] at ht;rcases ht with ht | rfl
    ·exact ih t ht
    ·simp only [tblM,x9];exact forM_first _ _ _ _ _ _ _ ⟨by rw [gT];omega,rfl⟩
 exact key _
def KI (s:Sch) (i:Inst):Prop:= ∀n,n<s.length-> ∀r∈i.getD n default,KR (yd (s.getD n default)) r
theorem kr_row (xs:List Int) {cs:List Col} (h1:First cs) (p k:Nat):KR (cs.map (·.type)) (rowI xs cs p k):=fun c hc=>by
 have hc':c<cs.length:=Zc hc;have hS:KV ((cs.map (·.type)).getD c default) ((rowS xs cs p cs.length).getD c default):=by
  rw [vk (fun x:Col=>x.type) cs c hc'];have e:(rowS xs cs p cs.length).getD c default=qU xs (cs.getD c default).type true (p+c):=by
   unfold rowS;rw [Yf,List.getElem?_map,List.getElem?_range hc'];rfl
  rw [e];unfold qU;exact KL
 unfold rowI
 split
 ·by_cases h0:c=0
  ·subst h0;rw [vk (fun x:Col=>x.type) cs 0 hc',h1.2];have:((rowS xs cs p cs.length).set 0 ⟨1,k+1,ByteArray.empty⟩).getD 0 default=⟨1,k+1,ByteArray.empty⟩:=by
    rw [Yf,List.getElem?_set_self (by rw [kS];omega)];rfl
   rw [this];exact .inr rfl
  ·have:((rowS xs cs p cs.length).set 0 ⟨1,k+1,ByteArray.empty⟩).getD c default=(rowS xs cs p cs.length).getD c default:=by
    rw [Yf,List.getElem?_set_ne (Ne.symm h0),<-Yf]
   rw [this];exact hS
 ·exact hS
theorem inst_kinds (xs:List Int) (most:Int) {s:Sch} (h1: ∀T∈s,First T.columns) (p:Nat):KI s (ge xs most s p).1:=fun n hn r hr=>by
 obtain ⟨q,m,h⟩:=instTo_at xs most s p s.length n hn;unfold ge at hr;rw [h] at hr;simp only [tabI,Yv] at hr;obtain ⟨k,_,rfl⟩:=hr;exact kr_row xs (h1 _ (zk hn)) _ _
theorem ev_ks {s:Sch} {i:Inst} {q:Qr} {rows:List Row} (h:evQ grP s i q=some rows): ∃ks:List (List Row),q.kids.map (evQ grP s i)=ks.map some/\rows=outM grP s i q (typQ s (q.kids.getD 0 default)).1.length (typQ s (q.kids.getD 1 default)).1.length (ks.getD 0 []) (ks.getD 1 []):=by
 rw [gp] at h;cases hall:allO (q.kids.map (evQ grP s i)) with
 | none=>rw [hall] at h;cases h
 | some ks=>
   rw [hall] at h;exact ⟨ks,allO_some hall,(ev_rows (show evOp grP s i q ks=some rows from h)).1⟩
theorem ev_o1 {s:Sch} {i:Inst} {q a:Qr} (hk:q.kids=[a]) {rows:List Row} (h:evQ grP s i q=some rows): ∃k0,evQ grP s i a=some k0/\ ∃w,rows=outM grP s i q (typQ s a).1.length w k0 []:=by
 obtain ⟨ks,h1,h2⟩:=ev_ks h;rw [hk] at h1 h2;cases ks with
 | nil=>simp at h1
 | cons k ks=>
   cases ks with
   | nil=>exact ⟨k,Zc h1,_,h2⟩
   | cons k2 ks=>simp at h1
theorem ev_o2 {s:Sch} {i:Inst} {q a b:Qr} (hk:q.kids=[a,b]) {rows:List Row} (h:evQ grP s i q=some rows): ∃k0 k1,evQ grP s i a=some k0∧evQ grP s i b=some k1∧rows=outM grP s i q (typQ s a).1.length (typQ s b).1.length k0 k1:=by
 obtain ⟨ks,h1,h2⟩:=ev_ks h;rw [hk] at h1 h2;cases ks with
 | nil=>simp at h1
 | cons k ks=>
   cases ks with
   | nil=>simp at h1
   | cons k2 ks=>
     cases ks with
     | nil=>
       simp only [Y0,U7,List.cons.injEq,and_true] at h1;exact ⟨k,k2,h1.1,h1.2,h2⟩
     | cons k3 ks=>simp at h1
structure QK (s:Sch) (i:Inst) (q:Qr) (ts:List Int):Prop where
 len:(typQ s q).1.length=ts.length
 kin: ∀rows,evQ grP s i q=some rows-> ∀r∈rows,KR ts r
abbrev QS (s:Sch) (i:Inst) (q:Qr) (ts:List Int):Prop:=(typQ s q).2=0->QK s i q ts
theorem kid1 {s:Sch} {q a:Qr} (hk:q.kids=[a]) (h:(typQ s q).2=0):(typQ s a).2=0:=(xH h).kid a (ZP hk)
theorem kid2 {s:Sch} {q a b:Qr} (hk:q.kids=[a,b]) (h:(typQ s q).2=0):(typQ s a).2=0/\(typQ s b).2=0:=⟨(xH h).kid a (ZP hk),(xH h).kid b (ZP hk)⟩
theorem s_sel {s:Sch} {i:Inst} {a:Qr} {ts:List Int} (h:QS s i a ts) (c:Ex):QS s i (qSel c a) ts:=fun ht=>by
 obtain ⟨h1,h2⟩:=h (kid1 (q:=qSel c a) rfl ht);refine ⟨by rw [(xH ht).same (.inl rfl)];exact h1,fun rows hr r hm=>?_⟩;obtain ⟨k0,e1,w,e2⟩:=ev_o1 (q:=qSel c a) rfl hr;rw [e2] at hm;exact h2 _ e1 r (Uj.1 (show r∈k0.filter (okC (qSel c a)) from hm)).1
theorem s_dist {s:Sch} {i:Inst} {a:Qr} {ts:List Int} (h:QS s i a ts):QS s i (qDist a) ts:=fun ht=>by
 obtain ⟨h1,h2⟩:=h (kid1 (q:=qDist a) rfl ht);refine ⟨by rw [(xH ht).same (.inr rfl)];exact h1,fun rows hr r hm=>?_⟩;obtain ⟨k0,e1,w,e2⟩:=ev_o1 (q:=qDist a) rfl hr;rw [e2] at hm;exact h2 _ e1 r (((wC k0).2 r).1 (show r∈jb k0 from hm))
theorem kr_map {ts:List Int} {es:List Ex} {r:Row} (hl:es.length=ts.length) (h: ∀c,c<ts.length->KV (ts.getD c default) (zG r (es.getD c default))):KR ts (es.map (zG r)):=fun c hc=>by
 rw [vk (zG r) es c Za];exact h c hc
theorem s_proj {s:Sch} {i:Inst} {a:Qr} {ts out:List Int} {es:List Ex} (h:QS s i a ts) (hl:es.length=out.length) (he: ∀c,c<out.length->KX ts (out.getD c default) (es.getD c default)):QS s i (jo es a) out:=fun ht=>by
 obtain ⟨h1,h2⟩:=h (kid1 (q:=jo es a) rfl ht);refine ⟨by rw [(xH ht).proj rfl];exact hl,fun rows hr r hm=>?_⟩;obtain ⟨k0,e1,w,e2⟩:=ev_o1 (q:=jo es a) rfl hr;rw [e2] at hm;obtain ⟨x,hx,rfl⟩:=Yv.1 (show r∈k0.map (keyR (jo es a)) from hm);exact kr_map hl fun c hc=>he c hc x (h2 _ e1 x hx)
theorem s_set {s:Sch} {i:Inst} {a b:Qr} {ts:List Int} {op:Int} {al:Bool} (hop:op=6\/op=7\/op=8) (h:QS s i a ts) (hb:(typQ s b).2=0-> ∀rows,evQ grP s i b=some rows-> ∀r∈rows,KR ts r):QS s i (qSet op al a b) ts:=fun ht=>by
 obtain ⟨t1,t2⟩:=kid2 (q:=qSet op al a b) rfl ht;obtain ⟨h1,h2⟩:=h t1;refine ⟨by rw [((xH ht).sets hop).1];exact h1,fun rows hr r hm=>?_⟩;obtain ⟨k0,k1,e1,e2,e3⟩:=ev_o2 (q:=qSet op al a b) rfl hr;rw [e3] at hm;have hc: ∃t,r∈wg t k0 k1:=by
  rcases hop with rfl | rfl | rfl
  ·exact ⟨_,hm⟩
  ·exact ⟨_,hm⟩
  ·exact ⟨_,hm⟩
 obtain ⟨t,hc⟩:=hc;exact (combM_mem hc).elim (h2 _ e1 r) (hb t2 _ e2 r)
theorem s_join {s:Sch} {i:Inst} (hi:OkI s i) {a b:Qr} {ts ms:List Int} {k:Int} {c:Ex} (hxa:OkXQ a) (hxb:OkXQ b) (ha:QS s i a ts) (hb:QS s i b ms):QS s i (qJoin k c a b) (if k<5 then ts++ms else ts):=fun ht=>by
 obtain ⟨t1,t2⟩:=kid2 (q:=qJoin k c a b) rfl ht;obtain ⟨a1,a2⟩:=ha t1;obtain ⟨b1,b2⟩:=hb t2;obtain ⟨j1,_,j3⟩:=(xH ht).join rfl;have j1:1<=k/\k<=6:=j1;have j3:(typQ s (qJoin k c a b)).1.length=if k=5\/k=6 then (typQ s a).1.length else (typQ s a).1.length+(typQ s b).1.length:=j3
 refine ⟨?_,fun rows hr x hx=>?_⟩
 ·rw [j3,a1,b1];by_cases h5:k<5
  ·rw [if_neg Za,if_pos h5,Yb]
  ·rw [if_pos Za,if_neg h5]
 obtain ⟨k0,k1,e1,e2,e3⟩:=ev_o2 (q:=qJoin k c a b) rfl hr;have ra:=go grP_ok hi a hxa t1 k0 e1;have rb:=go grP_ok hi b hxb t2 k1 e2;rw [a1] at ra;rw [b1] at rb;rw [e3] at hx;have hx:x∈jnM (qJoin k c a b) (typQ s a).1.length (typQ s b).1.length k0 k1:=hx;rw [a1,b1] at hx;unfold jnM at hx;rcases Yr.1 hx with hx | hx
 ·obtain ⟨r,hr,hx⟩:=List.mem_flatMap.1 hx;have h1:=ra.wid r hr;have h2:=a2 _ e1 r hr;unfold wL tailJ at hx;rcases Yr.1 hx with hx | hx
  ·split at hx
   ·rename_i h5;have h5:k<5:=h5;obtain ⟨t,ht,rfl⟩:=Yv.1 hx;have ht:=(Uj.1 ht).1;rw [if_pos h5];exact kr_app h1 h2 (b2 _ e2 t ht)
   ·cases hx
  ·split at hx
   ·rename_i hc;have hc:k=2\/k=4:=hc.2;simp only [YK] at hx;subst hx;rw [if_pos Za];exact kr_app h1 h2 (kr_nulls _ _)
   ·split at hx
    ·rename_i hc;have hc:k=5\/k=6:=hc.elim (fun h=> .inl h.2) fun h=> .inr h.2;simp only [YK] at hx;subst hx;rw [if_neg Za];exact h2
    ·cases hx
 ·unfold joinR at hx
  split at hx
  ·rename_i hc;have hc:k=3\/k=4:=hc;obtain ⟨t,ht,rfl⟩:=Yv.1 hx;have ht:=(Uj.1 ht).1;rw [if_pos Za];exact kr_app (by simp [zX]) (kr_nulls _ _) (b2 _ e2 t ht)
  ·cases hx
def KG (ts:List Int) (k:Int) (a:Agg):Prop:= ∀rows:List Row,(∀r∈rows,KR ts r)->KV k (aggM a.fn a.arg rows)
theorem kv_vals {ts:List Int} {k:Int} {e:Ex} (h:KX ts k e) {rows:List Row} (hr: ∀r∈rows,KR ts r): ∀v∈sortV (y6 e rows),KV k v:=fun v hv=>by
 have:=(vV _).mem_iff.1 hv;unfold y6 at this;obtain ⟨r,hm,rfl⟩:=Yv.1 (Uj.1 this).1;exact h r (hr r hm)
theorem kg_magg (xs ts:List Int) (p:Nat):KG ts (magg xs ts p).1.2 (magg xs ts p).1.1:=fun rows hr=>by
 have d6:=zu xs p (n:=6) Za;have d3:=zu xs (p+1) (n:=3) Za;unfold magg
 split
 ·exact .inr rfl
 split
 ·show KV 1 (aggM 4 _ rows);refine (show KV 1 (sumS (sortV (y6 _ rows))) from ?_);exact xJ (yS _) (xJ (.inr rfl) (yS _))
 ·rename_i n1 n4;generalize 1+drawn xs p 6=fn at n1 n4 d6 ⊢;have hk:Kn (1+drawn xs (p+1) 3):=Za;have hx:=kx_expr xs ts hk 2 (p+2);generalize 1+drawn xs (p+1) 3=k at hk hx ⊢;have hv:=kv_vals hx hr;simp only;unfold aggM;by_cases h2:fn=2
  ·subst h2;exact .inr rfl
  by_cases h3:fn=3
  ·subst h3;exact .inr rfl
  rw [if_neg n1,if_neg h2,if_neg h3,if_neg n4];refine xJ (yS _) ?_;by_cases h5:fn=5
  ·rw [if_pos h5,if_pos (.inl h5)];exact kv_at hv _
  ·rw [if_neg h5];by_cases h6:fn=6
   ·rw [if_pos h6,if_pos (.inr h6)];exact kv_at hv _
   ·rw [if_neg h6];exact yS _
theorem at_snoc {α:Type} [Inhabited α] {l:List α} {x:α} {n c:Nat} (hl:l.length=n) (hc:c<n+1):(l++[x]).getD c default=if c<n then l.getD c default else x:=by
 simp only [Yf]
 split
 ·rw [List.getElem?_append_left Za]
 ·have:c=n:=Za;subst this;rw [List.getElem?_append_right Za,hl,Nat.sub_self];rfl
theorem projP_K (xs ts out:List Int) (ho: ∀t∈out,Kn t) (p:Nat): ∀n,n<=out.length-> ∀c,c<n->KX ts (out.getD c default) ((vJ xs ts out p n).1.getD c default)
 | 0,_,c,h=>absurd h Za
 | n+1,hn,c,h=>by
   rw [vJ,at_snoc (jS xs ts out p n).1 h]
   split
   ·exact projP_K xs ts out ho p n Za c Za
   ·have:c=n:=Za;subst this;exact kx_expr xs ts (ho _ (zk Za)) 2 _
theorem pickTo_K (xs cs ts:List Int) (p:Nat): ∀n,∀c,c<n->KX cs (ts.getD c default) ((yF xs cs ts p n).1.getD c default)
 | 0,c,h=>absurd h Za
 | n+1,c,h=>by
   rw [yF,at_snoc (vz xs cs ts p n).1 h]
   split
   ·exact pickTo_K xs cs ts p n c Za
   ·have:c=n:=Za;subst this;exact kx_pick xs cs _
theorem listP_K (xs ts:List Int) (p:Nat): ∀n,∀c,c<n->KX ts ((yJ xs ts p n).1.2.getD c default) ((yJ xs ts p n).1.1.getD c default)
 | 0,c,h=>absurd h Za
 | n+1,c,h=>by
   obtain ⟨⟨l1,l2⟩,_⟩:=uW xs ts p n;rw [yJ,at_snoc l1 h,at_snoc l2 h]
   split
   ·exact listP_K xs ts p n c Za
   ·have d3:=zu xs (yJ xs ts p n).2 (n:=3) Za;exact kx_expr xs ts Za 2 _
theorem maggs_K (xs ts:List Int) (p:Nat): ∀n,∀c,c<n->KG ts ((xN xs ts p n).1.2.getD c default) ((xN xs ts p n).1.1.getD c default)
 | 0,c,h=>absurd h Za
 | n+1,c,h=>by
   obtain ⟨⟨l1,l2⟩,_⟩:=uU xs ts p n;rw [xN,at_snoc l1 h,at_snoc l2 h]
   split
   ·exact maggs_K xs ts p n c Za
   ·exact kg_magg xs ts _
theorem s_group {s:Sch} {i:Inst} {a:Qr} {ts ks us:List Int} {es:List Ex} {gs:List Agg} (h:QS s i a ts) (hl:es.length=ks.length) (hg:gs.length=us.length) (he: ∀c,c<ks.length->KX ts (ks.getD c default) (es.getD c default))
 (ha: ∀c,c<us.length->KG ts (us.getD c default) (gs.getD c default)):QS s i (qGrp es gs a) (ks++us):=fun ht=>by
 obtain ⟨h1,h2⟩:=h (kid1 (q:=qGrp es gs a) rfl ht);have h3:(typQ s (qGrp es gs a)).1.length=es.length+gs.length:=(xH ht).group rfl;refine ⟨by rw [h3,Yb,hl,hg],fun rows hr r hm=>?_⟩;obtain ⟨k0,e1,w,e2⟩:=ev_o1 (q:=qGrp es gs a) rfl hr;rw [e2] at hm;have hk0:=h2 _ e1;obtain ⟨key,hk,rfl⟩:=Yv.1 (show r∈grpsR (qGrp es gs a) k0 (gkP (qGrp es gs a) k0) from hm);have hkey:key.length=ks.length/\KR ks key:=by
  unfold gkP at hk
  split at hk
  ·rename_i h0;have h0:es.length=0:=h0;simp only [YK] at hk;subst hk;exact ⟨by show 0=_;omega,fun c hc=>absurd hc Za⟩
  ·obtain ⟨x,hx,rfl⟩:=Yv.1 (((wC _).2 key).1 hk);exact ⟨by show (es.map (zG x)).length=_;rw [Y2,hl],kr_map hl fun c hc=>he c hc x (hk0 x hx)⟩
 refine kr_app hkey.1 hkey.2 fun c hc=>?_;show KV _ ((gs.map fun x:Agg=>aggM x.fn x.arg (k0.filter fun r=>cmpR (keyR (qGrp es gs a) r) key==0)).getD c default);rw [vk (fun x:Agg=>aggM x.fn x.arg _) gs c Za];exact ha c hc _ fun r hr=>hk0 r (Uj.1 hr).1
end
section
attribute [local simp, local push_cast] Ta aRow rRow vecT rG
theorem ev_o0 {s:Sch} {i:Inst} {q:Qr} (hk:q.kids=[]) {rows:List Row} (h:evQ grP s i q=some rows): ∃w v,rows=outM grP s i q w v [] []:=by
 obtain ⟨ks,h1,h2⟩:=ev_ks h;rw [hk] at h1 h2;cases ks with
 | nil=>exact ⟨_,_,h2⟩
 | cons k ks=>simp at h1
theorem kr_rowM (xs ts:List Int) (p:Nat):KR ts (rowM xs ts p):=fun c hc=>by
 have e:(rowM xs ts p).getD c default=u9 xs (ts.getD c default) true (p+c):=by
  unfold rowM rowTo;rw [Yf,List.getElem?_map,List.getElem?_range hc];rfl
 rw [e];unfold u9;exact KL
theorem fits_valid {s:Sch} {i:Inst} (h:we s i=0):xY s=0:=by
 unfold we at h
 split at h
 ·rename_i h1;exact absurd h h1
 ·rename_i h1;simpa using h1
section
variable {xs:List Int} {s:Sch} {i:Inst} (h0:0<s.length) (hf:we s i=0) (hK:KI s i)
include h0 hf hK
theorem mleaf_S (p:Nat):QS s i (jT xs s p).1.1 (jT xs s p).1.2:=fun ht=>by
 unfold jT at ht ⊢
 split at ht
 ·rename_i c0;rw [if_pos c0];refine ⟨Z4 (((xH ht).vals rfl).1),fun rows hr r hm=>?_⟩;obtain ⟨w,v,e⟩:=ev_o0 rfl hr;rw [e] at hm;have hm:r∈vW xs (yk xs 2 (p+1)).1 ((yk xs 2 (p+1)).2+1) (drawn xs (yk xs 2 (p+1)).2 3).toNat:=hm;unfold vW at hm;obtain ⟨j,_,rfl⟩:=Yv.1 hm;exact kr_rowM _ _ _
 ·rename_i c0;rw [if_neg c0];have hd:=zu xs (p+1) (n:=(s.length:Int)) Za;generalize hn:(drawn xs (p+1) s.length).toNat=n at ht ⊢;have hn2:n<s.length:=Za;have hb:byT s (s.getD n default).name=n:=valid_byT (fits_valid hf) hn2;have hsc:=((xH ht).scan rfl).2;have hsc:(typQ s (qScan (s.getD n default).name)).1.length=(s.getD (byT s (s.getD n default).name).toNat default).columns.length:=hsc;rw [hb,YA] at hsc;refine ⟨by rw [hsc];simp [yd],fun rows hr r hm=>?_⟩;obtain ⟨w,v,e⟩:=ev_o0 rfl hr;rw [e] at hm;have hm:r∈i.getD (byT s (s.getD n default).name).toNat default:=hm;rw [hb,YA] at hm;exact hK n hn2 r hm
theorem set_rows {b:Qr} (hb:(typQ s b).2=0) {rows:List Row} (hr:evQ grP s i b=some rows): ∀r∈rows,KR (kq s b) r:=fun r hm=>by
 unfold kq
 split
 ·rename_i h1;have hsc:=((xH hb).scan h1).1;have hlt:=xU (fun t:Tbl=>t.name.toList==b.table.toList) s;have hp:plc s b.table=(byT s b.table).toNat/\(byT s b.table).toNat<s.length:=by
   unfold plc;rw [if_neg Za];unfold byT at hsc ⊢;omega
  rw [hp.1];obtain ⟨ks,_,e⟩:=ev_ks hr;rw [e] at hm;unfold outM at hm;rw [if_pos h1] at hm;exact hK _ hp.2 r hm
 ·exact kr_nil r
theorem mset_S {a b:Qr} {ts:List Int} (ha:QS s i a ts) (p:Nat):QS s i (msets xs s a b ts p).1.1 ts:=by
 have hl:=(vz xs (kq s b) ts p ts.length).1;have d3:=zu xs (yF xs (kq s b) ts p ts.length).2 (n:=3) Za;refine s_set Za ha fun ht rows hr r hm=>?_;have tb:=kid1 (q:=jo (yF xs (kq s b) ts p ts.length).1 b) rfl ht;obtain ⟨k0,e1,w,e2⟩:=ev_o1 (q:=jo (yF xs (kq s b) ts p ts.length).1 b) rfl hr;rw [e2] at hm;obtain ⟨x,hx,rfl⟩:=Yv.1 (show r∈k0.map (keyR (jo (yF xs (kq s b) ts p ts.length).1 b)) from hm);exact kr_map hl fun c hc=>pickTo_K xs (kq s b) ts p ts.length c hc x (set_rows h0 hf hK tb e1 x hx)
theorem mstep_S {f:Nat->(Qr×List Int)×Nat} (hS: ∀p,QS s i (f p).1.1 (f p).1.2) (hX: ∀p,OkXQ (f p).1.1) {a:Qr} {ts:List Int} (ha:QS s i a ts) (hxa:OkXQ a) (n:Int) (p:Nat):QS s i (gb xs s f a ts n p).1.1 (gb xs s f a ts n p).1.2:=by
 unfold gb
 split
 ·exact s_sel ha _
 split
 ·obtain ⟨t1,_,_⟩:=ud xs (m:=3) Za p;exact s_proj ha (jS ..).1 fun c hc=>projP_K xs ts _ t1 _ _ (Ys _) c hc
 split
 ·exact s_dist ha
 split
 ·have d3:=zu xs p (n:=3) Za;have l1:=uW xs ts (p+1) (drawn xs p 3).toNat;have g1:=uU xs ts ((yJ xs ts (p+1) (drawn xs p 3).toNat).2+1) (1+drawn xs (yJ xs ts (p+1) (drawn xs p 3).toNat).2 2).toNat;exact s_group ha (by rw [l1.1.1,l1.1.2]) (by rw [g1.1.1,g1.1.2]) (fun c hc=>listP_K xs ts _ _ c (by rw [l1.1.2] at hc;exact hc)) fun c hc=>maggs_K xs ts _ _ c (by rw [g1.1.2] at hc;exact hc)
 split
 ·exact mset_S h0 hf hK ha _
 split
 ·exact ha
 ·exact s_join (fits_ok hf) hxa (hX p) ha (hS p)
end
theorem mquery_S {xs:List Int} {s:Sch} {i:Inst} (hS:SmallS s) (h0:0<s.length) (hT: ∀T∈s,1<=T.columns.length/\ ∀c∈T.columns,c.type=1\/c.type=2\/c.type=3) (hf:we s i=0) (hK:KI s i): ∀d p,QS s i (yp xs s d p).1.1 (yp xs s d p).1.2
 | 0,p=>mleaf_S h0 hf hK p
 | d+1,p=>by
   have ih: ∀p,QS s i (yp xs s d p).1.1 (yp xs s d p).1.2:=mquery_S hS h0 hT hf hK d;rw [yp]
   split
   ·exact mleaf_S h0 hf hK _
   ·exact mstep_S h0 hf hK ih (fun p=>(mquery_G xs hS h0 hT d p).okx) (ih _) (mquery_G xs hS h0 hT d _).okx _ _
theorem eval_ok {s:Sch} {i:Inst} {q:Qr} (h:(xW grP s i q).2=0):we s i=0/\(typQ s q).2=0/\ ∃rows,evQ grP s i q=some rows/\(xW grP s i q).1=srt rows:=by
 unfold xW at h ⊢
 split at h
 ·rename_i h1;exact absurd h h1
 rename_i h1
 split at h
 ·rename_i h2;exact absurd h h2
 rename_i h2;have h2':(wJ s q).2=0:=Zc h2;have h3:=h2';rw [qQ h2'] at h3;refine ⟨Zc h1,h3,?_⟩;cases hv:evQ grP s i q with
 | none=>rw [hv] at h;exact absurd h Zi
 | some rows=>
   rw [if_neg h1,if_neg h2];exact ⟨rows,rfl,rfl⟩
def c3 (p:Ex):Nat->Ex
 | 0=>p
 | 1=>bin 24 [p]
 | _=>bin 21 [p]
def al3 (s:Sch) (i:Inst) (p:Ex) (q:Qr) (k:Nat):List Row:=(List.range k).flatMap fun j=>(xW grP s i (qSel (c3 p j) q)).1
theorem gH (s:Sch) (i:Inst) (p:Ex) (q:Qr) (k:Nat):al3 s i p q (k+1)=al3 s i p q k++(xW grP s i (qSel (c3 p k) q)).1:=by simp [al3,U8]
theorem cnt_three (k:Row) {f g h:Row->Bool}: ∀l:List Row,(∀r∈l,(f r=true/\g r=false/\h r=false)\/(f r=false/\g r=true/\h r=false)\/(f r=false/\g r=false/\h r=true))->cntB k (l.filter f)+cntB k (l.filter g)+cntB k (l.filter h)=cntB k l
 | [],_=>rfl
 | r::l,H=>by
   have ih:=cnt_three k (f:=f) (g:=g) (h:=h) l fun x hx=>H x (Zu hx);have hc: ∀m:List Row,cntB k (r::m)=cntB k [r]+cntB k m:=fun m=>jc k [r] m;rw [hc l];rcases H r Zd with ⟨a,b,c⟩ | ⟨a,b,c⟩ | ⟨a,b,c⟩
   ·rw [UE a,Ur (Zu b),Ur (Zu c),hc];omega
   ·rw [Ur (Zu a),UE b,Ur (Zu c),hc];omega
   ·rw [Ur (Zu a),Ur (Zu b),UE c,hc];omega
theorem three_bag {s:Sch} {i:Inst} {q:Qr} {ts:List Int} {p:Ex} (hq:QS s i q ts) (hp:KX ts 2 p) (h0:(xW grP s i q).2=0) (h: ∀j,j<3->(xW grP s i (qSel (c3 p j) q)).2=0) (k:Row):cntB k (al3 s i p q 3)=cntB k (xW grP s i q).1:=by
 obtain ⟨_,t0,R,e0,r0⟩:=eval_ok h0;obtain ⟨_,hk⟩:=hq t0;have hj: ∀j,j<3->(xW grP s i (qSel (c3 p j) q)).1=srt (R.filter (okC (qSel (c3 p j) q))):=fun j hj=>by
  obtain ⟨_,_,X,e1,r1⟩:=eval_ok (h j hj);obtain ⟨k0,e2,w,e3⟩:=ev_o1 (q:=qSel (c3 p j) q) rfl e1;rw [e0] at e2;cases e2;rw [r1,e3];rfl
 rw [gH,gH,gH,hj 0 Za,hj 1 Za,hj 2 Za,r0,jc,jc,jc,jA (zJ _),jA (zJ _),jA (zJ _),jA (zJ R)];have hz:cntB k (al3 s i p q 0)=0:=rfl;rw [hz,YW];refine cnt_three k R fun r hr=>?_;have hv:=hp r (hk _ e0 r hr);have e1:zG r (bin 24 [p])=notM (zG r p):=by rw [wM];rfl
 have e2:zG r (bin 21 [p])=ofV ((zG r p).kind==0):=by rw [wM];rfl
 show (zM (zG r p)==1)=true/\(zM (zG r (bin 24 [p]))==1)=false/\(zM (zG r (bin 21 [p]))==1)=false\/(zM (zG r p)==1)=false/\(zM (zG r (bin 24 [p]))==1)=true/\(zM (zG r (bin 21 [p]))==1)=false\/
  (zM (zG r p)==1)=false/\(zM (zG r (bin 24 [p]))==1)=false/\(zM (zG r (bin 21 [p]))==1)=true
 rw [e1,e2];generalize zG r p=v at hv ⊢;unfold notM;rcases hv with hv | hv
 ·right;right
  have ht:zM v=2:=by unfold zM;rw [if_pos (by omega)]
  rw [ht,hv]
  decide
 ·have ht:zM v=0∨zM v=1:=by unfold zM;rw [if_neg (by omega)];split<;>simp
  have hz:(v.kind==0)=false:=Z4 hv;rw [hz];rcases ht with ht | ht
  ·right;left
   rw [ht];decide
  ·left
   rw [ht];decide
theorem c_diff (a b:List Row) (hl:a.length<=100000) (hm:b.length<=100000) (ha: ∀r∈a,r.length<=1000) (hb: ∀r∈b,r.length<=1000) (h: ∀k,cntB k a=cntB k b):ACall Tryz.prog 50 [aTab a,aTab b] [] (.tup [.d (.sl 3 []),num 0,num 0]) []:=by
 refine zn mixed ttok Tryz.func50 Tryz.ntmps50 Tryz.results50 ?_;generalize hr:A.tup [.d (.sl 3 []),num 0,num 0]=R;refine Zn ?_;refine zg [[1],[1]] [] (c_groups a b hl hm ha hb) ?_;have hg: ∀g∈grpM (srt a) (srt b),g.m=g.n:=fun g hg=>by
  obtain ⟨h1,h2⟩:=(grp_all _ _ _ (Ys _) (yL ordR a) (yL ordR b)).1 g hg;rw [h1,h2,jA (zJ a),jA (zJ b)];exact h _
 have hgl:=ug _ (srt a) (srt b) (Ys _);have e1:(srt a).length=a.length:=(zJ a).length_eq;have e2:(srt b).length=b.length:=(zJ b).length_eq;rw [e1,e2] at hgl;generalize grpM (srt a) (srt b)=Gs at hg hgl ⊢
 simp -implicitDefEqProofs only [↓zb,push_cast,simprocAttr,tt]
 refine zx mixed ttok (fun i:Nat=>(⟨[(8,num i),(7,.d (.sl 3 (zd rG Gs)))],[]⟩:SL)) (fun i=>Gs.length-i) (fun i=>i<=Gs.length) 0 (Yj _) ?_ ?_
 ·exact Ya Zb Zb Zb
 intro I hI i hi
 simp -implicitDefEqProofs only [↓zb,push_cast,simprocAttr,tt]
 refine za (fun h=>?_) fun h=>?_
 ·have h':i<Gs.length:=Zq h
  have hw:=zh h' (by omega)
  have hgi:=hg _ (zk h');refine ⟨Za,Za,ze Zg,?_⟩;refine za (fun q=>?_) (fun _=>?_)
  ·rw [hgi] at q;simp at q
  exact zi hI (i+1) h' Zl (Ya (Ze hw) Zb Zb)
 subst hr;refine zo [[3],[0],[0]] rfl Zd Zj ?_ Zk Zb Zb;rfl
theorem KS{p:Prop}(h:p:=by
 simp -implicitDefEqProofs only [↓zb,push_cast,simprocAttr,tt]
 exact zm trivial hr Zb):p:=h
theorem c_sameB (a b:List Row) (hl:a.length<=100000) (hm:b.length<=100000) (ha: ∀r∈a,r.length<=1000) (hb: ∀r∈b,r.length<=1000) (h: ∀k,cntB k a=cntB k b):ACall Tryz.prog 20 [aTab a,aTab b] [] (boo true) []:=by
 refine zn mixed ttok Tryz.func20 Tryz.ntmps20 Tryz.results20 ?_;generalize hr:boo true=R;refine Zn ?_;refine zg [[1],[1]] [] (c_diff a b hl hm ha hb h) ?_;exact KS
end
section
attribute [local simp, local push_cast] Ta aRow rRow rTab yx yA yM z7 zQ aAgg vQ mEval zR vecT
def l3 (p:Ex):List Ex:=[p,bin 24 [p],bin 21 [p]]
theorem l3_at (p:Ex) {k:Nat} (h:k<3):(l3 p).getD k default=c3 p k:=by
 have:k=0\/k=1\/k=2:=Za;rcases this with rfl | rfl | rfl<;>rfl
theorem ok3 {p:Ex} (h:Ok12 p) (hx:OkX p) (k:Nat):Ok12 (c3 p k)/\OkX (c3 p k):=by
 have h1: ∀op,Ok12 (bin op [p])/\OkX (bin op [p]):=fun op=>⟨bin_ok Zd (Zc h),bin_okx (Zc hx)⟩
 unfold c3
 split
 ·exact ⟨h,hx⟩
 ·exact h1 _
 ·exact h1 _
theorem tsz3 {p:Ex} {n:Nat} (h:tszE p<=n) (k:Nat):tszE (c3 p k)<=n+1:=by
 have h1: ∀op,tszE (bin op [p])=1+tszE p:=fun op=>by rw [tszE_eq];show 1+(tszE p+0)=_;omega
 unfold c3
 split
 ·omega
 ·rw [h1];omega
 ·rw [h1];omega
theorem sel_ok {c:Ex} {q:Qr} {n:Nat} (hc:Ok12 c) (hx:OkX c) (ht:tszE c<=10000) (hq:QG q n):QG (qSel c q) (20000+n):=by
 refine ⟨⟨_,⟨hc,Yj _,yr,Yj _,yr,Yj _,Yj _,yr,by simp [qSel,Qr.kids]⟩,ky hq.ok⟩,⟨_,⟨hx,yr,yr,yr⟩,ky hq.okx⟩,?_⟩;rw [tszQ_eq,allT];show 1+(tszE c+0+0+0)+(tszQ q+0)<=_;have:=hq.tsz;omega
theorem evalQ_len {s:Sch} {i:Inst} {q:Qr} (hx:OkXQ q):(xW grP s i q).1.length<=1000:=by
 unfold xW
 split
 ·exact Yj _
 rename_i hf
 split
 ·exact Yj _
 rename_i ht;have ht':(wJ s q).2=0:=Zc ht;rw [qQ ht'] at ht';cases hv:evQ grP s i q with
 | none=>exact Yj _
 | some rows=>
   have hl:=(go grP_ok (fits_ok (by simpa using hf:we s i=0)) q hx ht' rows hv).len;show (srt rows).length<=1000;rw [(zJ rows).length_eq];exact hl
theorem c_lawP (l:List Int) (hx:ww l):ACall Tryz.prog 6 [ints l] [] (boo true) []:=by
 refine zn mixed ttok Tryz.func6 Tryz.ntmps6 Tryz.results6 ?_;generalize hr:boo true=R;refine Zn ?_;refine zg [[]] [(1000,23)] (c_schema0w hx) ?_;obtain ⟨s,q,i,q2,hs1,hs2,hi1,hi2,hS,hl1,hT,hI,hq,hq2⟩:=made_all l (most:=6) Za Za;have hci:=c_minst (most:=6) (p:=q) hx Za Za hS hT Za;have hKI:KI s i:=by rw [hi1];exact inst_kinds l 6 (by rw [hs1];exact schemaM_first l 0) q
 rw [<-hs1,<-hs2];rw [<-hi1,<-hi2] at hci;clear hi1
 simp -implicitDefEqProofs only [↓zb,push_cast,simprocAttr,tt]
 refine zg [[],[6],[]] [(1000,23)] (hci) ?_
 simp -implicitDefEqProofs only [↓zb,push_cast,simprocAttr,tt]
 have hcq:ACall Tryz.prog 11 [.ptr 1000 0,aS s,num 3] [(1000,zR l q2)] (aQT (yp l s 2 q2).1) [(1000,zR l (yp l s 2 q2).2)]:=c_mquery hx hS Za hT 2 Za q2 (by have:wQ 2=9080:=rfl;omega);have hqG:=mquery_G l hS Za hT 2 q2;have hqT:=mquery_T l hS Za hT 2 q2;have hqS:we s i=0->QS s i (yp l s 2 q2).1.1 (yp l s 2 q2).1.2:=fun hf=>mquery_S hS Za hT hf hKI 2 q2;have hqq:=hqT.q;rw [show wQ 2=9080 from rfl] at hqq;unfold aQT at hcq;have htl:=hqT.len;generalize (yp l s 2 q2).1.1=Q at hcq hqG hqS;generalize (yp l s 2 q2).1.2=T at hcq hqS htl;generalize (yp l s 2 q2).2=p3 at hcq hqq;have hce:ACall Tryz.prog 19 [.ptr 1000 0,ints T,num 2,num 4] [(1000,zR l p3)] (aE (ye l T 4 2 p3).1) [(1000,zR l (ye l T 4 2 p3).2)]:=
  qJ hx htl 3 Za 2 p3 (.inr (.inl rfl)) (by have:wE (3+1)=560:=rfl;omega)
 have hp12:=exprM_ok l T 4 2 p3;have hpX:=exprM_okx l T 4 2 p3;have hpT:=tsz_expr l T 4 2 p3;have hpK:=kx_expr l T (k:=2) (.inr (.inl rfl)) 4 p3;generalize (ye l T 4 2 p3).1=e at hce hp12 hpX hpT hpK;generalize (ye l T 4 2 p3).2=p4 at hce;have hc1:=c_meval s hS i hI Q hqG.ok hqG.okx;have hc2:=c_reval8 s hS i hI Q (fun h=>R8_typed (Y3 hqG.tsz Zi) h) hqG.ok hqG.okx;have hG: ∀k,QG (qSel (c3 e k) Q) 100000000:=fun k=>(sel_ok (ok3 hp12 hpX k).1 (ok3 hp12 hpX k).2 (Y3 (tsz3 hpT k) Zi) hqG).mono Zi;have hd1:=fun k=>c_meval s hS i hI (qSel (c3 e k) Q) (hG k).ok (hG k).okx;have hd2:=fun k=>c_reval8 s hS i hI (qSel (c3 e k) Q) (fun h=>R8_typed (Y3 (hG k).tsz Zi) h) (hG k).ok (hG k).okx;have hB:=fun hf h0 h=>three_bag (s:=s) (i:=i) (q:=Q) (p:=e) (hqS hf) hpK h0 h;have hrw: ∀k,(xW grP s i (qSel (c3 e k) Q)).1.length<=1000/\ ∀r∈(xW grP s i (qSel (c3 e k) Q)).1,r.length<=1000:=fun k=>⟨evalQ_len (hG k).okx,(evalQ_rows hS (hG k).ok (hG k).okx).2⟩
 have hWl:=evalQ_len (s:=s) (i:=i) hqG.okx
 simp only [aQ_sel] at hd1 hd2
 simp only [<-evalQ_PR] at hc2 hd2
 rw [zW] at hcq hc1 hc2
 rw [yt] at hce;simp only [z8,yA Q] at hc1 hc2 hd1 hd2;obtain ⟨hE1,hE2⟩:=evalQ_rows hS (i:=i) hqG.ok hqG.okx;refine zg [[],[6],[]] [(1000,23)] (hcq) ?_
 simp -implicitDefEqProofs only [↓zb,push_cast,simprocAttr,tt]
 refine zg [[],[1],[],[]] [(1000,23)] (hce) ?_
 simp -implicitDefEqProofs only [↓zb,push_cast,simprocAttr,tt]
 refine zg [[6],[1],[0,0,0,0,0,0,0,0,0,6,6,7,1,1,15]] [] (hc1) ?_
 simp -implicitDefEqProofs only [↓zb,push_cast,simprocAttr,tt]
 refine zg [[6],[1],[0,0,0,0,0,0,0,0,0,6,6,7,1,1,15]] [] (hc2) ?_
 simp -implicitDefEqProofs only [bne_self_eq_false,↓zb,push_cast,simprocAttr,tt]
 refine zg [[1],[1]] [] (c_equalT _ hE1 hE2) ?_
 simp -implicitDefEqProofs only [↓zb,push_cast,simprocAttr,tt]
 refine za (fun z=>?_) (fun z=>?_)
 ·exact zm trivial hr Zb
 have h0:(xW grP s i Q).2=0:=Zc z;have hB:=hB (eval_ok h0).1 h0;generalize (xW grP s i Q).1=W at hB hE1 hE2 hWl ⊢;refine zx mixed ttok (fun k:Nat=>(⟨[(15,num k),(14,.vec 700 (al3 s i e Q k).length),(13,.vec 70 3),(9,aTab W),(4,.ptr 4 0),(5,.ptr 5 0),(6,.ptr 6 0)],[(70,.vec 36 6 (zd rE (l3 e)) 0),(700,vecT (al3 s i e Q k)),(4,vS s),(5,vI i),(6,vQ Q)]⟩:SL)) (fun k=>3-k)
  (fun k=>k<=3/\ ∀j,j<k->(xW grP s i (qSel (c3 e j) Q)).2=0) 0 ⟨Yj _,fun j h=>absurd h Za⟩ ?_ ?_
 ·exact (YU 14 700 53 1 rfl rfl).trans (Ya (by simp [al3,ends]) (by simp [vS,vI,al3,l3,bin,zd,y7,Ex.op,Ex.type,Ex.num,Ex.text,Ex.col,Ex.kids,ends]) Zb)
 intro I hI3 k ⟨hk3,hinv⟩;have hal:(al3 s i e Q k).length<=k * 1000/\ ∀r∈al3 s i e Q k,r.length<=1000:=by
  clear hI3 hinv hk3
  induction k with
  | zero=>exact ⟨Yj _,fun r h=>by cases h⟩
  | succ k ih=>
    rw [gH,Yb];exact ⟨by have:=ih.1;have:=(hrw k).1;omega,fun r h=>(Yr.1 h).elim (ih.2 r) ((hrw k).2 r)⟩
 simp -implicitDefEqProofs only [vS,vI,vQ,↓zb,push_cast,simprocAttr,tt];refine ⟨rfl,?_⟩;refine za (fun h=>?_) fun h=>?_
 ·have h':k<3:=by have:=of_decide_eq_true h;omega
  have hw:=zh h' (by omega)
  refine ⟨⟨⟨by omega,by omega⟩,rfl⟩,h',rfl,ze (by kernel_rfl),?_⟩
  rw [l3_at e h']
  have g1:=hd1 k
  have g2:=hd2 k
  have g3:=hrw k
  have hst:=gH s i e Q k;generalize hev:xW grP s i (qSel (c3 e k) Q)=E at g1 g2 g3 hst;refine zg [[6],[1],[0,0,0,0,0,0,0,0,0,6,6,7,1,1,15]] [] (g1) ?_
  simp -implicitDefEqProofs only [↓zb,push_cast,simprocAttr,tt]
  refine zg [[6],[1],[0,0,0,0,0,0,0,0,0,6,6,7,1,1,15]] [] (g2) ?_
  simp -implicitDefEqProofs only [bne_self_eq_false,↓zb,push_cast,simprocAttr,tt]
  refine za (fun y=>?_) (fun y=>?_)
  ·exact zm trivial hr Zb
  have y0:E.2=0:=Zc y;refine ⟨Za,?_⟩;have hap:zd rRow (al3 s i e Q k)++zd rRow E.1=zd rRow (al3 s i e Q k++E.1):=zf rRow _ _;refine zi hI3 (k+1) ⟨h',fun j hj=>?_⟩ (show 3-(k+1)<3-k from Za) ?_
  ·by_cases hjk:j<k
   ·exact hinv j hjk
   ·obtain rfl:j=k:=Za;rw [hev];exact y0
  rw [hst,Yb];exact Ya (Ze hw) (by simp [vS,vI,vQ,hap,ends]) Zb
 have h':k=3:=Zp h;subst h';refine zg [[1],[1]] [] (c_sameB (al3 s i e Q 3) W Za Za hal.2 hE2 (hB hinv)) ?_;exact KS
end
end Go.Proofs.YtnmibokjpedkiaaGreatDoor
