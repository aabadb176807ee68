/- Made queries answer as specified (part Wd) -/
import Derived.Test.YtnmibokjpedkiaaGreatDoorWc
set_option maxRecDepth 100000
set_option maxHeartbeats 4000000
set_option linter.all false
namespace Go.Proofs.YtnmibokjpedkiaaGreatDoor
open Go.Am
section
attribute [local simp, local push_cast] Ta
def vc (v:Val):Val:=if zO v=true then v else zl
def u6 (op:Int) (a b:Val):Val:=
 if zO a=false\/zO b=false\/a.kind≠b.kind then zl
 else if a.kind=1 then (if (numM op a.num b.num).2=true then vc ⟨1,(numM op a.num b.num).1,ByteArray.empty⟩ else zl)
 else if a.kind=3/\op=12 then vc ⟨3,0,a.text++b.text⟩ else zl
theorem empty_list:ByteArray.empty.toList=[]:=by rw [YM];rfl
theorem uA {v:Val} (h:zO v=true) (hk:v.kind=1):okN v.num:=by
 unfold zO at h;rw [if_neg Za,if_pos hk] at h;simp only [Yy,Yg] at h;exact ⟨h.1.1,h.1.2⟩
theorem jE {v:Val} (h:zO v=true) (hk:v.kind=3):v.text.size<=24:=by
 unfold zO at h;rw [if_neg Za,if_neg Za,if_neg Za,if_pos hk] at h;simp only [textM,Yy,Yg] at h;exact h.2.1
theorem valid_int {n:Int} (h:okN n):zO ⟨1,n,ByteArray.empty⟩=true:=by
 unfold okN at h;simp [zO,empty_list,h.1,h.2]
theorem valid_null:zO zl=true:=by simp [zO,zl,empty_list]
theorem validV_int {n:Int} (h:okN n):vc ⟨1,n,ByteArray.empty⟩=⟨1,n,ByteArray.empty⟩:=by rw [vc,if_pos (valid_int h)]
theorem NT{p:Prop}(h:p:=by
 refine Xb ?_;unfold vc at hr;refine za (fun h8=>?_) fun h8=>?_
 ·rw [if_neg (Zc h8)] at hr;exact zw Zm (Zr hr) Zb
 ·rw [if_pos (Zc h8)] at hr;exact zw Zm (Zr hr) Zb):p:=h
theorem JA{p:Prop}(h:p:=by
 refine zg [[0,0,0]] [] (hnul) ?_;simp -implicitDefEqProofs only [zl,tabN,↓zb,push_cast,simprocAttr,tt];exact zw Zm (Zr hr) Zb):p:=h
theorem qL (op:Int) (a b:Val):ACall Tryz.prog 165 [num op,aV a,aV b] [] (aV (u6 op a b)) []:=by
 refine zn mixed ttok Tryz.func165 Tryz.ntmps165 Tryz.results165 ?_;generalize hr:aV (u6 op a b)=R;refine ZR ?_;refine zg [[0,0,0]] [] (u0 a) ?_;refine Xb ?_;unfold u6 at hr;refine za (fun h1=>?_) fun h1=>?_
 ·rw [if_pos (.inl (Zc h1))] at hr;exact zw Zm (Zr hr) Zb
 refine zg [[0,0,0]] [] (u0 b) ?_;refine Xb ?_;simp only [UA] at h1;refine za (fun h2=>?_) fun h2=>?_
 ·rw [if_pos (.inr (.inl (Zc h2)))] at hr;exact zw Zm (Zr hr) Zb
 simp only [UA] at h2;refine za (fun h3=>?_) fun h3=>?_
 ·rw [if_pos (.inr (.inr (Zc h3)))] at hr;exact zw Zm (Zr hr) Zb
 have hk:a.kind=b.kind:=Zc h3;rw [if_neg (by simp [h1,h2,hk])] at hr;refine za (fun h4=>?_) fun h4=>?_
 ·have hk1:a.kind=1:=Zc h4;rw [if_pos hk1] at hr;refine zg [[0],[0],[0]] [] (c_numbers op a.num b.num (uA h1 hk1) (uA h2 Za)) ?_;refine Xb ?_;refine za (fun h5=>?_) fun h5=>?_
  ·rw [if_neg (Zc h5)] at hr;exact zw Zm (Zr hr) Zb
  rw [if_pos (Zc h5)] at hr;refine zg [[0,0,0]] [] (u0 ⟨1,(numM op a.num b.num).1,ByteArray.empty⟩) ?_;refine Xb ?_;unfold vc at hr;refine za (fun h6=>?_) fun h6=>?_
  ·rw [if_neg (Zc h6)] at hr;exact zw Zm (Zr hr) Zb
  ·rw [if_pos (Zc h6)] at hr;exact zw Zm (Zr hr) Zb
 have hk1: ¬a.kind=1:=Zc h4;rw [if_neg hk1] at hr;have hnul:ACall Tryz.prog 45 [aV ⟨0,0,ByteArray.empty⟩] [] (boo true) []:=valid_null ▸ u0 zl;by_cases h5:a.kind=3/\op=12
 ·rw [if_pos h5] at hr;obtain ⟨h5a,h5b⟩:=h5;have t1:=jE h1 h5a;have t2:=jE h2 Za;refine za (fun h6=>?_) fun h6=>?_
  ·refine za (fun h7=>?_) fun h7=>?_
   ·refine ⟨Za,?_⟩;refine zg [[0,0,0]] [] (u0 ⟨3,0,a.text++b.text⟩) ?_;exact NT
   ·simp at h7;omega
  ·simp at h6;omega
 rw [if_neg h5] at hr;refine za (fun h6=>?_) fun h6=>?_
 ·refine za (fun h7=>?_) fun h7=>?_
  ·simp at h6 h7;omega
  ·exact JA
 ·exact JA
theorem c_rvalidV (v:Val):ACall Tryz.prog 182 [aV v] [] (aV (vc v)) []:=by
 refine zn mixed ttok Tryz.func182 Tryz.ntmps182 Tryz.results182 ?_;generalize hr:aV (vc v)=R;refine ZR ?_;refine zg [[0,0,0]] [] (qm v) ?_;exact NT
theorem Jl{p:Prop}(h:p:=by
 refine za (fun h4=>?_) fun h4=>?_
 ·rw [show absI b= -b from if_pos (Zc h4)] at hc;exact hc
 ·rw [show absI b=b from if_neg (Zc h4)] at hc;exact hc):p:=h
theorem c_product (a b:Int) (ha:okN a) (hb:okN b):ACall Tryz.prog 183 [num a,num b] [] (.tup [num (numM 8 a b).1,boo (numM 8 a b).2]) []:=by
 refine zn mixed ttok Tryz.func183 Tryz.ntmps183 Tryz.results183 ?_;have hM:numM 8 a b=(if a≠0/\b≠0/\absI a>(1000000000000:Int).tdiv (absI b) then (0,false) else (a * b,true)):=rfl;rw [hM];generalize hr:A.tup [num (if a≠0/\b≠0/\absI a>(1000000000000:Int).tdiv (absI b) then ((0:Int),false) else (a * b,true)).1,boo (if a≠0/\b≠0/\absI a>(1000000000000:Int).tdiv (absI b) then ((0:Int),false) else (a * b,true)).2]=R;have ha':=ha;have hb':=hb;unfold okN at ha' hb';have w3:=jD (a:= -a) Za;have w4:=jD (a:= -b) Za;have e3:(0:Int)-a= -a:=Za;have e4:(0:Int)-b= -b:=Za;simp -implicitDefEqProofs only [argT,e3,e4,w3,w4,↓zb,push_cast,simprocAttr,tt];have hcase: ∀(h:(a≠0/\b≠0)),(absI b≠0/\vH (decide (absI a>IntKind.i64.wrap ((1000000000000:Int).tdiv (absI b)))) (retx (some (True,A.tup [A.d (D.lit (Value.int IntKind.i64 0)),A.d (D.lit (Value.bool false))])) {t:=[],o:=[]} R [])
  (retx (some (True,A.tup [A.d (D.lit (Value.int IntKind.i64 (IntKind.i64.wrap (a * b)))),A.d (D.lit (Value.bool true))])) {t:=[],o:=[]} R [])):=fun hz=>by
  have hp:=absI_pos hz.2;have hd:=tdiv_le (a:=1000000000000) Zi hp;have w5:=jD (a:=(1000000000000:Int).tdiv (absI b)) Za;refine ⟨Za,?_⟩;rw [w5];refine za (fun h3=>?_) fun h3=>?_
  ·simp only [decide_eq_true_eq] at h3
   exact zP trivial (by rw [<-hr,if_pos ⟨hz.1,hz.2,h3⟩];rfl) (by simp [ends])
  ·simp only [Ye] at h3;have hn: ¬(a≠0/\b≠0/\absI a>(1000000000000:Int).tdiv (absI b)):=fun h=>h3 h.2.2;have hm:=mul_ok ha hb hn;unfold okN at hm;have w6:=jD (a:=a * b) Za;rw [w6];exact zP trivial (Zo hr (if_neg hn)) Zb
 refine za (fun h1=>?_) fun h1=>?_
 ·simp only [beq_iff_eq] at h1;subst h1;exact zP trivial (by rw [<-hr,if_neg (fun h=>h.1 rfl),Int.zero_mul];rfl) Zb
 refine za (fun h2=>?_) fun h2=>?_
 ·simp only [beq_iff_eq] at h2;subst h2;exact zP trivial (by rw [<-hr,if_neg (fun h=>h.2.1 rfl),Int.mul_zero];rfl) Zb
 have hc:=hcase ⟨Zc h1,Zc h2⟩;refine za (fun h3=>?_) fun h3=>?_
 ·rw [show absI a= -a from if_pos (Zc h3)] at hc;exact Jl
 ·rw [show absI a=a from if_neg (Zc h3)] at hc;exact Jl
def arithR (op:Int) (a b:Val):Val:=
 if zO a=false\/zO b=false then zl
 else if op=12 then (if a.kind≠3\/b.kind≠3 then zl else vc ⟨3,0,a.text++b.text⟩)
 else if a.kind≠1\/b.kind≠1 then zl
 else if op=6 then vc ⟨1,a.num+b.num,ByteArray.empty⟩ else if op=7 then vc ⟨1,a.num-b.num,ByteArray.empty⟩
 else if (numM op a.num b.num).2=true then ⟨1,(numM op a.num b.num).1,ByteArray.empty⟩ else zl
theorem arithR_eq (op:Int) (a b:Val):arithR op a b=u6 op a b:=by
 unfold arithR u6;by_cases h1:zO a=false
 ·simp [h1]
 by_cases h2:zO b=false
 ·simp [h2]
 simp only [Bool.not_eq_false] at h1 h2;simp only [h1,h2,Bool.true_eq_false,false_or,if_false];by_cases h12:op=12
 ·subst h12;rw [if_pos rfl];by_cases hk:a.kind=b.kind
  ·by_cases ha:a.kind=1
   ·have hb1:b.kind=1:=Za;simp [ha,hb1,numM]
   ·by_cases ha3:a.kind=3
    ·have hb3:b.kind=3:=Za;simp [ha3,hb3]
    ·rw [hk] at ha ha3;simp [hk,ha,ha3]
  ·rw [if_pos (c:=a.kind≠b.kind) hk,if_pos Za]
 rw [if_neg h12];by_cases hk:a.kind=b.kind
 ·rw [if_neg (c:=a.kind≠b.kind) (fun h=>h hk)];by_cases ha:a.kind=1
  ·rw [if_neg Za,if_pos ha];have ka:=uA h1 ha;have kb:=uA h2 Za;by_cases h6:op=6
   ·subst h6;rfl
   by_cases h7:op=7
   ·subst h7;rfl
   rw [if_neg h6,if_neg h7]
   split
   ·rename_i hq;rw [validV_int];unfold numM at hq ⊢;rw [if_neg h6,if_neg h7] at hq ⊢
    split
    ·rename_i h8;rw [if_pos h8] at hq
     split
     ·rename_i hz;rw [if_pos hz] at hq;cases hq
     ·rename_i hz;exact mul_ok ka kb hz
    ·rename_i h8;rw [if_neg h8] at hq
     split
     ·rename_i h9;rw [if_pos h9] at hq
      split
      ·rename_i hz;exact tdiv_ok ka hz
      ·rename_i hz;rw [if_neg hz] at hq;cases hq
     ·rename_i h9;rw [if_neg h9] at hq
      split
      ·rename_i h10;rw [if_pos h10] at hq
       split
       ·rename_i hz;exact tmod_ok ka hz
       ·rename_i hz;rw [if_neg hz] at hq;cases hq
      ·rename_i h10;rw [if_neg h10] at hq;cases hq
   ·rfl
  ·rw [if_pos Za,if_neg ha,if_neg Za]
 ·rw [if_pos (c:=a.kind≠b.kind) hk,if_pos Za]
theorem NX{p:Prop}(h:p:=by
 refine Z5 ?_;exact zw Zm (Zr hr) Zb):p:=h
theorem c_rarith (op:Int) (a b:Val):ACall Tryz.prog 133 [num op,aV a,aV b] [] (aV (u6 op a b)) []:=by
 rw [<-arithR_eq];refine zn mixed ttok Tryz.func133 Tryz.ntmps133 Tryz.results133 ?_;generalize hr:aV (arithR op a b)=R;refine ZR ?_;refine zg [[0,0,0]] [] (qm a) ?_;refine Xb ?_;unfold arithR at hr;refine za (fun h1=>?_) fun h1=>?_
 ·rw [if_pos (.inl (Zc h1))] at hr;exact zw Zm (Zr hr) Zb
 refine zg [[0,0,0]] [] (qm b) ?_;refine Xb ?_;simp only [UA] at h1;refine za (fun h2=>?_) fun h2=>?_
 ·rw [if_pos (.inr (Zc h2))] at hr;exact zw Zm (Zr hr) Zb
 simp only [UA] at h2;rw [if_neg (by simp [h1,h2])] at hr;refine za (fun h12=>?_) fun h12=>?_
 ·rw [if_pos (Zc h12)] at hr;refine za (fun h3=>?_) fun h3=>?_
  ·rw [if_pos (.inl (Zc h3))] at hr;exact zw Zm (Zr hr) Zb
  refine za (fun h4=>?_) fun h4=>?_
  ·rw [if_pos (.inr (Zc h4))] at hr;exact zw Zm (Zr hr) Zb
  simp only [bne_eq_false_iff_eq] at h3 h4;rw [if_neg Za] at hr;have t1:=jE h1 h3;have t2:=jE h2 h4;refine ⟨Za,?_⟩;refine zg [[0,0,0]] [] (c_rvalidV ⟨3,0,a.text++b.text⟩) ?_;exact NX
 rw [if_neg (Zc h12)] at hr;refine za (fun h3=>?_) fun h3=>?_
 ·rw [if_pos (.inl (Zc h3))] at hr;exact zw Zm (Zr hr) Zb
 refine za (fun h4=>?_) fun h4=>?_
 ·rw [if_pos (.inr (Zc h4))] at hr;exact zw Zm (Zr hr) Zb
 simp only [bne_eq_false_iff_eq] at h3 h4;rw [if_neg Za] at hr;have ka:=uA h1 h3;have kb:=uA h2 h4;have ka':=ka;have kb':=kb;unfold okN at ka' kb';have w1:=jD (a:=a.num+b.num) Za;have w2:=jD (a:=a.num-b.num) Za;refine za (fun h6=>?_) fun h6=>?_
 ·rw [if_pos (Zc h6)] at hr;simp only [w1];refine zg [[0,0,0]] [] (c_rvalidV ⟨1,a.num+b.num,ByteArray.empty⟩) ?_;exact NX
 rw [if_neg (Zc h6)] at hr;refine za (fun h7=>?_) fun h7=>?_
 ·rw [if_pos (Zc h7)] at hr;simp only [w2];refine zg [[0,0,0]] [] (c_rvalidV ⟨1,a.num-b.num,ByteArray.empty⟩) ?_;exact NX
 rw [if_neg (Zc h7)] at hr;refine za (fun h8=>?_) fun h8=>?_
 ·have h8':op=8:=Zc h8;subst h8';refine zg [[0],[0]] [] (c_product a.num b.num ka kb) ?_;refine Zf ?_;refine za (fun h9=>?_) fun h9=>?_
  ·rw [if_neg (Zc h9)] at hr;exact zw Zm (Zr hr) Zb
  ·rw [if_pos (Zc h9)] at hr;exact zw Zm (Zr hr) Zb
 unfold numM at hr;rw [if_neg (c:=op=6) (Zc h6),if_neg (c:=op=7) (Zc h7),if_neg (c:=op=8) (Zc h8)] at hr;refine za (fun h9=>?_) fun h9=>?_
 ·rw [if_pos (c:=op=9) (Zc h9)] at hr;refine za (fun h10=>?_) fun h10=>?_
  ·have hb0:b.num≠0:=Zc h10;have hm:=tdiv_ok ka hb0;unfold okN at hm;have w3:=jD (a:=a.num.tdiv b.num) Za;refine ⟨hb0,?_⟩;rw [if_pos hb0,if_pos rfl] at hr;simp only [w3];exact zw Zm (Zr hr) Zb
  ·have hb0: ¬b.num≠0:=Zc h10;rw [if_neg hb0,if_neg Zi] at hr;exact zw Zm (Zr hr) Zb
 rw [if_neg (c:=op=9) (Zc h9)] at hr;refine za (fun h10=>?_) fun h10=>?_
 ·rw [if_pos (c:=op=10) (Zc h10)] at hr;refine za (fun h11=>?_) fun h11=>?_
  ·have hb0:b.num≠0:=Zc h11;refine ⟨hb0,?_⟩;rw [if_pos hb0,if_pos rfl] at hr;exact zw Zm (Zr hr) Zb
  ·have hb0: ¬b.num≠0:=Zc h11;rw [if_neg hb0,if_neg Zi] at hr;exact zw Zm (Zr hr) Zb
 rw [if_neg (c:=op=10) (Zc h10),if_neg Zi] at hr;exact zw Zm (Zr hr) Zb
def aRow (l:List Val):A:= .d (.sl 3 (zd rV l))
attribute [local simp, local push_cast] aRow
def inM (v:Val):Val->List Val->Val
 | out,[]=>out
 | out,x::l=>inM v (orM out (yY v x)) l
def zB (op:Int) (l:List Val):Val:=
 if op=6\/op=7\/op=8\/op=9\/op=10\/op=12 then u6 op (l.getD 0 default) (l.getD 1 default)
 else if op=11 then u6 7 ⟨1,0,ByteArray.empty⟩ (l.getD 0 default)
 else if op=13 then (if (l.getD 0 default).kind=3 then ⟨1,(l.getD 0 default).text.size,ByteArray.empty⟩ else zl)
 else if op=14 then yY (l.getD 0 default) (l.getD 1 default)
 else if op=15 then notM (yY (l.getD 0 default) (l.getD 1 default))
 else if op=16 then vL (l.getD 0 default) (l.getD 1 default)
 else if op=17 then notM (vL (l.getD 1 default) (l.getD 0 default))
 else if op=18 then vL (l.getD 1 default) (l.getD 0 default)
 else if op=19 then notM (vL (l.getD 0 default) (l.getD 1 default))
 else if op=20 then ofV (wz (l.getD 0 default) (l.getD 1 default))
 else if op=21 then ofV ((l.getD 0 default).kind==0)
 else if op=22 then andM (l.getD 0 default) (l.getD 1 default)
 else if op=23 then orM (l.getD 0 default) (l.getD 1 default)
 else if op=24 then notM (l.getD 0 default)
 else if op=25 then ofV (zM (l.getD 0 default)==1)
 else if op=27 then (if (l.getD 0 default).kind=0 then l.getD 1 default else l.getD 0 default)
 else if op=28 then inM (l.getD 0 default) (ofV false) (l.drop 1)
 else zl
theorem inM_snoc (v:Val): ∀(r:List Val) (out x:Val),inM v out (r++[x])=orM (inM v out r) (yY v x)
 | [],out,x=>rfl
 | y::r,out,x=>by simp only [YN,inM,inM_snoc v r]
theorem c_bool0:ACall Tryz.prog 173 [num 0] [] (aV (ofV false)) []:=by
 have:yg 0=ofV false:=by simp [yg,ofV]
 rw [<-this];exact jl 0
theorem len2 {n:Nat} (h:(n:Int)=2):2<=n:=Za
theorem len1 {n:Nat} (h:(n:Int)=1):1<=n:=Za
theorem Z1 {p q:Prop} (h:q) (e:p=q:=by conv=>lhs;simp -implicitDefEqProofs only [tabN,aV,↓zb,push_cast,simprocAttr,tt]):p:=(e).mpr h
theorem Z7 {p P0:Prop} (zf_:P0) (h:P0->p:=by intro zf_;simpa [y5] using zf_):p:=h zf_
theorem ZL {p P0:Prop} (zf_:P0) (h:P0->p:=by intro zf_;rw [<-zf_]<;>first | rfl | (simp [zB];done) | (simp_all [zB];done)):p:=h zf_
theorem Mx{p:Prop}(h:p:=by
 refine Z1 ?_;refine ⟨ze Zg,?_⟩;exact zw Zm (ZL hr) Zb):p:=h
theorem Nf{p:Prop}(h:p:=by
 rw [hM] at hr;exact zw Zm (Zr hr) Zb):p:=h
theorem K4{p:Prop}(h:p:=by
 refine Z1 ?_;exact zw Zm (ZL hr) Zb):p:=h
theorem c_apply (op:Int) (l:List Val) (hk:y5 op l.length=true) (hll:l.length<=1000):ACall Tryz.prog 109 [num op,aRow l] [] (aV (zB op l)) []:=by
 refine zn mixed ttok Tryz.func109 Tryz.ntmps109 Tryz.results109 ?_;generalize hr:aV (zB op l)=R;refine ZR ?_;refine za (fun h6=>?_) fun h6=>?_
 ·have e:op=6:=Zc h6
  subst e
  have hl:2<=l.length:=len2 (Z7 hk);refine za (fun _=>?_) (fun h=>absurd h Zi);refine ⟨Za,Za,?_⟩;refine zg [[0],[0,0,0],[0,0,0]] [] (qL 6 (l.getD 0 default) (l.getD 1 default)) ?_;exact Mx
 refine za (fun h7=>?_) fun h7=>?_
 ·have e:op=7:=Zc h7
  subst e
  have hl:2<=l.length:=len2 (Z7 hk);refine za (fun _=>?_) (fun h=>absurd h Zi);refine ⟨Za,Za,?_⟩;refine zg [[0],[0,0,0],[0,0,0]] [] (qL 7 (l.getD 0 default) (l.getD 1 default)) ?_;exact Mx
 refine za (fun h8=>?_) fun h8=>?_
 ·have e:op=8:=Zc h8
  subst e
  have hl:2<=l.length:=len2 (Z7 hk);refine za (fun _=>?_) (fun h=>absurd h Zi);refine ⟨Za,Za,?_⟩;refine zg [[0],[0,0,0],[0,0,0]] [] (qL 8 (l.getD 0 default) (l.getD 1 default)) ?_;exact Mx
 refine za (fun h9=>?_) fun h9=>?_
 ·have e:op=9:=Zc h9
  subst e
  have hl:2<=l.length:=len2 (Z7 hk);refine za (fun _=>?_) (fun h=>absurd h Zi);refine ⟨Za,Za,?_⟩;refine zg [[0],[0,0,0],[0,0,0]] [] (qL 9 (l.getD 0 default) (l.getD 1 default)) ?_;exact Mx
 refine za (fun h10=>?_) fun h10=>?_
 ·have e:op=10:=Zc h10
  subst e
  have hl:2<=l.length:=len2 (Z7 hk);refine za (fun _=>?_) (fun h=>absurd h Zi);refine ⟨Za,Za,?_⟩;refine zg [[0],[0,0,0],[0,0,0]] [] (qL 10 (l.getD 0 default) (l.getD 1 default)) ?_;exact Mx
 refine za (fun h12=>?_) fun h12=>?_
 ·have e:op=12:=Zc h12
  subst e
  have hl:2<=l.length:=len2 (Z7 hk);refine ⟨Za,Za,?_⟩;refine zg [[0],[0,0,0],[0,0,0]] [] (qL 12 (l.getD 0 default) (l.getD 1 default)) ?_;exact Mx
 refine za (fun h11=>?_) fun h11=>?_
 ·have e:op=11:=Zc h11
  subst e
  have hl:1<=l.length:=len1 (Z7 hk);refine ⟨Za,?_⟩;refine zg [[0],[0,0,0],[0,0,0]] [] (qL 7 ⟨1,0,ByteArray.empty⟩ (l.getD 0 default)) ?_;exact K4
 refine za (fun h13=>?_) fun h13=>?_
 ·have e:op=13:=Zc h13
  subst e
  have hl:1<=l.length:=len1 (Z7 hk);refine ⟨Za,?_⟩;refine za (fun g=>?_) fun g=>?_
  ·refine ⟨Za,?_⟩;have g1:(l.getD 0 default).kind=3:=Zc g;have hM:zB 13 l=⟨1,(l.getD 0 default).text.size,ByteArray.empty⟩:=if_pos g1;rw [hM] at hr;exact zw Zm (ZL hr) Zb
  ·have g1: ¬(l.getD 0 default).kind=3:=Zc g;have hM:zB 13 l=zl:=if_neg g1;exact Nf
 refine za (fun h14=>?_) fun h14=>?_
 ·have e:op=14:=Zc h14
  subst e
  have hl:2<=l.length:=len2 (Z7 hk);refine ⟨Za,Za,?_⟩;refine zg [[0,0,0],[0,0,0]] [] (c_equal (l.getD 0 default) (l.getD 1 default)) ?_;exact Mx
 refine za (fun h15=>?_) fun h15=>?_
 ·have e:op=15:=Zc h15
  subst e
  have hl:2<=l.length:=len2 (Z7 hk);refine ⟨Za,Za,?_⟩;refine zg [[0,0,0],[0,0,0]] [] (c_equal (l.getD 0 default) (l.getD 1 default)) ?_;refine Z1 ?_;refine zg [[0,0,0]] [] (c_not (yY (l.getD 0 default) (l.getD 1 default))) ?_;exact Mx
 refine za (fun h16=>?_) fun h16=>?_
 ·have e:op=16:=Zc h16
  subst e
  have hl:2<=l.length:=len2 (Z7 hk);refine ⟨Za,Za,?_⟩;refine zg [[0,0,0],[0,0,0]] [] (c_less (l.getD 0 default) (l.getD 1 default)) ?_;exact Mx
 refine za (fun h17=>?_) fun h17=>?_
 ·have e:op=17:=Zc h17
  subst e
  have hl:2<=l.length:=len2 (Z7 hk);refine ⟨Za,Za,?_⟩;refine zg [[0,0,0],[0,0,0]] [] (c_less (l.getD 1 default) (l.getD 0 default)) ?_;refine Z1 ?_;refine zg [[0,0,0]] [] (c_not (vL (l.getD 1 default) (l.getD 0 default))) ?_;exact Mx
 refine za (fun h18=>?_) fun h18=>?_
 ·have e:op=18:=Zc h18
  subst e
  have hl:2<=l.length:=len2 (Z7 hk);refine ⟨Za,Za,?_⟩;refine zg [[0,0,0],[0,0,0]] [] (c_less (l.getD 1 default) (l.getD 0 default)) ?_;exact Mx
 refine za (fun h19=>?_) fun h19=>?_
 ·have e:op=19:=Zc h19
  subst e
  have hl:2<=l.length:=len2 (Z7 hk);refine ⟨Za,Za,?_⟩;refine zg [[0,0,0],[0,0,0]] [] (c_less (l.getD 0 default) (l.getD 1 default)) ?_;refine Z1 ?_;refine zg [[0,0,0]] [] (c_not (vL (l.getD 0 default) (l.getD 1 default))) ?_;exact Mx
 refine za (fun h20=>?_) fun h20=>?_
 ·have e:op=20:=Zc h20
  subst e
  have hl:2<=l.length:=len2 (Z7 hk);refine ⟨Za,Za,?_⟩;refine zg [[0,0,0],[0,0,0]] [] (c_same (l.getD 0 default) (l.getD 1 default)) ?_;refine Z1 ?_;refine zg [[0]] [] (c_etruth (wz (l.getD 0 default) (l.getD 1 default))) ?_;exact Mx
 refine za (fun h21=>?_) fun h21=>?_
 ·have e:op=21:=Zc h21
  subst e
  have hl:1<=l.length:=len1 (Z7 hk);refine ⟨Za,?_⟩;refine zg [[0]] [] (c_etruth ((l.getD 0 default).kind==0)) ?_;exact K4
 refine za (fun h22=>?_) fun h22=>?_
 ·have e:op=22:=Zc h22
  subst e
  have hl:2<=l.length:=len2 (Z7 hk);refine ⟨Za,Za,?_⟩;refine zg [[0,0,0],[0,0,0]] [] (c_and (l.getD 0 default) (l.getD 1 default)) ?_;exact Mx
 refine za (fun h23=>?_) fun h23=>?_
 ·have e:op=23:=Zc h23
  subst e
  have hl:2<=l.length:=len2 (Z7 hk);refine ⟨Za,Za,?_⟩;refine zg [[0,0,0],[0,0,0]] [] (c_or2 (l.getD 0 default) (l.getD 1 default)) ?_;exact Mx
 refine za (fun h24=>?_) fun h24=>?_
 ·have e:op=24:=Zc h24
  subst e
  have hl:1<=l.length:=len1 (Z7 hk);refine ⟨Za,?_⟩;refine zg [[0,0,0]] [] (c_not (l.getD 0 default)) ?_;exact K4
 refine za (fun h25=>?_) fun h25=>?_
 ·have e:op=25:=Zc h25
  subst e
  have hl:1<=l.length:=len1 (Z7 hk);refine ⟨Za,?_⟩;refine zg [[0,0,0]] [] (j4 (l.getD 0 default)) ?_;refine Z1 ?_;refine zg [[0]] [] (c_etruth (zM (l.getD 0 default)==1)) ?_;exact K4
 refine za (fun h27=>?_) fun h27=>?_
 ·have e:op=27:=Zc h27
  subst e
  have hl:2<=l.length:=len2 (Z7 hk);refine ⟨Za,?_⟩;refine za (fun g=>?_) fun g=>?_
  ·refine ⟨Za,?_⟩;have g1:(l.getD 0 default).kind=0:=Zc g;have hM:zB 27 l=(l.getD 1 default):=if_pos g1;rw [hM] at hr;exact zw Zm (ZL hr) Zb
  ·refine ⟨Za,?_⟩;have g1: ¬(l.getD 0 default).kind=0:=Zc g;have hM:zB 27 l=(l.getD 0 default):=if_neg g1;rw [hM] at hr;exact zw Zm (ZL hr) Zb
 refine za (fun h28=>?_) fun h28=>?_
 ·have e:op=28:=by simpa using h28
  subst e
  have hl:2≤l.length:=by have:(l.length:Int)≥2:=by simpa [y5] using hk
                         omega
  refine zg [[0]] [] (c_bool0) ?_;refine Z1 ?_;refine ⟨Za,?_⟩;have hM:zB 28 l=inM (l.getD 0 default) (ofV false) (l.drop 1):=rfl;rw [hM] at hr;have hdl:(l.drop 1).length<=1000:=Zt;simp only [Yk];generalize l.drop 1=r at hr hdl ⊢;have hsn: ∀n,n<r.length->inM (l.getD 0 default) (ofV false) (r.take (n+1))=orM (inM (l.getD 0 default) (ofV false) (r.take n)) (yY (l.getD 0 default) (r.getD n default)):=fun n h=>by
   rw [zy _ _ h,inM_snoc]
  generalize hv0:l.getD 0 default=v0 at hr hsn;generalize ha:(fun n:Nat=>inM v0 (ofV false) (r.take n))=acc;have ha0:acc 0=ofV false:=ZJ ha;have hsn: ∀n,n<r.length->acc (n+1)=orM (acc n) (yY v0 (r.getD n default)):=fun n h=>by rw [<-ha];exact hsn n h
  have haN:acc r.length=inM v0 (ofV false) r:=by rw [<-ha];simp
  rw [<-haN] at hr;refine zq mixed ttok 170 [1,4,5,168,169] [4] Zv Zw r.length (fun _=>True) (fun _=>[]) (fun n=>[(5,.var [.d (.lit (.int .i64 (acc n).kind)),.d (.lit (.int .i64 (acc n).num)),.d (.lit (.string (acc n).text))])]) trivial ?_ ?_
  ·exact Ya (Xa ha0) (Xa ha0) (Xa ha0)
  intro I hI n hn hi;refine Zx ?_;refine za (fun h=>?_) fun h=>?_
  ·simp only [Yg] at h;have h':n<r.length:=Za;have hw:=zh h' Za;refine ⟨Zs,Za,?_⟩;rw [hv0];refine zg [[0,0,0],[0,0,0]] [] (c_equal v0 (r.getD n default)) ?_;refine Z1 ?_;refine zg [[0,0,0],[0,0,0]] [] (c_or2 (acc n) (yY v0 (r.getD n default))) ?_;refine Z1 ?_;refine ⟨ze Zg,?_⟩;rw [<-hsn n h'];exact Nw
  ·have hn':n=r.length:=by simp at h;omega
   subst hn';exact zw Zm (Zr hr) Zb
 ·have hM:zB op l=zl:=by
   simp only [YO,ne_eq] at h6 h7 h8 h9 h10 h11 h12 h13 h14 h15 h16 h17 h18 h19 h20 h21 h22 h23 h24 h25 h27 h28;simp only [zB, *,or_self,if_false]
  exact Nf
end
section
attribute [local simp, local push_cast] Ta aRow aOp
def yf (row:List Val) (e:Ex) (vs:List Val):Val:=
 if yU e=false then zl
 else if e.op=2 then ⟨1,e.num,ByteArray.empty⟩ else if e.op=3 then ⟨2,e.num,ByteArray.empty⟩ else if e.op=4 then ⟨3,0,e.text⟩
 else if e.op=5 then (if 0<=e.col/\e.col<row.length then row.getD e.col.toNat default else zl)
 else if e.op=26 then (if zM (vs.getD 0 default)=1 then vs.getD 1 default else vs.getD 2 default)
 else zB e.op vs
mutual
def zG (row:List Val):Ex->Val
 | .mk a b c d g ks=>yf row (.mk a b c d g ks) (evalL row ks)
def evalL (row:List Val):List Ex->List Val
 | []=>[]
 | e::l=>zG row e::evalL row l
end
theorem evalL_eq (row:List Val): ∀l,evalL row l=l.map (zG row)
 | []=>rfl
 | e::l=>by rw [evalL,evalL_eq row l];rfl
theorem wM (row:List Val) (e:Ex):zG row e=yf row e (e.kids.map (zG row)):=by cases e;rw [zG,evalL_eq];rfl
def vU (row:List Val) (e:Ex) (n:Nat):List Val:=(e.kids.take n).map (zG row)
theorem valsTo_succ (row:List Val) (e:Ex) (n:Nat) (h:n<e.kids.length):vU row e (n+1)=vU row e n++[zG row (e.kids.getD n default)]:=by
 rw [vU,zy _ _ h,YE];rfl
theorem valsTo_length (row:List Val) (e:Ex) (n:Nat) (h:n<=e.kids.length):(vU row e n).length=n:=by simp [vU];omega
theorem kids_op {e:Ex} (h:yU e=true):y5 e.op e.kids.length=true:=by
 have:isOp e.op=true:=by simp only [yU,Yy] at h;exact h.1
 rw [qB this];exact h
theorem vk {α β:Type} [Inhabited α] [Inhabited β] (f:α->β) (l:List α) (n:Nat) (h:n<l.length):(l.map f).getD n default=f (l.getD n default):=by
 simp [Yf,h]
theorem MP{p:Prop}(h:p:=by
 simp only [Yg] at h;have h':n<e.kids.length:=Za;have hw:=zh h' Za;have hs:=valsTo_succ row e n h';refine ⟨Zs,?_⟩;refine zg [[0,0,0,0,0,6],[3]] [] (ih _ (zk h') (ho.kid (zk h'))) ?_;refine Z1 ?_;refine ⟨⟨hl2.symm,Z2 hl2⟩,?_⟩;exact zp hI n rfl h' trivial (by simp [hw,hs,hl2,zf,rV,ends]) (by simp [hw,hs,hl2,zf,rV,ends]) (by simp [hw,hs,hl2,zf,rV,ends]) (by simp [hw,hs,hl2,zf,rV,ends])):p:=h
theorem Ja{p:Prop}(h:p:=by
 refine Z1 ?_;exact zw Zm (Zr hr) Zb):p:=h
theorem c_eval (row:List Val): ∀e:Ex,Ok12 e→ACall Tryz.prog 61 [aE e,aRow row] [] (aV (zG row e)) []:=
 jY (p:=fun e=>Ok12 e->ACall Tryz.prog 61 [aE e,aRow row] [] (aV (zG row e)) []) fun e ih ho=>by
 refine zn mixed ttok Tryz.func61 Tryz.ntmps61 Tryz.results61 ?_;generalize hr:aV (zG row e)=R;have hl:=ho.kids;rw [wM] at hr;unfold yf at hr;refine ZR ?_;refine zg [[0,0,0,0,0,6]] [] (c_known e) ?_;simp -implicitDefEqProofs only [tabN,aOp,↓zb,push_cast,simprocAttr,tt];refine za (fun hc=>?_) fun hc=>?_
 ·rw [if_pos (Zc hc)] at hr;exact zw Zm (Zr hr) Zb
 have hc':yU e=true:=Zc hc;rw [if_neg (Z8 hc')] at hr;have hkk:=kids_op hc';refine za (fun h2=>?_) fun h2=>?_
 ·rw [if_pos (Zc h2)] at hr;exact zw Zm (Zr hr) Zb
 rw [if_neg (Zc h2)] at hr;refine za (fun h3=>?_) fun h3=>?_
 ·rw [if_pos (Zc h3)] at hr;exact zw Zm (Zr hr) Zb
 rw [if_neg (Zc h3)] at hr;refine za (fun h4=>?_) fun h4=>?_
 ·rw [if_pos (Zc h4)] at hr;exact zw Zm (Zr hr) Zb
 rw [if_neg (Zc h4)] at hr;refine za (fun h5=>?_) fun h5=>?_
 ·rw [if_pos (Zc h5)] at hr;refine za (fun g1=>?_) fun g1=>?_
  ·simp only [ge_iff_le,Yg] at g1;refine za (fun g2=>?_) fun g2=>?_
   ·simp only [Yg] at g2;rw [if_pos ⟨g1,g2⟩] at hr;refine ⟨⟨g1,g2⟩,?_⟩;exact zw Zm (Zr hr) Zb
   ·simp only [Ye] at g2;rw [if_neg (fun h=>g2 h.2)] at hr;exact zw Zm (Zr hr) Zb
  ·simp only [ge_iff_le,Ye] at g1;rw [if_neg (fun h=>g1 h.1)] at hr;exact zw Zm (Zr hr) Zb
 rw [if_neg (Zc h5)] at hr;refine za (fun h26=>?_) fun h26=>?_
 ·have e26:e.op=26:=Zc h26;rw [if_pos e26] at hr;have hl3:e.kids.length=3:=by
   rw [e26] at hkk;have:(e.kids.length:Int)=3:=Z7 hkk;omega
  rw [vk _ _ _ Za,vk _ _ _ Za,vk _ _ _ Za] at hr;have hg: ∀n,n<3->e.kids.getD n default∈e.kids:=fun n h=>zk Za;refine ⟨Za,?_⟩;refine zg [[0,0,0,0,0,6],[3]] [] (ih _ (hg 0 Za) (ho.kid (hg 0 Za))) ?_;refine Z1 ?_;refine zg [[0,0,0]] [] (j4 (zG row (e.kids.getD 0 default))) ?_;refine Z1 ?_;refine za (fun g=>?_) fun g=>?_
  ·rw [if_pos (Zc g)] at hr;refine ⟨Za,?_⟩;refine zg [[0,0,0,0,0,6],[3]] [] (ih _ (hg 1 Za) (ho.kid (hg 1 Za))) ?_;exact Ja
  ·rw [if_neg (Zc g)] at hr;refine ⟨Za,?_⟩;refine zg [[0,0,0,0,0,6],[3]] [] (ih _ (hg 2 Za) (ho.kid (hg 2 Za))) ?_;exact Ja
 rw [if_neg (Zc h26)] at hr;refine zq mixed ttok 80 [1,2,4,78,79] [2,4] Zv Zw e.kids.length (fun _=>True) (fun n=>[(8,.vec 500 n)]) (fun n=>[(500,.vec 71 3 (zd rV (vU row e n)) 0)]) trivial ?_ ?_
 ·exact (Weak.nilL 8 500 71 3 rfl rfl).trans (Weak.keepL (by simp [cst,ends]) (by simp [cst,vU,ends]) (by simp [cst,ends]))
 intro I hI n hn hi;have hl2:=valsTo_length row e n hn;refine Zx ?_;refine za (fun h=>?_) fun h=>?_
 ·exact MP
 simp only [Ye] at h;obtain rfl:n=e.kids.length:=Za;clear hI;have hT:vU row e e.kids.length=e.kids.map (zG row):=by rw [vU,Yk]
 rw [<-hT] at hr;rw [<-hl2] at hkk hl;generalize vU row e e.kids.length=l at hl2 hr hkk hl ⊢;refine zg [[0],[3]] [] (c_apply e.op l hkk Za) ?_;exact Ja
theorem orM_false (a b:Val):orM (ofV false) (yY a b)=yY a b:=by
 unfold yY
 split
 ·rfl
 ·cases wz a b<;>rfl
theorem evalK_null {row:List Val} {e:Ex} {vs:List Val} (h:yU e=false):yf row e vs=zl:=by rw [yf,if_pos h]
theorem ZS {p P0 P1:Prop} (zf_:P0) (zg_:P1) (h:P0->P1->p:=by intro zf_ zg_;simp [yf,zB,zf_,zg_]):p:=h zf_ zg_
theorem MJ{p:Prop}(h:p:=by
 refine Z1 ?_;refine ⟨ze Zg,?_⟩;exact zw Zm (Zr hr) Zb):p:=h
theorem NU{p:Prop}(h:p:=by
 rw [hM] at hr;refine ⟨Zs,Za,Za,?_⟩;exact zw Zm (Zr hr) Zb):p:=h
theorem J1{p:Prop}(h:p:=by
 have hc:yU e=false:=by
  have:isOp e.op=false:=by simp [isOp];omega
  rw [yU,this,Yl]
 rw [evalK_null hc] at hr;exact zw Zm (Zr hr) Zb):p:=h
theorem GT{p:Prop}(h:p:=by
 rw [Yf] at g1;have hM:yf row e l=(l.getD 1 default):=by simp [yf,zB,hc,op,g1]
 exact NU):p:=h
theorem c_reval (row:List Val): ∀e:Ex,Ok12 e→ACall Tryz.prog 73 [aE e,aRow row] [] (aV (zG row e)) []:=
 jY (p:=fun e=>Ok12 e->ACall Tryz.prog 73 [aE e,aRow row] [] (aV (zG row e)) []) fun e ih ho=>by
 refine zn mixed ttok Tryz.func73 Tryz.ntmps73 Tryz.results73 ?_;generalize hr:aV (zG row e)=R;have hl:=ho.kids;rw [wM] at hr;refine ZR ?_;refine za (fun g1=>?_) fun g1=>?_
 ·simp only [Yg] at g1;exact J1
 simp only [Ye] at g1;refine za (fun g2=>?_) fun g2=>?_
 ·simp only [gt_iff_lt,Yg] at g2;exact J1
 simp only [gt_iff_lt,Ye] at g2;have hisop:isOp e.op=true:=by simp [isOp];omega
 refine zg [[0],[0]] [] (c_rkids e.op e.kids.length) ?_;refine Z1 ?_;refine za (fun g3=>?_) fun g3=>?_
 ·have hc:yU e=false:=by rw [←qB hisop];simpa using g3
  rw [evalK_null hc] at hr;exact zw Zm (Zr hr) Zb
 have hc:yU e=true:=by rw [<-qB hisop];simpa using g3
 have hk:=kids_op hc;refine zq mixed ttok 6 [1,2,4] [2,4] Zv Zw e.kids.length (fun _=>True) (fun n=>[(5,.vec 500 n)]) (fun n=>[(500,.vec 71 3 (zd rV (vU row e n)) 0)]) trivial ?_ ?_
 ·exact (Weak.nilL 5 500 71 3 rfl rfl).trans (Weak.keepL (by simp [cst,ends]) (by simp [cst,vU,ends]) (by simp [cst,ends]))
 intro I hI n hn hi;have hl2:=valsTo_length row e n hn;refine Zx ?_;refine za (fun h=>?_) fun h=>?_
 ·exact MP
 simp only [Ye] at h;obtain rfl:n=e.kids.length:=Za;clear hI;have hT:vU row e e.kids.length=e.kids.map (zG row):=by rw [vU,Yk]
 rw [<-hT] at hr;rw [<-hl2] at hk hl;generalize vU row e e.kids.length=l at hl2 hr hk hl ⊢;refine za (fun h1=>?_) fun h1=>?_
 ·have op:e.op=1:=Zc h1;have hM:yf row e l=zl:=ZS hc op;exact Nf
 refine za (fun h2=>?_) fun h2=>?_
 ·have op:e.op=2:=Zc h2;have hM:yf row e l=⟨1,e.num,ByteArray.empty⟩:=ZS hc op;exact Nf
 refine za (fun h3=>?_) fun h3=>?_
 ·have op:e.op=3:=Zc h3;have hM:yf row e l=⟨2,e.num,ByteArray.empty⟩:=ZS hc op;exact Nf
 refine za (fun h4=>?_) fun h4=>?_
 ·have op:e.op=4:=Zc h4;have hM:yf row e l=⟨3,0,e.text⟩:=ZS hc op;exact Nf
 refine za (fun h5=>?_) fun h5=>?_
 ·have op:e.op=5:=Zc h5;refine za (fun g1=>?_) fun g1=>?_
  ·simp only [Yg] at g1;have g2: ¬(0<=e.col/\e.col<row.length):=Za;have hM:yf row e l=zl:=by simp [yf,zB,hc,op, -not_and,g2]
   exact Nf
  refine za (fun g2=>?_) fun g2=>?_
  ·simp only [ge_iff_le,Yg] at g2;have g3: ¬(0<=e.col/\e.col<row.length):=Za;have hM:yf row e l=zl:=by simp [yf,zB,hc,op, -not_and,g3]
   exact Nf
  ·simp only [ge_iff_le,Ye] at g1 g2;have g3:0<=e.col/\e.col<row.length:=Za;have hM:yf row e l=row.getD e.col.toNat default:=by simp only [yf,hc,op];simp [g3]
   rw [hM] at hr;refine ⟨g3,?_⟩;exact zw Zm (Zr hr) Zb
 refine za (fun h11=>?_) fun h11=>?_
 ·have op:e.op=11:=Zc h11
  rw [op] at hk
  have hM:yf row e l=u6 7 ⟨1,0,ByteArray.empty⟩ (l.getD 0 default):=ZS hc op;rw [hM] at hr;have hl:1<=l.length:=len1 (Z7 hk)
  repeat (refine And.intro (by first | omega | (refine ⟨?_,?_⟩<;>omega)) ?_)
  refine zg [[0],[0,0,0],[0,0,0]] [] (c_rarith 7 ⟨1,0,ByteArray.empty⟩ (l.getD 0 default)) ?_;exact Ja
 refine za (fun h13=>?_) fun h13=>?_
 ·have op:e.op=13:=Zc h13
  rw [op] at hk
  have hl:1<=l.length:=len1 (Z7 hk)
  repeat (refine And.intro (by first | omega | (refine ⟨?_,?_⟩<;>omega)) ?_)
  refine za (fun g=>?_) fun g=>?_
  ·have g1: ¬(l.getD 0 default).kind=3:=Zc g;rw [Yf] at g1;have hM:yf row e l=zl:=by simp [yf,zB,hc,op,g1]
   exact Nf
  ·refine ⟨Za,Za,Za,Za,?_⟩;have g1:(l.getD 0 default).kind=3:=Zc g;have g2:=g1;rw [Yf] at g2;have hM:yf row e l=⟨1,(l.getD 0 default).text.size,ByteArray.empty⟩:=by simp [yf,zB,hc,op,g2]
   exact Nf
 refine za (fun h14=>?_) fun h14=>?_
 ·have op:e.op=14:=Zc h14
  rw [op] at hk
  have hM:yf row e l=yY (l.getD 0 default) (l.getD 1 default):=ZS hc op;rw [hM] at hr;have hl:2<=l.length:=len2 (Z7 hk)
  repeat (refine And.intro (by first | omega | (refine ⟨?_,?_⟩<;>omega)) ?_)
  refine zg [[0,0,0],[0,0,0]] [] (c_requal (l.getD 0 default) (l.getD 1 default)) ?_;exact MJ
 refine za (fun h15=>?_) fun h15=>?_
 ·have op:e.op=15:=Zc h15
  rw [op] at hk
  have hM:yf row e l=notM (yY (l.getD 0 default) (l.getD 1 default)):=ZS hc op;rw [hM] at hr;have hl:2<=l.length:=len2 (Z7 hk)
  repeat (refine And.intro (by first | omega | (refine ⟨?_,?_⟩<;>omega)) ?_)
  refine zg [[0,0,0],[0,0,0]] [] (c_requal (l.getD 0 default) (l.getD 1 default)) ?_;refine Z1 ?_;refine zg [[0,0,0]] [] (c_rnot (yY (l.getD 0 default) (l.getD 1 default))) ?_;exact MJ
 refine za (fun h16=>?_) fun h16=>?_
 ·have op:e.op=16:=Zc h16
  rw [op] at hk
  have hM:yf row e l=vL (l.getD 0 default) (l.getD 1 default):=ZS hc op;rw [hM] at hr;have hl:2<=l.length:=len2 (Z7 hk)
  repeat (refine And.intro (by first | omega | (refine ⟨?_,?_⟩<;>omega)) ?_)
  refine zg [[0,0,0],[0,0,0]] [] (c_rless (l.getD 0 default) (l.getD 1 default)) ?_;exact MJ
 refine za (fun h17=>?_) fun h17=>?_
 ·have op:e.op=17:=Zc h17
  rw [op] at hk
  have hM:yf row e l=notM (vL (l.getD 1 default) (l.getD 0 default)):=ZS hc op;rw [hM] at hr;have hl:2<=l.length:=len2 (Z7 hk)
  repeat (refine And.intro (by first | omega | (refine ⟨?_,?_⟩<;>omega)) ?_)
  refine zg [[0,0,0],[0,0,0]] [] (c_rless (l.getD 1 default) (l.getD 0 default)) ?_;refine Z1 ?_;refine zg [[0,0,0]] [] (c_rnot (vL (l.getD 1 default) (l.getD 0 default))) ?_;exact MJ
 refine za (fun h18=>?_) fun h18=>?_
 ·have op:e.op=18:=Zc h18
  rw [op] at hk
  have hM:yf row e l=vL (l.getD 1 default) (l.getD 0 default):=ZS hc op;rw [hM] at hr;have hl:2<=l.length:=len2 (Z7 hk)
  repeat (refine And.intro (by first | omega | (refine ⟨?_,?_⟩<;>omega)) ?_)
  refine zg [[0,0,0],[0,0,0]] [] (c_rless (l.getD 1 default) (l.getD 0 default)) ?_;exact MJ
 refine za (fun h19=>?_) fun h19=>?_
 ·have op:e.op=19:=Zc h19
  rw [op] at hk
  have hM:yf row e l=notM (vL (l.getD 0 default) (l.getD 1 default)):=ZS hc op;rw [hM] at hr;have hl:2<=l.length:=len2 (Z7 hk)
  repeat (refine And.intro (by first | omega | (refine ⟨?_,?_⟩<;>omega)) ?_)
  refine zg [[0,0,0],[0,0,0]] [] (c_rless (l.getD 0 default) (l.getD 1 default)) ?_;refine Z1 ?_;refine zg [[0,0,0]] [] (c_rnot (vL (l.getD 0 default) (l.getD 1 default))) ?_;exact MJ
 refine za (fun h20=>?_) fun h20=>?_
 ·have op:e.op=20:=Zc h20
  rw [op] at hk
  have hM:yf row e l=ofV (wz (l.getD 0 default) (l.getD 1 default)):=ZS hc op;rw [hM] at hr;have hl:2<=l.length:=len2 (Z7 hk)
  repeat (refine And.intro (by first | omega | (refine ⟨?_,?_⟩<;>omega)) ?_)
  refine zg [[0,0,0],[0,0,0]] [] (c_rsame (l.getD 0 default) (l.getD 1 default)) ?_;refine Z1 ?_;refine zg [[0]] [] (c_of (wz (l.getD 0 default) (l.getD 1 default))) ?_;exact MJ
 refine za (fun h21=>?_) fun h21=>?_
 ·have op:e.op=21:=Zc h21
  rw [op] at hk
  have hM:yf row e l=ofV ((l.getD 0 default).kind==0):=ZS hc op;rw [hM] at hr;have hl:1<=l.length:=len1 (Z7 hk)
  repeat (refine And.intro (by first | omega | (refine ⟨?_,?_⟩<;>omega)) ?_)
  refine zg [[0]] [] (c_of ((l.getD 0 default).kind==0)) ?_;exact Ja
 refine za (fun h22=>?_) fun h22=>?_
 ·have op:e.op=22:=Zc h22
  rw [op] at hk
  have hM:yf row e l=andM (l.getD 0 default) (l.getD 1 default):=ZS hc op;rw [hM] at hr;have hl:2<=l.length:=len2 (Z7 hk)
  repeat (refine And.intro (by first | omega | (refine ⟨?_,?_⟩<;>omega)) ?_)
  refine zg [[0,0,0],[0,0,0]] [] (c_rand (l.getD 0 default) (l.getD 1 default)) ?_;exact MJ
 refine za (fun h23=>?_) fun h23=>?_
 ·have op:e.op=23:=Zc h23
  rw [op] at hk
  have hM:yf row e l=orM (l.getD 0 default) (l.getD 1 default):=ZS hc op;rw [hM] at hr;have hl:2<=l.length:=len2 (Z7 hk)
  repeat (refine And.intro (by first | omega | (refine ⟨?_,?_⟩<;>omega)) ?_)
  refine zg [[0,0,0],[0,0,0]] [] (c_ror (l.getD 0 default) (l.getD 1 default)) ?_;exact MJ
 refine za (fun h24=>?_) fun h24=>?_
 ·have op:e.op=24:=Zc h24
  rw [op] at hk
  have hM:yf row e l=notM (l.getD 0 default):=ZS hc op;rw [hM] at hr;have hl:1<=l.length:=len1 (Z7 hk)
  repeat (refine And.intro (by first | omega | (refine ⟨?_,?_⟩<;>omega)) ?_)
  refine zg [[0,0,0]] [] (c_rnot (l.getD 0 default)) ?_;exact Ja
 refine za (fun h25=>?_) fun h25=>?_
 ·have op:e.op=25:=Zc h25
  rw [op] at hk
  have hM:yf row e l=ofV (zM (l.getD 0 default)==1):=ZS hc op;rw [hM] at hr;have hl:1<=l.length:=len1 (Z7 hk)
  repeat (refine And.intro (by first | omega | (refine ⟨?_,?_⟩<;>omega)) ?_)
  refine zg [[0,0,0]] [] (u3 (l.getD 0 default)) ?_;refine Z1 ?_;refine zg [[0]] [] (c_of (zM (l.getD 0 default)==1)) ?_;exact Ja
 refine za (fun h26=>?_) fun h26=>?_
 ·have op:e.op=26:=by simpa using h26
  rw [op] at hk
  have hl:3≤l.length:=by have:(l.length:Int)=3:=by simpa [y5] using hk
                         omega
  repeat (refine And.intro (by first | omega | (refine ⟨?_,?_⟩<;>omega)) ?_)
  refine zg [[0,0,0]] [] (u3 (l.getD 0 default)) ?_;refine Z1 ?_;refine za (fun g=>?_) fun g=>?_
  ·have g1:zM (l.getD 0 default)=1:=Zc g;exact GT
  ·have g1: ¬zM (l.getD 0 default)=1:=Zc g;rw [Yf] at g1;have hM:yf row e l=(l.getD 2 default):=by simp [yf,zB,hc,op,g1]
   exact NU
 refine za (fun h27=>?_) fun h27=>?_
 ·have op:e.op=27:=Zc h27
  rw [op] at hk
  have hl:2<=l.length:=len2 (Z7 hk)
  repeat (refine And.intro (by first | omega | (refine ⟨?_,?_⟩<;>omega)) ?_)
  refine za (fun g=>?_) fun g=>?_
  ·have g1: ¬(l.getD 0 default).kind=0:=Zc g;rw [Yf] at g1;have hM:yf row e l=(l.getD 0 default):=by simp [yf,zB,hc,op,g1]
   exact NU
  ·have g1:(l.getD 0 default).kind=0:=Zc g;exact GT
 refine za (fun h28=>?_) fun h28=>?_
 ·have op:e.op=28:=by simpa using h28
  rw [op] at hk
  have hl0:2≤l.length:=by have:(l.length:Int)≥2:=by simpa [y5] using hk
                          omega
  have hM:yf row e l=inM (l.getD 0 default) (yY (l.getD 0 default) (l.getD 1 default)) (l.drop 2):=by
   simp only [yf,hc,op];show inM (l.getD 0 default) (ofV false) (l.drop 1)=_;rw [zA _ 1 Za,inM,orM_false]
  rw [hM] at hr;generalize hv0:l.getD 0 default=v0 at hr ⊢;have hacc: ∃acc:Nat->Val,acc 2=yY v0 (l.getD 1 default)/\(∀n,n<l.length->2<=n->acc (n+1)=orM (acc n) (yY v0 (l.getD n default)))/\acc l.length=inM v0 (yY v0 (l.getD 1 default)) (l.drop 2):=by
   refine ⟨fun n=>inM v0 (yY v0 (l.getD 1 default)) ((l.drop 2).take (n-2)),by simp [inM],fun n h1 h2=>?_,?_⟩
   ·have e1:n+1-2=(n-2)+1:=Za;have e2:(l.drop 2).getD (n-2) default=l.getD n default:=by
     simp only [Yf,List.getElem?_drop];rw [show 2+(n-2)=n from Za]
    simp only [];rw [e1,zy _ _ Zt,inM_snoc,e2]
   ·simp only [];rw [UG Zd]
  obtain ⟨acc,ha2,has,haN⟩:=hacc;rw [<-haN] at hr
  repeat (refine And.intro (by first | omega | (refine ⟨?_,?_⟩<;>omega)) ?_)
  refine zg [[0,0,0],[0,0,0]] [] (c_requal v0 (l.getD 1 default)) ?_;refine Z1 ?_;refine ⟨ze Zg,?_⟩;rw [<-ha2];refine zx mixed ttok (fun n:Nat=>(⟨[(8,.d (.lit (.int .i64 n))),(5,.vec 500 l.length),(4,.ptr 4 0),(7,.ptr 7 0)],[(500,.vec 71 3 (zd rV l) 0),(7,.var [.d (.lit (.int .i64 (acc n).kind)),.d (.lit (.int .i64 (acc n).num)),.d (.lit (.string (acc n).text))]),(4,.var [.d (.lit (.int .i64 0)),.d (.lit (.int .i64 0)),.d (.lit (.string ByteArray.empty))])]⟩:SL)) (fun n=>l.length-n) (fun n=>2<=n/\n<=l.length) 2 ⟨Za,Za⟩ ?_ ?_
  ·exact Ya (Ze hl2) Zb Zb
  intro I hI n ⟨hn1,hn⟩;refine Zf ?_;refine za (fun h=>?_) fun h=>?_
  ·simp only [Yg] at h;have h':n<l.length:=Za;have hw:=zh h' Za
   repeat (refine And.intro (by first | omega | (refine ⟨?_,?_⟩<;>omega)) ?_)
   simp only [hv0];refine zg [[0,0,0],[0,0,0]] [] (c_requal v0 (l.getD n default)) ?_;refine Z1 ?_;refine zg [[0,0,0],[0,0,0]] [] (c_ror (acc n) (yY v0 (l.getD n default))) ?_;refine Z1 ?_;refine ⟨ze Zg,?_⟩;rw [<-has n h' hn1];exact zi hI (n+1) ⟨Za,Za⟩ Zl (Ya (Ze hw) Zb Zb)
  ·simp only [Ye] at h;obtain rfl:n=l.length:=Za;exact zw Zm (Zr hr) Zb
 have hcase:e.op=6\/e.op=7\/e.op=8\/e.op=9\/e.op=10\/e.op=12:=by
  simp only [YO,ne_eq] at h1 h2 h3 h4 h5 h11 h13 h14 h15 h16 h17 h18 h19 h20 h21 h22 h23 h24 h25 h26 h27 h28;omega
 have hl0:2<=l.length:=by
  rcases hcase with h | h | h | h | h | h<;>rw [h] at hk<;>exact len2 (Z7 hk)
 have hM:yf row e l=u6 e.op (l.getD 0 default) (l.getD 1 default):=by
  rcases hcase with h | h | h | h | h | h<;>simp [yf,zB,hc,h]
 rw [hM] at hr
 repeat (refine And.intro (by first | omega | (refine ⟨?_,?_⟩<;>omega)) ?_)
 refine zg [[0],[0,0,0],[0,0,0]] [] (c_rarith e.op (l.getD 0 default) (l.getD 1 default)) ?_;exact MJ
end
section
attribute [local simp, local push_cast] Ta aRow rRow
def cmpR:List Val->List Val->Int
 | [],[]=>0
 | [],_::_=> -1
 | _::_,[]=>1
 | x::a,y::b=>if cmpM x y≠0 then cmpM x y else cmpR a b
theorem cmpR_end {a b:List Val} {n:Nat} (ha:n<=a.length) (hb:n<=b.length) (h:n=a.length\/n=b.length):
 cmpR (a.drop n) (b.drop n)=if a.length<b.length then -1 else if a.length>b.length then 1 else 0:=by
 rcases h with rfl | rfl
 ·rw [Um];by_cases h2:a.length<b.length
  ·rw [zA _ _ h2,if_pos h2];rfl
  ·have:b.drop a.length=[]:=YG Za;rw [this,if_neg h2,if_neg Za];rfl
 ·rw [Um];by_cases h2:b.length<a.length
  ·rw [zA _ _ h2,if_neg Za,if_pos h2];rfl
  ·have:a.drop b.length=[]:=YG Za;rw [this,if_neg Za,if_neg Za];rfl
theorem MR{p:Prop}(h:p:=by
 refine za (fun k1=>?_) fun k1=>?_
 ·simp only [Yg] at k1;exact zm trivial (by rw [<-hr,<-hi,if_pos (by omega)];rfl) Zb
 refine za (fun k2=>?_) fun k2=>?_
 ·simp only [Ye,gt_iff_lt,Yg] at k1 k2;exact zm trivial (by rw [<-hr,<-hi,if_neg (by omega),if_pos (by omega)];rfl) Zb
 ·simp only [Ye,gt_iff_lt] at k1 k2;exact zm trivial (by rw [<-hr,<-hi,if_neg (by omega),if_neg (by omega)];rfl) Zb):p:=h
theorem NH{p:Prop}(h:p:=by
 refine za (fun g=>?_) fun g=>?_
 ·rw [if_pos (Zc g)] at hi;exact Hi
 ·rw [if_neg (Zc g)] at hi;exact zi hI (n+1) ⟨h1',h2',hi⟩ Zl (Ya (Ze hw) Zb Zb)):p:=h
theorem jB (a b:List Val) (ha:a.length≤1000000):ACall Tryz.prog 40 [aRow a,aRow b] [] (num (cmpR a b)) []:=by
 refine zn mixed ttok Tryz.func40 Tryz.ntmps40 Tryz.results40 ?_;generalize hr:num (cmpR a b)=R;refine Zn ?_;refine zx mixed ttok (fun n:Nat=>(⟨[(5,.d (.lit (.int .i64 n))),(0,aRow a),(1,aRow b)],[]⟩:SL)) (fun n=>a.length-n) (fun n=>n<=a.length/\n<=b.length/\cmpR (a.drop n) (b.drop n)=cmpR a b) 0 ⟨Yj _,Yj _,rfl⟩ ?_ ?_
 ·exact Ya Zb Zb Zb
 intro I hI n ⟨hn,hn2,hi⟩;refine Zf ?_;refine za (fun h1=>?_) fun h1=>?_
 ·simp only [Yg] at h1;have h1':n<a.length:=Za;refine za (fun h2=>?_) fun h2=>?_
  ·simp only [Yg] at h2;have h2':n<b.length:=Za;have hw:=zh h1' Za;rw [zA _ _ h1',zA _ _ h2',cmpR] at hi;refine ⟨⟨Za,h1⟩,⟨Za,h2⟩,?_⟩;refine zg [[0,0,0],[0,0,0]] [] (c_rcompare (a.getD n default) (b.getD n default)) ?_;refine Zf ?_;refine ⟨ze Zg,?_⟩;exact NH
  ·simp only [Ye] at h2;rw [cmpR_end hn hn2 (.inr Za)] at hi;exact MR
 ·simp only [Ye] at h1;rw [cmpR_end hn hn2 (.inl Za)] at hi;exact MR
theorem yi: ∀a:Row,cmpR a a=0
 | []=>rfl
 | x::a=>by rw [cmpR,(wZ x x).2 rfl,if_neg (by decide)];exact yi a
theorem X5 {p:Prop} (h:p:=by simp [cmpR]):p:=h
theorem wF: ∀(a b:Row),cmpR a b=0 ↔ a=b
 | [],[]=>X5
 | [],_::_=>X5
 | _::_,[]=>X5
 | x::a,y::b=>by
   have ih:=wF a b;have h1:=wZ x y;simp only [cmpR,List.cons.injEq];by_cases h:cmpM x y=0
   ·rw [if_neg (Zc h),ih,<-h1];simp [h]
   ·rw [if_pos h];exact ⟨fun e=>absurd e h,fun e=>absurd (h1.2 e.1) h⟩
theorem cmpR_le: ∀a b:Row,cmpR a b<=0 ↔ ¬cmpR b a<0
 | [],[]=>X5
 | [],_::_=>X5
 | _::_,[]=>X5
 | x::a,y::b=>by
   have ih:=cmpR_le a b;have h1:=cmpM_le x y;simp only [cmpR];by_cases h:cmpM x y=0
   ·have hxy:=(wZ x y).1 h;subst hxy;simp only [h,ne_eq,not_true_eq_false,if_false];exact ih
   ·have h':cmpM y x≠0:=fun e=>h ((wZ x y).2 ((wZ y x).1 e).symm);rw [if_pos h,if_pos h'];exact h1
theorem cmpR_trans: ∀a b c:Row,cmpR a b<0→cmpR b c<0→cmpR a c<0
 | [],[],_,h,_=>by simp [cmpR] at h
 | [],_::_,[],_,h=>by simp [cmpR] at h
 | [],_::_,_::_,_,_=>X5
 | _::_,[],_,h,_=>by simp [cmpR] at h
 | _::_,_::_,[],_,h=>by simp [cmpR] at h
 | x::a,y::b,z::c,h1,h2=>by
   have ih:=cmpR_trans a b c;simp only [cmpR] at h1 h2 ⊢;by_cases hxy:cmpM x y=0
   ·have e:=(wZ x y).1 hxy;subst e;rw [if_neg (Zc hxy)] at h1;by_cases hyz:cmpM x z=0
    ·rw [if_neg (Zc hyz)] at h2 ⊢;exact ih h1 h2
    ·rw [if_pos hyz] at h2 ⊢;exact h2
   ·rw [if_pos hxy] at h1;by_cases hyz:cmpM y z=0
    ·have e:=(wZ y z).1 hyz;subst e;rw [if_pos hxy];exact h1
    ·rw [if_pos hyz] at h2;have h3:=kk h1 h2;rw [if_pos Za];exact h3
def leR (x y:Row):Bool:=decide (cmpR x y<=0)
theorem jy (a b:Row):leR a b=true ↔ cmpR a b<=0:=by simp [leR]
theorem leR_false (a b:Row):leR a b=false ↔ cmpR b a<0:=by
 have:=cmpR_le a b;simp only [leR,Ye];omega
theorem ordR:Ord leR where
 trans a b c h1 h2:=by
  rw [jy] at *;by_cases e1:cmpR a b=0
  ·rw [(wF a b).1 e1];exact h2
  by_cases e2:cmpR b c=0
  ·rw [<-(wF b c).1 e2];exact h1
  have:=cmpR_trans a b c Za Za;omega
 total a b:=by
  cases h:leR a b with
  | true=>rfl
  | false=>
    have:=(leR_false a b).1 h;simp only [Yx,jy];omega
theorem leR_anti {a b:Row} (h1:leR a b=true) (h2:leR b a=true):a=b:=by
 rw [jy] at *;have:=cmpR_le b a;exact (wF a b).1 Za
abbrev srt (l:List Row):List Row:=zL leR l
theorem asc_uniq {a b:List Row} (ha:Asc leR a) (hb:Asc leR b) (h:a.Perm b):a=b:=
 h.eq_of_pairwise (fun x y _ _ h1 h2=>leR_anti h1 h2) ha hb
theorem srt_perm {a b:List Row} (h:a.Perm b):srt a=srt b:=asc_uniq (yL ordR a) (yL ordR b) ((zJ a).trans (h.trans (zJ b).symm))
def canF:Nat->List Row->List Row
 | 0,rows=>rows
 | n+1,rows=>if rows.length<2 then rows else List.merge (canF n (rows.take (rows.length / 2))) (canF n (rows.drop (rows.length / 2))) leR
theorem srt_short {l:List Row} (h:l.length<2):srt l=l:=by
 match l,h with
 | [],_=>rfl
 | [x],_=>exact ssort_one x
theorem gC: ∀(n:Nat) (l:List Row),l.length<=n+1->canF n l=srt l
 | 0,l,h=>by rw [canF,srt_short (by omega)]
 | n+1,l,h=>by
   rw [canF]
   split
   ·exact (srt_short (by assumption)).symm
   ·rw [gC n _ Zt,gC n _ Zt,w9 ordR,Yp]
structure Grp where
 row:Row
 m:Nat
 n:Nat
instance:Inhabited Grp:=⟨⟨[],0,0⟩⟩
def rG (g:Grp):List D:=[.sl 3 (zd rV g.row),.lit (.int .i64 g.m),.lit (.int .i64 g.n)]
def cntR (r:Row) (l:List Row):Nat:=(l.takeWhile fun x=>cmpR x r==0).length
theorem xz (r x:Row) (l:List Row):cntR r (x::l)=if cmpR x r=0 then cntR r l+1 else 0:=by
 unfold cntR;rw [List.takeWhile_cons];by_cases h:cmpR x r=0<;>simp [h]
theorem xy (r:Row) (l:List Row):cntR r l<=l.length:=(List.takeWhile_prefix _).length_le
theorem cntR_in (r:Row): ∀(l:List Row) (j:Nat),j<cntR r l->cmpR (l.getD j default) r=0
 | [],j,h=>by simp [cntR] at h
 | x::l,j,h=>by
   rw [xz] at h
   split at h
   ·rename_i hx;cases j with
    | zero=>simpa using hx
    | succ j=>simpa using cntR_in r l j Za
   ·omega
theorem cntR_out (r:Row): ∀(l:List Row),cntR r l<l.length->cmpR (l.getD (cntR r l) default) r≠0
 | [],h=>by simp at h
 | x::l,h=>by
   rw [xz] at h ⊢
   split at h
   ·rename_i hx;rw [if_pos hx];simpa using cntR_out r l (Zc h)
   ·rename_i hx;rw [if_neg hx];simpa using hx
def yo:List Row->List Row->Row
 | [],[]=>[]
 | [],y::_=>y
 | x::_,[]=>x
 | x::_,y::_=>if leR x y=true then x else y
def grpF:Nat->List Row->List Row->List Grp
 | 0,_,_=>[]
 | n+1,X,Y=>if X.length=0/\Y.length=0 then [] else ⟨yo X Y,cntR (yo X Y) X,cntR (yo X Y) Y⟩::grpF n (X.drop (cntR (yo X Y) X)) (Y.drop (cntR (yo X Y) Y))
theorem v7 (X Y:List Row) (h: ¬(X.length=0/\Y.length=0)):0<cntR (yo X Y) X+cntR (yo X Y) Y:=by
 match X,Y,h with
 | [],[],h=>exact absurd ⟨rfl,rfl⟩ h
 | [],y::Y,_=>rw [yo,xz,if_pos (yi y)];omega
 | x::X,[],_=>rw [yo,xz,if_pos (yi x)];omega
 | x::X,y::Y,_=>
   rw [yo]
   split
   ·rw [xz,if_pos (yi x)];omega
   ·rw [xz (x:=y),if_pos (yi y)];omega
theorem grpF_fuel: ∀(n m:Nat) (X Y:List Row),X.length+Y.length<=n->X.length+Y.length<=m->grpF n X Y=grpF m X Y
 | 0,0,_,_,_,_=>rfl
 | 0,m+1,X,Y,h1,_=>by rw [grpF,grpF,if_pos (by omega)]
 | n+1,0,X,Y,_,h2=>by rw [grpF,grpF,if_pos (by omega)]
 | n+1,m+1,X,Y,h1,h2=>by
   rw [grpF,grpF]
   split
   ·rfl
   ·rename_i h;have h3:=v7 X Y h;have h4:=xy (yo X Y) X;have h5:=xy (yo X Y) Y;rw [grpF_fuel n m _ _ Zt Zt]
def grpM (X Y:List Row):List Grp:=grpF (X.length+Y.length) X Y
theorem gj:grpM [] []=[]:=rfl
theorem XG {p:Prop} (h:p:=by simp only [Ym];omega):p:=h
theorem wP {X Y:List Row} (h: ¬(X.length=0/\Y.length=0)):
 grpM X Y=⟨yo X Y,cntR (yo X Y) X,cntR (yo X Y) Y⟩::grpM (X.drop (cntR (yo X Y) X)) (Y.drop (cntR (yo X Y) Y)):=by
 have h3:=v7 X Y h;have h4:=xy (yo X Y) X;have h5:=xy (yo X Y) Y;have e:X.length+Y.length=(X.length+Y.length-1)+1:=Za;unfold grpM;rw [e,grpF,if_neg h];simp only [Ym];rw [grpF_fuel (X.length+Y.length-1) (X.length-cntR (yo X Y) X+(Y.length-cntR (yo X Y) Y)) _ _ XG XG]
theorem ug: ∀(n:Nat) (X Y:List Row),X.length+Y.length<=n->(grpM X Y).length<=X.length+Y.length
 | 0,X,Y,h=>by
   have h1:X=[]:=Yi Za;have h2:Y=[]:=Yi Za;subst h1 h2;exact Ys _
 | n+1,X,Y,h=>by
   by_cases h0:X.length=0/\Y.length=0
   ·have h1:X=[]:=Yi h0.1;have h2:Y=[]:=Yi h0.2;subst h1 h2;exact Ys _
   ·have h3:=v7 X Y h0;have h4:=xy (yo X Y) X;have h5:=xy (yo X Y) Y;have ih:=ug n (X.drop (cntR (yo X Y) X)) (Y.drop (cntR (yo X Y) Y)) Zt;rw [wP h0];simp only [Y5,Ym] at ih ⊢;omega
theorem pick2_mem (X Y:List Row) (h: ¬(X.length=0/\Y.length=0)):yo X Y∈X++Y:=by
 match X,Y,h with
 | [],[],h=>exact absurd ⟨rfl,rfl⟩ h
 | [],y::Y,_=>simp [yo]
 | x::X,[],_=>simp [yo]
 | x::X,y::Y,_=>rw [yo];split<;>simp
theorem KU{p:Prop}(h:p:=by
 have h1:X=[]:=Yi h0.1;have h2:Y=[]:=Yi h0.2;subst h1 h2;cases hg):p:=h
theorem grpM_mem: ∀(n:Nat) (X Y:List Row),X.length+Y.length≤n→ ∀g∈grpM X Y,g.row∈X++Y∧g.m≤X.length∧g.n≤Y.length
 | 0,X,Y,h,g,hg=>by
   have h1:X=[]:=Yi Za;have h2:Y=[]:=Yi Za;subst h1 h2;cases hg
 | n+1,X,Y,h,g,hg=>by
   by_cases h0:X.length=0/\Y.length=0
   ·exact KU
   ·have h3:=v7 X Y h0;have h4:=xy (yo X Y) X;have h5:=xy (yo X Y) Y;rw [wP h0] at hg;rcases YB.1 hg with rfl | hg
    ·exact ⟨pick2_mem X Y h0,h4,h5⟩
    ·obtain ⟨g1,g2,g3⟩:=grpM_mem n _ _ Zt g hg;simp only [Ym] at g2 g3;refine ⟨?_,Za,Za⟩;rcases Yr.1 g1 with q | q
     ·exact List.mem_append_left _ (Y9 q)
     ·exact List.mem_append_right _ (Y9 q)
def wg (t:Grp->Nat) (a b:List Row):List Row:=(grpM (srt a) (srt b)).flatMap fun g=>List.replicate (t g) g.row
def xG (all:Bool) (g:Grp):Nat:=if all then g.m+g.n else 1
def yX (all:Bool) (g:Grp):Nat:=if all then g.m-g.n else if 0<g.m/\g.n=0 then 1 else 0
def xP (all:Bool) (g:Grp):Nat:=if all then min g.m g.n else if 0<g.m/\0<g.n then 1 else 0
def jb (rows:List Row):List Row:=wg (xG false) rows []
theorem combM_perm (t:Grp->Nat) {a a' b b':List Row} (ha:a.Perm a') (hb:b.Perm b'):wg t a b=wg t a' b':=by
 unfold wg;rw [srt_perm ha,srt_perm hb]
theorem distM_eq (l:List Row):jb l=(grpM (srt l) []).map (·.row):=by
 unfold jb wg xG;rw [show srt []=[] from rfl];generalize grpM (srt l) []=G;simp only [Yq,if_false,List.replicate_one]
 induction G with
 | nil=>rfl
 | cons g G ih=>rw [List.flatMap_cons,ih];rfl
theorem c_copied (r:List Val) (hl:r.length<=1000000):ACall Tryz.prog 80 [aRow r] [] (aRow r) []:=by
 suffices hS: ∀R,aRow r=R->ACall Tryz.prog 80 [aRow r] [] R [] from hS _ rfl
 intro R hr;refine zn mixed ttok Tryz.func80 Tryz.ntmps80 Tryz.results80 ?_;refine Zn ?_;refine ⟨⟨Za,Int.le_refl _,Za⟩,Zd,?_⟩;subst hr;refine zv [3] rfl Zd Zj ?_ Zk Zb Zb;rfl
theorem canF_perm: ∀(n:Nat) (rows:List Row),(canF n rows).Perm rows
 | 0,rows=>List.Perm.refl _
 | n+1,rows=>by
   rw [canF]
   split
   ·exact List.Perm.refl _
   ·refine (List.merge_perm_append leR).trans ?_;refine ((canF_perm n _).append (canF_perm n _)).trans ?_;rw [Yp]
theorem canF_short (n:Nat) {rows:List Row} (h:rows.length<2):canF n rows=rows:=by
 cases n with
 | zero=>rfl
 | succ n=>rw [canF,if_pos h]
theorem merge_l {α:Type} {x y:α} {a b:List α} {le:α->α->Bool} (h:le x y=true):List.merge (x::a) (y::b) le=x::List.merge a (y::b) le:=by
 rw [List.cons_merge_cons,if_pos h]
theorem merge_r {α:Type} {x y:α} {a b:List α} {le:α->α->Bool} (h:le x y=false):List.merge (x::a) (y::b) le=y::List.merge (x::a) b le:=by
 rw [List.cons_merge_cons,if_neg (Z8 h)]
theorem c_canon1 (rows:List Row) (h2:rows.length<2) (hr1: ∀r∈rows,r.length<=1000):ACall Tryz.prog 39 [aTab rows] [] (aTab rows) []:=by
 suffices hS: ∀R,aTab rows=R->ACall Tryz.prog 39 [aTab rows] [] R [] from hS _ rfl
 intro R hr;refine zn mixed ttok Tryz.func39 Tryz.ntmps39 Tryz.results39 ?_;refine Zn ?_;refine za (fun _=>?_) fun h=>absurd h Zt;refine zx mixed ttok (fun n:Nat=>(⟨[(4,.d (.lit (.int .i64 n))),(3,.vec 500 n),(0,aTab rows)],[(500,.vec 53 1 (zd rRow (rows.take n)) 0)]⟩:SL)) (fun n=>rows.length-n) (fun n=>n<=rows.length) 0 (Yj _) ?_ ?_
 ·exact (YU 3 500 53 1 rfl rfl).trans (Ya Zb Zb Zb)
 intro I hI n hn;have hl2:(rows.take n).length=n:=Zt;refine Zf ?_;refine za (fun h=>?_) fun h=>?_
 ·simp only [Yg] at h;have h':n<rows.length:=Za;have hw:=zh h' Za;refine ⟨⟨Za,h⟩,?_⟩;refine zg [[3]] [] (c_copied (rows.getD n default) (Y3 (hr1 _ (zk h')) Zi)) ?_;refine Zf ?_;have hrows:zd rRow (rows.take (n+1))=zd rRow (rows.take n)++[[.sl 3 (zd rV (rows.getD n default))]]:=by rw [zy _ _ h',<-zf];rfl
  refine ⟨⟨hl2.symm,Za⟩,?_⟩;exact zi hI (n+1) h' Zl (Ya (Z0 hw hl2) (Ze hrows) Zb)
 ·simp only [Ye] at h;obtain rfl:n=rows.length:=Za;subst hr;rw [Yk];refine zv [1] rfl Zd Zj ?_ Zk Zb Zb;rfl
theorem c_canon2 (n:Nat) (rows:List Row) (h2: ¬rows.length<2) (hl:rows.length≤100000) (hr1: ∀r∈rows,r.length≤1000)
 (ih1:ACall Tryz.prog 39 [aTab (rows.take (rows.length / 2))] [] (aTab (canF n (rows.take (rows.length / 2)))) [])
 (ih2:ACall Tryz.prog 39 [aTab (rows.drop (rows.length / 2))] [] (aTab (canF n (rows.drop (rows.length / 2)))) []):
 ACall Tryz.prog 39 [aTab rows] [] (aTab (canF (n+1) rows)) []:=by
 rw [canF,if_neg h2];have p1:=canF_perm n (rows.take (rows.length / 2));have p2:=canF_perm n (rows.drop (rows.length / 2));have l1:=p1.length_eq;have l2:=p2.length_eq;have m1: ∀r∈canF n (rows.take (rows.length / 2)),r.length<=1000:=fun r h=>hr1 r (YH (p1.mem_iff.1 h));generalize canF n (rows.take (rows.length / 2))=a at ih1 l1 m1 ⊢;generalize canF n (rows.drop (rows.length / 2))=b at ih2 l2 ⊢;simp only [Yh,Ym] at l1 l2;refine zn mixed ttok Tryz.func39 Tryz.ntmps39 Tryz.results39 ?_;generalize hr:aTab (List.merge a b leR)=R;have hq:IntKind.i64.wrap ((rows.length:Int).tdiv 2)=((rows.length / 2:Nat):Int):=by
  rw [Int.tdiv_eq_ediv_of_nonneg Za,zt Za Za];omega
 generalize hm:rows.length / 2=m at ih1 ih2 l1 l2 m1 hq;refine ZQ hq ?_;refine za (fun h=>absurd h Zt) fun _=>?_;have hma:((m:Int)).toNat=m:=Za;refine ⟨⟨Za,Za⟩,?_⟩;refine zg [[1]] [] (ih1) ?_;refine Zy hq ?_;rw [Yk];refine ⟨⟨Za,Za,Za⟩,?_⟩;refine zg [[1]] [] (ih2) ?_;refine Zf ?_;refine ⟨ze Zg,?_⟩;have ha:a.length<=100000:=Za;have hb:b.length<=100000:=Za;clear ih1 ih2 p1 p2;refine zx mixed ttok (fun x:Nat×Nat×List Row=>(⟨[(8,.d (.lit (.int .i64 x.1))),(9,.d (.lit (.int .i64 x.2.1))),(7,.vec 500 x.2.2.length),(5,aTab a),(6,aTab b)],[(500,.vec 53 1 (zd rRow x.2.2) 0)]⟩:SL)) (fun x=>a.length+b.length-(x.1+x.2.1))
  (fun x=>x.1<=a.length/\x.2.1<=b.length/\x.2.2.length=x.1+x.2.1/\x.2.2++List.merge (a.drop x.1) (b.drop x.2.1) leR=List.merge a b leR) (0,0,[]) ⟨Yj _,Yj _,rfl,rfl⟩ ?_ ?_
 ·exact (YU 7 500 53 1 rfl rfl).trans (Ya Zb Zb Zb)
 intro I hI ⟨i,k,out⟩ ⟨hi,hk,hol,hinv⟩;simp only at hi hk hol hinv;refine Zf ?_;have hrows: ∀r:Row,zd rRow out++[[D.sl 3 (zd rV r)]]=zd rRow (out++[r]):=fun r=>zf rRow out [r];have hlen: ∀r:Row,(out++[r]).length=out.length+1:=fun r=>Zd;refine za (fun h1=>?_) fun h1=>?_
 ·simp only [Yg] at h1;have h1':i<a.length:=Za;have hwi:=zh h1' Za;rw [zA _ _ h1'] at hinv;refine za (fun g1=>?_) fun g1=>?_
  ·have hkb:k=b.length:=by simp at g1;omega
   have hinv2:(out++[a.getD i default])++List.merge (a.drop (i+1)) (b.drop k) leR=List.merge a b leR:=by
    have hbn:b.drop k=[]:=YG Za;rw [hbn,List.merge_right] at hinv ⊢;rw [<-hinv,Yn];rfl
   refine ⟨ze Zg,⟨Za,h1⟩,Za,?_⟩;exact zi hI (i+1,k,out++[a.getD i default]) ⟨h1',hk,by show (out++[a.getD i default]).length=i+1+k;rw [hlen];omega,hinv2⟩ Zl
    (Ya (Ze hwi) (Ze hrows) Zb)
  ·have hkb:k<b.length:=by simp at g1;omega
   have hwk:=zh hkb Za;rw [zA _ _ hkb] at hinv;refine za (fun _=>?_) (fun h=>absurd h Zt);refine ⟨⟨Za,h1⟩,⟨Za,Za⟩,?_⟩;refine zg [[3],[3]] [] (jB (a.getD i default) (b.getD k default) (Y3 (m1 _ (zk h1')) Zi)) ?_;refine Zf ?_;refine ⟨ze Zg,?_⟩;have hle:decide (cmpR (a.getD i default) (b.getD k default)<=0)=leR (a.getD i default) (b.getD k default):=rfl;rw [hle];refine za (fun g2=>?_) fun g2=>?_
   ·rw [merge_l g2] at hinv;refine ⟨⟨Za,h1⟩,Za,?_⟩;exact zi hI (i+1,k,out++[a.getD i default]) ⟨h1',hk,by show (out++[a.getD i default]).length=i+1+k;rw [hlen];omega,by show (out++[a.getD i default])++List.merge (a.drop (i+1)) (b.drop k) leR=List.merge a b leR;rw [zA b k hkb,<-hinv,Yn];rfl⟩ Zl
     (Ya (Ze hwi) (Ze hrows) Zb)
   ·rw [merge_r g2] at hinv;refine ⟨⟨Za,Za⟩,Za,?_⟩;exact zi hI (i,k+1,out++[b.getD k default]) ⟨hi,hkb,by show (out++[b.getD k default]).length=i+(k+1);rw [hlen];omega,by show (out++[b.getD k default])++List.merge (a.drop i) (b.drop (k+1)) leR=List.merge a b leR;rw [zA a i h1',<-hinv,Yn];rfl⟩ Zl
     (Ya (Ze hwk) (Ze hrows) Zb)
 ·simp only [Ye] at h1;have hia:i=a.length:=Za;have han:a.drop i=[]:=YG Za;rw [han,List.nil_merge] at hinv;refine za (fun g1=>?_) fun g1=>?_
  ·simp only [Yg] at g1;have hkb:k<b.length:=Za;have hwk:=zh hkb Za;rw [zA _ _ hkb] at hinv;refine za (fun h=>absurd h Zt) (fun _=>?_);refine za (fun h=>absurd h Zt) (fun _=>?_);refine ⟨ze Zg,⟨Za,Za⟩,Za,?_⟩;exact zi hI (i,k+1,out++[b.getD k default]) ⟨hi,hkb,by show (out++[b.getD k default]).length=i+(k+1);rw [hlen];omega,by show (out++[b.getD k default])++List.merge (a.drop i) (b.drop (k+1)) leR=List.merge a b leR;rw [han,List.nil_merge,<-hinv,Yn];rfl⟩ Zl
    (Ya (Ze hwk) (Ze hrows) Zb)
  ·simp only [Ye] at g1;have hkb:k=b.length:=Za;have hbn:b.drop k=[]:=YG Za;rw [hbn,Yw] at hinv;subst hr;refine zv [1] rfl Zd Zj ?_ Zk Zb Zb;rw [<-hinv];rfl
theorem c_canon: ∀(n:Nat) (rows:List Row),rows.length<=n+1->rows.length<=100000->(∀r∈rows,r.length<=1000)->ACall Tryz.prog 39 [aTab rows] [] (aTab (canF n rows)) []
 | 0,rows,hn,hl,hr1=>by
   rw [canF_short 0 Za];exact c_canon1 rows Za hr1
 | n+1,rows,hn,hl,hr1=>by
   by_cases h2:rows.length<2
   ·rw [canF_short _ h2];exact c_canon1 rows h2 hr1
   exact c_canon2 n rows h2 hl hr1 (c_canon n (rows.take (rows.length / 2)) Zt Zt (fun r h=>hr1 r (YH h)))
    (c_canon n (rows.drop (rows.length / 2)) Zt Zt (fun r h=>hr1 r (Y9 h)))
end
section
attribute [local simp, local push_cast] Ta aRow rRow rG
theorem drop_getD (X:List Row) (i j:Nat):(X.drop i).getD j default=X.getD (i+j) default:=by simp [Yf]
theorem pick2_l {X Y:List Row} {i k:Nat} (hi:i<X.length) (hk:k=Y.length):yo (X.drop i) (Y.drop k)=X.getD i default:=by
 have:Y.drop k=[]:=YG Za;rw [this,zA X i hi,yo]
theorem pick2_r {X Y:List Row} {i k:Nat} (hi:i=X.length) (hk:k<Y.length):yo (X.drop i) (Y.drop k)=Y.getD k default:=by
 have:X.drop i=[]:=YG Za;rw [this,zA Y k hk,yo]
theorem pick2_lt {X Y:List Row} {i k:Nat} (hi:i<X.length) (hk:k<Y.length) (h:leR (X.getD i default) (Y.getD k default)=true):yo (X.drop i) (Y.drop k)=X.getD i default:=by
 rw [zA X i hi,zA Y k hk,yo,if_pos h]
theorem pick2_gt {X Y:List Row} {i k:Nat} (hi:i<X.length) (hk:k<Y.length) (h:leR (X.getD i default) (Y.getD k default)=false):yo (X.drop i) (Y.drop k)=Y.getD k default:=by
 rw [zA X i hi,zA Y k hk,yo,if_neg (Z8 h)]
theorem cnt_lt {X:List Row} {i j:Nat} {r:Row} (h1:i+j<X.length) (h2:j<=cntR r (X.drop i)) (h:cmpR (X.getD (i+j) default) r=0):j<cntR r (X.drop i):=by
 rcases YL j (cntR r (X.drop i)) with q | q
 ·exact q
 ·have e:cntR r (X.drop i)=j:=Za;have:=cntR_out r (X.drop i) (by rw [e,Ym];omega);rw [e,drop_getD] at this;exact absurd h this
theorem cnt_eq {X:List Row} {i j:Nat} {r:Row} (h2:j<=cntR r (X.drop i)) (h:X.length<=i+j\/cmpR (X.getD (i+j) default) r≠0):j=cntR r (X.drop i):=by
 rcases YL j (cntR r (X.drop i)) with q | q
 ·rcases h with h | h
  ·have:=xy r (X.drop i);rw [Ym] at this;omega
  ·have:=cntR_in r (X.drop i) j q;rw [drop_getD] at this;exact absurd this h
 ·omega
theorem Vf {p:Prop} (h:p:=by show (out++[(⟨r,c1,q⟩:Grp)]).length<=i1+k1;rw [Yb];show out.length+1<=_;omega):p:=h
theorem Jq{p:Prop}(h:p:=by
 subst hqc;rw [hrows];refine ⟨Za,?_⟩;exact zi hI (i1,k1,out++[⟨r,c1,q⟩]) ⟨Zl,Zl,Vf,hfin q rfl hk1⟩ Zl (Ya Zb Zb Zb)):p:=h
theorem Kz{p:Prop}(h:p:=by
 rw [hrr] at hp;refine ⟨Za,?_⟩;exact hM _ (.inl h1') (Ya (Ze hp) (Ze hp) Zb)):p:=h
theorem KJ{p:Prop}(h:p:=by
 rw [e1,e2,gj,Yw] at hinv;refine zv [3] rfl Zd Zj ?_ Zk Zb Zb;rw [<-hr,<-hinv]):p:=h
theorem c_groups (a b:List Row) (hl:a.length≤100000) (hm:b.length≤100000) (ha: ∀r∈a,r.length≤1000) (hb: ∀r∈b,r.length≤1000):
 ACall Tryz.prog 51 [aTab a,aTab b] [] (.d (.sl 3 (zd rG (grpM (srt a) (srt b))))) []:=by
 refine zn mixed ttok Tryz.func51 Tryz.ntmps51 Tryz.results51 ?_;have iha:=c_canon a.length a Za hl ha;have ihb:=c_canon b.length b Za hm hb;rw [gC _ _ Za] at iha ihb;have lx:(srt a).length=a.length:=zI a;have ly:(srt b).length=b.length:=zI b;have mx: ∀r∈srt a,r.length<=1000:=fun r h=>ha r ((zJ a).mem_iff.1 h);have my: ∀r∈srt b,r.length<=1000:=fun r h=>hb r ((zJ b).mem_iff.1 h);generalize srt a=X at iha lx mx ⊢;generalize srt b=Y at ihb ly my ⊢;generalize hr:A.d (D.sl 3 (zd rG (grpM X Y)))=R;refine Zn ?_;refine zg [[1]] [] (iha) ?_;refine Zf ?_;refine zg [[1]] [] (ihb) ?_;refine Zf ?_;clear iha ihb;have hX:X.length<=100000:=Za;have hY:Y.length<=100000:=Za;refine zx mixed ttok (fun x:Nat×Nat×List Grp=>(⟨[(8,num x.1),(9,num x.2.1),(7,.vec 500 x.2.2.length),(5,aTab X),(6,aTab Y)],[(500,.vec 106 3 (zd rG x.2.2) 0)]⟩:SL)) (fun x=>X.length+Y.length-(x.1+x.2.1))
  (fun x=>x.1<=X.length/\x.2.1<=Y.length/\x.2.2.length<=x.1+x.2.1/\x.2.2++grpM (X.drop x.1) (Y.drop x.2.1)=grpM X Y) (0,0,[]) ⟨Yj _,Yj _,Ys _,rfl⟩ ?_ ?_
 ·exact (YU 7 500 106 3 rfl rfl).trans (Ya Zb Zb Zb)
 intro I hI ⟨i,k,out⟩ ⟨hi,hk,hol,hinv⟩;simp only at hi hk hol hinv;refine Zf ?_;generalize hrr:yo (X.drop i) (Y.drop k)=r at *
 refine' meetQ ⟨[(8,num (i+0:Nat)),(9,num k),(7,.vec 500 out.length),(5,aTab X),(6,aTab Y),(10,aRow r),(11,.ptr 11 0)],[(11,.var [.d (.sl 3 (zd rV r)),num (0:Nat),num (0:Nat)]),(500,.vec 106 3 (zd rG out) 0)]⟩ (i<X.length\/k<Y.length) ?lead ?body
 case lead=>
  intro hM;refine za (fun h1=>?_) fun h1=>?_
  ·have h1':i<X.length:=Zq h1;refine za (fun g1=>?_) fun g1=>?_
   ·have g1':k=Y.length:=by have:(k:Int)=Y.length:=by simpa using g1
                            omega
    have hp:=pick2_l h1' g1';rw [hrr] at hp;refine ⟨ze Zg,⟨Za,Yd h1⟩,?_⟩;exact hM _ (.inl h1') (Ya (Ze hp) (Ze hp) Zb)
   ·have g1':k<Y.length:=by have: ¬(k:Int)=Y.length:=by simpa using g1
                            omega
    refine za (fun _=>?_) (fun h=>absurd (h1.symm.trans h) Zi);refine ⟨Za,Za,?_⟩;refine zg [[3],[3]] [] (jB (X.getD i default) (Y.getD k default) (Y3 (mx _ (zk h1')) Zi)) ?_;refine Zf ?_;refine ⟨ze Zg,?_⟩;have hle:decide (cmpR (X.getD i default) (Y.getD k default)<=0)=leR (X.getD i default) (Y.getD k default):=rfl;rw [hle];refine za (fun g2=>?_) fun g2=>?_
    ·have hp:=pick2_lt h1' g1' g2;exact Kz
    ·have hp:=pick2_gt h1' g1' g2;exact Kz
  ·have h1':i=X.length:=Zp h1;refine za (fun g1=>?_) fun g1=>?_
   ·have g1':k<Y.length:=Zq g1;refine za (fun h=>absurd h Zt) (fun _=>?_);refine za (fun h=>absurd (h1.symm.trans h) Zi) (fun _=>?_);have hp:=pick2_r h1' g1';rw [hrr] at hp;refine ⟨ze Zg,Za,?_⟩;exact hM _ (.inr g1') (Ya (Ze hp) (Ze hp) Zb)
   ·have g1':k=Y.length:=Zp g1;have e1:X.drop i=[]:=YG Za;have e2:Y.drop k=[]:=YG Za;exact KJ
 case body=>
  intro σ hQ hw;have hxe:grpM (X.drop i) (Y.drop k)=⟨r,cntR r (X.drop i),cntR r (Y.drop k)⟩::grpM (X.drop (i+cntR r (X.drop i))) (Y.drop (k+cntR r (Y.drop k))):=by
   rw [wP XG,hrr,Uo,Uo]
  have hpos:=v7 (X.drop i) (Y.drop k) XG;have hrm:=pick2_mem (X.drop i) (Y.drop k) XG;rw [hrr] at hpos hrm;have hrl:r.length<=1000:=by
   rcases Yr.1 hrm with q | q
   ·exact mx _ (Y9 q)
   ·exact my _ (Y9 q)
  rw [hxe] at hinv;have hc1:=xy r (X.drop i);have hc2:=xy r (Y.drop k);rw [Ym] at hc1 hc2;have hlt1: ∀j,i+j<X.length->j<=cntR r (X.drop i)->cmpR (X.getD (i+j) default) r=0->j<cntR r (X.drop i):=fun j=>cnt_lt;have heq1: ∀j,j<=cntR r (X.drop i)->X.length<=i+j\/cmpR (X.getD (i+j) default) r≠0->j=cntR r (X.drop i):=fun j=>cnt_eq;have hlt2: ∀j,k+j<Y.length->j<=cntR r (Y.drop k)->cmpR (Y.getD (k+j) default) r=0->j<cntR r (Y.drop k):=fun j=>cnt_lt;have heq2: ∀j,j<=cntR r (Y.drop k)->Y.length<=k+j\/cmpR (Y.getD (k+j) default) r≠0->j=cntR r (Y.drop k):=fun j=>cnt_eq;generalize cntR r (X.drop i)=c1 at *;generalize cntR r (Y.drop k)=c2 at *;refine zx mixed ttok (fun j:Nat=>(⟨[(8,num (i+j:Nat)),(9,num k),(7,.vec 500 out.length),(5,aTab X),(6,aTab Y),(10,aRow r),(11,.ptr 11 0)],[(11,.var [.d (.sl 3 (zd rV r)),num j,num (0:Nat)]),(500,.vec 106 3 (zd rG out) 0)]⟩:SL)) (fun j=>c1-j) (fun j=>j<=c1) 0 (Yj _) hw ?_;intro J hJ j hj;obtain ⟨i1,hi1⟩: ∃i1,i1=i+j:=⟨_,rfl⟩
  rw [<-hi1];have hl1:=hlt1 j;have he1:=heq1 j;rw [<-hi1] at hl1 he1;have wi:=zh (N:=1000001) (n:=i1) Za Za;have wj:=zh (N:=1000001) (n:=j) Za Za;refine Zf ?_
  refine' meetQ ⟨[(8,num i1),(9,num (k+0:Nat)),(7,.vec 500 out.length),(5,aTab X),(6,aTab Y),(10,aRow r),(11,.ptr 11 0)],[(11,.var [.d (.sl 3 (zd rV r)),num c1,num (0:Nat)]),(500,.vec 106 3 (zd rG out) 0)]⟩ (j=c1) ?lead2 ?body2
  case lead2=>
   intro hM;refine za (fun h1=>?_) fun h1=>?_
   ·have h1':i1<X.length:=Zq h1;refine ⟨Za,?_⟩;refine zg [[3],[3]] [] (jB (X.getD i1 default) r (Y3 (mx _ (zk h1')) Zi)) ?_;refine Zf ?_;refine za (fun g2=>?_) fun g2=>?_
    ·have hjc:=hl1 h1' hj (Zc g2);have hi2:i1+1=i+(j+1):=Za;exact zi hJ (j+1) hjc Zl (Ya (Z0 wi hi2) (Ze wj) Zb)
    ·have hjc:=he1 hj (.inr (Zc g2));exact hM _ hjc (Ya Zb (Ze hjc) Zb)
   ·have h1':X.length≤i1:=Zp h1;have hjc:=he1 hj (.inl h1');exact hM _ hjc (Ya Zb (Ze hjc) Zb)
  case body2=>
   intro σ2 hjc hw2;refine zx mixed ttok (fun q:Nat=>(⟨[(8,num i1),(9,num (k+q:Nat)),(7,.vec 500 out.length),(5,aTab X),(6,aTab Y),(10,aRow r),(11,.ptr 11 0)],[(11,.var [.d (.sl 3 (zd rV r)),num c1,num q]),(500,.vec 106 3 (zd rG out) 0)]⟩:SL)) (fun q=>c2-q) (fun q=>q<=c2) 0 (Yj _) hw2 ?_;intro L hL q hq;obtain ⟨k1,hk1⟩: ∃k1,k1=k+q:=⟨_,rfl⟩
   rw [<-hk1];have hl2:=hlt2 q;have he2:=heq2 q;rw [<-hk1] at hl2 he2;have wk:=zh (N:=1000001) (n:=k1) Za Za;have wq:=zh (N:=1000001) (n:=q) Za Za;have hrows:zd rG out++[[D.sl 3 (zd rV r),D.lit (.int .i64 (c1:Int)),D.lit (.int .i64 (c2:Int))]]=zd rG (out++[⟨r,c1,c2⟩]):=zf rG out [⟨r,c1,c2⟩];have hfin: ∀q:Nat,q=c2->k1=k+c2->(out++[(⟨r,c1,c2⟩:Grp)])++grpM (X.drop i1) (Y.drop k1)=grpM X Y:=fun q e1 e2=>by
    rw [e2,hi1,hjc,<-hinv,Yn];rfl
   refine Zf ?_;refine za (fun h1=>?_) fun h1=>?_
   ·have h1':k1<Y.length:=Zq h1;refine ⟨Za,?_⟩;refine zg [[3],[3]] [] (jB (Y.getD k1 default) r (Y3 (my _ (zk h1')) Zi)) ?_;refine Zf ?_;refine za (fun g2=>?_) fun g2=>?_
    ·have hqc:=hl2 h1' hq (Zc g2);have hk2:k1+1=k+(q+1):=Za;exact zi hL (q+1) hqc Zl (Ya (Z0 wk hk2) (Ze wq) Zb)
    ·have hqc:=he2 hq (.inr (Zc g2));exact Jq
   ·have h1':Y.length≤k1:=Zp h1;have hqc:=he2 hq (.inl h1');exact Jq
def vecT (l:List Row):Ob:= .vec 53 1 (zd rRow l) 0
attribute [local simp, local push_cast] vecT
theorem ret_raw {p:Prop} {a:A} {t:UL} {o os':UM} (hp:p) (hc:a.closed (inO os')=true) (ho:keepO (lookO o) (inO os') os') (hin:keepIn (inO os') o):retx (some (p,a)) ⟨t,o⟩ a os':=
 ⟨hp,Weak.keep (σ:=⟨[(0,a)],os'⟩) ⟨⟨rfl,hc⟩,trivial⟩ ho hin⟩
theorem Xr {p P0:Prop} (zf_:P0) (h:P0->p:=by intro zf_;rw [zf_,Yb];rfl):p:=h zf_
theorem kD (l:List Row) (r:Row) (n:Int) (hl:l.length<=1000000) (hn:n<=1000000) (hr1:r.length<=1000):
 ACall Tryz.prog 52 [.vec 1000 l.length,aRow r,num n] [(1000,vecT l)] (.vec 1000 (l.length+n.toNat)) [(1000,vecT (l++List.replicate n.toNat r))]:=by
 refine zn mixed ttok Tryz.func52 Tryz.ntmps52 Tryz.results52 ?_;obtain ⟨N,hN⟩: ∃N,N=n.toNat:=⟨_,rfl⟩
 rw [<-hN];refine Zn ?_;refine zx mixed ttok (fun k:Nat=>(⟨[(7,num k),(0,.vec 1000 (l++List.replicate k r).length),(1,aRow r),(2,num n)],[(1000,vecT (l++List.replicate k r))]⟩:SL)) (fun k=>N-k) (fun k=>k<=N) 0 (Yj _) ?_ ?_
 ·exact Ya Zb Zb Zb
 intro I hI k hk;have hlk:(l++List.replicate k r).length=l.length+k:=by rw [Yb,YQ]
 have hsn:l++List.replicate (k+1) r=(l++List.replicate k r)++[r]:=by rw [List.replicate_succ',Yn]
 have hln:(l++List.replicate (k+1) r).length=(l++List.replicate k r).length+1:=Xr hsn;obtain ⟨L,hL⟩: ∃L,L=l++List.replicate k r:=⟨_,rfl⟩
 rw [<-hL] at hlk hsn hln ⊢;have hrows:zd rRow L++[[D.sl 3 (zd rV r)]]=zd rRow (L++[r]):=zf rRow L [r];refine Zf ?_;refine za (fun h=>?_) fun h=>?_
 ·have h':k<N:=Zq h;have hw:=zh (N:=1000001) (n:=k) Za Za;refine zg [[3]] [] (c_copied r Za) ?_;refine Zf ?_;rw [hrows,<-hsn];refine ⟨Za,?_⟩;exact zi hI (k+1) h' Zl (Ya (Z0 hw hln) Zb Zb)
 ·have h':k=N:=Zp h;subst h';rw [hlk];exact ret_raw trivial (Ze hL) (Ze hL) Zb
theorem Jr{p:Prop}(h:p:=by
 generalize hr:num (if b then 1 else 0)=R;cases b<;>simp -implicitDefEqProofs only [argT,↓zb,push_cast,simprocAttr,tt]<;>exact zm trivial (ZJ hr) Zb):p:=h
theorem c_one (b:Bool):ACall Tryz.prog 141 [boo b] [] (num (if b then 1 else 0)) []:=by
 refine zn mixed ttok Tryz.func141 Tryz.ntmps141 Tryz.results141 ?_;exact Jr
theorem comb_snoc (t:Grp->Nat) (G:List Grp) (n:Nat) (h:n<G.length):((G.take (n+1)).flatMap fun g=>List.replicate (t g) g.row)=((G.take n).flatMap fun g=>List.replicate (t g) g.row)++List.replicate (t (G.getD n default)) (G.getD n default).row:=by
 rw [zy _ _ h,List.flatMap_append];simp
theorem grp_sum: ∀(n:Nat) (X Y:List Row),X.length+Y.length<=n->((grpM X Y).map fun g=>g.m+g.n).sum=X.length+Y.length
 | 0,X,Y,h=>by
   have h1:X=[]:=Yi Za;have h2:Y=[]:=Yi Za;subst h1 h2;rfl
 | n+1,X,Y,h=>by
   by_cases h0:X.length=0/\Y.length=0
   ·have h1:X=[]:=Yi h0.1;have h2:Y=[]:=Yi h0.2;subst h1 h2;rfl
   ·have h3:=v7 X Y h0;have h4:=xy (yo X Y) X;have h5:=xy (yo X Y) Y;have ih:=grp_sum n (X.drop (cntR (yo X Y) X)) (Y.drop (cntR (yo X Y) Y)) Zt;rw [wP h0,Y0,Uz,ih];simp only [Ym];omega
theorem comb_le (t:Grp->Nat): ∀(G:List Grp),(∀g∈G,t g<=g.m+g.n)->(G.flatMap fun g=>List.replicate (t g) g.row).length<=(G.map fun g=>g.m+g.n).sum
 | [],_=>Zd
 | g::G,h=>by
   have h1:=h g Zd;have h2:=comb_le t G fun x hx=>h x (Zu hx);rw [List.flatMap_cons,Yb,YQ,Y0,Uz];omega
theorem grp_one: ∀(n:Nat) (X Y:List Row),X.length+Y.length<=n-> ∀g∈grpM X Y,1<=g.m+g.n
 | 0,X,Y,h,g,hg=>by
   have h1:X=[]:=Yi Za;have h2:Y=[]:=Yi Za;subst h1 h2;cases hg
 | n+1,X,Y,h,g,hg=>by
   by_cases h0:X.length=0/\Y.length=0
   ·exact KU
   ·have h3:=v7 X Y h0;have h4:=xy (yo X Y) X;have h5:=xy (yo X Y) Y;rw [wP h0] at hg;rcases YB.1 hg with rfl | hg
    ·exact h3
    ·exact grp_one n _ _ Zt g hg
theorem unionT_le (all:Bool) (a b:List Row): ∀g∈grpM a b,xG all g<=g.m+g.n:=fun g hg=>by
 have:=grp_one _ _ _ (Ys _) g hg;unfold xG
 split<;>omega
theorem exceptT_le (all:Bool) (a b:List Row): ∀g∈grpM a b,yX all g<=g.m+g.n:=fun g hg=>by
 have:=grp_one _ _ _ (Ys _) g hg;unfold yX
 split
 ·omega
 ·split<;>omega
theorem interT_le (all:Bool) (a b:List Row): ∀g∈grpM a b,xP all g<=g.m+g.n:=fun g hg=>by
 have:=grp_one _ _ _ (Ys _) g hg;unfold xP
 split
 ·omega
 ·split<;>omega
theorem j9 {t:Grp->Nat} {a b:List Row} (h: ∀g∈grpM (srt a) (srt b),t g<=g.m+g.n):(wg t a b).length<=a.length+b.length:=by
 have:=comb_le t (grpM (srt a) (srt b)) h;rw [grp_sum _ _ _ (Ys _),zI,zI] at this;exact this
theorem combM_mem {t:Grp->Nat} {a b:List Row} {r:Row} (h:r∈wg t a b):r∈a\/r∈b:=by
 unfold wg at h;rw [List.mem_flatMap] at h;obtain ⟨g,hg,hr⟩:=h;rw [Uv hr];have:=(grpM_mem _ _ _ (Ys _) g hg).1;rcases Yr.1 this with q | q
 ·exact .inl ((zJ a).mem_iff.1 q)
 ·exact .inr ((zJ b).mem_iff.1 q)
theorem qd {t:Grp->Nat} {G:List Grp} {n:Nat}:((G.take n).flatMap fun g=>List.replicate (t g) g.row).length<=(G.flatMap fun g=>List.replicate (t g) g.row).length:=by
 have:G.flatMap (fun g=>List.replicate (t g) g.row)=(G.take n).flatMap (fun g=>List.replicate (t g) g.row)++(G.drop n).flatMap (fun g=>List.replicate (t g) g.row):=by rw [<-List.flatMap_append,Yp]
 rw [this,Yb];omega
theorem grpM_ok {a b:List Row} (hl:a.length<=100000) (hm:b.length<=100000) (ha: ∀r∈a,r.length<=1000) (hb: ∀r∈b,r.length<=1000): ∀g∈grpM (srt a) (srt b),g.row.length<=1000/\g.m<=100000/\g.n<=100000:=fun g hg=>by
 obtain ⟨q1,q2,q3⟩:=grpM_mem _ _ _ (Ys _) g hg;rw [zI] at q2 q3;refine ⟨?_,Za,Za⟩;rcases Yr.1 q1 with q | q
 ·exact ha _ ((zJ a).mem_iff.1 q)
 ·exact hb _ ((zJ b).mem_iff.1 q)
theorem Nd{p:Prop}(h:p:=by
 exact zi hI (n+1) h' Zl (Ya (Ze hw) Zb Zb)):p:=h
theorem KD{p:Prop}(h:p:=by
 exact (YU 8 500 53 1 rfl rfl).trans (Ya Zb Zb Zb)):p:=h
theorem GD{p:Prop}(h:p:=by
 obtain rfl:n=G.length:=Zp h;rw [Yk];exact MO):p:=h
theorem c_union (a b:List Row) (all:Bool) (hl:a.length<=100000) (hm:b.length<=100000) (ha: ∀r∈a,r.length<=1000) (hb: ∀r∈b,r.length<=1000):
 ACall Tryz.prog 23 [aTab a,aTab b,boo all] [] (aTab (wg (xG all) a b)) []:=by
 refine zn mixed ttok Tryz.func23 Tryz.ntmps23 Tryz.results23 ?_;have hG:=c_groups a b hl hm ha hb;have hcl:=j9 (unionT_le all (srt a) (srt b));have hgl:=ug _ (srt a) (srt b) (Ys _);have hgm:=grpM_ok hl hm ha hb;rw [zI,zI] at hgl;unfold wg at hcl ⊢;generalize grpM (srt a) (srt b)=G at hG hcl hgl hgm ⊢;generalize hr:aTab (G.flatMap fun g=>List.replicate (xG all g) g.row)=R;refine Zn ?_;refine zg [[1],[1]] [] (hG) ?_;refine Zf ?_;refine zx mixed ttok (fun n:Nat=>(⟨[(9,num n),(8,.vec 500 ((G.take n).flatMap fun g=>List.replicate (xG all g) g.row).length),(2,boo all),(7,.d (.sl 3 (zd rG G)))],[(500,vecT ((G.take n).flatMap fun g=>List.replicate (xG all g) g.row))]⟩:SL)) (fun n=>G.length-n) (fun n=>n<=G.length) 0 (Yj _) ?_ ?_
 ·exact KD
 intro I hI n hn;have hlt:=qd (t:=xG all) (G:=G) (n:=n);have hsn:=comb_snoc (xG all) G n;refine Zf ?_;refine za (fun h=>?_) fun h=>?_
 ·have h':n<G.length:=Zq h;have hw:=zh h' Za;have hsn:=hsn h';obtain ⟨q1,q2,q3⟩:=hgm _ (zk h');have hln:((G.take (n+1)).flatMap fun g=>List.replicate (xG all g) g.row).length=((G.take n).flatMap fun g=>List.replicate (xG all g) g.row).length+xG all (G.getD n default):=by rw [hsn,Yb,YQ]
  obtain ⟨L,hL⟩: ∃L,L=((G.take n).flatMap fun g=>List.replicate (xG all g) g.row):=⟨_,rfl⟩
  rw [<-hL] at hlt hsn hln ⊢;obtain ⟨g,hg⟩: ∃g,g=G.getD n default:=⟨_,rfl⟩
  rw [<-hg] at q1 q2 q3 hsn hln ⊢;cases all with
  | true=>
    refine za (fun _=>?_) (fun q=>absurd q Zi);have wm:IntKind.i64.wrap ((g.m:Int)+(g.n:Int))=(g.m:Int)+(g.n:Int):=zt Za Za;refine ⟨Za,Za,ze Zg,Za,?_⟩;rw [wm];refine xl [(1000,500)] (vb _ _) (kD L g.row ((g.m:Int)+(g.n:Int)) Za Za q1) (by simp [hw,ends,bs]) (ZU bs) (Ze hw) ZV ?_;refine Zf ?_;have hm2:(((g.m:Int)+(g.n:Int))).toNat=xG true g:=by show ((g.m:Int)+(g.n:Int)).toNat=g.m+g.n;omega
    rw [hm2,<-hsn,<-hln];exact Nd
  | false=>
    refine za (fun q=>absurd q Zi) (fun _=>?_);refine ⟨Za,?_⟩;refine xl [(1000,500)] (vb _ _) (kD L g.row (1:Int) Za Za q1) (by simp [hw,ends,bs]) (ZU bs) (Ze hw) ZV ?_;refine Zf ?_;have hs1:L++[g.row]=((G.take (n+1)).flatMap fun g=>List.replicate (xG false g) g.row):=Z4 hsn;have hl1:L.length+1=((G.take (n+1)).flatMap fun g=>List.replicate (xG false g) g.row).length:=Z4 hln;rw [hs1,hl1];exact Nd
 ·exact GD
theorem MN{p:Prop}(h:p:=by
 refine ⟨Za,?_⟩;refine xl [(1000,500)] (vb _ _) (kD L g.row z Za Za q1) (by simp [hw,ends,bs]) (ZU bs) (Ze hw) ZV ?_;refine Zf ?_;rw [k1,<-hsn,<-hln];exact zi hI (n+1) h' Zl (Ya (Ze hw) Zb Zb)):p:=h
theorem Ke{p:Prop}(h:p:=by
 have e:yX false g=if 0<g.m/\g.n=0 then 1 else 0:=rfl
 rw [e];by_cases hq:0<g.m/\g.n=0<;>simp [hq]):p:=h
theorem Gx{p:Prop}(h:p:=by
 refine Zf ?_;rw [<-hg];refine ⟨Za,Za,ze Zg,Za,?_⟩;rw [wm];refine xl [(1000,500)] (vb _ _) (kD L g.row ((g.m:Int)-(g.n:Int)) Za Za q1) (by simp [hw,ends,bs]) (ZU bs) (Ze hw) ZV ?_;refine Zf ?_;rw [key,<-hsn,<-hln];exact Nd):p:=h
theorem c_except (a b:List Row) (all:Bool) (hl:a.length≤100000) (hm:b.length≤100000) (ha: ∀r∈a,r.length≤1000) (hb: ∀r∈b,r.length≤1000):
 ACall Tryz.prog 76 [aTab a,aTab b,boo all] [] (aTab (wg (yX all) a b)) []:=by
 refine zn mixed ttok Tryz.func76 Tryz.ntmps76 Tryz.results76 ?_;have hG:=c_groups a b hl hm ha hb;have hcl:=j9 (exceptT_le all (srt a) (srt b));have hgl:=ug _ (srt a) (srt b) (Ys _);have hgm:=grpM_ok hl hm ha hb;rw [zI,zI] at hgl;unfold wg at hcl ⊢;generalize grpM (srt a) (srt b)=G at hG hcl hgl hgm ⊢;generalize hr:aTab (G.flatMap fun g=>List.replicate (yX all g) g.row)=R;refine Zn ?_;refine zg [[1],[1]] [] (hG) ?_;refine Zf ?_;refine zx mixed ttok (fun n:Nat=>(⟨[(9,num n),(8,.vec 500 ((G.take n).flatMap fun g=>List.replicate (yX all g) g.row).length),(2,boo all),(7,.d (.sl 3 (zd rG G)))],[(500,vecT ((G.take n).flatMap fun g=>List.replicate (yX all g) g.row))]⟩:SL)) (fun n=>G.length-n) (fun n=>n<=G.length) 0 (Yj _) ?_ ?_
 ·exact KD
 intro I hI n hn;have hlt:=qd (t:=yX all) (G:=G) (n:=n);have hsn:=comb_snoc (yX all) G n;refine Zf ?_;refine za (fun h=>?_) fun h=>?_
 ·have h':n<G.length:=Zq h;have hw:=zh h' Za;have hsn:=hsn h';obtain ⟨q1,q2,q3⟩:=hgm _ (zk h');have hln:((G.take (n+1)).flatMap fun g=>List.replicate (yX all g) g.row).length=((G.take n).flatMap fun g=>List.replicate (yX all g) g.row).length+yX all (G.getD n default):=by rw [hsn,Yb,YQ]
  obtain ⟨L,hL⟩: ∃L,L=((G.take n).flatMap fun g=>List.replicate (yX all g) g.row):=⟨_,rfl⟩
  rw [<-hL] at hlt hsn hln ⊢;obtain ⟨g,hg⟩: ∃g,g=G.getD n default:=⟨_,rfl⟩
  rw [<-hg] at q1 q2 q3 hsn hln ⊢;cases all with
  | true=>
    refine ⟨Za,?_⟩;have wm:IntKind.i64.wrap ((g.m:Int)-(g.n:Int))=(g.m:Int)-(g.n:Int):=zt Za Za;have key:((g.m:Int)-(g.n:Int)).toNat=yX true g:=by show ((g.m:Int)-(g.n:Int)).toNat=g.m-g.n;omega
    refine za (fun c1=>?_) fun c1=>?_
    ·refine ⟨Za,?_⟩;refine zg [[0]] [] (c_one ((g.n:Int)==0)) ?_;exact Gx
    ·refine zg [[0]] [] (c_one false) ?_;exact Gx
  | false=>
    refine ⟨Za,?_⟩;have key: ∀b:Bool,b=decide (0<g.m/\g.n=0)->(if b=true then (1:Int) else 0).toNat=yX false g/\(if b=true then (1:Int) else 0)<=1000000:=fun b hb=>by
     subst hb;exact Ke
    refine za (fun c1=>?_) fun c1=>?_
    ·have c1':0<g.m:=Zq c1;obtain ⟨k1,k2⟩:=key ((g.n:Int)==0) (by rw [Ud];simp;omega);refine ⟨Za,?_⟩;refine zg [[0]] [] (c_one ((g.n:Int)==0)) ?_;refine Zf ?_;rw [<-hg];generalize (if ((g.n:Int)==0)=true then (1:Int) else 0)=z at *;exact MN
    ·have c1': ¬0<g.m:=Zp c1;obtain ⟨k1,k2⟩:=key false (by rw [Ud];simp;omega);refine zg [[0]] [] (c_one false) ?_;refine Zf ?_;rw [<-hg];refine ⟨Za,?_⟩;refine xl [(1000,500)] (vb _ _) (kD L g.row (0:Int) Za Za q1) (by simp [hw,ends,bs]) (ZU bs) (Ze hw) ZV ?_;refine Zf ?_;have hs1:L=((G.take (n+1)).flatMap fun g=>List.replicate (yX false g) g.row):=by rw [hsn,<-k1];simp
     rw [hs1];exact Nd
 ·exact GD
theorem c_inter (a b:List Row) (all:Bool) (hl:a.length≤100000) (hm:b.length≤100000) (ha: ∀r∈a,r.length≤1000) (hb: ∀r∈b,r.length≤1000):
 ACall Tryz.prog 77 [aTab a,aTab b,boo all] [] (aTab (wg (xP all) a b)) []:=by
 refine zn mixed ttok Tryz.func77 Tryz.ntmps77 Tryz.results77 ?_;have hG:=c_groups a b hl hm ha hb;have hcl:=j9 (interT_le all (srt a) (srt b));have hgl:=ug _ (srt a) (srt b) (Ys _);have hgm:=grpM_ok hl hm ha hb;rw [zI,zI] at hgl;unfold wg at hcl ⊢;generalize grpM (srt a) (srt b)=G at hG hcl hgl hgm ⊢;generalize hr:aTab (G.flatMap fun g=>List.replicate (xP all g) g.row)=R;refine Zn ?_;refine zg [[1],[1]] [] (hG) ?_;refine Zf ?_;refine zx mixed ttok (fun n:Nat=>(⟨[(9,num n),(8,.vec 500 ((G.take n).flatMap fun g=>List.replicate (xP all g) g.row).length),(2,boo all),(7,.d (.sl 3 (zd rG G)))],[(500,vecT ((G.take n).flatMap fun g=>List.replicate (xP all g) g.row))]⟩:SL)) (fun n=>G.length-n) (fun n=>n<=G.length) 0 (Yj _) ?_ ?_
 ·exact KD
 intro I hI n hn;have hlt:=qd (t:=xP all) (G:=G) (n:=n);have hsn:=comb_snoc (xP all) G n;refine Zf ?_;refine za (fun h=>?_) fun h=>?_
 ·have h':n<G.length:=Zq h;have hw:=zh h' Za;have hsn:=hsn h';obtain ⟨q1,q2,q3⟩:=hgm _ (zk h');have hln:((G.take (n+1)).flatMap fun g=>List.replicate (xP all g) g.row).length=((G.take n).flatMap fun g=>List.replicate (xP all g) g.row).length+xP all (G.getD n default):=by rw [hsn,Yb,YQ]
  obtain ⟨L,hL⟩: ∃L,L=((G.take n).flatMap fun g=>List.replicate (xP all g) g.row):=⟨_,rfl⟩
  rw [<-hL] at hlt hsn hln ⊢;obtain ⟨g,hg⟩: ∃g,g=G.getD n default:=⟨_,rfl⟩
  rw [<-hg] at q1 q2 q3 hsn hln ⊢;cases all with
  | true=>
    have key:(if (g.n:Int)<(g.m:Int) then (g.n:Int) else (g.m:Int)).toNat=xP true g/\(if (g.n:Int)<(g.m:Int) then (g.n:Int) else (g.m:Int))<=1000000:=by
     show _=min g.m g.n/\_;constructor<;>split<;>omega
    obtain ⟨k1,k2⟩:=key;generalize (if (g.n:Int)<(g.m:Int) then (g.n:Int) else (g.m:Int))=z at *;refine ⟨Za,Za,ze Zg,?_⟩;refine za (fun q=>absurd q Zi) (fun _=>?_);exact MN
  | false=>
    have key:(if decide ((if (g.n:Int)<(g.m:Int) then (g.n:Int) else (g.m:Int))>0)=true then (1:Int) else 0).toNat=xP false g/\(if decide ((if (g.n:Int)<(g.m:Int) then (g.n:Int) else (g.m:Int))>0)=true then (1:Int) else 0)<=1000000:=by
     have e:xP false g=if 0<g.m/\0<g.n then 1 else 0:=rfl
     rw [e];by_cases hq:0<g.m/\0<g.n
     ·rw [if_pos (by rw [Yg];split<;>omega),if_pos hq];decide
     ·rw [if_neg (by rw [Yg];split<;>omega),if_neg hq];decide
    generalize (if (g.n:Int)<(g.m:Int) then (g.n:Int) else (g.m:Int))=z0 at *;refine ⟨Za,Za,ze Zg,?_⟩;refine za (fun _=>?_) (fun q=>absurd q Zi);refine zg [[0]] [] (c_one (decide (z0>0))) ?_;refine Zf ?_;rw [<-hg];obtain ⟨k1,k2⟩:=key;generalize (if decide (z0>0)=true then (1:Int) else 0)=z at *;exact MN
 ·exact GD
theorem c_distinct (rows:List Row) (hl:rows.length<=100000) (hr1: ∀r∈rows,r.length<=1000):ACall Tryz.prog 78 [aTab rows] [] (aTab (jb rows)) []:=by
 refine zn mixed ttok Tryz.func78 Tryz.ntmps78 Tryz.results78 ?_;generalize hr:aTab (jb rows)=R;refine Zn ?_;refine zg [[1],[1],[0]] [] (c_union rows [] false hl Zi hr1 (fun _ h=>by cases h)) ?_;refine Zf ?_;exact N7
end
end Go.Proofs.YtnmibokjpedkiaaGreatDoor
