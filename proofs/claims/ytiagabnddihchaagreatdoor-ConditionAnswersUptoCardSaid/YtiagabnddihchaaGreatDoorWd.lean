/- Conditions over finite domains (part Wd) -/
import Derived.Test.YtiagabnddihchaaGreatDoorWc
set_option maxRecDepth 100000
set_option maxHeartbeats 4000000
set_option linter.all false
namespace Go.Proofs.YtiagabnddihchaaGreatDoor
section
open Go.Am
attribute [local simp, local push_cast] num boo str ints aV aTab yC aS aT aC
def wS (v:Val):Val:=if zC v=true then v else zi
def ug (op:Int) (a b:Val):Val:=
 if zC a=false\/zC b=false\/a.kind≠b.kind then zi
 else if a.kind=1 then (if (numM op a.num b.num).2=true then wS ⟨1,(numM op a.num b.num).1,ByteArray.empty⟩ else zi)
 else if a.kind=3/\op=12 then wS ⟨3,0,a.text++b.text⟩ else zi
theorem empty_list:ByteArray.empty.toList=[]:=by rw [ByteArray.toList_eq];rfl
theorem vk {v:Val} (h:zC v=true) (hk:v.kind=1):okN v.num:=by
 unfold zC at h
 rw [if_neg (by omega),if_pos hk] at h
 simp only [Bool.and_eq_true,decide_eq_true_eq] at h
 exact ⟨h.1.1,h.1.2⟩
theorem u3 {v:Val} (h:zC v=true) (hk:v.kind=3):v.text.size<=24:=by
 unfold zC at h
 rw [if_neg (by omega),if_neg (by omega),if_neg (by omega),if_pos hk] at h
 simp only [uQ,Bool.and_eq_true,decide_eq_true_eq] at h
 exact h.2.1
theorem valid_int {n:Int} (h:okN n):zC ⟨1,n,ByteArray.empty⟩=true:=by
 unfold okN at h
 simp [zC,empty_list,h.1,h.2]
theorem valid_null:zC zi=true:=by simp [zC,zi,empty_list]
theorem validV_int {n:Int} (h:okN n):wS ⟨1,n,ByteArray.empty⟩=⟨1,n,ByteArray.empty⟩:=by rw [wS,if_pos (valid_int h)]
theorem uM (op:Int) (a b:Val):ACall Tryz.prog 116 [num op,aV a,aV b] [] (aV (ug op a b)) []:=by
 refine zm mixed ttok Tryz.func116 Tryz.ntmps116 Tryz.results116 ?_
 generalize hr:aV (ug op a b)=R
 simp -implicitDefEqProofs only [argT,tabN,↓zb,push_cast,simprocAttr,tte]
 refine zd [[0,0,0]] [] (vh a) ?_
 simp -implicitDefEqProofs only [tabN,↓zb,push_cast,simprocAttr,tte]
 unfold ug at hr
 refine za (fun h1=>?_) fun h1=>?_
 ·rw [if_pos (.inl (by simpa using h1))] at hr
  exact zr (by first | trivial | (simp;done) | (simp;omega)) (by rw [<-hr]<;>first | rfl | (simp [zi];done) | (simp_all [zi];done)) (by simp [ends])
 refine zd [[0,0,0]] [] (vh b) ?_
 simp -implicitDefEqProofs only [tabN,↓zb,push_cast,simprocAttr,tte]
 simp only [Bool.not_eq_false'] at h1
 refine za (fun h2=>?_) fun h2=>?_
 ·rw [if_pos (.inr (.inl (by simpa using h2)))] at hr
  exact zr (by first | trivial | (simp;done) | (simp;omega)) (by rw [<-hr]<;>first | rfl | (simp [zi];done) | (simp_all [zi];done)) (by simp [ends])
 simp only [Bool.not_eq_false'] at h2
 refine za (fun h3=>?_) fun h3=>?_
 ·rw [if_pos (.inr (.inr (by simpa using h3)))] at hr
  exact zr (by first | trivial | (simp;done) | (simp;omega)) (by rw [<-hr]<;>first | rfl | (simp [zi];done) | (simp_all [zi];done)) (by simp [ends])
 have hk:a.kind=b.kind:=by simpa using h3
 rw [if_neg (by simp [h1,h2,hk])] at hr
 refine za (fun h4=>?_) fun h4=>?_
 ·have hk1:a.kind=1:=by simpa using h4
  rw [if_pos hk1] at hr
  refine zd [[0],[0],[0]] [] (c_numbers op a.num b.num (vk h1 hk1) (vk h2 (by omega))) ?_
  simp -implicitDefEqProofs only [tabN,↓zb,push_cast,simprocAttr,tte]
  refine za (fun h5=>?_) fun h5=>?_
  ·rw [if_neg (by simpa using h5)] at hr
   exact zr (by first | trivial | (simp;done) | (simp;omega)) (by rw [<-hr]<;>first | rfl | (simp [zi];done) | (simp_all [zi];done)) (by simp [ends])
  rw [if_pos (by simpa using h5)] at hr
  refine zd [[0,0,0]] [] (vh ⟨1,(numM op a.num b.num).1,ByteArray.empty⟩) ?_
  simp -implicitDefEqProofs only [tabN,↓zb,push_cast,simprocAttr,tte]
  unfold wS at hr
  refine za (fun h6=>?_) fun h6=>?_
  ·rw [if_neg (by simpa using h6)] at hr
   exact zr (by first | trivial | (simp;done) | (simp;omega)) (by rw [<-hr]<;>first | rfl | (simp [zi];done) | (simp_all [zi];done)) (by simp [ends])
  ·rw [if_pos (by simpa using h6)] at hr
   exact zr (by first | trivial | (simp;done) | (simp;omega)) (by rw [<-hr]<;>first | rfl | (simp [zi];done) | (simp_all [zi];done)) (by simp [ends])
 have hk1: ¬a.kind=1:=by simpa using h4
 rw [if_neg hk1] at hr
 have hnul:ACall Tryz.prog 105 [aV ⟨0,0,ByteArray.empty⟩] [] (boo true) []:=valid_null ▸ vh zi
 by_cases h5:a.kind=3/\op=12
 ·rw [if_pos h5] at hr
  obtain ⟨h5a,h5b⟩:=h5
  have t1:=u3 h1 h5a
  have t2:=u3 h2 (by omega)
  refine za (fun h6=>?_) fun h6=>?_
  ·refine za (fun h7=>?_) fun h7=>?_
   ·refine ⟨by omega,?_⟩
    refine zd [[0,0,0]] [] (vh ⟨3,0,a.text++b.text⟩) ?_
    simp -implicitDefEqProofs only [tabN,↓zb,push_cast,simprocAttr,tte]
    unfold wS at hr
    refine za (fun h8=>?_) fun h8=>?_
    ·rw [if_neg (by simpa using h8)] at hr
     exact zr (by first | trivial | (simp;done) | (simp;omega)) (by rw [<-hr]<;>first | rfl | (simp [zi];done) | (simp_all [zi];done)) (by simp [ends])
    ·rw [if_pos (by simpa using h8)] at hr
     exact zr (by first | trivial | (simp;done) | (simp;omega)) (by rw [<-hr]<;>first | rfl | (simp [zi];done) | (simp_all [zi];done)) (by simp [ends])
   ·simp at h7;omega
  ·simp at h6;omega
 rw [if_neg h5] at hr
 refine za (fun h6=>?_) fun h6=>?_
 ·refine za (fun h7=>?_) fun h7=>?_
  ·simp at h6 h7;omega
  ·refine zd [[0,0,0]] [] (hnul) ?_
   simp -implicitDefEqProofs only [zi,tabN,↓zb,push_cast,simprocAttr,tte]
   exact zr (by first | trivial | (simp;done) | (simp;omega)) (by rw [<-hr]<;>first | rfl | (simp [zi];done) | (simp_all [zi];done)) (by simp [ends])
 ·refine zd [[0,0,0]] [] (hnul) ?_
  simp -implicitDefEqProofs only [zi,tabN,↓zb,push_cast,simprocAttr,tte]
  exact zr (by first | trivial | (simp;done) | (simp;omega)) (by rw [<-hr]<;>first | rfl | (simp [zi];done) | (simp_all [zi];done)) (by simp [ends])
theorem c_rvalidV (v:Val):ACall Tryz.prog 101 [aV v] [] (aV (wS v)) []:=by
 refine zm mixed ttok Tryz.func101 Tryz.ntmps101 Tryz.results101 ?_
 generalize hr:aV (wS v)=R
 simp -implicitDefEqProofs only [argT,tabN,↓zb,push_cast,simprocAttr,tte]
 refine zd [[0,0,0]] [] (jm v) ?_
 simp -implicitDefEqProofs only [tabN,↓zb,push_cast,simprocAttr,tte]
 unfold wS at hr
 refine za (fun h8=>?_) fun h8=>?_
 ·rw [if_neg (by simpa using h8)] at hr
  exact zr (by first | trivial | (simp;done) | (simp;omega)) (by rw [<-hr]<;>first | rfl | (simp [zi];done) | (simp_all [zi];done)) (by simp [ends])
 ·rw [if_pos (by simpa using h8)] at hr
  exact zr (by first | trivial | (simp;done) | (simp;omega)) (by rw [<-hr]<;>first | rfl | (simp [zi];done) | (simp_all [zi];done)) (by simp [ends])
theorem c_product (a b:Int) (ha:okN a) (hb:okN b):ACall Tryz.prog 102 [num a,num b] [] (.tup [num (numM 8 a b).1,boo (numM 8 a b).2]) []:=by
 refine zm mixed ttok Tryz.func102 Tryz.ntmps102 Tryz.results102 ?_
 have hM:numM 8 a b=(if a≠0/\b≠0/\absI a>(1000000000000:Int).tdiv (absI b) then (0,false) else (a * b,true)):=rfl
 rw [hM]
 generalize hr:A.tup [num (if a≠0/\b≠0/\absI a>(1000000000000:Int).tdiv (absI b) then ((0:Int),false) else (a * b,true)).1,boo (if a≠0/\b≠0/\absI a>(1000000000000:Int).tdiv (absI b) then ((0:Int),false) else (a * b,true)).2]=R
 have ha':=ha
 have hb':=hb
 unfold okN at ha' hb'
 have w3:=vr (a:= -a) (by omega)
 have w4:=vr (a:= -b) (by omega)
 have e3:(0:Int)-a= -a:=by omega
 have e4:(0:Int)-b= -b:=by omega
 simp -implicitDefEqProofs only [argT,e3,e4,w3,w4,↓zb,push_cast,simprocAttr,tte]
 have hcase: ∀(h:(a≠0/\b≠0)),(absI b≠0/\wR (decide (absI a>IntKind.i64.wrap ((1000000000000:Int).tdiv (absI b)))) (retx (some (True,A.tup [A.d (D.lit (Value.int IntKind.i64 0)),A.d (D.lit (Value.bool false))])) {t:=[],o:=[]} R [])
  (retx (some (True,A.tup [A.d (D.lit (Value.int IntKind.i64 (IntKind.i64.wrap (a * b)))),A.d (D.lit (Value.bool true))])) {t:=[],o:=[]} R [])):=fun hz=>by
  have hp:=kX hz.2
  have hd:=tdiv_le (a:=1000000000000) (by decide) hp
  have w5:=vr (a:=(1000000000000:Int).tdiv (absI b)) (by omega)
  refine ⟨by omega,?_⟩
  rw [w5]
  refine za (fun h3=>?_) fun h3=>?_
  ·simp only [decide_eq_true_eq] at h3
   exact zF trivial (by rw [<-hr,if_pos ⟨hz.1,hz.2,h3⟩];rfl) (by simp [ends])
  ·simp only [decide_eq_false_iff_not] at h3
   have hn: ¬(a≠0/\b≠0/\absI a>(1000000000000:Int).tdiv (absI b)):=fun h=>h3 h.2.2
   have hm:=mul_ok ha hb hn
   unfold okN at hm
   have w6:=vr (a:=a * b) (by omega)
   rw [w6]
   exact zF trivial (by rw [<-hr,if_neg hn];rfl) (by simp [ends])
 refine za (fun h1=>?_) fun h1=>?_
 ·simp only [beq_iff_eq] at h1
  subst h1
  exact zF trivial (by rw [<-hr,if_neg (fun h=>h.1 rfl),Int.zero_mul];rfl) (by simp [ends])
 refine za (fun h2=>?_) fun h2=>?_
 ·simp only [beq_iff_eq] at h2
  subst h2
  exact zF trivial (by rw [<-hr,if_neg (fun h=>h.2.1 rfl),Int.mul_zero];rfl) (by simp [ends])
 have hc:=hcase ⟨by simpa using h1,by simpa using h2⟩
 refine za (fun h3=>?_) fun h3=>?_
 ·rw [show absI a= -a from if_pos (by simpa using h3)] at hc
  refine za (fun h4=>?_) fun h4=>?_
  ·rw [show absI b= -b from if_pos (by simpa using h4)] at hc
   exact hc
  ·rw [show absI b=b from if_neg (by simpa using h4)] at hc
   exact hc
 ·rw [show absI a=a from if_neg (by simpa using h3)] at hc
  refine za (fun h4=>?_) fun h4=>?_
  ·rw [show absI b= -b from if_pos (by simpa using h4)] at hc
   exact hc
  ·rw [show absI b=b from if_neg (by simpa using h4)] at hc
   exact hc
def arithR (op:Int) (a b:Val):Val:=
 if zC a=false\/zC b=false then zi
 else if op=12 then (if a.kind≠3\/b.kind≠3 then zi else wS ⟨3,0,a.text++b.text⟩)
 else if a.kind≠1\/b.kind≠1 then zi
 else if op=6 then wS ⟨1,a.num+b.num,ByteArray.empty⟩ else if op=7 then wS ⟨1,a.num-b.num,ByteArray.empty⟩
 else if (numM op a.num b.num).2=true then ⟨1,(numM op a.num b.num).1,ByteArray.empty⟩ else zi
theorem arithR_eq (op:Int) (a b:Val):arithR op a b=ug op a b:=by
 unfold arithR ug
 by_cases h1:zC a=false
 ·simp [h1]
 by_cases h2:zC b=false
 ·simp [h2]
 simp only [Bool.not_eq_false] at h1 h2
 simp only [h1,h2,Bool.true_eq_false,false_or,if_false]
 by_cases h12:op=12
 ·subst h12
  rw [if_pos rfl]
  by_cases hk:a.kind=b.kind
  ·by_cases ha:a.kind=1
   ·have hb1:b.kind=1:=by omega
    simp [ha,hb1,numM]
   ·by_cases ha3:a.kind=3
    ·have hb3:b.kind=3:=by omega
     simp [ha3,hb3]
    ·rw [hk] at ha ha3
     simp [hk,ha,ha3]
  ·rw [if_pos (c:=a.kind≠b.kind) hk,if_pos (by omega)]
 rw [if_neg h12]
 by_cases hk:a.kind=b.kind
 ·rw [if_neg (c:=a.kind≠b.kind) (fun h=>h hk)]
  by_cases ha:a.kind=1
  ·rw [if_neg (by omega),if_pos ha]
   have ka:=vk h1 ha
   have kb:=vk h2 (by omega)
   by_cases h6:op=6
   ·subst h6;rfl
   by_cases h7:op=7
   ·subst h7;rfl
   rw [if_neg h6,if_neg h7]
   split
   ·rename_i hq
    rw [validV_int]
    unfold numM at hq ⊢
    rw [if_neg h6,if_neg h7] at hq ⊢
    split
    ·rename_i h8
     rw [if_pos h8] at hq
     split
     ·rename_i hz;rw [if_pos hz] at hq;cases hq
     ·rename_i hz;exact mul_ok ka kb hz
    ·rename_i h8
     rw [if_neg h8] at hq
     split
     ·rename_i h9
      rw [if_pos h9] at hq
      split
      ·rename_i hz;exact tdiv_ok ka hz
      ·rename_i hz;rw [if_neg hz] at hq;cases hq
     ·rename_i h9
      rw [if_neg h9] at hq
      split
      ·rename_i h10
       rw [if_pos h10] at hq
       split
       ·rename_i hz;exact tmod_ok ka hz
       ·rename_i hz;rw [if_neg hz] at hq;cases hq
      ·rename_i h10;rw [if_neg h10] at hq;cases hq
   ·rfl
  ·rw [if_pos (by omega),if_neg ha,if_neg (by omega)]
 ·rw [if_pos (c:=a.kind≠b.kind) hk,if_pos (by omega)]
theorem c_rarith (op:Int) (a b:Val):ACall Tryz.prog 64 [num op,aV a,aV b] [] (aV (ug op a b)) []:=by
 rw [<-arithR_eq]
 refine zm mixed ttok Tryz.func64 Tryz.ntmps64 Tryz.results64 ?_
 generalize hr:aV (arithR op a b)=R
 simp -implicitDefEqProofs only [argT,tabN,↓zb,push_cast,simprocAttr,tte]
 refine zd [[0,0,0]] [] (jm a) ?_
 simp -implicitDefEqProofs only [tabN,↓zb,push_cast,simprocAttr,tte]
 unfold arithR at hr
 refine za (fun h1=>?_) fun h1=>?_
 ·rw [if_pos (.inl (by simpa using h1))] at hr
  exact zr (by first | trivial | (simp;done) | (simp;omega)) (by rw [<-hr]<;>first | rfl | (simp [zi];done) | (simp_all [zi];done)) (by simp [ends])
 refine zd [[0,0,0]] [] (jm b) ?_
 simp -implicitDefEqProofs only [tabN,↓zb,push_cast,simprocAttr,tte]
 simp only [Bool.not_eq_false'] at h1
 refine za (fun h2=>?_) fun h2=>?_
 ·rw [if_pos (.inr (by simpa using h2))] at hr
  exact zr (by first | trivial | (simp;done) | (simp;omega)) (by rw [<-hr]<;>first | rfl | (simp [zi];done) | (simp_all [zi];done)) (by simp [ends])
 simp only [Bool.not_eq_false'] at h2
 rw [if_neg (by simp [h1,h2])] at hr
 refine za (fun h12=>?_) fun h12=>?_
 ·rw [if_pos (by simpa using h12)] at hr
  refine za (fun h3=>?_) fun h3=>?_
  ·rw [if_pos (.inl (by simpa using h3))] at hr
   exact zr (by first | trivial | (simp;done) | (simp;omega)) (by rw [<-hr]<;>first | rfl | (simp [zi];done) | (simp_all [zi];done)) (by simp [ends])
  refine za (fun h4=>?_) fun h4=>?_
  ·rw [if_pos (.inr (by simpa using h4))] at hr
   exact zr (by first | trivial | (simp;done) | (simp;omega)) (by rw [<-hr]<;>first | rfl | (simp [zi];done) | (simp_all [zi];done)) (by simp [ends])
  simp only [bne_eq_false_iff_eq] at h3 h4
  rw [if_neg (by omega)] at hr
  have t1:=u3 h1 h3
  have t2:=u3 h2 h4
  refine ⟨by omega,?_⟩
  refine zd [[0,0,0]] [] (c_rvalidV ⟨3,0,a.text++b.text⟩) ?_
  simp -implicitDefEqProofs only [aV,↓zb,push_cast,simprocAttr,tte]
  exact zr (by first | trivial | (simp;done) | (simp;omega)) (by rw [<-hr]<;>first | rfl | (simp [zi];done) | (simp_all [zi];done)) (by simp [ends])
 rw [if_neg (by simpa using h12)] at hr
 refine za (fun h3=>?_) fun h3=>?_
 ·rw [if_pos (.inl (by simpa using h3))] at hr
  exact zr (by first | trivial | (simp;done) | (simp;omega)) (by rw [<-hr]<;>first | rfl | (simp [zi];done) | (simp_all [zi];done)) (by simp [ends])
 refine za (fun h4=>?_) fun h4=>?_
 ·rw [if_pos (.inr (by simpa using h4))] at hr
  exact zr (by first | trivial | (simp;done) | (simp;omega)) (by rw [<-hr]<;>first | rfl | (simp [zi];done) | (simp_all [zi];done)) (by simp [ends])
 simp only [bne_eq_false_iff_eq] at h3 h4
 rw [if_neg (by omega)] at hr
 have ka:=vk h1 h3
 have kb:=vk h2 h4
 have ka':=ka
 have kb':=kb
 unfold okN at ka' kb'
 have w1:=vr (a:=a.num+b.num) (by omega)
 have w2:=vr (a:=a.num-b.num) (by omega)
 refine za (fun h6=>?_) fun h6=>?_
 ·rw [if_pos (by simpa using h6)] at hr
  simp only [w1]
  refine zd [[0,0,0]] [] (c_rvalidV ⟨1,a.num+b.num,ByteArray.empty⟩) ?_
  simp -implicitDefEqProofs only [aV,↓zb,push_cast,simprocAttr,tte]
  exact zr (by first | trivial | (simp;done) | (simp;omega)) (by rw [<-hr]<;>first | rfl | (simp [zi];done) | (simp_all [zi];done)) (by simp [ends])
 rw [if_neg (by simpa using h6)] at hr
 refine za (fun h7=>?_) fun h7=>?_
 ·rw [if_pos (by simpa using h7)] at hr
  simp only [w2]
  refine zd [[0,0,0]] [] (c_rvalidV ⟨1,a.num-b.num,ByteArray.empty⟩) ?_
  simp -implicitDefEqProofs only [aV,↓zb,push_cast,simprocAttr,tte]
  exact zr (by first | trivial | (simp;done) | (simp;omega)) (by rw [<-hr]<;>first | rfl | (simp [zi];done) | (simp_all [zi];done)) (by simp [ends])
 rw [if_neg (by simpa using h7)] at hr
 refine za (fun h8=>?_) fun h8=>?_
 ·have h8':op=8:=by simpa using h8
  subst h8'
  refine zd [[0],[0]] [] (c_product a.num b.num ka kb) ?_
  simp -implicitDefEqProofs only [↓zb,push_cast,simprocAttr,tte]
  refine za (fun h9=>?_) fun h9=>?_
  ·rw [if_neg (by simpa using h9)] at hr
   exact zr (by first | trivial | (simp;done) | (simp;omega)) (by rw [<-hr]<;>first | rfl | (simp [zi];done) | (simp_all [zi];done)) (by simp [ends])
  ·rw [if_pos (by simpa using h9)] at hr
   exact zr (by first | trivial | (simp;done) | (simp;omega)) (by rw [<-hr]<;>first | rfl | (simp [zi];done) | (simp_all [zi];done)) (by simp [ends])
 unfold numM at hr
 rw [if_neg (c:=op=6) (by simpa using h6),if_neg (c:=op=7) (by simpa using h7),if_neg (c:=op=8) (by simpa using h8)] at hr
 refine za (fun h9=>?_) fun h9=>?_
 ·rw [if_pos (c:=op=9) (by simpa using h9)] at hr
  refine za (fun h10=>?_) fun h10=>?_
  ·have hb0:b.num≠0:=by simpa using h10
   have hm:=tdiv_ok ka hb0
   unfold okN at hm
   have w3:=vr (a:=a.num.tdiv b.num) (by omega)
   refine ⟨hb0,?_⟩
   rw [if_pos hb0,if_pos rfl] at hr
   simp only [w3]
   exact zr (by first | trivial | (simp;done) | (simp;omega)) (by rw [<-hr]<;>first | rfl | (simp [zi];done) | (simp_all [zi];done)) (by simp [ends])
  ·have hb0: ¬b.num≠0:=by simpa using h10
   rw [if_neg hb0,if_neg (by decide)] at hr
   exact zr (by first | trivial | (simp;done) | (simp;omega)) (by rw [<-hr]<;>first | rfl | (simp [zi];done) | (simp_all [zi];done)) (by simp [ends])
 rw [if_neg (c:=op=9) (by simpa using h9)] at hr
 refine za (fun h10=>?_) fun h10=>?_
 ·rw [if_pos (c:=op=10) (by simpa using h10)] at hr
  refine za (fun h11=>?_) fun h11=>?_
  ·have hb0:b.num≠0:=by simpa using h11
   refine ⟨hb0,?_⟩
   rw [if_pos hb0,if_pos rfl] at hr
   exact zr (by first | trivial | (simp;done) | (simp;omega)) (by rw [<-hr]<;>first | rfl | (simp [zi];done) | (simp_all [zi];done)) (by simp [ends])
  ·have hb0: ¬b.num≠0:=by simpa using h11
   rw [if_neg hb0,if_neg (by decide)] at hr
   exact zr (by first | trivial | (simp;done) | (simp;omega)) (by rw [<-hr]<;>first | rfl | (simp [zi];done) | (simp_all [zi];done)) (by simp [ends])
 rw [if_neg (c:=op=10) (by simpa using h10),if_neg (by decide)] at hr
 exact zr (by first | trivial | (simp;done) | (simp;omega)) (by rw [<-hr]<;>first | rfl | (simp [zi];done) | (simp_all [zi];done)) (by simp [ends])
end
section
open Go.Am
attribute [local simp, local push_cast] num boo str ints aV aTab yC aS aT aC
def aRow (l:List Val):A:= .d (.sl 3 (zg rV l))
attribute [local simp, local push_cast] aRow
def inM (v:Val):Val->List Val->Val
 | out,[]=>out
 | out,x::l=>inM v (orM out (y6 v x)) l
def z6 (op:Int) (l:List Val):Val:=
 if op=6\/op=7\/op=8\/op=9\/op=10\/op=12 then ug op (l.getD 0 default) (l.getD 1 default)
 else if op=11 then ug 7 ⟨1,0,ByteArray.empty⟩ (l.getD 0 default)
 else if op=13 then (if (l.getD 0 default).kind=3 then ⟨1,(l.getD 0 default).text.size,ByteArray.empty⟩ else zi)
 else if op=14 then y6 (l.getD 0 default) (l.getD 1 default)
 else if op=15 then notM (y6 (l.getD 0 default) (l.getD 1 default))
 else if op=16 then xd (l.getD 0 default) (l.getD 1 default)
 else if op=17 then notM (xd (l.getD 1 default) (l.getD 0 default))
 else if op=18 then xd (l.getD 1 default) (l.getD 0 default)
 else if op=19 then notM (xd (l.getD 0 default) (l.getD 1 default))
 else if op=20 then ofV (yw (l.getD 0 default) (l.getD 1 default))
 else if op=21 then ofV ((l.getD 0 default).kind==0)
 else if op=22 then andM (l.getD 0 default) (l.getD 1 default)
 else if op=23 then orM (l.getD 0 default) (l.getD 1 default)
 else if op=24 then notM (l.getD 0 default)
 else if op=25 then ofV (zA (l.getD 0 default)==1)
 else if op=27 then (if (l.getD 0 default).kind=0 then l.getD 1 default else l.getD 0 default)
 else if op=28 then inM (l.getD 0 default) (ofV false) (l.drop 1)
 else zi
theorem inM_snoc (v:Val): ∀(r:List Val) (out x:Val),inM v out (r++[x])=orM (inM v out r) (y6 v x)
 | [],out,x=>rfl
 | y::r,out,x=>by simp only [List.cons_append,inM,inM_snoc v r]
theorem c_bool0:ACall Tryz.prog 123 [num 0] [] (aV (ofV false)) []:=by
 have:zT 0=ofV false:=by simp [zT,ofV]
 rw [<-this];exact wV 0
theorem len2 {n:Nat} (h:(n:Int)=2):2<=n:=by omega
theorem len1 {n:Nat} (h:(n:Int)=1):1<=n:=by omega
theorem c_apply (op:Int) (l:List Val) (hk:yb op l.length=true) (hll:l.length<=1000):ACall Tryz.prog 99 [num op,aRow l] [] (aV (z6 op l)) []:=by
 refine zm mixed ttok Tryz.func99 Tryz.ntmps99 Tryz.results99 ?_
 generalize hr:aV (z6 op l)=R
 simp -implicitDefEqProofs only [argT,tabN,↓zb,push_cast,simprocAttr,tte]
 refine za (fun h6=>?_) fun h6=>?_
 ·have e:op=6:=by simpa using h6
  subst e
  have hl:2<=l.length:=len2 (by simpa [yb] using hk)
  refine za (fun _=>?_) (fun h=>absurd h (by decide))
  refine ⟨by omega,by omega,?_⟩
  refine zd [[0],[0,0,0],[0,0,0]] [] (uM 6 (l.getD 0 default) (l.getD 1 default)) ?_
  simp -implicitDefEqProofs only [tabN,aV,↓zb,push_cast,simprocAttr,tte]
  refine ⟨zh (by kernel_rfl),?_⟩
  exact zr (by first | trivial | (simp;done) | (simp;omega)) (by rw [<-hr]<;>first | rfl | (simp [z6];done) | (simp_all [z6];done)) (by simp [ends])
 refine za (fun h7=>?_) fun h7=>?_
 ·have e:op=7:=by simpa using h7
  subst e
  have hl:2<=l.length:=len2 (by simpa [yb] using hk)
  refine za (fun _=>?_) (fun h=>absurd h (by decide))
  refine ⟨by omega,by omega,?_⟩
  refine zd [[0],[0,0,0],[0,0,0]] [] (uM 7 (l.getD 0 default) (l.getD 1 default)) ?_
  simp -implicitDefEqProofs only [tabN,aV,↓zb,push_cast,simprocAttr,tte]
  refine ⟨zh (by kernel_rfl),?_⟩
  exact zr (by first | trivial | (simp;done) | (simp;omega)) (by rw [<-hr]<;>first | rfl | (simp [z6];done) | (simp_all [z6];done)) (by simp [ends])
 refine za (fun h8=>?_) fun h8=>?_
 ·have e:op=8:=by simpa using h8
  subst e
  have hl:2<=l.length:=len2 (by simpa [yb] using hk)
  refine za (fun _=>?_) (fun h=>absurd h (by decide))
  refine ⟨by omega,by omega,?_⟩
  refine zd [[0],[0,0,0],[0,0,0]] [] (uM 8 (l.getD 0 default) (l.getD 1 default)) ?_
  simp -implicitDefEqProofs only [tabN,aV,↓zb,push_cast,simprocAttr,tte]
  refine ⟨zh (by kernel_rfl),?_⟩
  exact zr (by first | trivial | (simp;done) | (simp;omega)) (by rw [<-hr]<;>first | rfl | (simp [z6];done) | (simp_all [z6];done)) (by simp [ends])
 refine za (fun h9=>?_) fun h9=>?_
 ·have e:op=9:=by simpa using h9
  subst e
  have hl:2<=l.length:=len2 (by simpa [yb] using hk)
  refine za (fun _=>?_) (fun h=>absurd h (by decide))
  refine ⟨by omega,by omega,?_⟩
  refine zd [[0],[0,0,0],[0,0,0]] [] (uM 9 (l.getD 0 default) (l.getD 1 default)) ?_
  simp -implicitDefEqProofs only [tabN,aV,↓zb,push_cast,simprocAttr,tte]
  refine ⟨zh (by kernel_rfl),?_⟩
  exact zr (by first | trivial | (simp;done) | (simp;omega)) (by rw [<-hr]<;>first | rfl | (simp [z6];done) | (simp_all [z6];done)) (by simp [ends])
 refine za (fun h10=>?_) fun h10=>?_
 ·have e:op=10:=by simpa using h10
  subst e
  have hl:2<=l.length:=len2 (by simpa [yb] using hk)
  refine za (fun _=>?_) (fun h=>absurd h (by decide))
  refine ⟨by omega,by omega,?_⟩
  refine zd [[0],[0,0,0],[0,0,0]] [] (uM 10 (l.getD 0 default) (l.getD 1 default)) ?_
  simp -implicitDefEqProofs only [tabN,aV,↓zb,push_cast,simprocAttr,tte]
  refine ⟨zh (by kernel_rfl),?_⟩
  exact zr (by first | trivial | (simp;done) | (simp;omega)) (by rw [<-hr]<;>first | rfl | (simp [z6];done) | (simp_all [z6];done)) (by simp [ends])
 refine za (fun h12=>?_) fun h12=>?_
 ·have e:op=12:=by simpa using h12
  subst e
  have hl:2<=l.length:=len2 (by simpa [yb] using hk)
  refine ⟨by omega,by omega,?_⟩
  refine zd [[0],[0,0,0],[0,0,0]] [] (uM 12 (l.getD 0 default) (l.getD 1 default)) ?_
  simp -implicitDefEqProofs only [tabN,aV,↓zb,push_cast,simprocAttr,tte]
  refine ⟨zh (by kernel_rfl),?_⟩
  exact zr (by first | trivial | (simp;done) | (simp;omega)) (by rw [<-hr]<;>first | rfl | (simp [z6];done) | (simp_all [z6];done)) (by simp [ends])
 refine za (fun h11=>?_) fun h11=>?_
 ·have e:op=11:=by simpa using h11
  subst e
  have hl:1<=l.length:=len1 (by simpa [yb] using hk)
  refine ⟨by omega,?_⟩
  refine zd [[0],[0,0,0],[0,0,0]] [] (uM 7 ⟨1,0,ByteArray.empty⟩ (l.getD 0 default)) ?_
  simp -implicitDefEqProofs only [tabN,aV,↓zb,push_cast,simprocAttr,tte]
  exact zr (by first | trivial | (simp;done) | (simp;omega)) (by rw [<-hr]<;>first | rfl | (simp [z6];done) | (simp_all [z6];done)) (by simp [ends])
 refine za (fun h13=>?_) fun h13=>?_
 ·have e:op=13:=by simpa using h13
  subst e
  have hl:1<=l.length:=len1 (by simpa [yb] using hk)
  refine ⟨by omega,?_⟩
  refine za (fun g=>?_) fun g=>?_
  ·refine ⟨by omega,?_⟩
   have g1:(l.getD 0 default).kind=3:=by simpa using g
   have hM:z6 13 l=⟨1,(l.getD 0 default).text.size,ByteArray.empty⟩:=if_pos g1
   rw [hM] at hr
   exact zr (by first | trivial | (simp;done) | (simp;omega)) (by rw [<-hr]<;>first | rfl | (simp [z6];done) | (simp_all [z6];done)) (by simp [ends])
  ·have g1: ¬(l.getD 0 default).kind=3:=by simpa using g
   have hM:z6 13 l=zi:=if_neg g1
   rw [hM] at hr
   exact zr (by first | trivial | (simp;done) | (simp;omega)) (by rw [<-hr]<;>first | rfl | (simp [zi];done) | (simp_all [zi];done)) (by simp [ends])
 refine za (fun h14=>?_) fun h14=>?_
 ·have e:op=14:=by simpa using h14
  subst e
  have hl:2<=l.length:=len2 (by simpa [yb] using hk)
  refine ⟨by omega,by omega,?_⟩
  refine zd [[0,0,0],[0,0,0]] [] (c_equal (l.getD 0 default) (l.getD 1 default)) ?_
  simp -implicitDefEqProofs only [tabN,aV,↓zb,push_cast,simprocAttr,tte]
  refine ⟨zh (by kernel_rfl),?_⟩
  exact zr (by first | trivial | (simp;done) | (simp;omega)) (by rw [<-hr]<;>first | rfl | (simp [z6];done) | (simp_all [z6];done)) (by simp [ends])
 refine za (fun h15=>?_) fun h15=>?_
 ·have e:op=15:=by simpa using h15
  subst e
  have hl:2<=l.length:=len2 (by simpa [yb] using hk)
  refine ⟨by omega,by omega,?_⟩
  refine zd [[0,0,0],[0,0,0]] [] (c_equal (l.getD 0 default) (l.getD 1 default)) ?_
  simp -implicitDefEqProofs only [tabN,aV,↓zb,push_cast,simprocAttr,tte]
  refine zd [[0,0,0]] [] (c_not (y6 (l.getD 0 default) (l.getD 1 default))) ?_
  simp -implicitDefEqProofs only [tabN,aV,↓zb,push_cast,simprocAttr,tte]
  refine ⟨zh (by kernel_rfl),?_⟩
  exact zr (by first | trivial | (simp;done) | (simp;omega)) (by rw [<-hr]<;>first | rfl | (simp [z6];done) | (simp_all [z6];done)) (by simp [ends])
 refine za (fun h16=>?_) fun h16=>?_
 ·have e:op=16:=by simpa using h16
  subst e
  have hl:2<=l.length:=len2 (by simpa [yb] using hk)
  refine ⟨by omega,by omega,?_⟩
  refine zd [[0,0,0],[0,0,0]] [] (c_less (l.getD 0 default) (l.getD 1 default)) ?_
  simp -implicitDefEqProofs only [tabN,aV,↓zb,push_cast,simprocAttr,tte]
  refine ⟨zh (by kernel_rfl),?_⟩
  exact zr (by first | trivial | (simp;done) | (simp;omega)) (by rw [<-hr]<;>first | rfl | (simp [z6];done) | (simp_all [z6];done)) (by simp [ends])
 refine za (fun h17=>?_) fun h17=>?_
 ·have e:op=17:=by simpa using h17
  subst e
  have hl:2<=l.length:=len2 (by simpa [yb] using hk)
  refine ⟨by omega,by omega,?_⟩
  refine zd [[0,0,0],[0,0,0]] [] (c_less (l.getD 1 default) (l.getD 0 default)) ?_
  simp -implicitDefEqProofs only [tabN,aV,↓zb,push_cast,simprocAttr,tte]
  refine zd [[0,0,0]] [] (c_not (xd (l.getD 1 default) (l.getD 0 default))) ?_
  simp -implicitDefEqProofs only [tabN,aV,↓zb,push_cast,simprocAttr,tte]
  refine ⟨zh (by kernel_rfl),?_⟩
  exact zr (by first | trivial | (simp;done) | (simp;omega)) (by rw [<-hr]<;>first | rfl | (simp [z6];done) | (simp_all [z6];done)) (by simp [ends])
 refine za (fun h18=>?_) fun h18=>?_
 ·have e:op=18:=by simpa using h18
  subst e
  have hl:2<=l.length:=len2 (by simpa [yb] using hk)
  refine ⟨by omega,by omega,?_⟩
  refine zd [[0,0,0],[0,0,0]] [] (c_less (l.getD 1 default) (l.getD 0 default)) ?_
  simp -implicitDefEqProofs only [tabN,aV,↓zb,push_cast,simprocAttr,tte]
  refine ⟨zh (by kernel_rfl),?_⟩
  exact zr (by first | trivial | (simp;done) | (simp;omega)) (by rw [<-hr]<;>first | rfl | (simp [z6];done) | (simp_all [z6];done)) (by simp [ends])
 refine za (fun h19=>?_) fun h19=>?_
 ·have e:op=19:=by simpa using h19
  subst e
  have hl:2<=l.length:=len2 (by simpa [yb] using hk)
  refine ⟨by omega,by omega,?_⟩
  refine zd [[0,0,0],[0,0,0]] [] (c_less (l.getD 0 default) (l.getD 1 default)) ?_
  simp -implicitDefEqProofs only [tabN,aV,↓zb,push_cast,simprocAttr,tte]
  refine zd [[0,0,0]] [] (c_not (xd (l.getD 0 default) (l.getD 1 default))) ?_
  simp -implicitDefEqProofs only [tabN,aV,↓zb,push_cast,simprocAttr,tte]
  refine ⟨zh (by kernel_rfl),?_⟩
  exact zr (by first | trivial | (simp;done) | (simp;omega)) (by rw [<-hr]<;>first | rfl | (simp [z6];done) | (simp_all [z6];done)) (by simp [ends])
 refine za (fun h20=>?_) fun h20=>?_
 ·have e:op=20:=by simpa using h20
  subst e
  have hl:2<=l.length:=len2 (by simpa [yb] using hk)
  refine ⟨by omega,by omega,?_⟩
  refine zd [[0,0,0],[0,0,0]] [] (c_same (l.getD 0 default) (l.getD 1 default)) ?_
  simp -implicitDefEqProofs only [tabN,aV,↓zb,push_cast,simprocAttr,tte]
  refine zd [[0]] [] (c_etruth (yw (l.getD 0 default) (l.getD 1 default))) ?_
  simp -implicitDefEqProofs only [tabN,aV,↓zb,push_cast,simprocAttr,tte]
  refine ⟨zh (by kernel_rfl),?_⟩
  exact zr (by first | trivial | (simp;done) | (simp;omega)) (by rw [<-hr]<;>first | rfl | (simp [z6];done) | (simp_all [z6];done)) (by simp [ends])
 refine za (fun h21=>?_) fun h21=>?_
 ·have e:op=21:=by simpa using h21
  subst e
  have hl:1<=l.length:=len1 (by simpa [yb] using hk)
  refine ⟨by omega,?_⟩
  refine zd [[0]] [] (c_etruth ((l.getD 0 default).kind==0)) ?_
  simp -implicitDefEqProofs only [tabN,aV,↓zb,push_cast,simprocAttr,tte]
  exact zr (by first | trivial | (simp;done) | (simp;omega)) (by rw [<-hr]<;>first | rfl | (simp [z6];done) | (simp_all [z6];done)) (by simp [ends])
 refine za (fun h22=>?_) fun h22=>?_
 ·have e:op=22:=by simpa using h22
  subst e
  have hl:2<=l.length:=len2 (by simpa [yb] using hk)
  refine ⟨by omega,by omega,?_⟩
  refine zd [[0,0,0],[0,0,0]] [] (c_and (l.getD 0 default) (l.getD 1 default)) ?_
  simp -implicitDefEqProofs only [tabN,aV,↓zb,push_cast,simprocAttr,tte]
  refine ⟨zh (by kernel_rfl),?_⟩
  exact zr (by first | trivial | (simp;done) | (simp;omega)) (by rw [<-hr]<;>first | rfl | (simp [z6];done) | (simp_all [z6];done)) (by simp [ends])
 refine za (fun h23=>?_) fun h23=>?_
 ·have e:op=23:=by simpa using h23
  subst e
  have hl:2<=l.length:=len2 (by simpa [yb] using hk)
  refine ⟨by omega,by omega,?_⟩
  refine zd [[0,0,0],[0,0,0]] [] (c_or2 (l.getD 0 default) (l.getD 1 default)) ?_
  simp -implicitDefEqProofs only [tabN,aV,↓zb,push_cast,simprocAttr,tte]
  refine ⟨zh (by kernel_rfl),?_⟩
  exact zr (by first | trivial | (simp;done) | (simp;omega)) (by rw [<-hr]<;>first | rfl | (simp [z6];done) | (simp_all [z6];done)) (by simp [ends])
 refine za (fun h24=>?_) fun h24=>?_
 ·have e:op=24:=by simpa using h24
  subst e
  have hl:1<=l.length:=len1 (by simpa [yb] using hk)
  refine ⟨by omega,?_⟩
  refine zd [[0,0,0]] [] (c_not (l.getD 0 default)) ?_
  simp -implicitDefEqProofs only [tabN,aV,↓zb,push_cast,simprocAttr,tte]
  exact zr (by first | trivial | (simp;done) | (simp;omega)) (by rw [<-hr]<;>first | rfl | (simp [z6];done) | (simp_all [z6];done)) (by simp [ends])
 refine za (fun h25=>?_) fun h25=>?_
 ·have e:op=25:=by simpa using h25
  subst e
  have hl:1<=l.length:=len1 (by simpa [yb] using hk)
  refine ⟨by omega,?_⟩
  refine zd [[0,0,0]] [] (vi (l.getD 0 default)) ?_
  simp -implicitDefEqProofs only [tabN,aV,↓zb,push_cast,simprocAttr,tte]
  refine zd [[0]] [] (c_etruth (zA (l.getD 0 default)==1)) ?_
  simp -implicitDefEqProofs only [tabN,aV,↓zb,push_cast,simprocAttr,tte]
  exact zr (by first | trivial | (simp;done) | (simp;omega)) (by rw [<-hr]<;>first | rfl | (simp [z6];done) | (simp_all [z6];done)) (by simp [ends])
 refine za (fun h27=>?_) fun h27=>?_
 ·have e:op=27:=by simpa using h27
  subst e
  have hl:2<=l.length:=len2 (by simpa [yb] using hk)
  refine ⟨by omega,?_⟩
  refine za (fun g=>?_) fun g=>?_
  ·refine ⟨by omega,?_⟩
   have g1:(l.getD 0 default).kind=0:=by simpa using g
   have hM:z6 27 l=(l.getD 1 default):=if_pos g1
   rw [hM] at hr
   exact zr (by first | trivial | (simp;done) | (simp;omega)) (by rw [<-hr]<;>first | rfl | (simp [z6];done) | (simp_all [z6];done)) (by simp [ends])
  ·refine ⟨by omega,?_⟩
   have g1: ¬(l.getD 0 default).kind=0:=by simpa using g
   have hM:z6 27 l=(l.getD 0 default):=if_neg g1
   rw [hM] at hr
   exact zr (by first | trivial | (simp;done) | (simp;omega)) (by rw [<-hr]<;>first | rfl | (simp [z6];done) | (simp_all [z6];done)) (by simp [ends])
 refine za (fun h28=>?_) fun h28=>?_
 ·have e:op=28:=by simpa using h28
  subst e
  have hl:2≤l.length:=by have:(l.length:Int)≥2:=by simpa [yb] using hk
                         omega
  refine zd [[0]] [] (c_bool0) ?_
  simp -implicitDefEqProofs only [tabN,aV,↓zb,push_cast,simprocAttr,tte]
  refine ⟨by omega,?_⟩
  have hM:z6 28 l=inM (l.getD 0 default) (ofV false) (l.drop 1):=rfl
  rw [hM] at hr
  have hdl:(l.drop 1).length<=1000:=by simp;omega
  simp only [List.take_length]
  generalize l.drop 1=r at hr hdl ⊢
  have hsn: ∀n,n<r.length->inM (l.getD 0 default) (ofV false) (r.take (n+1))=orM (inM (l.getD 0 default) (ofV false) (r.take n)) (y6 (l.getD 0 default) (r.getD n default)):=fun n h=>by
   rw [yr _ _ h,inM_snoc]
  generalize hv0:l.getD 0 default=v0 at hr hsn
  generalize ha:(fun n:Nat=>inM v0 (ofV false) (r.take n))=acc
  have ha0:acc 0=ofV false:=by rw [<-ha];rfl
  have hsn: ∀n,n<r.length->acc (n+1)=orM (acc n) (y6 v0 (r.getD n default)):=fun n h=>by rw [<-ha];exact hsn n h
  have haN:acc r.length=inM v0 (ofV false) r:=by rw [<-ha];simp
  rw [<-haN] at hr
  refine yl mixed ttok 170 [1,4,5,168,169] [4] (by simp only [wH,ends,push_cast,simprocAttr];rfl) (by simp only [wI,ym,ends,push_cast,simprocAttr];rfl) r.length (fun _=>True) (fun _=>[]) (fun n=>[(5,.var [.d (.lit (.int .i64 (acc n).kind)),.d (.lit (.int .i64 (acc n).num)),.d (.lit (.string (acc n).text))])]) trivial ?_ ?_
  ·exact Weak.keepL (by simp [cst,ha0,ends]) (by simp [cst,ha0,ends]) (by simp [cst,ha0,ends])
  intro I hI n hn hi
  simp -implicitDefEqProofs only [cst,↓zb,push_cast,simprocAttr,tte]
  refine za (fun h=>?_) fun h=>?_
  ·simp only [decide_eq_true_eq] at h
   have h':n<r.length:=by omega
   have hw:=zw h' (by omega)
   refine ⟨(by first | omega | trivial | (refine ⟨?_,?_⟩<;>first | omega | trivial | (refine ⟨?_,?_⟩<;>first | omega | trivial | (refine ⟨?_,?_⟩<;>first | omega | trivial | rfl)))),by omega,?_⟩
   rw [hv0]
   refine zd [[0,0,0],[0,0,0]] [] (c_equal v0 (r.getD n default)) ?_
   simp -implicitDefEqProofs only [tabN,aV,↓zb,push_cast,simprocAttr,tte]
   refine zd [[0,0,0],[0,0,0]] [] (c_or2 (acc n) (y6 v0 (r.getD n default))) ?_
   simp -implicitDefEqProofs only [tabN,aV,↓zb,push_cast,simprocAttr,tte]
   refine ⟨zh (by kernel_rfl),?_⟩
   rw [<-hsn n h']
   exact yt hI n rfl h' trivial (by simp [hw,ends]) (by simp [hw,ends]) (by simp [hw,ends]) (by simp [hw,ends])
  ·have hn':n=r.length:=by simp at h;omega
   subst hn'
   exact zr (by first | trivial | (simp;done) | (simp;omega)) (by rw [<-hr]<;>first | rfl | (simp [zi];done) | (simp_all [zi];done)) (by simp [ends])
 ·have hM:z6 op l=zi:=by
   simp only [beq_eq_false_iff_ne,ne_eq] at h6 h7 h8 h9 h10 h11 h12 h13 h14 h15 h16 h17 h18 h19 h20 h21 h22 h23 h24 h25 h27 h28
   simp only [z6, *,or_self,if_false]
  rw [hM] at hr
  exact zr (by first | trivial | (simp;done) | (simp;omega)) (by rw [<-hr]<;>first | rfl | (simp [zi];done) | (simp_all [zi];done)) (by simp [ends])
end
section
open Go.Am
attribute [local simp, local push_cast] num boo str ints aV aTab yC aS aT aC aRow aOp
def zR (row:List Val) (e:Ex) (vs:List Val):Val:=
 if yf e=false then zi
 else if e.op=2 then ⟨1,e.num,ByteArray.empty⟩ else if e.op=3 then ⟨2,e.num,ByteArray.empty⟩ else if e.op=4 then ⟨3,0,e.text⟩
 else if e.op=5 then (if 0<=e.col/\e.col<row.length then row.getD e.col.toNat default else zi)
 else if e.op=26 then (if zA (vs.getD 0 default)=1 then vs.getD 1 default else vs.getD 2 default)
 else z6 e.op vs
mutual
def zN (row:List Val):Ex->Val
 | .mk a b c d g ks=>zR row (.mk a b c d g ks) (evalL row ks)
def evalL (row:List Val):List Ex->List Val
 | []=>[]
 | e::l=>zN row e::evalL row l
end
theorem evalL_eq (row:List Val): ∀l,evalL row l=l.map (zN row)
 | []=>rfl
 | e::l=>by rw [evalL,evalL_eq row l];rfl
theorem kJ (row:List Val) (e:Ex):zN row e=zR row e (e.kids.map (zN row)):=by cases e;rw [zN,evalL_eq];rfl
def xI (row:List Val) (e:Ex) (n:Nat):List Val:=(e.kids.take n).map (zN row)
theorem valsTo_succ (row:List Val) (e:Ex) (n:Nat) (h:n<e.kids.length):xI row e (n+1)=xI row e n++[zN row (e.kids.getD n default)]:=by
 rw [xI,yr _ _ h,List.map_append];rfl
theorem jF (row:List Val) (e:Ex) (n:Nat) (h:n<=e.kids.length):(xI row e n).length=n:=by simp [xI];omega
theorem kids_op {e:Ex} (h:yf e=true):yb e.op e.kids.length=true:=by
 have:isOp e.op=true:=by simp only [yf,Bool.and_eq_true] at h;exact h.1
 rw [uC this];exact h
theorem getD_map {α β:Type} [Inhabited α] [Inhabited β] (f:α->β) (l:List α) (n:Nat) (h:n<l.length):(l.map f).getD n default=f (l.getD n default):=by
 simp [List.getD_eq_getElem?_getD,h]
theorem uK (row:List Val): ∀e:Ex,Ok12 e→ACall Tryz.prog 56 [aE e,aRow row] [] (aV (zN row e)) []:=
 xj (p:=fun e=>Ok12 e->ACall Tryz.prog 56 [aE e,aRow row] [] (aV (zN row e)) []) fun e ih ho=>by
 refine zm mixed ttok Tryz.func56 Tryz.ntmps56 Tryz.results56 ?_
 generalize hr:aV (zN row e)=R
 have hl:=ho.kids
 rw [kJ] at hr
 unfold zR at hr
 simp -implicitDefEqProofs only [argT,tabN,↓zb,push_cast,simprocAttr,tte]
 refine zd [[0,0,0,0,0,6]] [] (c_known e) ?_
 simp -implicitDefEqProofs only [tabN,aOp,↓zb,push_cast,simprocAttr,tte]
 refine za (fun hc=>?_) fun hc=>?_
 ·rw [if_pos (by simpa using hc)] at hr
  exact zr (by first | trivial | (simp;done) | (simp;omega)) (by rw [<-hr]<;>first | rfl | (simp [zi];done) | (simp_all [zi];done)) (by simp [ends])
 have hc':yf e=true:=by simpa using hc
 rw [if_neg (by rw [hc'];decide)] at hr
 have hkk:=kids_op hc'
 refine za (fun h2=>?_) fun h2=>?_
 ·rw [if_pos (by simpa using h2)] at hr
  exact zr (by first | trivial | (simp;done) | (simp;omega)) (by rw [<-hr]<;>first | rfl | (simp [zi];done) | (simp_all [zi];done)) (by simp [ends])
 rw [if_neg (by simpa using h2)] at hr
 refine za (fun h3=>?_) fun h3=>?_
 ·rw [if_pos (by simpa using h3)] at hr
  exact zr (by first | trivial | (simp;done) | (simp;omega)) (by rw [<-hr]<;>first | rfl | (simp [zi];done) | (simp_all [zi];done)) (by simp [ends])
 rw [if_neg (by simpa using h3)] at hr
 refine za (fun h4=>?_) fun h4=>?_
 ·rw [if_pos (by simpa using h4)] at hr
  exact zr (by first | trivial | (simp;done) | (simp;omega)) (by rw [<-hr]<;>first | rfl | (simp [zi];done) | (simp_all [zi];done)) (by simp [ends])
 rw [if_neg (by simpa using h4)] at hr
 refine za (fun h5=>?_) fun h5=>?_
 ·rw [if_pos (by simpa using h5)] at hr
  refine za (fun g1=>?_) fun g1=>?_
  ·simp only [ge_iff_le,decide_eq_true_eq] at g1
   refine za (fun g2=>?_) fun g2=>?_
   ·simp only [decide_eq_true_eq] at g2
    rw [if_pos ⟨g1,g2⟩] at hr
    refine ⟨⟨g1,g2⟩,?_⟩
    exact zr (by first | trivial | (simp;done) | (simp;omega)) (by rw [<-hr]<;>first | rfl | (simp [zi];done) | (simp_all [zi];done)) (by simp [ends])
   ·simp only [decide_eq_false_iff_not] at g2
    rw [if_neg (fun h=>g2 h.2)] at hr
    exact zr (by first | trivial | (simp;done) | (simp;omega)) (by rw [<-hr]<;>first | rfl | (simp [zi];done) | (simp_all [zi];done)) (by simp [ends])
  ·simp only [ge_iff_le,decide_eq_false_iff_not] at g1
   rw [if_neg (fun h=>g1 h.1)] at hr
   exact zr (by first | trivial | (simp;done) | (simp;omega)) (by rw [<-hr]<;>first | rfl | (simp [zi];done) | (simp_all [zi];done)) (by simp [ends])
 rw [if_neg (by simpa using h5)] at hr
 refine za (fun h26=>?_) fun h26=>?_
 ·have e26:e.op=26:=by simpa using h26
  rw [if_pos e26] at hr
  have hl3:e.kids.length=3:=by
   rw [e26] at hkk
   have:(e.kids.length:Int)=3:=by simpa [yb] using hkk
   omega
  rw [getD_map _ _ _ (by omega),getD_map _ _ _ (by omega),getD_map _ _ _ (by omega)] at hr
  have hg: ∀n,n<3->e.kids.getD n default∈e.kids:=fun n h=>zx (by omega)
  refine ⟨by omega,?_⟩
  refine zd [[0,0,0,0,0,6],[3]] [] (ih _ (hg 0 (by omega)) (ho.kid (hg 0 (by omega)))) ?_
  simp -implicitDefEqProofs only [tabN,aV,↓zb,push_cast,simprocAttr,tte]
  refine zd [[0,0,0]] [] (vi (zN row (e.kids.getD 0 default))) ?_
  simp -implicitDefEqProofs only [tabN,aV,↓zb,push_cast,simprocAttr,tte]
  refine za (fun g=>?_) fun g=>?_
  ·rw [if_pos (by simpa using g)] at hr
   refine ⟨by omega,?_⟩
   refine zd [[0,0,0,0,0,6],[3]] [] (ih _ (hg 1 (by omega)) (ho.kid (hg 1 (by omega)))) ?_
   simp -implicitDefEqProofs only [tabN,aV,↓zb,push_cast,simprocAttr,tte]
   exact zr (by first | trivial | (simp;done) | (simp;omega)) (by rw [<-hr]<;>first | rfl | (simp [zi];done) | (simp_all [zi];done)) (by simp [ends])
  ·rw [if_neg (by simpa using g)] at hr
   refine ⟨by omega,?_⟩
   refine zd [[0,0,0,0,0,6],[3]] [] (ih _ (hg 2 (by omega)) (ho.kid (hg 2 (by omega)))) ?_
   simp -implicitDefEqProofs only [tabN,aV,↓zb,push_cast,simprocAttr,tte]
   exact zr (by first | trivial | (simp;done) | (simp;omega)) (by rw [<-hr]<;>first | rfl | (simp [zi];done) | (simp_all [zi];done)) (by simp [ends])
 rw [if_neg (by simpa using h26)] at hr
 refine yl mixed ttok 80 [1,2,4,78,79] [2,4] (by simp only [wH,ends,push_cast,simprocAttr];rfl) (by simp only [wI,ym,ends,push_cast,simprocAttr];rfl) e.kids.length (fun _=>True) (fun n=>[(8,.vec 500 n)]) (fun n=>[(500,.vec 53 3 (zg rV (xI row e n)) 0)]) trivial ?_ ?_
 ·exact (Weak.nilL 8 500 53 3 rfl rfl).trans (Weak.keepL (by simp [cst,ends]) (by simp [cst,xI,ends]) (by simp [cst,ends]))
 intro I hI n hn hi
 have hl2:=jF row e n hn
 simp -implicitDefEqProofs only [cst,↓zb,push_cast,simprocAttr,tte]
 refine za (fun h=>?_) fun h=>?_
 ·simp only [decide_eq_true_eq] at h
  have h':n<e.kids.length:=by omega
  have hw:=zw h' (by omega)
  have hs:=valsTo_succ row e n h'
  refine ⟨(by first | omega | trivial | (refine ⟨?_,?_⟩<;>first | omega | trivial | (refine ⟨?_,?_⟩<;>first | omega | trivial | (refine ⟨?_,?_⟩<;>first | omega | trivial | rfl)))),?_⟩
  refine zd [[0,0,0,0,0,6],[3]] [] (ih _ (zx h') (ho.kid (zx h'))) ?_
  simp -implicitDefEqProofs only [tabN,aV,↓zb,push_cast,simprocAttr,tte]
  refine ⟨⟨hl2.symm,by rw [hl2];omega⟩,?_⟩
  exact yt hI n rfl h' trivial (by simp [hw,hs,hl2,zy,rV,ends]) (by simp [hw,hs,hl2,zy,rV,ends]) (by simp [hw,hs,hl2,zy,rV,ends]) (by simp [hw,hs,hl2,zy,rV,ends])
 simp only [decide_eq_false_iff_not] at h
 obtain rfl:n=e.kids.length:=by omega
 clear hI
 have hT:xI row e e.kids.length=e.kids.map (zN row):=by rw [xI,List.take_length]
 rw [<-hT] at hr
 rw [<-hl2] at hkk hl
 generalize xI row e e.kids.length=l at hl2 hr hkk hl ⊢
 refine zd [[0],[3]] [] (c_apply e.op l hkk (by omega)) ?_
 simp -implicitDefEqProofs only [tabN,aV,↓zb,push_cast,simprocAttr,tte]
 exact zr (by first | trivial | (simp;done) | (simp;omega)) (by rw [<-hr]<;>first | rfl | (simp [zi];done) | (simp_all [zi];done)) (by simp [ends])
end
section
open Go.Am
attribute [local simp, local push_cast] num boo str ints aV aTab yC aS aT aC aRow aOp
theorem orM_false (a b:Val):orM (ofV false) (y6 a b)=y6 a b:=by
 unfold y6
 split
 ·rfl
 ·cases yw a b<;>rfl
theorem kf {row:List Val} {e:Ex} {vs:List Val} (h:yf e=false):zR row e vs=zi:=by rw [zR,if_pos h]
theorem w8 (row:List Val): ∀e:Ex,Ok12 e→ACall Tryz.prog 25 [aE e,aRow row] [] (aV (zN row e)) []:=
 xj (p:=fun e=>Ok12 e->ACall Tryz.prog 25 [aE e,aRow row] [] (aV (zN row e)) []) fun e ih ho=>by
 refine zm mixed ttok Tryz.func25 Tryz.ntmps25 Tryz.results25 ?_
 generalize hr:aV (zN row e)=R
 have hl:=ho.kids
 rw [kJ] at hr
 simp -implicitDefEqProofs only [argT,tabN,↓zb,push_cast,simprocAttr,tte]
 refine za (fun g1=>?_) fun g1=>?_
 ·simp only [decide_eq_true_eq] at g1
  have hc:yf e=false:=by
   have:isOp e.op=false:=by simp [isOp];omega
   rw [yf,this,Bool.false_and]
  rw [kf hc] at hr
  exact zr (by first | trivial | (simp;done) | (simp;omega)) (by rw [<-hr]<;>first | rfl | (simp [zi];done) | (simp_all [zi];done)) (by simp [ends])
 simp only [decide_eq_false_iff_not] at g1
 refine za (fun g2=>?_) fun g2=>?_
 ·simp only [gt_iff_lt,decide_eq_true_eq] at g2
  have hc:yf e=false:=by
   have:isOp e.op=false:=by simp [isOp];omega
   rw [yf,this,Bool.false_and]
  rw [kf hc] at hr
  exact zr (by first | trivial | (simp;done) | (simp;omega)) (by rw [<-hr]<;>first | rfl | (simp [zi];done) | (simp_all [zi];done)) (by simp [ends])
 simp only [gt_iff_lt,decide_eq_false_iff_not] at g2
 have hisop:isOp e.op=true:=by simp [isOp];omega
 refine zd [[0],[0]] [] (c_rkids e.op e.kids.length) ?_
 simp -implicitDefEqProofs only [tabN,aV,↓zb,push_cast,simprocAttr,tte]
 refine za (fun g3=>?_) fun g3=>?_
 ·have hc:yf e=false:=by rw [←uC hisop];simpa using g3
  rw [kf hc] at hr
  exact zr (by first | trivial | (simp;done) | (simp;omega)) (by rw [<-hr]<;>first | rfl | (simp [zi];done) | (simp_all [zi];done)) (by simp [ends])
 have hc:yf e=true:=by rw [<-uC hisop];simpa using g3
 have hk:=kids_op hc
 refine yl mixed ttok 6 [1,2,4] [2,4] (by simp only [wH,ends,push_cast,simprocAttr];rfl) (by simp only [wI,ym,ends,push_cast,simprocAttr];rfl) e.kids.length (fun _=>True) (fun n=>[(5,.vec 500 n)]) (fun n=>[(500,.vec 53 3 (zg rV (xI row e n)) 0)]) trivial ?_ ?_
 ·exact (Weak.nilL 5 500 53 3 rfl rfl).trans (Weak.keepL (by simp [cst,ends]) (by simp [cst,xI,ends]) (by simp [cst,ends]))
 intro I hI n hn hi
 have hl2:=jF row e n hn
 simp -implicitDefEqProofs only [cst,↓zb,push_cast,simprocAttr,tte]
 refine za (fun h=>?_) fun h=>?_
 ·simp only [decide_eq_true_eq] at h
  have h':n<e.kids.length:=by omega
  have hw:=zw h' (by omega)
  have hs:=valsTo_succ row e n h'
  refine ⟨(by first | omega | trivial | (refine ⟨?_,?_⟩<;>first | omega | trivial | (refine ⟨?_,?_⟩<;>first | omega | trivial | (refine ⟨?_,?_⟩<;>first | omega | trivial | rfl)))),?_⟩
  refine zd [[0,0,0,0,0,6],[3]] [] (ih _ (zx h') (ho.kid (zx h'))) ?_
  simp -implicitDefEqProofs only [tabN,aV,↓zb,push_cast,simprocAttr,tte]
  refine ⟨⟨hl2.symm,by rw [hl2];omega⟩,?_⟩
  exact yt hI n rfl h' trivial (by simp [hw,hs,hl2,zy,rV,ends]) (by simp [hw,hs,hl2,zy,rV,ends]) (by simp [hw,hs,hl2,zy,rV,ends]) (by simp [hw,hs,hl2,zy,rV,ends])
 simp only [decide_eq_false_iff_not] at h
 obtain rfl:n=e.kids.length:=by omega
 clear hI
 have hT:xI row e e.kids.length=e.kids.map (zN row):=by rw [xI,List.take_length]
 rw [<-hT] at hr
 rw [<-hl2] at hk hl
 generalize xI row e e.kids.length=l at hl2 hr hk hl ⊢
 refine za (fun h1=>?_) fun h1=>?_
 ·have op:e.op=1:=by simpa using h1
  have hM:zR row e l=zi:=by simp [zR,z6,hc,op]
  rw [hM] at hr
  exact zr (by first | trivial | (simp;done) | (simp;omega)) (by rw [<-hr]<;>first | rfl | (simp [zi];done) | (simp_all [zi];done)) (by simp [ends])
 refine za (fun h2=>?_) fun h2=>?_
 ·have op:e.op=2:=by simpa using h2
  have hM:zR row e l=⟨1,e.num,ByteArray.empty⟩:=by simp [zR,z6,hc,op]
  rw [hM] at hr
  exact zr (by first | trivial | (simp;done) | (simp;omega)) (by rw [<-hr]<;>first | rfl | (simp [zi];done) | (simp_all [zi];done)) (by simp [ends])
 refine za (fun h3=>?_) fun h3=>?_
 ·have op:e.op=3:=by simpa using h3
  have hM:zR row e l=⟨2,e.num,ByteArray.empty⟩:=by simp [zR,z6,hc,op]
  rw [hM] at hr
  exact zr (by first | trivial | (simp;done) | (simp;omega)) (by rw [<-hr]<;>first | rfl | (simp [zi];done) | (simp_all [zi];done)) (by simp [ends])
 refine za (fun h4=>?_) fun h4=>?_
 ·have op:e.op=4:=by simpa using h4
  have hM:zR row e l=⟨3,0,e.text⟩:=by simp [zR,z6,hc,op]
  rw [hM] at hr
  exact zr (by first | trivial | (simp;done) | (simp;omega)) (by rw [<-hr]<;>first | rfl | (simp [zi];done) | (simp_all [zi];done)) (by simp [ends])
 refine za (fun h5=>?_) fun h5=>?_
 ·have op:e.op=5:=by simpa using h5
  refine za (fun g1=>?_) fun g1=>?_
  ·simp only [decide_eq_true_eq] at g1
   have g2: ¬(0<=e.col/\e.col<row.length):=by omega
   have hM:zR row e l=zi:=by simp [zR,z6,hc,op, -not_and,g2]
   rw [hM] at hr
   exact zr (by first | trivial | (simp;done) | (simp;omega)) (by rw [<-hr]<;>first | rfl | (simp [zi];done) | (simp_all [zi];done)) (by simp [ends])
  refine za (fun g2=>?_) fun g2=>?_
  ·simp only [ge_iff_le,decide_eq_true_eq] at g2
   have g3: ¬(0<=e.col/\e.col<row.length):=by omega
   have hM:zR row e l=zi:=by simp [zR,z6,hc,op, -not_and,g3]
   rw [hM] at hr
   exact zr (by first | trivial | (simp;done) | (simp;omega)) (by rw [<-hr]<;>first | rfl | (simp [zi];done) | (simp_all [zi];done)) (by simp [ends])
  ·simp only [ge_iff_le,decide_eq_false_iff_not] at g1 g2
   have g3:0<=e.col/\e.col<row.length:=by omega
   have hM:zR row e l=row.getD e.col.toNat default:=by simp only [zR,hc,op];simp [g3]
   rw [hM] at hr
   refine ⟨g3,?_⟩
   exact zr (by first | trivial | (simp;done) | (simp;omega)) (by rw [<-hr]<;>first | rfl | (simp [zi];done) | (simp_all [zi];done)) (by simp [ends])
 refine za (fun h11=>?_) fun h11=>?_
 ·have op:e.op=11:=by simpa using h11
  rw [op] at hk
  have hM:zR row e l=ug 7 ⟨1,0,ByteArray.empty⟩ (l.getD 0 default):=by simp [zR,z6,hc,op]
  rw [hM] at hr
  have hl:1<=l.length:=len1 (by simpa [yb] using hk)
  repeat (refine And.intro (by first | omega | (refine ⟨?_,?_⟩<;>omega)) ?_)
  refine zd [[0],[0,0,0],[0,0,0]] [] (c_rarith 7 ⟨1,0,ByteArray.empty⟩ (l.getD 0 default)) ?_
  simp -implicitDefEqProofs only [tabN,aV,↓zb,push_cast,simprocAttr,tte]
  exact zr (by first | trivial | (simp;done) | (simp;omega)) (by rw [<-hr]<;>first | rfl | (simp [zi];done) | (simp_all [zi];done)) (by simp [ends])
 refine za (fun h13=>?_) fun h13=>?_
 ·have op:e.op=13:=by simpa using h13
  rw [op] at hk
  have hl:1<=l.length:=len1 (by simpa [yb] using hk)
  repeat (refine And.intro (by first | omega | (refine ⟨?_,?_⟩<;>omega)) ?_)
  refine za (fun g=>?_) fun g=>?_
  ·have g1: ¬(l.getD 0 default).kind=3:=by simpa using g
   rw [List.getD_eq_getElem?_getD] at g1
   have hM:zR row e l=zi:=by simp [zR,z6,hc,op,g1]
   rw [hM] at hr
   exact zr (by first | trivial | (simp;done) | (simp;omega)) (by rw [<-hr]<;>first | rfl | (simp [zi];done) | (simp_all [zi];done)) (by simp [ends])
  ·refine ⟨by omega,by omega,by omega,by omega,?_⟩
   have g1:(l.getD 0 default).kind=3:=by simpa using g
   have g2:=g1
   rw [List.getD_eq_getElem?_getD] at g2
   have hM:zR row e l=⟨1,(l.getD 0 default).text.size,ByteArray.empty⟩:=by simp [zR,z6,hc,op,g2]
   rw [hM] at hr
   exact zr (by first | trivial | (simp;done) | (simp;omega)) (by rw [<-hr]<;>first | rfl | (simp [zi];done) | (simp_all [zi];done)) (by simp [ends])
 refine za (fun h14=>?_) fun h14=>?_
 ·have op:e.op=14:=by simpa using h14
  rw [op] at hk
  have hM:zR row e l=y6 (l.getD 0 default) (l.getD 1 default):=by simp [zR,z6,hc,op]
  rw [hM] at hr
  have hl:2<=l.length:=len2 (by simpa [yb] using hk)
  repeat (refine And.intro (by first | omega | (refine ⟨?_,?_⟩<;>omega)) ?_)
  refine zd [[0,0,0],[0,0,0]] [] (kQ (l.getD 0 default) (l.getD 1 default)) ?_
  simp -implicitDefEqProofs only [tabN,aV,↓zb,push_cast,simprocAttr,tte]
  refine ⟨zh (by kernel_rfl),?_⟩
  exact zr (by first | trivial | (simp;done) | (simp;omega)) (by rw [<-hr]<;>first | rfl | (simp [zi];done) | (simp_all [zi];done)) (by simp [ends])
 refine za (fun h15=>?_) fun h15=>?_
 ·have op:e.op=15:=by simpa using h15
  rw [op] at hk
  have hM:zR row e l=notM (y6 (l.getD 0 default) (l.getD 1 default)):=by simp [zR,z6,hc,op]
  rw [hM] at hr
  have hl:2<=l.length:=len2 (by simpa [yb] using hk)
  repeat (refine And.intro (by first | omega | (refine ⟨?_,?_⟩<;>omega)) ?_)
  refine zd [[0,0,0],[0,0,0]] [] (kQ (l.getD 0 default) (l.getD 1 default)) ?_
  simp -implicitDefEqProofs only [tabN,aV,↓zb,push_cast,simprocAttr,tte]
  refine zd [[0,0,0]] [] (c_rnot (y6 (l.getD 0 default) (l.getD 1 default))) ?_
  simp -implicitDefEqProofs only [tabN,aV,↓zb,push_cast,simprocAttr,tte]
  refine ⟨zh (by kernel_rfl),?_⟩
  exact zr (by first | trivial | (simp;done) | (simp;omega)) (by rw [<-hr]<;>first | rfl | (simp [zi];done) | (simp_all [zi];done)) (by simp [ends])
 refine za (fun h16=>?_) fun h16=>?_
 ·have op:e.op=16:=by simpa using h16
  rw [op] at hk
  have hM:zR row e l=xd (l.getD 0 default) (l.getD 1 default):=by simp [zR,z6,hc,op]
  rw [hM] at hr
  have hl:2<=l.length:=len2 (by simpa [yb] using hk)
  repeat (refine And.intro (by first | omega | (refine ⟨?_,?_⟩<;>omega)) ?_)
  refine zd [[0,0,0],[0,0,0]] [] (c_rless (l.getD 0 default) (l.getD 1 default)) ?_
  simp -implicitDefEqProofs only [tabN,aV,↓zb,push_cast,simprocAttr,tte]
  refine ⟨zh (by kernel_rfl),?_⟩
  exact zr (by first | trivial | (simp;done) | (simp;omega)) (by rw [<-hr]<;>first | rfl | (simp [zi];done) | (simp_all [zi];done)) (by simp [ends])
 refine za (fun h17=>?_) fun h17=>?_
 ·have op:e.op=17:=by simpa using h17
  rw [op] at hk
  have hM:zR row e l=notM (xd (l.getD 1 default) (l.getD 0 default)):=by simp [zR,z6,hc,op]
  rw [hM] at hr
  have hl:2<=l.length:=len2 (by simpa [yb] using hk)
  repeat (refine And.intro (by first | omega | (refine ⟨?_,?_⟩<;>omega)) ?_)
  refine zd [[0,0,0],[0,0,0]] [] (c_rless (l.getD 1 default) (l.getD 0 default)) ?_
  simp -implicitDefEqProofs only [tabN,aV,↓zb,push_cast,simprocAttr,tte]
  refine zd [[0,0,0]] [] (c_rnot (xd (l.getD 1 default) (l.getD 0 default))) ?_
  simp -implicitDefEqProofs only [tabN,aV,↓zb,push_cast,simprocAttr,tte]
  refine ⟨zh (by kernel_rfl),?_⟩
  exact zr (by first | trivial | (simp;done) | (simp;omega)) (by rw [<-hr]<;>first | rfl | (simp [zi];done) | (simp_all [zi];done)) (by simp [ends])
 refine za (fun h18=>?_) fun h18=>?_
 ·have op:e.op=18:=by simpa using h18
  rw [op] at hk
  have hM:zR row e l=xd (l.getD 1 default) (l.getD 0 default):=by simp [zR,z6,hc,op]
  rw [hM] at hr
  have hl:2<=l.length:=len2 (by simpa [yb] using hk)
  repeat (refine And.intro (by first | omega | (refine ⟨?_,?_⟩<;>omega)) ?_)
  refine zd [[0,0,0],[0,0,0]] [] (c_rless (l.getD 1 default) (l.getD 0 default)) ?_
  simp -implicitDefEqProofs only [tabN,aV,↓zb,push_cast,simprocAttr,tte]
  refine ⟨zh (by kernel_rfl),?_⟩
  exact zr (by first | trivial | (simp;done) | (simp;omega)) (by rw [<-hr]<;>first | rfl | (simp [zi];done) | (simp_all [zi];done)) (by simp [ends])
 refine za (fun h19=>?_) fun h19=>?_
 ·have op:e.op=19:=by simpa using h19
  rw [op] at hk
  have hM:zR row e l=notM (xd (l.getD 0 default) (l.getD 1 default)):=by simp [zR,z6,hc,op]
  rw [hM] at hr
  have hl:2<=l.length:=len2 (by simpa [yb] using hk)
  repeat (refine And.intro (by first | omega | (refine ⟨?_,?_⟩<;>omega)) ?_)
  refine zd [[0,0,0],[0,0,0]] [] (c_rless (l.getD 0 default) (l.getD 1 default)) ?_
  simp -implicitDefEqProofs only [tabN,aV,↓zb,push_cast,simprocAttr,tte]
  refine zd [[0,0,0]] [] (c_rnot (xd (l.getD 0 default) (l.getD 1 default))) ?_
  simp -implicitDefEqProofs only [tabN,aV,↓zb,push_cast,simprocAttr,tte]
  refine ⟨zh (by kernel_rfl),?_⟩
  exact zr (by first | trivial | (simp;done) | (simp;omega)) (by rw [<-hr]<;>first | rfl | (simp [zi];done) | (simp_all [zi];done)) (by simp [ends])
 refine za (fun h20=>?_) fun h20=>?_
 ·have op:e.op=20:=by simpa using h20
  rw [op] at hk
  have hM:zR row e l=ofV (yw (l.getD 0 default) (l.getD 1 default)):=by simp [zR,z6,hc,op]
  rw [hM] at hr
  have hl:2<=l.length:=len2 (by simpa [yb] using hk)
  repeat (refine And.intro (by first | omega | (refine ⟨?_,?_⟩<;>omega)) ?_)
  refine zd [[0,0,0],[0,0,0]] [] (c_rsame (l.getD 0 default) (l.getD 1 default)) ?_
  simp -implicitDefEqProofs only [tabN,aV,↓zb,push_cast,simprocAttr,tte]
  refine zd [[0]] [] (c_of (yw (l.getD 0 default) (l.getD 1 default))) ?_
  simp -implicitDefEqProofs only [tabN,aV,↓zb,push_cast,simprocAttr,tte]
  refine ⟨zh (by kernel_rfl),?_⟩
  exact zr (by first | trivial | (simp;done) | (simp;omega)) (by rw [<-hr]<;>first | rfl | (simp [zi];done) | (simp_all [zi];done)) (by simp [ends])
 refine za (fun h21=>?_) fun h21=>?_
 ·have op:e.op=21:=by simpa using h21
  rw [op] at hk
  have hM:zR row e l=ofV ((l.getD 0 default).kind==0):=by simp [zR,z6,hc,op]
  rw [hM] at hr
  have hl:1<=l.length:=len1 (by simpa [yb] using hk)
  repeat (refine And.intro (by first | omega | (refine ⟨?_,?_⟩<;>omega)) ?_)
  refine zd [[0]] [] (c_of ((l.getD 0 default).kind==0)) ?_
  simp -implicitDefEqProofs only [tabN,aV,↓zb,push_cast,simprocAttr,tte]
  exact zr (by first | trivial | (simp;done) | (simp;omega)) (by rw [<-hr]<;>first | rfl | (simp [zi];done) | (simp_all [zi];done)) (by simp [ends])
 refine za (fun h22=>?_) fun h22=>?_
 ·have op:e.op=22:=by simpa using h22
  rw [op] at hk
  have hM:zR row e l=andM (l.getD 0 default) (l.getD 1 default):=by simp [zR,z6,hc,op]
  rw [hM] at hr
  have hl:2<=l.length:=len2 (by simpa [yb] using hk)
  repeat (refine And.intro (by first | omega | (refine ⟨?_,?_⟩<;>omega)) ?_)
  refine zd [[0,0,0],[0,0,0]] [] (c_rand (l.getD 0 default) (l.getD 1 default)) ?_
  simp -implicitDefEqProofs only [tabN,aV,↓zb,push_cast,simprocAttr,tte]
  refine ⟨zh (by kernel_rfl),?_⟩
  exact zr (by first | trivial | (simp;done) | (simp;omega)) (by rw [<-hr]<;>first | rfl | (simp [zi];done) | (simp_all [zi];done)) (by simp [ends])
 refine za (fun h23=>?_) fun h23=>?_
 ·have op:e.op=23:=by simpa using h23
  rw [op] at hk
  have hM:zR row e l=orM (l.getD 0 default) (l.getD 1 default):=by simp [zR,z6,hc,op]
  rw [hM] at hr
  have hl:2<=l.length:=len2 (by simpa [yb] using hk)
  repeat (refine And.intro (by first | omega | (refine ⟨?_,?_⟩<;>omega)) ?_)
  refine zd [[0,0,0],[0,0,0]] [] (c_ror (l.getD 0 default) (l.getD 1 default)) ?_
  simp -implicitDefEqProofs only [tabN,aV,↓zb,push_cast,simprocAttr,tte]
  refine ⟨zh (by kernel_rfl),?_⟩
  exact zr (by first | trivial | (simp;done) | (simp;omega)) (by rw [<-hr]<;>first | rfl | (simp [zi];done) | (simp_all [zi];done)) (by simp [ends])
 refine za (fun h24=>?_) fun h24=>?_
 ·have op:e.op=24:=by simpa using h24
  rw [op] at hk
  have hM:zR row e l=notM (l.getD 0 default):=by simp [zR,z6,hc,op]
  rw [hM] at hr
  have hl:1<=l.length:=len1 (by simpa [yb] using hk)
  repeat (refine And.intro (by first | omega | (refine ⟨?_,?_⟩<;>omega)) ?_)
  refine zd [[0,0,0]] [] (c_rnot (l.getD 0 default)) ?_
  simp -implicitDefEqProofs only [tabN,aV,↓zb,push_cast,simprocAttr,tte]
  exact zr (by first | trivial | (simp;done) | (simp;omega)) (by rw [<-hr]<;>first | rfl | (simp [zi];done) | (simp_all [zi];done)) (by simp [ends])
 refine za (fun h25=>?_) fun h25=>?_
 ·have op:e.op=25:=by simpa using h25
  rw [op] at hk
  have hM:zR row e l=ofV (zA (l.getD 0 default)==1):=by simp [zR,z6,hc,op]
  rw [hM] at hr
  have hl:1<=l.length:=len1 (by simpa [yb] using hk)
  repeat (refine And.intro (by first | omega | (refine ⟨?_,?_⟩<;>omega)) ?_)
  refine zd [[0,0,0]] [] (wb (l.getD 0 default)) ?_
  simp -implicitDefEqProofs only [tabN,aV,↓zb,push_cast,simprocAttr,tte]
  refine zd [[0]] [] (c_of (zA (l.getD 0 default)==1)) ?_
  simp -implicitDefEqProofs only [tabN,aV,↓zb,push_cast,simprocAttr,tte]
  exact zr (by first | trivial | (simp;done) | (simp;omega)) (by rw [<-hr]<;>first | rfl | (simp [zi];done) | (simp_all [zi];done)) (by simp [ends])
 refine za (fun h26=>?_) fun h26=>?_
 ·have op:e.op=26:=by simpa using h26
  rw [op] at hk
  have hl:3≤l.length:=by have:(l.length:Int)=3:=by simpa [yb] using hk
                         omega
  repeat (refine And.intro (by first | omega | (refine ⟨?_,?_⟩<;>omega)) ?_)
  refine zd [[0,0,0]] [] (wb (l.getD 0 default)) ?_
  simp -implicitDefEqProofs only [tabN,aV,↓zb,push_cast,simprocAttr,tte]
  refine za (fun g=>?_) fun g=>?_
  ·have g1:zA (l.getD 0 default)=1:=by simpa using g
   rw [List.getD_eq_getElem?_getD] at g1
   have hM:zR row e l=(l.getD 1 default):=by simp [zR,z6,hc,op,g1]
   rw [hM] at hr
   refine ⟨(by first | omega | trivial | (refine ⟨?_,?_⟩<;>first | omega | trivial | (refine ⟨?_,?_⟩<;>first | omega | trivial | (refine ⟨?_,?_⟩<;>first | omega | trivial | rfl)))),by omega,by omega,?_⟩
   exact zr (by first | trivial | (simp;done) | (simp;omega)) (by rw [<-hr]<;>first | rfl | (simp [zi];done) | (simp_all [zi];done)) (by simp [ends])
  ·have g1: ¬zA (l.getD 0 default)=1:=by simpa using g
   rw [List.getD_eq_getElem?_getD] at g1
   have hM:zR row e l=(l.getD 2 default):=by simp [zR,z6,hc,op,g1]
   rw [hM] at hr
   refine ⟨(by first | omega | trivial | (refine ⟨?_,?_⟩<;>first | omega | trivial | (refine ⟨?_,?_⟩<;>first | omega | trivial | (refine ⟨?_,?_⟩<;>first | omega | trivial | rfl)))),by omega,by omega,?_⟩
   exact zr (by first | trivial | (simp;done) | (simp;omega)) (by rw [<-hr]<;>first | rfl | (simp [zi];done) | (simp_all [zi];done)) (by simp [ends])
 refine za (fun h27=>?_) fun h27=>?_
 ·have op:e.op=27:=by simpa using h27
  rw [op] at hk
  have hl:2<=l.length:=len2 (by simpa [yb] using hk)
  repeat (refine And.intro (by first | omega | (refine ⟨?_,?_⟩<;>omega)) ?_)
  refine za (fun g=>?_) fun g=>?_
  ·have g1: ¬(l.getD 0 default).kind=0:=by simpa using g
   rw [List.getD_eq_getElem?_getD] at g1
   have hM:zR row e l=(l.getD 0 default):=by simp [zR,z6,hc,op,g1]
   rw [hM] at hr
   refine ⟨(by first | omega | trivial | (refine ⟨?_,?_⟩<;>first | omega | trivial | (refine ⟨?_,?_⟩<;>first | omega | trivial | (refine ⟨?_,?_⟩<;>first | omega | trivial | rfl)))),by omega,by omega,?_⟩
   exact zr (by first | trivial | (simp;done) | (simp;omega)) (by rw [<-hr]<;>first | rfl | (simp [zi];done) | (simp_all [zi];done)) (by simp [ends])
  ·have g1:(l.getD 0 default).kind=0:=by simpa using g
   rw [List.getD_eq_getElem?_getD] at g1
   have hM:zR row e l=(l.getD 1 default):=by simp [zR,z6,hc,op,g1]
   rw [hM] at hr
   refine ⟨(by first | omega | trivial | (refine ⟨?_,?_⟩<;>first | omega | trivial | (refine ⟨?_,?_⟩<;>first | omega | trivial | (refine ⟨?_,?_⟩<;>first | omega | trivial | rfl)))),by omega,by omega,?_⟩
   exact zr (by first | trivial | (simp;done) | (simp;omega)) (by rw [<-hr]<;>first | rfl | (simp [zi];done) | (simp_all [zi];done)) (by simp [ends])
 refine za (fun h28=>?_) fun h28=>?_
 ·have op:e.op=28:=by simpa using h28
  rw [op] at hk
  have hl0:2≤l.length:=by have:(l.length:Int)≥2:=by simpa [yb] using hk
                          omega
  have hM:zR row e l=inM (l.getD 0 default) (y6 (l.getD 0 default) (l.getD 1 default)) (l.drop 2):=by
   simp only [zR,hc,op]
   show inM (l.getD 0 default) (ofV false) (l.drop 1)=_
   rw [yc _ 1 (by omega),inM,orM_false]
  rw [hM] at hr
  generalize hv0:l.getD 0 default=v0 at hr ⊢
  have hacc: ∃acc:Nat->Val,acc 2=y6 v0 (l.getD 1 default)/\(∀n,n<l.length->2<=n->acc (n+1)=orM (acc n) (y6 v0 (l.getD n default)))/\acc l.length=inM v0 (y6 v0 (l.getD 1 default)) (l.drop 2):=by
   refine ⟨fun n=>inM v0 (y6 v0 (l.getD 1 default)) ((l.drop 2).take (n-2)),by simp [inM],fun n h1 h2=>?_,?_⟩
   ·have e1:n+1-2=(n-2)+1:=by omega
    have e2:(l.drop 2).getD (n-2) default=l.getD n default:=by
     simp only [List.getD_eq_getElem?_getD,List.getElem?_drop]
     rw [show 2+(n-2)=n by omega]
    simp only []
    rw [e1,yr _ _ (by simp;omega),inM_snoc,e2]
   ·simp only []
    rw [List.take_of_length_le (by simp)]
  obtain ⟨acc,ha2,has,haN⟩:=hacc
  rw [<-haN] at hr
  repeat (refine And.intro (by first | omega | (refine ⟨?_,?_⟩<;>omega)) ?_)
  refine zd [[0,0,0],[0,0,0]] [] (kQ v0 (l.getD 1 default)) ?_
  simp -implicitDefEqProofs only [tabN,aV,↓zb,push_cast,simprocAttr,tte]
  refine ⟨zh (by kernel_rfl),?_⟩
  rw [<-ha2]
  refine z8 mixed ttok (fun n:Nat=>(⟨[(8,.d (.lit (.int .i64 n))),(5,.vec 500 l.length),(4,.ptr 4 0),(7,.ptr 7 0)],[(500,.vec 53 3 (zg rV l) 0),(7,.var [.d (.lit (.int .i64 (acc n).kind)),.d (.lit (.int .i64 (acc n).num)),.d (.lit (.string (acc n).text))]),(4,.var [.d (.lit (.int .i64 0)),.d (.lit (.int .i64 0)),.d (.lit (.string ByteArray.empty))])]⟩:SL)) (fun n=>l.length-n) (fun n=>2<=n/\n<=l.length) 2 ⟨by omega,by omega⟩ ?_ ?_
  ·exact Weak.keepL (by simp [hl2,ends]) (by simp [ends]) (by simp [ends])
  intro I hI n ⟨hn1,hn⟩
  simp -implicitDefEqProofs only [↓zb,push_cast,simprocAttr,tte]
  refine za (fun h=>?_) fun h=>?_
  ·simp only [decide_eq_true_eq] at h
   have h':n<l.length:=by omega
   have hw:=zw h' (by omega)
   repeat (refine And.intro (by first | omega | (refine ⟨?_,?_⟩<;>omega)) ?_)
   simp only [hv0]
   refine zd [[0,0,0],[0,0,0]] [] (kQ v0 (l.getD n default)) ?_
   simp -implicitDefEqProofs only [tabN,aV,↓zb,push_cast,simprocAttr,tte]
   refine zd [[0,0,0],[0,0,0]] [] (c_ror (acc n) (y6 v0 (l.getD n default))) ?_
   simp -implicitDefEqProofs only [tabN,aV,↓zb,push_cast,simprocAttr,tte]
   refine ⟨zh (by kernel_rfl),?_⟩
   rw [<-has n h' hn1]
   exact zp hI (n+1) ⟨by omega,by omega⟩ (by show l.length-(n+1)<l.length-n;omega) (Weak.keepL (by simp [hw,ends]) (by simp [ends]) (by simp [ends]))
  ·simp only [decide_eq_false_iff_not] at h
   obtain rfl:n=l.length:=by omega
   exact zr (by first | trivial | (simp;done) | (simp;omega)) (by rw [<-hr]<;>first | rfl | (simp [zi];done) | (simp_all [zi];done)) (by simp [ends])
 have hcase:e.op=6\/e.op=7\/e.op=8\/e.op=9\/e.op=10\/e.op=12:=by
  simp only [beq_eq_false_iff_ne,ne_eq] at h1 h2 h3 h4 h5 h11 h13 h14 h15 h16 h17 h18 h19 h20 h21 h22 h23 h24 h25 h26 h27 h28
  omega
 have hl0:2<=l.length:=by
  rcases hcase with h | h | h | h | h | h<;>rw [h] at hk<;>exact len2 (by simpa [yb] using hk)
 have hM:zR row e l=ug e.op (l.getD 0 default) (l.getD 1 default):=by
  rcases hcase with h | h | h | h | h | h<;>simp [zR,z6,hc,h]
 rw [hM] at hr
 repeat (refine And.intro (by first | omega | (refine ⟨?_,?_⟩<;>omega)) ?_)
 refine zd [[0],[0,0,0],[0,0,0]] [] (c_rarith e.op (l.getD 0 default) (l.getD 1 default)) ?_
 simp -implicitDefEqProofs only [tabN,aV,↓zb,push_cast,simprocAttr,tte]
 refine ⟨zh (by kernel_rfl),?_⟩
 exact zr (by first | trivial | (simp;done) | (simp;omega)) (by rw [<-hr]<;>first | rfl | (simp [zi];done) | (simp_all [zi];done)) (by simp [ends])
end
section
open Go.Am
attribute [local simp, local push_cast] num boo str ints aV aTab yC aS aT aC aRow rRow
def cmpR:List Val->List Val->Int
 | [],[]=>0
 | [],_::_=> -1
 | _::_,[]=>1
 | x::a,y::b=>if cmpM x y≠0 then cmpM x y else cmpR a b
theorem cmpR_end {a b:List Val} {n:Nat} (ha:n<=a.length) (hb:n<=b.length) (h:n=a.length\/n=b.length):
 cmpR (a.drop n) (b.drop n)=if a.length<b.length then -1 else if a.length>b.length then 1 else 0:=by
 rcases h with rfl | rfl
 ·rw [List.drop_length]
  by_cases h2:a.length<b.length
  ·rw [yc _ _ h2,if_pos h2];rfl
  ·have:b.drop a.length=[]:=List.drop_eq_nil_of_le (by omega)
   rw [this,if_neg h2,if_neg (by omega)];rfl
 ·rw [List.drop_length]
  by_cases h2:b.length<a.length
  ·rw [yc _ _ h2,if_neg (by omega),if_pos h2];rfl
  ·have:a.drop b.length=[]:=List.drop_eq_nil_of_le (by omega)
   rw [this,if_neg (by omega),if_neg (by omega)];rfl
theorem c_cmpRows (a b:List Val) (ha:a.length≤1000000):ACall Tryz.prog 57 [aRow a,aRow b] [] (num (cmpR a b)) []:=by
 refine zm mixed ttok Tryz.func57 Tryz.ntmps57 Tryz.results57 ?_
 generalize hr:num (cmpR a b)=R
 simp -implicitDefEqProofs only [argT,↓zb,push_cast,simprocAttr,tte]
 refine z8 mixed ttok (fun n:Nat=>(⟨[(5,.d (.lit (.int .i64 n))),(0,aRow a),(1,aRow b)],[]⟩:SL)) (fun n=>a.length-n) (fun n=>n<=a.length/\n<=b.length/\cmpR (a.drop n) (b.drop n)=cmpR a b) 0 ⟨Nat.zero_le _,Nat.zero_le _,rfl⟩ ?_ ?_
 ·exact Weak.keepL (by simp [ends]) (by simp [ends]) (by simp [ends])
 intro I hI n ⟨hn,hn2,hi⟩
 simp -implicitDefEqProofs only [↓zb,push_cast,simprocAttr,tte]
 refine za (fun h1=>?_) fun h1=>?_
 ·simp only [decide_eq_true_eq] at h1
  have h1':n<a.length:=by omega
  refine za (fun h2=>?_) fun h2=>?_
  ·simp only [decide_eq_true_eq] at h2
   have h2':n<b.length:=by omega
   have hw:=zw h1' (by omega)
   rw [yc _ _ h1',yc _ _ h2',cmpR] at hi
   refine ⟨⟨by omega,h1⟩,⟨by omega,h2⟩,?_⟩
   refine zd [[0,0,0],[0,0,0]] [] (km (a.getD n default) (b.getD n default)) ?_
   simp -implicitDefEqProofs only [↓zb,push_cast,simprocAttr,tte]
   refine ⟨zh (by kernel_rfl),?_⟩
   refine za (fun g=>?_) fun g=>?_
   ·rw [if_pos (by simpa using g)] at hi
    exact zk trivial (by rw [<-hr,<-hi];rfl) (by simp [ends])
   ·rw [if_neg (by simpa using g)] at hi
    exact zp hI (n+1) ⟨h1',h2',hi⟩ (by show a.length-(n+1)<a.length-n;omega) (Weak.keepL (by simp [hw,ends]) (by simp [ends]) (by simp [ends]))
  ·simp only [decide_eq_false_iff_not] at h2
   rw [cmpR_end hn hn2 (.inr (by omega))] at hi
   refine za (fun k1=>?_) fun k1=>?_
   ·simp only [decide_eq_true_eq] at k1
    exact zk trivial (by rw [<-hr,<-hi,if_pos (by omega)];rfl) (by simp [ends])
   refine za (fun k2=>?_) fun k2=>?_
   ·simp only [decide_eq_false_iff_not,gt_iff_lt,decide_eq_true_eq] at k1 k2
    exact zk trivial (by rw [<-hr,<-hi,if_neg (by omega),if_pos (by omega)];rfl) (by simp [ends])
   ·simp only [decide_eq_false_iff_not,gt_iff_lt] at k1 k2
    exact zk trivial (by rw [<-hr,<-hi,if_neg (by omega),if_neg (by omega)];rfl) (by simp [ends])
 ·simp only [decide_eq_false_iff_not] at h1
  rw [cmpR_end hn hn2 (.inl (by omega))] at hi
  refine za (fun k1=>?_) fun k1=>?_
  ·simp only [decide_eq_true_eq] at k1
   exact zk trivial (by rw [<-hr,<-hi,if_pos (by omega)];rfl) (by simp [ends])
  refine za (fun k2=>?_) fun k2=>?_
  ·simp only [decide_eq_false_iff_not,gt_iff_lt,decide_eq_true_eq] at k1 k2
   exact zk trivial (by rw [<-hr,<-hi,if_neg (by omega),if_pos (by omega)];rfl) (by simp [ends])
  ·simp only [decide_eq_false_iff_not,gt_iff_lt] at k1 k2
   exact zk trivial (by rw [<-hr,<-hi,if_neg (by omega),if_neg (by omega)];rfl) (by simp [ends])
end
end Go.Proofs.YtiagabnddihchaaGreatDoor
