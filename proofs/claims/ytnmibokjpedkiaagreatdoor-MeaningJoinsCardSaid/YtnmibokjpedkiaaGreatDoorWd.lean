/- Joins of two tables: a proof over an abstract machine of our own (part Wd) -/
import Derived.Test.YtnmibokjpedkiaaGreatDoorWc
set_option maxRecDepth 100000
set_option maxHeartbeats 4000000
set_option linter.all false
namespace Go.Proofs.YtnmibokjpedkiaaGreatDoor
section
open Go.Am
attribute [local simp, local push_cast] num boo str ints aV aTab zv aS aT aC
def wh (v:Val):Val:=if zJ v=true then v else zl
def ua (op:Int) (a b:Val):Val:=
 if zJ a=false\/zJ b=false\/a.kind≠b.kind then zl
 else if a.kind=1 then (if (numM op a.num b.num).2=true then wh ⟨1,(numM op a.num b.num).1,ByteArray.empty⟩ else zl)
 else if a.kind=3/\op=12 then wh ⟨3,0,a.text++b.text⟩ else zl
theorem empty_list:ByteArray.empty.toList=[]:=by rw [ByteArray.toList_eq];rfl
theorem vm {v:Val} (h:zJ v=true) (hk:v.kind=1):okN v.num:=by
 unfold zJ at h
 rw [if_neg (by omega),if_pos hk] at h
 simp only [Bool.and_eq_true,decide_eq_true_eq] at h
 exact ⟨h.1.1,h.1.2⟩
theorem uw {v:Val} (h:zJ v=true) (hk:v.kind=3):v.text.size<=24:=by
 unfold zJ at h
 rw [if_neg (by omega),if_neg (by omega),if_neg (by omega),if_pos hk] at h
 simp only [qe,Bool.and_eq_true,decide_eq_true_eq] at h
 exact h.2.1
theorem valid_int {n:Int} (h:okN n):zJ ⟨1,n,ByteArray.empty⟩=true:=by
 unfold okN at h
 simp [zJ,empty_list,h.1,h.2]
theorem valid_null:zJ zl=true:=by simp [zJ,zl,empty_list]
theorem validV_int {n:Int} (h:okN n):wh ⟨1,n,ByteArray.empty⟩=⟨1,n,ByteArray.empty⟩:=by rw [wh,if_pos (valid_int h)]
theorem jS (op:Int) (a b:Val):ACall Tryz.prog 165 [num op,aV a,aV b] [] (aV (ua op a b)) []:=by
 refine zn mixed ttok Tryz.func165 Tryz.ntmps165 Tryz.results165 ?_
 generalize hr:aV (ua op a b)=R
 simp -implicitDefEqProofs only [argT,tabN,↓zb,push_cast,simprocAttr,tte]
 refine ze [[0,0,0]] [] (um a) ?_
 simp -implicitDefEqProofs only [tabN,↓zb,push_cast,simprocAttr,tte]
 unfold ua at hr
 refine za (fun h1=>?_) fun h1=>?_
 ·rw [if_pos (.inl (by simpa using h1))] at hr
  exact zt (by first | trivial | (simp;done) | (simp;omega)) (by rw [<-hr]<;>first | rfl | (simp [zl];done) | (simp_all [zl];done)) (by simp [ends])
 refine ze [[0,0,0]] [] (um b) ?_
 simp -implicitDefEqProofs only [tabN,↓zb,push_cast,simprocAttr,tte]
 simp only [Bool.not_eq_false'] at h1
 refine za (fun h2=>?_) fun h2=>?_
 ·rw [if_pos (.inr (.inl (by simpa using h2)))] at hr
  exact zt (by first | trivial | (simp;done) | (simp;omega)) (by rw [<-hr]<;>first | rfl | (simp [zl];done) | (simp_all [zl];done)) (by simp [ends])
 simp only [Bool.not_eq_false'] at h2
 refine za (fun h3=>?_) fun h3=>?_
 ·rw [if_pos (.inr (.inr (by simpa using h3)))] at hr
  exact zt (by first | trivial | (simp;done) | (simp;omega)) (by rw [<-hr]<;>first | rfl | (simp [zl];done) | (simp_all [zl];done)) (by simp [ends])
 have hk:a.kind=b.kind:=by simpa using h3
 rw [if_neg (by simp [h1,h2,hk])] at hr
 refine za (fun h4=>?_) fun h4=>?_
 ·have hk1:a.kind=1:=by simpa using h4
  rw [if_pos hk1] at hr
  refine ze [[0],[0],[0]] [] (c_numbers op a.num b.num (vm h1 hk1) (vm h2 (by omega))) ?_
  simp -implicitDefEqProofs only [tabN,↓zb,push_cast,simprocAttr,tte]
  refine za (fun h5=>?_) fun h5=>?_
  ·rw [if_neg (by simpa using h5)] at hr
   exact zt (by first | trivial | (simp;done) | (simp;omega)) (by rw [<-hr]<;>first | rfl | (simp [zl];done) | (simp_all [zl];done)) (by simp [ends])
  rw [if_pos (by simpa using h5)] at hr
  refine ze [[0,0,0]] [] (um ⟨1,(numM op a.num b.num).1,ByteArray.empty⟩) ?_
  simp -implicitDefEqProofs only [tabN,↓zb,push_cast,simprocAttr,tte]
  unfold wh at hr
  refine za (fun h6=>?_) fun h6=>?_
  ·rw [if_neg (by simpa using h6)] at hr
   exact zt (by first | trivial | (simp;done) | (simp;omega)) (by rw [<-hr]<;>first | rfl | (simp [zl];done) | (simp_all [zl];done)) (by simp [ends])
  ·rw [if_pos (by simpa using h6)] at hr
   exact zt (by first | trivial | (simp;done) | (simp;omega)) (by rw [<-hr]<;>first | rfl | (simp [zl];done) | (simp_all [zl];done)) (by simp [ends])
 have hk1: ¬a.kind=1:=by simpa using h4
 rw [if_neg hk1] at hr
 have hnul:ACall Tryz.prog 45 [aV ⟨0,0,ByteArray.empty⟩] [] (boo true) []:=valid_null ▸ um zl
 by_cases h5:a.kind=3/\op=12
 ·rw [if_pos h5] at hr
  obtain ⟨h5a,h5b⟩:=h5
  have t1:=uw h1 h5a
  have t2:=uw h2 (by omega)
  refine za (fun h6=>?_) fun h6=>?_
  ·refine za (fun h7=>?_) fun h7=>?_
   ·refine ⟨by omega,?_⟩
    refine ze [[0,0,0]] [] (um ⟨3,0,a.text++b.text⟩) ?_
    simp -implicitDefEqProofs only [tabN,↓zb,push_cast,simprocAttr,tte]
    unfold wh at hr
    refine za (fun h8=>?_) fun h8=>?_
    ·rw [if_neg (by simpa using h8)] at hr
     exact zt (by first | trivial | (simp;done) | (simp;omega)) (by rw [<-hr]<;>first | rfl | (simp [zl];done) | (simp_all [zl];done)) (by simp [ends])
    ·rw [if_pos (by simpa using h8)] at hr
     exact zt (by first | trivial | (simp;done) | (simp;omega)) (by rw [<-hr]<;>first | rfl | (simp [zl];done) | (simp_all [zl];done)) (by simp [ends])
   ·simp at h7;omega
  ·simp at h6;omega
 rw [if_neg h5] at hr
 refine za (fun h6=>?_) fun h6=>?_
 ·refine za (fun h7=>?_) fun h7=>?_
  ·simp at h6 h7;omega
  ·refine ze [[0,0,0]] [] (hnul) ?_
   simp -implicitDefEqProofs only [zl,tabN,↓zb,push_cast,simprocAttr,tte]
   exact zt (by first | trivial | (simp;done) | (simp;omega)) (by rw [<-hr]<;>first | rfl | (simp [zl];done) | (simp_all [zl];done)) (by simp [ends])
 ·refine ze [[0,0,0]] [] (hnul) ?_
  simp -implicitDefEqProofs only [zl,tabN,↓zb,push_cast,simprocAttr,tte]
  exact zt (by first | trivial | (simp;done) | (simp;omega)) (by rw [<-hr]<;>first | rfl | (simp [zl];done) | (simp_all [zl];done)) (by simp [ends])
theorem c_rvalidV (v:Val):ACall Tryz.prog 182 [aV v] [] (aV (wh v)) []:=by
 refine zn mixed ttok Tryz.func182 Tryz.ntmps182 Tryz.results182 ?_
 generalize hr:aV (wh v)=R
 simp -implicitDefEqProofs only [argT,tabN,↓zb,push_cast,simprocAttr,tte]
 refine ze [[0,0,0]] [] (kG v) ?_
 simp -implicitDefEqProofs only [tabN,↓zb,push_cast,simprocAttr,tte]
 unfold wh at hr
 refine za (fun h8=>?_) fun h8=>?_
 ·rw [if_neg (by simpa using h8)] at hr
  exact zt (by first | trivial | (simp;done) | (simp;omega)) (by rw [<-hr]<;>first | rfl | (simp [zl];done) | (simp_all [zl];done)) (by simp [ends])
 ·rw [if_pos (by simpa using h8)] at hr
  exact zt (by first | trivial | (simp;done) | (simp;omega)) (by rw [<-hr]<;>first | rfl | (simp [zl];done) | (simp_all [zl];done)) (by simp [ends])
theorem c_product (a b:Int) (ha:okN a) (hb:okN b):ACall Tryz.prog 183 [num a,num b] [] (.tup [num (numM 8 a b).1,boo (numM 8 a b).2]) []:=by
 refine zn mixed ttok Tryz.func183 Tryz.ntmps183 Tryz.results183 ?_
 have hM:numM 8 a b=(if a≠0/\b≠0/\absI a>(1000000000000:Int).tdiv (absI b) then (0,false) else (a * b,true)):=rfl
 rw [hM]
 generalize hr:A.tup [num (if a≠0/\b≠0/\absI a>(1000000000000:Int).tdiv (absI b) then ((0:Int),false) else (a * b,true)).1,boo (if a≠0/\b≠0/\absI a>(1000000000000:Int).tdiv (absI b) then ((0:Int),false) else (a * b,true)).2]=R
 have ha':=ha
 have hb':=hb
 unfold okN at ha' hb'
 have w3:=uu (a:= -a) (by omega)
 have w4:=uu (a:= -b) (by omega)
 have e3:(0:Int)-a= -a:=by omega
 have e4:(0:Int)-b= -b:=by omega
 simp -implicitDefEqProofs only [argT,e3,e4,w3,w4,↓zb,push_cast,simprocAttr,tte]
 have hcase: ∀(h:(a≠0/\b≠0)),(absI b≠0/\vi (decide (absI a>IntKind.i64.wrap ((1000000000000:Int).tdiv (absI b)))) (retx (some (True,A.tup [A.d (D.lit (Value.int IntKind.i64 0)),A.d (D.lit (Value.bool false))])) {t:=[],o:=[]} R [])
  (retx (some (True,A.tup [A.d (D.lit (Value.int IntKind.i64 (IntKind.i64.wrap (a * b)))),A.d (D.lit (Value.bool true))])) {t:=[],o:=[]} R [])):=fun hz=>by
  have hp:=gD hz.2
  have hd:=tdiv_le (a:=1000000000000) (by decide) hp
  have w5:=uu (a:=(1000000000000:Int).tdiv (absI b)) (by omega)
  refine ⟨by omega,?_⟩
  rw [w5]
  refine za (fun h3=>?_) fun h3=>?_
  ·simp only [decide_eq_true_eq] at h3
   exact zN trivial (by rw [<-hr,if_pos ⟨hz.1,hz.2,h3⟩];rfl) (by simp [ends])
  ·simp only [decide_eq_false_iff_not] at h3
   have hn: ¬(a≠0/\b≠0/\absI a>(1000000000000:Int).tdiv (absI b)):=fun h=>h3 h.2.2
   have hm:=mul_ok ha hb hn
   unfold okN at hm
   have w6:=uu (a:=a * b) (by omega)
   rw [w6]
   exact zN trivial (by rw [<-hr,if_neg hn];rfl) (by simp [ends])
 refine za (fun h1=>?_) fun h1=>?_
 ·simp only [beq_iff_eq] at h1
  subst h1
  exact zN trivial (by rw [<-hr,if_neg (fun h=>h.1 rfl),Int.zero_mul];rfl) (by simp [ends])
 refine za (fun h2=>?_) fun h2=>?_
 ·simp only [beq_iff_eq] at h2
  subst h2
  exact zN trivial (by rw [<-hr,if_neg (fun h=>h.2.1 rfl),Int.mul_zero];rfl) (by simp [ends])
 have hc:=hcase ⟨by simpa using h1,by simpa using h2⟩
 refine za (fun h3=>?_) fun h3=>?_
 ·rw [show absI a= -a from if_pos (by simpa using h3)] at hc
  refine za (fun h4=>?_) fun h4=>?_
  ·rw [show absI b= -b from if_pos (by simpa using h4)] at hc
   exact hc
  ·rw [show absI b=b from if_neg (by simpa using h4)] at hc
   exact hc
 ·rw [show absI a=a from if_neg (by simpa using h3)] at hc
  refine za (fun h4=>?_) fun h4=>?_
  ·rw [show absI b= -b from if_pos (by simpa using h4)] at hc
   exact hc
  ·rw [show absI b=b from if_neg (by simpa using h4)] at hc
   exact hc
def arithR (op:Int) (a b:Val):Val:=
 if zJ a=false\/zJ b=false then zl
 else if op=12 then (if a.kind≠3\/b.kind≠3 then zl else wh ⟨3,0,a.text++b.text⟩)
 else if a.kind≠1\/b.kind≠1 then zl
 else if op=6 then wh ⟨1,a.num+b.num,ByteArray.empty⟩ else if op=7 then wh ⟨1,a.num-b.num,ByteArray.empty⟩
 else if (numM op a.num b.num).2=true then ⟨1,(numM op a.num b.num).1,ByteArray.empty⟩ else zl
theorem arithR_eq (op:Int) (a b:Val):arithR op a b=ua op a b:=by
 unfold arithR ua
 by_cases h1:zJ a=false
 ·simp [h1]
 by_cases h2:zJ b=false
 ·simp [h2]
 simp only [Bool.not_eq_false] at h1 h2
 simp only [h1,h2,Bool.true_eq_false,false_or,if_false]
 by_cases h12:op=12
 ·subst h12
  rw [if_pos rfl]
  by_cases hk:a.kind=b.kind
  ·by_cases ha:a.kind=1
   ·have hb1:b.kind=1:=by omega
    simp [ha,hb1,numM]
   ·by_cases ha3:a.kind=3
    ·have hb3:b.kind=3:=by omega
     simp [ha3,hb3]
    ·rw [hk] at ha ha3
     simp [hk,ha,ha3]
  ·rw [if_pos (c:=a.kind≠b.kind) hk,if_pos (by omega)]
 rw [if_neg h12]
 by_cases hk:a.kind=b.kind
 ·rw [if_neg (c:=a.kind≠b.kind) (fun h=>h hk)]
  by_cases ha:a.kind=1
  ·rw [if_neg (by omega),if_pos ha]
   have ka:=vm h1 ha
   have kb:=vm h2 (by omega)
   by_cases h6:op=6
   ·subst h6;rfl
   by_cases h7:op=7
   ·subst h7;rfl
   rw [if_neg h6,if_neg h7]
   split
   ·rename_i hq
    rw [validV_int]
    unfold numM at hq ⊢
    rw [if_neg h6,if_neg h7] at hq ⊢
    split
    ·rename_i h8
     rw [if_pos h8] at hq
     split
     ·rename_i hz;rw [if_pos hz] at hq;cases hq
     ·rename_i hz;exact mul_ok ka kb hz
    ·rename_i h8
     rw [if_neg h8] at hq
     split
     ·rename_i h9
      rw [if_pos h9] at hq
      split
      ·rename_i hz;exact tdiv_ok ka hz
      ·rename_i hz;rw [if_neg hz] at hq;cases hq
     ·rename_i h9
      rw [if_neg h9] at hq
      split
      ·rename_i h10
       rw [if_pos h10] at hq
       split
       ·rename_i hz;exact tmod_ok ka hz
       ·rename_i hz;rw [if_neg hz] at hq;cases hq
      ·rename_i h10;rw [if_neg h10] at hq;cases hq
   ·rfl
  ·rw [if_pos (by omega),if_neg ha,if_neg (by omega)]
 ·rw [if_pos (c:=a.kind≠b.kind) hk,if_pos (by omega)]
theorem c_rarith (op:Int) (a b:Val):ACall Tryz.prog 133 [num op,aV a,aV b] [] (aV (ua op a b)) []:=by
 rw [<-arithR_eq]
 refine zn mixed ttok Tryz.func133 Tryz.ntmps133 Tryz.results133 ?_
 generalize hr:aV (arithR op a b)=R
 simp -implicitDefEqProofs only [argT,tabN,↓zb,push_cast,simprocAttr,tte]
 refine ze [[0,0,0]] [] (kG a) ?_
 simp -implicitDefEqProofs only [tabN,↓zb,push_cast,simprocAttr,tte]
 unfold arithR at hr
 refine za (fun h1=>?_) fun h1=>?_
 ·rw [if_pos (.inl (by simpa using h1))] at hr
  exact zt (by first | trivial | (simp;done) | (simp;omega)) (by rw [<-hr]<;>first | rfl | (simp [zl];done) | (simp_all [zl];done)) (by simp [ends])
 refine ze [[0,0,0]] [] (kG b) ?_
 simp -implicitDefEqProofs only [tabN,↓zb,push_cast,simprocAttr,tte]
 simp only [Bool.not_eq_false'] at h1
 refine za (fun h2=>?_) fun h2=>?_
 ·rw [if_pos (.inr (by simpa using h2))] at hr
  exact zt (by first | trivial | (simp;done) | (simp;omega)) (by rw [<-hr]<;>first | rfl | (simp [zl];done) | (simp_all [zl];done)) (by simp [ends])
 simp only [Bool.not_eq_false'] at h2
 rw [if_neg (by simp [h1,h2])] at hr
 refine za (fun h12=>?_) fun h12=>?_
 ·rw [if_pos (by simpa using h12)] at hr
  refine za (fun h3=>?_) fun h3=>?_
  ·rw [if_pos (.inl (by simpa using h3))] at hr
   exact zt (by first | trivial | (simp;done) | (simp;omega)) (by rw [<-hr]<;>first | rfl | (simp [zl];done) | (simp_all [zl];done)) (by simp [ends])
  refine za (fun h4=>?_) fun h4=>?_
  ·rw [if_pos (.inr (by simpa using h4))] at hr
   exact zt (by first | trivial | (simp;done) | (simp;omega)) (by rw [<-hr]<;>first | rfl | (simp [zl];done) | (simp_all [zl];done)) (by simp [ends])
  simp only [bne_eq_false_iff_eq] at h3 h4
  rw [if_neg (by omega)] at hr
  have t1:=uw h1 h3
  have t2:=uw h2 h4
  refine ⟨by omega,?_⟩
  refine ze [[0,0,0]] [] (c_rvalidV ⟨3,0,a.text++b.text⟩) ?_
  simp -implicitDefEqProofs only [aV,↓zb,push_cast,simprocAttr,tte]
  exact zt (by first | trivial | (simp;done) | (simp;omega)) (by rw [<-hr]<;>first | rfl | (simp [zl];done) | (simp_all [zl];done)) (by simp [ends])
 rw [if_neg (by simpa using h12)] at hr
 refine za (fun h3=>?_) fun h3=>?_
 ·rw [if_pos (.inl (by simpa using h3))] at hr
  exact zt (by first | trivial | (simp;done) | (simp;omega)) (by rw [<-hr]<;>first | rfl | (simp [zl];done) | (simp_all [zl];done)) (by simp [ends])
 refine za (fun h4=>?_) fun h4=>?_
 ·rw [if_pos (.inr (by simpa using h4))] at hr
  exact zt (by first | trivial | (simp;done) | (simp;omega)) (by rw [<-hr]<;>first | rfl | (simp [zl];done) | (simp_all [zl];done)) (by simp [ends])
 simp only [bne_eq_false_iff_eq] at h3 h4
 rw [if_neg (by omega)] at hr
 have ka:=vm h1 h3
 have kb:=vm h2 h4
 have ka':=ka
 have kb':=kb
 unfold okN at ka' kb'
 have w1:=uu (a:=a.num+b.num) (by omega)
 have w2:=uu (a:=a.num-b.num) (by omega)
 refine za (fun h6=>?_) fun h6=>?_
 ·rw [if_pos (by simpa using h6)] at hr
  simp only [w1]
  refine ze [[0,0,0]] [] (c_rvalidV ⟨1,a.num+b.num,ByteArray.empty⟩) ?_
  simp -implicitDefEqProofs only [aV,↓zb,push_cast,simprocAttr,tte]
  exact zt (by first | trivial | (simp;done) | (simp;omega)) (by rw [<-hr]<;>first | rfl | (simp [zl];done) | (simp_all [zl];done)) (by simp [ends])
 rw [if_neg (by simpa using h6)] at hr
 refine za (fun h7=>?_) fun h7=>?_
 ·rw [if_pos (by simpa using h7)] at hr
  simp only [w2]
  refine ze [[0,0,0]] [] (c_rvalidV ⟨1,a.num-b.num,ByteArray.empty⟩) ?_
  simp -implicitDefEqProofs only [aV,↓zb,push_cast,simprocAttr,tte]
  exact zt (by first | trivial | (simp;done) | (simp;omega)) (by rw [<-hr]<;>first | rfl | (simp [zl];done) | (simp_all [zl];done)) (by simp [ends])
 rw [if_neg (by simpa using h7)] at hr
 refine za (fun h8=>?_) fun h8=>?_
 ·have h8':op=8:=by simpa using h8
  subst h8'
  refine ze [[0],[0]] [] (c_product a.num b.num ka kb) ?_
  simp -implicitDefEqProofs only [↓zb,push_cast,simprocAttr,tte]
  refine za (fun h9=>?_) fun h9=>?_
  ·rw [if_neg (by simpa using h9)] at hr
   exact zt (by first | trivial | (simp;done) | (simp;omega)) (by rw [<-hr]<;>first | rfl | (simp [zl];done) | (simp_all [zl];done)) (by simp [ends])
  ·rw [if_pos (by simpa using h9)] at hr
   exact zt (by first | trivial | (simp;done) | (simp;omega)) (by rw [<-hr]<;>first | rfl | (simp [zl];done) | (simp_all [zl];done)) (by simp [ends])
 unfold numM at hr
 rw [if_neg (c:=op=6) (by simpa using h6),if_neg (c:=op=7) (by simpa using h7),if_neg (c:=op=8) (by simpa using h8)] at hr
 refine za (fun h9=>?_) fun h9=>?_
 ·rw [if_pos (c:=op=9) (by simpa using h9)] at hr
  refine za (fun h10=>?_) fun h10=>?_
  ·have hb0:b.num≠0:=by simpa using h10
   have hm:=tdiv_ok ka hb0
   unfold okN at hm
   have w3:=uu (a:=a.num.tdiv b.num) (by omega)
   refine ⟨hb0,?_⟩
   rw [if_pos hb0,if_pos rfl] at hr
   simp only [w3]
   exact zt (by first | trivial | (simp;done) | (simp;omega)) (by rw [<-hr]<;>first | rfl | (simp [zl];done) | (simp_all [zl];done)) (by simp [ends])
  ·have hb0: ¬b.num≠0:=by simpa using h10
   rw [if_neg hb0,if_neg (by decide)] at hr
   exact zt (by first | trivial | (simp;done) | (simp;omega)) (by rw [<-hr]<;>first | rfl | (simp [zl];done) | (simp_all [zl];done)) (by simp [ends])
 rw [if_neg (c:=op=9) (by simpa using h9)] at hr
 refine za (fun h10=>?_) fun h10=>?_
 ·rw [if_pos (c:=op=10) (by simpa using h10)] at hr
  refine za (fun h11=>?_) fun h11=>?_
  ·have hb0:b.num≠0:=by simpa using h11
   refine ⟨hb0,?_⟩
   rw [if_pos hb0,if_pos rfl] at hr
   exact zt (by first | trivial | (simp;done) | (simp;omega)) (by rw [<-hr]<;>first | rfl | (simp [zl];done) | (simp_all [zl];done)) (by simp [ends])
  ·have hb0: ¬b.num≠0:=by simpa using h11
   rw [if_neg hb0,if_neg (by decide)] at hr
   exact zt (by first | trivial | (simp;done) | (simp;omega)) (by rw [<-hr]<;>first | rfl | (simp [zl];done) | (simp_all [zl];done)) (by simp [ends])
 rw [if_neg (c:=op=10) (by simpa using h10),if_neg (by decide)] at hr
 exact zt (by first | trivial | (simp;done) | (simp;omega)) (by rw [<-hr]<;>first | rfl | (simp [zl];done) | (simp_all [zl];done)) (by simp [ends])
end
section
open Go.Am
attribute [local simp, local push_cast] num boo str ints aV aTab zv aS aT aC
def aRow (l:List Val):A:= .d (.sl 3 (zd rV l))
attribute [local simp, local push_cast] aRow
def inM (v:Val):Val->List Val->Val
 | out,[]=>out
 | out,x::l=>inM v (orM out (yE v x)) l
def zy (op:Int) (l:List Val):Val:=
 if op=6\/op=7\/op=8\/op=9\/op=10\/op=12 then ua op (l.getD 0 default) (l.getD 1 default)
 else if op=11 then ua 7 ⟨1,0,ByteArray.empty⟩ (l.getD 0 default)
 else if op=13 then (if (l.getD 0 default).kind=3 then ⟨1,(l.getD 0 default).text.size,ByteArray.empty⟩ else zl)
 else if op=14 then yE (l.getD 0 default) (l.getD 1 default)
 else if op=15 then notM (yE (l.getD 0 default) (l.getD 1 default))
 else if op=16 then wI (l.getD 0 default) (l.getD 1 default)
 else if op=17 then notM (wI (l.getD 1 default) (l.getD 0 default))
 else if op=18 then wI (l.getD 1 default) (l.getD 0 default)
 else if op=19 then notM (wI (l.getD 0 default) (l.getD 1 default))
 else if op=20 then ofV (wW (l.getD 0 default) (l.getD 1 default))
 else if op=21 then ofV ((l.getD 0 default).kind==0)
 else if op=22 then andM (l.getD 0 default) (l.getD 1 default)
 else if op=23 then orM (l.getD 0 default) (l.getD 1 default)
 else if op=24 then notM (l.getD 0 default)
 else if op=25 then ofV (zQ (l.getD 0 default)==1)
 else if op=27 then (if (l.getD 0 default).kind=0 then l.getD 1 default else l.getD 0 default)
 else if op=28 then inM (l.getD 0 default) (ofV false) (l.drop 1)
 else zl
theorem inM_snoc (v:Val): ∀(r:List Val) (out x:Val),inM v out (r++[x])=orM (inM v out r) (yE v x)
 | [],out,x=>rfl
 | y::r,out,x=>by simp only [List.cons_append,inM,inM_snoc v r]
theorem c_bool0:ACall Tryz.prog 173 [num 0] [] (aV (ofV false)) []:=by
 have:zS 0=ofV false:=by simp [zS,ofV]
 rw [<-this];exact vZ 0
theorem len2 {n:Nat} (h:(n:Int)=2):2<=n:=by omega
theorem len1 {n:Nat} (h:(n:Int)=1):1<=n:=by omega
theorem c_apply (op:Int) (l:List Val) (hk:yk op l.length=true) (hll:l.length<=1000):ACall Tryz.prog 109 [num op,aRow l] [] (aV (zy op l)) []:=by
 refine zn mixed ttok Tryz.func109 Tryz.ntmps109 Tryz.results109 ?_
 generalize hr:aV (zy op l)=R
 simp -implicitDefEqProofs only [argT,tabN,↓zb,push_cast,simprocAttr,tte]
 refine za (fun h6=>?_) fun h6=>?_
 ·have e:op=6:=by simpa using h6
  subst e
  have hl:2<=l.length:=len2 (by simpa [yk] using hk)
  refine za (fun _=>?_) (fun h=>absurd h (by decide))
  refine ⟨by omega,by omega,?_⟩
  refine ze [[0],[0,0,0],[0,0,0]] [] (jS 6 (l.getD 0 default) (l.getD 1 default)) ?_
  simp -implicitDefEqProofs only [tabN,aV,↓zb,push_cast,simprocAttr,tte]
  refine ⟨zf (by kernel_rfl),?_⟩
  exact zt (by first | trivial | (simp;done) | (simp;omega)) (by rw [<-hr]<;>first | rfl | (simp [zy];done) | (simp_all [zy];done)) (by simp [ends])
 refine za (fun h7=>?_) fun h7=>?_
 ·have e:op=7:=by simpa using h7
  subst e
  have hl:2<=l.length:=len2 (by simpa [yk] using hk)
  refine za (fun _=>?_) (fun h=>absurd h (by decide))
  refine ⟨by omega,by omega,?_⟩
  refine ze [[0],[0,0,0],[0,0,0]] [] (jS 7 (l.getD 0 default) (l.getD 1 default)) ?_
  simp -implicitDefEqProofs only [tabN,aV,↓zb,push_cast,simprocAttr,tte]
  refine ⟨zf (by kernel_rfl),?_⟩
  exact zt (by first | trivial | (simp;done) | (simp;omega)) (by rw [<-hr]<;>first | rfl | (simp [zy];done) | (simp_all [zy];done)) (by simp [ends])
 refine za (fun h8=>?_) fun h8=>?_
 ·have e:op=8:=by simpa using h8
  subst e
  have hl:2<=l.length:=len2 (by simpa [yk] using hk)
  refine za (fun _=>?_) (fun h=>absurd h (by decide))
  refine ⟨by omega,by omega,?_⟩
  refine ze [[0],[0,0,0],[0,0,0]] [] (jS 8 (l.getD 0 default) (l.getD 1 default)) ?_
  simp -implicitDefEqProofs only [tabN,aV,↓zb,push_cast,simprocAttr,tte]
  refine ⟨zf (by kernel_rfl),?_⟩
  exact zt (by first | trivial | (simp;done) | (simp;omega)) (by rw [<-hr]<;>first | rfl | (simp [zy];done) | (simp_all [zy];done)) (by simp [ends])
 refine za (fun h9=>?_) fun h9=>?_
 ·have e:op=9:=by simpa using h9
  subst e
  have hl:2<=l.length:=len2 (by simpa [yk] using hk)
  refine za (fun _=>?_) (fun h=>absurd h (by decide))
  refine ⟨by omega,by omega,?_⟩
  refine ze [[0],[0,0,0],[0,0,0]] [] (jS 9 (l.getD 0 default) (l.getD 1 default)) ?_
  simp -implicitDefEqProofs only [tabN,aV,↓zb,push_cast,simprocAttr,tte]
  refine ⟨zf (by kernel_rfl),?_⟩
  exact zt (by first | trivial | (simp;done) | (simp;omega)) (by rw [<-hr]<;>first | rfl | (simp [zy];done) | (simp_all [zy];done)) (by simp [ends])
 refine za (fun h10=>?_) fun h10=>?_
 ·have e:op=10:=by simpa using h10
  subst e
  have hl:2<=l.length:=len2 (by simpa [yk] using hk)
  refine za (fun _=>?_) (fun h=>absurd h (by decide))
  refine ⟨by omega,by omega,?_⟩
  refine ze [[0],[0,0,0],[0,0,0]] [] (jS 10 (l.getD 0 default) (l.getD 1 default)) ?_
  simp -implicitDefEqProofs only [tabN,aV,↓zb,push_cast,simprocAttr,tte]
  refine ⟨zf (by kernel_rfl),?_⟩
  exact zt (by first | trivial | (simp;done) | (simp;omega)) (by rw [<-hr]<;>first | rfl | (simp [zy];done) | (simp_all [zy];done)) (by simp [ends])
 refine za (fun h12=>?_) fun h12=>?_
 ·have e:op=12:=by simpa using h12
  subst e
  have hl:2<=l.length:=len2 (by simpa [yk] using hk)
  refine ⟨by omega,by omega,?_⟩
  refine ze [[0],[0,0,0],[0,0,0]] [] (jS 12 (l.getD 0 default) (l.getD 1 default)) ?_
  simp -implicitDefEqProofs only [tabN,aV,↓zb,push_cast,simprocAttr,tte]
  refine ⟨zf (by kernel_rfl),?_⟩
  exact zt (by first | trivial | (simp;done) | (simp;omega)) (by rw [<-hr]<;>first | rfl | (simp [zy];done) | (simp_all [zy];done)) (by simp [ends])
 refine za (fun h11=>?_) fun h11=>?_
 ·have e:op=11:=by simpa using h11
  subst e
  have hl:1<=l.length:=len1 (by simpa [yk] using hk)
  refine ⟨by omega,?_⟩
  refine ze [[0],[0,0,0],[0,0,0]] [] (jS 7 ⟨1,0,ByteArray.empty⟩ (l.getD 0 default)) ?_
  simp -implicitDefEqProofs only [tabN,aV,↓zb,push_cast,simprocAttr,tte]
  exact zt (by first | trivial | (simp;done) | (simp;omega)) (by rw [<-hr]<;>first | rfl | (simp [zy];done) | (simp_all [zy];done)) (by simp [ends])
 refine za (fun h13=>?_) fun h13=>?_
 ·have e:op=13:=by simpa using h13
  subst e
  have hl:1<=l.length:=len1 (by simpa [yk] using hk)
  refine ⟨by omega,?_⟩
  refine za (fun g=>?_) fun g=>?_
  ·refine ⟨by omega,?_⟩
   have g1:(l.getD 0 default).kind=3:=by simpa using g
   have hM:zy 13 l=⟨1,(l.getD 0 default).text.size,ByteArray.empty⟩:=if_pos g1
   rw [hM] at hr
   exact zt (by first | trivial | (simp;done) | (simp;omega)) (by rw [<-hr]<;>first | rfl | (simp [zy];done) | (simp_all [zy];done)) (by simp [ends])
  ·have g1: ¬(l.getD 0 default).kind=3:=by simpa using g
   have hM:zy 13 l=zl:=if_neg g1
   rw [hM] at hr
   exact zt (by first | trivial | (simp;done) | (simp;omega)) (by rw [<-hr]<;>first | rfl | (simp [zl];done) | (simp_all [zl];done)) (by simp [ends])
 refine za (fun h14=>?_) fun h14=>?_
 ·have e:op=14:=by simpa using h14
  subst e
  have hl:2<=l.length:=len2 (by simpa [yk] using hk)
  refine ⟨by omega,by omega,?_⟩
  refine ze [[0,0,0],[0,0,0]] [] (c_equal (l.getD 0 default) (l.getD 1 default)) ?_
  simp -implicitDefEqProofs only [tabN,aV,↓zb,push_cast,simprocAttr,tte]
  refine ⟨zf (by kernel_rfl),?_⟩
  exact zt (by first | trivial | (simp;done) | (simp;omega)) (by rw [<-hr]<;>first | rfl | (simp [zy];done) | (simp_all [zy];done)) (by simp [ends])
 refine za (fun h15=>?_) fun h15=>?_
 ·have e:op=15:=by simpa using h15
  subst e
  have hl:2<=l.length:=len2 (by simpa [yk] using hk)
  refine ⟨by omega,by omega,?_⟩
  refine ze [[0,0,0],[0,0,0]] [] (c_equal (l.getD 0 default) (l.getD 1 default)) ?_
  simp -implicitDefEqProofs only [tabN,aV,↓zb,push_cast,simprocAttr,tte]
  refine ze [[0,0,0]] [] (c_not (yE (l.getD 0 default) (l.getD 1 default))) ?_
  simp -implicitDefEqProofs only [tabN,aV,↓zb,push_cast,simprocAttr,tte]
  refine ⟨zf (by kernel_rfl),?_⟩
  exact zt (by first | trivial | (simp;done) | (simp;omega)) (by rw [<-hr]<;>first | rfl | (simp [zy];done) | (simp_all [zy];done)) (by simp [ends])
 refine za (fun h16=>?_) fun h16=>?_
 ·have e:op=16:=by simpa using h16
  subst e
  have hl:2<=l.length:=len2 (by simpa [yk] using hk)
  refine ⟨by omega,by omega,?_⟩
  refine ze [[0,0,0],[0,0,0]] [] (c_less (l.getD 0 default) (l.getD 1 default)) ?_
  simp -implicitDefEqProofs only [tabN,aV,↓zb,push_cast,simprocAttr,tte]
  refine ⟨zf (by kernel_rfl),?_⟩
  exact zt (by first | trivial | (simp;done) | (simp;omega)) (by rw [<-hr]<;>first | rfl | (simp [zy];done) | (simp_all [zy];done)) (by simp [ends])
 refine za (fun h17=>?_) fun h17=>?_
 ·have e:op=17:=by simpa using h17
  subst e
  have hl:2<=l.length:=len2 (by simpa [yk] using hk)
  refine ⟨by omega,by omega,?_⟩
  refine ze [[0,0,0],[0,0,0]] [] (c_less (l.getD 1 default) (l.getD 0 default)) ?_
  simp -implicitDefEqProofs only [tabN,aV,↓zb,push_cast,simprocAttr,tte]
  refine ze [[0,0,0]] [] (c_not (wI (l.getD 1 default) (l.getD 0 default))) ?_
  simp -implicitDefEqProofs only [tabN,aV,↓zb,push_cast,simprocAttr,tte]
  refine ⟨zf (by kernel_rfl),?_⟩
  exact zt (by first | trivial | (simp;done) | (simp;omega)) (by rw [<-hr]<;>first | rfl | (simp [zy];done) | (simp_all [zy];done)) (by simp [ends])
 refine za (fun h18=>?_) fun h18=>?_
 ·have e:op=18:=by simpa using h18
  subst e
  have hl:2<=l.length:=len2 (by simpa [yk] using hk)
  refine ⟨by omega,by omega,?_⟩
  refine ze [[0,0,0],[0,0,0]] [] (c_less (l.getD 1 default) (l.getD 0 default)) ?_
  simp -implicitDefEqProofs only [tabN,aV,↓zb,push_cast,simprocAttr,tte]
  refine ⟨zf (by kernel_rfl),?_⟩
  exact zt (by first | trivial | (simp;done) | (simp;omega)) (by rw [<-hr]<;>first | rfl | (simp [zy];done) | (simp_all [zy];done)) (by simp [ends])
 refine za (fun h19=>?_) fun h19=>?_
 ·have e:op=19:=by simpa using h19
  subst e
  have hl:2<=l.length:=len2 (by simpa [yk] using hk)
  refine ⟨by omega,by omega,?_⟩
  refine ze [[0,0,0],[0,0,0]] [] (c_less (l.getD 0 default) (l.getD 1 default)) ?_
  simp -implicitDefEqProofs only [tabN,aV,↓zb,push_cast,simprocAttr,tte]
  refine ze [[0,0,0]] [] (c_not (wI (l.getD 0 default) (l.getD 1 default))) ?_
  simp -implicitDefEqProofs only [tabN,aV,↓zb,push_cast,simprocAttr,tte]
  refine ⟨zf (by kernel_rfl),?_⟩
  exact zt (by first | trivial | (simp;done) | (simp;omega)) (by rw [<-hr]<;>first | rfl | (simp [zy];done) | (simp_all [zy];done)) (by simp [ends])
 refine za (fun h20=>?_) fun h20=>?_
 ·have e:op=20:=by simpa using h20
  subst e
  have hl:2<=l.length:=len2 (by simpa [yk] using hk)
  refine ⟨by omega,by omega,?_⟩
  refine ze [[0,0,0],[0,0,0]] [] (c_same (l.getD 0 default) (l.getD 1 default)) ?_
  simp -implicitDefEqProofs only [tabN,aV,↓zb,push_cast,simprocAttr,tte]
  refine ze [[0]] [] (c_etruth (wW (l.getD 0 default) (l.getD 1 default))) ?_
  simp -implicitDefEqProofs only [tabN,aV,↓zb,push_cast,simprocAttr,tte]
  refine ⟨zf (by kernel_rfl),?_⟩
  exact zt (by first | trivial | (simp;done) | (simp;omega)) (by rw [<-hr]<;>first | rfl | (simp [zy];done) | (simp_all [zy];done)) (by simp [ends])
 refine za (fun h21=>?_) fun h21=>?_
 ·have e:op=21:=by simpa using h21
  subst e
  have hl:1<=l.length:=len1 (by simpa [yk] using hk)
  refine ⟨by omega,?_⟩
  refine ze [[0]] [] (c_etruth ((l.getD 0 default).kind==0)) ?_
  simp -implicitDefEqProofs only [tabN,aV,↓zb,push_cast,simprocAttr,tte]
  exact zt (by first | trivial | (simp;done) | (simp;omega)) (by rw [<-hr]<;>first | rfl | (simp [zy];done) | (simp_all [zy];done)) (by simp [ends])
 refine za (fun h22=>?_) fun h22=>?_
 ·have e:op=22:=by simpa using h22
  subst e
  have hl:2<=l.length:=len2 (by simpa [yk] using hk)
  refine ⟨by omega,by omega,?_⟩
  refine ze [[0,0,0],[0,0,0]] [] (c_and (l.getD 0 default) (l.getD 1 default)) ?_
  simp -implicitDefEqProofs only [tabN,aV,↓zb,push_cast,simprocAttr,tte]
  refine ⟨zf (by kernel_rfl),?_⟩
  exact zt (by first | trivial | (simp;done) | (simp;omega)) (by rw [<-hr]<;>first | rfl | (simp [zy];done) | (simp_all [zy];done)) (by simp [ends])
 refine za (fun h23=>?_) fun h23=>?_
 ·have e:op=23:=by simpa using h23
  subst e
  have hl:2<=l.length:=len2 (by simpa [yk] using hk)
  refine ⟨by omega,by omega,?_⟩
  refine ze [[0,0,0],[0,0,0]] [] (c_or2 (l.getD 0 default) (l.getD 1 default)) ?_
  simp -implicitDefEqProofs only [tabN,aV,↓zb,push_cast,simprocAttr,tte]
  refine ⟨zf (by kernel_rfl),?_⟩
  exact zt (by first | trivial | (simp;done) | (simp;omega)) (by rw [<-hr]<;>first | rfl | (simp [zy];done) | (simp_all [zy];done)) (by simp [ends])
 refine za (fun h24=>?_) fun h24=>?_
 ·have e:op=24:=by simpa using h24
  subst e
  have hl:1<=l.length:=len1 (by simpa [yk] using hk)
  refine ⟨by omega,?_⟩
  refine ze [[0,0,0]] [] (c_not (l.getD 0 default)) ?_
  simp -implicitDefEqProofs only [tabN,aV,↓zb,push_cast,simprocAttr,tte]
  exact zt (by first | trivial | (simp;done) | (simp;omega)) (by rw [<-hr]<;>first | rfl | (simp [zy];done) | (simp_all [zy];done)) (by simp [ends])
 refine za (fun h25=>?_) fun h25=>?_
 ·have e:op=25:=by simpa using h25
  subst e
  have hl:1<=l.length:=len1 (by simpa [yk] using hk)
  refine ⟨by omega,?_⟩
  refine ze [[0,0,0]] [] (uR (l.getD 0 default)) ?_
  simp -implicitDefEqProofs only [tabN,aV,↓zb,push_cast,simprocAttr,tte]
  refine ze [[0]] [] (c_etruth (zQ (l.getD 0 default)==1)) ?_
  simp -implicitDefEqProofs only [tabN,aV,↓zb,push_cast,simprocAttr,tte]
  exact zt (by first | trivial | (simp;done) | (simp;omega)) (by rw [<-hr]<;>first | rfl | (simp [zy];done) | (simp_all [zy];done)) (by simp [ends])
 refine za (fun h27=>?_) fun h27=>?_
 ·have e:op=27:=by simpa using h27
  subst e
  have hl:2<=l.length:=len2 (by simpa [yk] using hk)
  refine ⟨by omega,?_⟩
  refine za (fun g=>?_) fun g=>?_
  ·refine ⟨by omega,?_⟩
   have g1:(l.getD 0 default).kind=0:=by simpa using g
   have hM:zy 27 l=(l.getD 1 default):=if_pos g1
   rw [hM] at hr
   exact zt (by first | trivial | (simp;done) | (simp;omega)) (by rw [<-hr]<;>first | rfl | (simp [zy];done) | (simp_all [zy];done)) (by simp [ends])
  ·refine ⟨by omega,?_⟩
   have g1: ¬(l.getD 0 default).kind=0:=by simpa using g
   have hM:zy 27 l=(l.getD 0 default):=if_neg g1
   rw [hM] at hr
   exact zt (by first | trivial | (simp;done) | (simp;omega)) (by rw [<-hr]<;>first | rfl | (simp [zy];done) | (simp_all [zy];done)) (by simp [ends])
 refine za (fun h28=>?_) fun h28=>?_
 ·have e:op=28:=by simpa using h28
  subst e
  have hl:2≤l.length:=by have:(l.length:Int)≥2:=by simpa [yk] using hk
                         omega
  refine ze [[0]] [] (c_bool0) ?_
  simp -implicitDefEqProofs only [tabN,aV,↓zb,push_cast,simprocAttr,tte]
  refine ⟨by omega,?_⟩
  have hM:zy 28 l=inM (l.getD 0 default) (ofV false) (l.drop 1):=rfl
  rw [hM] at hr
  have hdl:(l.drop 1).length<=1000:=by simp;omega
  simp only [List.take_length]
  generalize l.drop 1=r at hr hdl ⊢
  have hsn: ∀n,n<r.length->inM (l.getD 0 default) (ofV false) (r.take (n+1))=orM (inM (l.getD 0 default) (ofV false) (r.take n)) (yE (l.getD 0 default) (r.getD n default)):=fun n h=>by
   rw [z7 _ _ h,inM_snoc]
  generalize hv0:l.getD 0 default=v0 at hr hsn
  generalize ha:(fun n:Nat=>inM v0 (ofV false) (r.take n))=acc
  have ha0:acc 0=ofV false:=by rw [<-ha];rfl
  have hsn: ∀n,n<r.length->acc (n+1)=orM (acc n) (yE v0 (r.getD n default)):=fun n h=>by rw [<-ha];exact hsn n h
  have haN:acc r.length=inM v0 (ofV false) r:=by rw [<-ha];simp
  rw [<-haN] at hr
  refine zo mixed ttok 170 [1,4,5,168,169] [4] (by simp only [zC,ends,push_cast,simprocAttr];rfl) (by simp only [zH,zp,ends,push_cast,simprocAttr];rfl) r.length (fun _=>True) (fun _=>[]) (fun n=>[(5,.var [.d (.lit (.int .i64 (acc n).kind)),.d (.lit (.int .i64 (acc n).num)),.d (.lit (.string (acc n).text))])]) trivial ?_ ?_
  ·exact Weak.keepL (by simp [cst,ha0,ends]) (by simp [cst,ha0,ends]) (by simp [cst,ha0,ends])
  intro I hI n hn hi
  simp -implicitDefEqProofs only [cst,↓zb,push_cast,simprocAttr,tte]
  refine za (fun h=>?_) fun h=>?_
  ·simp only [decide_eq_true_eq] at h
   have h':n<r.length:=by omega
   have hw:=zj h' (by omega)
   refine ⟨(by first | omega | trivial | (refine ⟨?_,?_⟩<;>first | omega | trivial | (refine ⟨?_,?_⟩<;>first | omega | trivial | (refine ⟨?_,?_⟩<;>first | omega | trivial | rfl)))),by omega,?_⟩
   rw [hv0]
   refine ze [[0,0,0],[0,0,0]] [] (c_equal v0 (r.getD n default)) ?_
   simp -implicitDefEqProofs only [tabN,aV,↓zb,push_cast,simprocAttr,tte]
   refine ze [[0,0,0],[0,0,0]] [] (c_or2 (acc n) (yE v0 (r.getD n default))) ?_
   simp -implicitDefEqProofs only [tabN,aV,↓zb,push_cast,simprocAttr,tte]
   refine ⟨zf (by kernel_rfl),?_⟩
   rw [<-hsn n h']
   exact zq hI n rfl h' trivial (by simp [hw,ends]) (by simp [hw,ends]) (by simp [hw,ends]) (by simp [hw,ends])
  ·have hn':n=r.length:=by simp at h;omega
   subst hn'
   exact zt (by first | trivial | (simp;done) | (simp;omega)) (by rw [<-hr]<;>first | rfl | (simp [zl];done) | (simp_all [zl];done)) (by simp [ends])
 ·have hM:zy op l=zl:=by
   simp only [beq_eq_false_iff_ne,ne_eq] at h6 h7 h8 h9 h10 h11 h12 h13 h14 h15 h16 h17 h18 h19 h20 h21 h22 h23 h24 h25 h27 h28
   simp only [zy, *,or_self,if_false]
  rw [hM] at hr
  exact zt (by first | trivial | (simp;done) | (simp;omega)) (by rw [<-hr]<;>first | rfl | (simp [zl];done) | (simp_all [zl];done)) (by simp [ends])
end
section
open Go.Am
attribute [local simp, local push_cast] num boo str ints aV aTab zv aS aT aC aRow aOp
def zW (row:List Val) (e:Ex) (vs:List Val):Val:=
 if yA e=false then zl
 else if e.op=2 then ⟨1,e.num,ByteArray.empty⟩ else if e.op=3 then ⟨2,e.num,ByteArray.empty⟩ else if e.op=4 then ⟨3,0,e.text⟩
 else if e.op=5 then (if 0<=e.col/\e.col<row.length then row.getD e.col.toNat default else zl)
 else if e.op=26 then (if zQ (vs.getD 0 default)=1 then vs.getD 1 default else vs.getD 2 default)
 else zy e.op vs
mutual
def xk (row:List Val):Ex->Val
 | .mk a b c d g ks=>zW row (.mk a b c d g ks) (evalL row ks)
def evalL (row:List Val):List Ex->List Val
 | []=>[]
 | e::l=>xk row e::evalL row l
end
theorem evalL_eq (row:List Val): ∀l,evalL row l=l.map (xk row)
 | []=>rfl
 | e::l=>by rw [evalL,evalL_eq row l];rfl
theorem evalM_eq (row:List Val) (e:Ex):xk row e=zW row e (e.kids.map (xk row)):=by cases e;rw [xk,evalL_eq];rfl
def wz (row:List Val) (e:Ex) (n:Nat):List Val:=(e.kids.take n).map (xk row)
theorem valsTo_succ (row:List Val) (e:Ex) (n:Nat) (h:n<e.kids.length):wz row e (n+1)=wz row e n++[xk row (e.kids.getD n default)]:=by
 rw [wz,z7 _ _ h,List.map_append];rfl
theorem qb (row:List Val) (e:Ex) (n:Nat) (h:n<=e.kids.length):(wz row e n).length=n:=by simp [wz];omega
theorem kids_op {e:Ex} (h:yA e=true):yk e.op e.kids.length=true:=by
 have:isOp e.op=true:=by simp only [yA,Bool.and_eq_true] at h;exact h.1
 rw [jE this];exact h
theorem uA {α β:Type} [Inhabited α] [Inhabited β] (f:α->β) (l:List α) (n:Nat) (h:n<l.length):(l.map f).getD n default=f (l.getD n default):=by
 simp [List.getD_eq_getElem?_getD,h]
theorem c_eval (row:List Val): ∀e:Ex,Ok12 e→ACall Tryz.prog 61 [aE e,aRow row] [] (aV (xk row e)) []:=
 uY (p:=fun e=>Ok12 e->ACall Tryz.prog 61 [aE e,aRow row] [] (aV (xk row e)) []) fun e ih ho=>by
 refine zn mixed ttok Tryz.func61 Tryz.ntmps61 Tryz.results61 ?_
 generalize hr:aV (xk row e)=R
 have hl:=ho.kids
 rw [evalM_eq] at hr
 unfold zW at hr
 simp -implicitDefEqProofs only [argT,tabN,↓zb,push_cast,simprocAttr,tte]
 refine ze [[0,0,0,0,0,6]] [] (c_known e) ?_
 simp -implicitDefEqProofs only [tabN,aOp,↓zb,push_cast,simprocAttr,tte]
 refine za (fun hc=>?_) fun hc=>?_
 ·rw [if_pos (by simpa using hc)] at hr
  exact zt (by first | trivial | (simp;done) | (simp;omega)) (by rw [<-hr]<;>first | rfl | (simp [zl];done) | (simp_all [zl];done)) (by simp [ends])
 have hc':yA e=true:=by simpa using hc
 rw [if_neg (by rw [hc'];decide)] at hr
 have hkk:=kids_op hc'
 refine za (fun h2=>?_) fun h2=>?_
 ·rw [if_pos (by simpa using h2)] at hr
  exact zt (by first | trivial | (simp;done) | (simp;omega)) (by rw [<-hr]<;>first | rfl | (simp [zl];done) | (simp_all [zl];done)) (by simp [ends])
 rw [if_neg (by simpa using h2)] at hr
 refine za (fun h3=>?_) fun h3=>?_
 ·rw [if_pos (by simpa using h3)] at hr
  exact zt (by first | trivial | (simp;done) | (simp;omega)) (by rw [<-hr]<;>first | rfl | (simp [zl];done) | (simp_all [zl];done)) (by simp [ends])
 rw [if_neg (by simpa using h3)] at hr
 refine za (fun h4=>?_) fun h4=>?_
 ·rw [if_pos (by simpa using h4)] at hr
  exact zt (by first | trivial | (simp;done) | (simp;omega)) (by rw [<-hr]<;>first | rfl | (simp [zl];done) | (simp_all [zl];done)) (by simp [ends])
 rw [if_neg (by simpa using h4)] at hr
 refine za (fun h5=>?_) fun h5=>?_
 ·rw [if_pos (by simpa using h5)] at hr
  refine za (fun g1=>?_) fun g1=>?_
  ·simp only [ge_iff_le,decide_eq_true_eq] at g1
   refine za (fun g2=>?_) fun g2=>?_
   ·simp only [decide_eq_true_eq] at g2
    rw [if_pos ⟨g1,g2⟩] at hr
    refine ⟨⟨g1,g2⟩,?_⟩
    exact zt (by first | trivial | (simp;done) | (simp;omega)) (by rw [<-hr]<;>first | rfl | (simp [zl];done) | (simp_all [zl];done)) (by simp [ends])
   ·simp only [decide_eq_false_iff_not] at g2
    rw [if_neg (fun h=>g2 h.2)] at hr
    exact zt (by first | trivial | (simp;done) | (simp;omega)) (by rw [<-hr]<;>first | rfl | (simp [zl];done) | (simp_all [zl];done)) (by simp [ends])
  ·simp only [ge_iff_le,decide_eq_false_iff_not] at g1
   rw [if_neg (fun h=>g1 h.1)] at hr
   exact zt (by first | trivial | (simp;done) | (simp;omega)) (by rw [<-hr]<;>first | rfl | (simp [zl];done) | (simp_all [zl];done)) (by simp [ends])
 rw [if_neg (by simpa using h5)] at hr
 refine za (fun h26=>?_) fun h26=>?_
 ·have e26:e.op=26:=by simpa using h26
  rw [if_pos e26] at hr
  have hl3:e.kids.length=3:=by
   rw [e26] at hkk
   have:(e.kids.length:Int)=3:=by simpa [yk] using hkk
   omega
  rw [uA _ _ _ (by omega),uA _ _ _ (by omega),uA _ _ _ (by omega)] at hr
  have hg: ∀n,n<3->e.kids.getD n default∈e.kids:=fun n h=>zk (by omega)
  refine ⟨by omega,?_⟩
  refine ze [[0,0,0,0,0,6],[3]] [] (ih _ (hg 0 (by omega)) (ho.kid (hg 0 (by omega)))) ?_
  simp -implicitDefEqProofs only [tabN,aV,↓zb,push_cast,simprocAttr,tte]
  refine ze [[0,0,0]] [] (uR (xk row (e.kids.getD 0 default))) ?_
  simp -implicitDefEqProofs only [tabN,aV,↓zb,push_cast,simprocAttr,tte]
  refine za (fun g=>?_) fun g=>?_
  ·rw [if_pos (by simpa using g)] at hr
   refine ⟨by omega,?_⟩
   refine ze [[0,0,0,0,0,6],[3]] [] (ih _ (hg 1 (by omega)) (ho.kid (hg 1 (by omega)))) ?_
   simp -implicitDefEqProofs only [tabN,aV,↓zb,push_cast,simprocAttr,tte]
   exact zt (by first | trivial | (simp;done) | (simp;omega)) (by rw [<-hr]<;>first | rfl | (simp [zl];done) | (simp_all [zl];done)) (by simp [ends])
  ·rw [if_neg (by simpa using g)] at hr
   refine ⟨by omega,?_⟩
   refine ze [[0,0,0,0,0,6],[3]] [] (ih _ (hg 2 (by omega)) (ho.kid (hg 2 (by omega)))) ?_
   simp -implicitDefEqProofs only [tabN,aV,↓zb,push_cast,simprocAttr,tte]
   exact zt (by first | trivial | (simp;done) | (simp;omega)) (by rw [<-hr]<;>first | rfl | (simp [zl];done) | (simp_all [zl];done)) (by simp [ends])
 rw [if_neg (by simpa using h26)] at hr
 refine zo mixed ttok 80 [1,2,4,78,79] [2,4] (by simp only [zC,ends,push_cast,simprocAttr];rfl) (by simp only [zH,zp,ends,push_cast,simprocAttr];rfl) e.kids.length (fun _=>True) (fun n=>[(8,.vec 500 n)]) (fun n=>[(500,.vec 71 3 (zd rV (wz row e n)) 0)]) trivial ?_ ?_
 ·exact (Weak.nilL 8 500 71 3 rfl rfl).trans (Weak.keepL (by simp [cst,ends]) (by simp [cst,wz,ends]) (by simp [cst,ends]))
 intro I hI n hn hi
 have hl2:=qb row e n hn
 simp -implicitDefEqProofs only [cst,↓zb,push_cast,simprocAttr,tte]
 refine za (fun h=>?_) fun h=>?_
 ·simp only [decide_eq_true_eq] at h
  have h':n<e.kids.length:=by omega
  have hw:=zj h' (by omega)
  have hs:=valsTo_succ row e n h'
  refine ⟨(by first | omega | trivial | (refine ⟨?_,?_⟩<;>first | omega | trivial | (refine ⟨?_,?_⟩<;>first | omega | trivial | (refine ⟨?_,?_⟩<;>first | omega | trivial | rfl)))),?_⟩
  refine ze [[0,0,0,0,0,6],[3]] [] (ih _ (zk h') (ho.kid (zk h'))) ?_
  simp -implicitDefEqProofs only [tabN,aV,↓zb,push_cast,simprocAttr,tte]
  refine ⟨⟨hl2.symm,by rw [hl2];omega⟩,?_⟩
  exact zq hI n rfl h' trivial (by simp [hw,hs,hl2,zh,rV,ends]) (by simp [hw,hs,hl2,zh,rV,ends]) (by simp [hw,hs,hl2,zh,rV,ends]) (by simp [hw,hs,hl2,zh,rV,ends])
 simp only [decide_eq_false_iff_not] at h
 obtain rfl:n=e.kids.length:=by omega
 clear hI
 have hT:wz row e e.kids.length=e.kids.map (xk row):=by rw [wz,List.take_length]
 rw [<-hT] at hr
 rw [<-hl2] at hkk hl
 generalize wz row e e.kids.length=l at hl2 hr hkk hl ⊢
 refine ze [[0],[3]] [] (c_apply e.op l hkk (by omega)) ?_
 simp -implicitDefEqProofs only [tabN,aV,↓zb,push_cast,simprocAttr,tte]
 exact zt (by first | trivial | (simp;done) | (simp;omega)) (by rw [<-hr]<;>first | rfl | (simp [zl];done) | (simp_all [zl];done)) (by simp [ends])
end
section
open Go.Am
attribute [local simp, local push_cast] num boo str ints aV aTab zv aS aT aC aRow aOp
theorem orM_false (a b:Val):orM (ofV false) (yE a b)=yE a b:=by
 unfold yE
 split
 ·rfl
 ·cases wW a b<;>rfl
theorem qy {row:List Val} {e:Ex} {vs:List Val} (h:yA e=false):zW row e vs=zl:=by rw [zW,if_pos h]
theorem c_reval (row:List Val): ∀e:Ex,Ok12 e→ACall Tryz.prog 73 [aE e,aRow row] [] (aV (xk row e)) []:=
 uY (p:=fun e=>Ok12 e->ACall Tryz.prog 73 [aE e,aRow row] [] (aV (xk row e)) []) fun e ih ho=>by
 refine zn mixed ttok Tryz.func73 Tryz.ntmps73 Tryz.results73 ?_
 generalize hr:aV (xk row e)=R
 have hl:=ho.kids
 rw [evalM_eq] at hr
 simp -implicitDefEqProofs only [argT,tabN,↓zb,push_cast,simprocAttr,tte]
 refine za (fun g1=>?_) fun g1=>?_
 ·simp only [decide_eq_true_eq] at g1
  have hc:yA e=false:=by
   have:isOp e.op=false:=by simp [isOp];omega
   rw [yA,this,Bool.false_and]
  rw [qy hc] at hr
  exact zt (by first | trivial | (simp;done) | (simp;omega)) (by rw [<-hr]<;>first | rfl | (simp [zl];done) | (simp_all [zl];done)) (by simp [ends])
 simp only [decide_eq_false_iff_not] at g1
 refine za (fun g2=>?_) fun g2=>?_
 ·simp only [gt_iff_lt,decide_eq_true_eq] at g2
  have hc:yA e=false:=by
   have:isOp e.op=false:=by simp [isOp];omega
   rw [yA,this,Bool.false_and]
  rw [qy hc] at hr
  exact zt (by first | trivial | (simp;done) | (simp;omega)) (by rw [<-hr]<;>first | rfl | (simp [zl];done) | (simp_all [zl];done)) (by simp [ends])
 simp only [gt_iff_lt,decide_eq_false_iff_not] at g2
 have hisop:isOp e.op=true:=by simp [isOp];omega
 refine ze [[0],[0]] [] (c_rkids e.op e.kids.length) ?_
 simp -implicitDefEqProofs only [tabN,aV,↓zb,push_cast,simprocAttr,tte]
 refine za (fun g3=>?_) fun g3=>?_
 ·have hc:yA e=false:=by rw [←jE hisop];simpa using g3
  rw [qy hc] at hr
  exact zt (by first | trivial | (simp;done) | (simp;omega)) (by rw [<-hr]<;>first | rfl | (simp [zl];done) | (simp_all [zl];done)) (by simp [ends])
 have hc:yA e=true:=by rw [<-jE hisop];simpa using g3
 have hk:=kids_op hc
 refine zo mixed ttok 6 [1,2,4] [2,4] (by simp only [zC,ends,push_cast,simprocAttr];rfl) (by simp only [zH,zp,ends,push_cast,simprocAttr];rfl) e.kids.length (fun _=>True) (fun n=>[(5,.vec 500 n)]) (fun n=>[(500,.vec 71 3 (zd rV (wz row e n)) 0)]) trivial ?_ ?_
 ·exact (Weak.nilL 5 500 71 3 rfl rfl).trans (Weak.keepL (by simp [cst,ends]) (by simp [cst,wz,ends]) (by simp [cst,ends]))
 intro I hI n hn hi
 have hl2:=qb row e n hn
 simp -implicitDefEqProofs only [cst,↓zb,push_cast,simprocAttr,tte]
 refine za (fun h=>?_) fun h=>?_
 ·simp only [decide_eq_true_eq] at h
  have h':n<e.kids.length:=by omega
  have hw:=zj h' (by omega)
  have hs:=valsTo_succ row e n h'
  refine ⟨(by first | omega | trivial | (refine ⟨?_,?_⟩<;>first | omega | trivial | (refine ⟨?_,?_⟩<;>first | omega | trivial | (refine ⟨?_,?_⟩<;>first | omega | trivial | rfl)))),?_⟩
  refine ze [[0,0,0,0,0,6],[3]] [] (ih _ (zk h') (ho.kid (zk h'))) ?_
  simp -implicitDefEqProofs only [tabN,aV,↓zb,push_cast,simprocAttr,tte]
  refine ⟨⟨hl2.symm,by rw [hl2];omega⟩,?_⟩
  exact zq hI n rfl h' trivial (by simp [hw,hs,hl2,zh,rV,ends]) (by simp [hw,hs,hl2,zh,rV,ends]) (by simp [hw,hs,hl2,zh,rV,ends]) (by simp [hw,hs,hl2,zh,rV,ends])
 simp only [decide_eq_false_iff_not] at h
 obtain rfl:n=e.kids.length:=by omega
 clear hI
 have hT:wz row e e.kids.length=e.kids.map (xk row):=by rw [wz,List.take_length]
 rw [<-hT] at hr
 rw [<-hl2] at hk hl
 generalize wz row e e.kids.length=l at hl2 hr hk hl ⊢
 refine za (fun h1=>?_) fun h1=>?_
 ·have op:e.op=1:=by simpa using h1
  have hM:zW row e l=zl:=by simp [zW,zy,hc,op]
  rw [hM] at hr
  exact zt (by first | trivial | (simp;done) | (simp;omega)) (by rw [<-hr]<;>first | rfl | (simp [zl];done) | (simp_all [zl];done)) (by simp [ends])
 refine za (fun h2=>?_) fun h2=>?_
 ·have op:e.op=2:=by simpa using h2
  have hM:zW row e l=⟨1,e.num,ByteArray.empty⟩:=by simp [zW,zy,hc,op]
  rw [hM] at hr
  exact zt (by first | trivial | (simp;done) | (simp;omega)) (by rw [<-hr]<;>first | rfl | (simp [zl];done) | (simp_all [zl];done)) (by simp [ends])
 refine za (fun h3=>?_) fun h3=>?_
 ·have op:e.op=3:=by simpa using h3
  have hM:zW row e l=⟨2,e.num,ByteArray.empty⟩:=by simp [zW,zy,hc,op]
  rw [hM] at hr
  exact zt (by first | trivial | (simp;done) | (simp;omega)) (by rw [<-hr]<;>first | rfl | (simp [zl];done) | (simp_all [zl];done)) (by simp [ends])
 refine za (fun h4=>?_) fun h4=>?_
 ·have op:e.op=4:=by simpa using h4
  have hM:zW row e l=⟨3,0,e.text⟩:=by simp [zW,zy,hc,op]
  rw [hM] at hr
  exact zt (by first | trivial | (simp;done) | (simp;omega)) (by rw [<-hr]<;>first | rfl | (simp [zl];done) | (simp_all [zl];done)) (by simp [ends])
 refine za (fun h5=>?_) fun h5=>?_
 ·have op:e.op=5:=by simpa using h5
  refine za (fun g1=>?_) fun g1=>?_
  ·simp only [decide_eq_true_eq] at g1
   have g2: ¬(0<=e.col/\e.col<row.length):=by omega
   have hM:zW row e l=zl:=by simp [zW,zy,hc,op, -not_and,g2]
   rw [hM] at hr
   exact zt (by first | trivial | (simp;done) | (simp;omega)) (by rw [<-hr]<;>first | rfl | (simp [zl];done) | (simp_all [zl];done)) (by simp [ends])
  refine za (fun g2=>?_) fun g2=>?_
  ·simp only [ge_iff_le,decide_eq_true_eq] at g2
   have g3: ¬(0<=e.col/\e.col<row.length):=by omega
   have hM:zW row e l=zl:=by simp [zW,zy,hc,op, -not_and,g3]
   rw [hM] at hr
   exact zt (by first | trivial | (simp;done) | (simp;omega)) (by rw [<-hr]<;>first | rfl | (simp [zl];done) | (simp_all [zl];done)) (by simp [ends])
  ·simp only [ge_iff_le,decide_eq_false_iff_not] at g1 g2
   have g3:0<=e.col/\e.col<row.length:=by omega
   have hM:zW row e l=row.getD e.col.toNat default:=by simp only [zW,hc,op];simp [g3]
   rw [hM] at hr
   refine ⟨g3,?_⟩
   exact zt (by first | trivial | (simp;done) | (simp;omega)) (by rw [<-hr]<;>first | rfl | (simp [zl];done) | (simp_all [zl];done)) (by simp [ends])
 refine za (fun h11=>?_) fun h11=>?_
 ·have op:e.op=11:=by simpa using h11
  rw [op] at hk
  have hM:zW row e l=ua 7 ⟨1,0,ByteArray.empty⟩ (l.getD 0 default):=by simp [zW,zy,hc,op]
  rw [hM] at hr
  have hl:1<=l.length:=len1 (by simpa [yk] using hk)
  repeat (refine And.intro (by first | omega | (refine ⟨?_,?_⟩<;>omega)) ?_)
  refine ze [[0],[0,0,0],[0,0,0]] [] (c_rarith 7 ⟨1,0,ByteArray.empty⟩ (l.getD 0 default)) ?_
  simp -implicitDefEqProofs only [tabN,aV,↓zb,push_cast,simprocAttr,tte]
  exact zt (by first | trivial | (simp;done) | (simp;omega)) (by rw [<-hr]<;>first | rfl | (simp [zl];done) | (simp_all [zl];done)) (by simp [ends])
 refine za (fun h13=>?_) fun h13=>?_
 ·have op:e.op=13:=by simpa using h13
  rw [op] at hk
  have hl:1<=l.length:=len1 (by simpa [yk] using hk)
  repeat (refine And.intro (by first | omega | (refine ⟨?_,?_⟩<;>omega)) ?_)
  refine za (fun g=>?_) fun g=>?_
  ·have g1: ¬(l.getD 0 default).kind=3:=by simpa using g
   rw [List.getD_eq_getElem?_getD] at g1
   have hM:zW row e l=zl:=by simp [zW,zy,hc,op,g1]
   rw [hM] at hr
   exact zt (by first | trivial | (simp;done) | (simp;omega)) (by rw [<-hr]<;>first | rfl | (simp [zl];done) | (simp_all [zl];done)) (by simp [ends])
  ·refine ⟨by omega,by omega,by omega,by omega,?_⟩
   have g1:(l.getD 0 default).kind=3:=by simpa using g
   have g2:=g1
   rw [List.getD_eq_getElem?_getD] at g2
   have hM:zW row e l=⟨1,(l.getD 0 default).text.size,ByteArray.empty⟩:=by simp [zW,zy,hc,op,g2]
   rw [hM] at hr
   exact zt (by first | trivial | (simp;done) | (simp;omega)) (by rw [<-hr]<;>first | rfl | (simp [zl];done) | (simp_all [zl];done)) (by simp [ends])
 refine za (fun h14=>?_) fun h14=>?_
 ·have op:e.op=14:=by simpa using h14
  rw [op] at hk
  have hM:zW row e l=yE (l.getD 0 default) (l.getD 1 default):=by simp [zW,zy,hc,op]
  rw [hM] at hr
  have hl:2<=l.length:=len2 (by simpa [yk] using hk)
  repeat (refine And.intro (by first | omega | (refine ⟨?_,?_⟩<;>omega)) ?_)
  refine ze [[0,0,0],[0,0,0]] [] (gy (l.getD 0 default) (l.getD 1 default)) ?_
  simp -implicitDefEqProofs only [tabN,aV,↓zb,push_cast,simprocAttr,tte]
  refine ⟨zf (by kernel_rfl),?_⟩
  exact zt (by first | trivial | (simp;done) | (simp;omega)) (by rw [<-hr]<;>first | rfl | (simp [zl];done) | (simp_all [zl];done)) (by simp [ends])
 refine za (fun h15=>?_) fun h15=>?_
 ·have op:e.op=15:=by simpa using h15
  rw [op] at hk
  have hM:zW row e l=notM (yE (l.getD 0 default) (l.getD 1 default)):=by simp [zW,zy,hc,op]
  rw [hM] at hr
  have hl:2<=l.length:=len2 (by simpa [yk] using hk)
  repeat (refine And.intro (by first | omega | (refine ⟨?_,?_⟩<;>omega)) ?_)
  refine ze [[0,0,0],[0,0,0]] [] (gy (l.getD 0 default) (l.getD 1 default)) ?_
  simp -implicitDefEqProofs only [tabN,aV,↓zb,push_cast,simprocAttr,tte]
  refine ze [[0,0,0]] [] (c_rnot (yE (l.getD 0 default) (l.getD 1 default))) ?_
  simp -implicitDefEqProofs only [tabN,aV,↓zb,push_cast,simprocAttr,tte]
  refine ⟨zf (by kernel_rfl),?_⟩
  exact zt (by first | trivial | (simp;done) | (simp;omega)) (by rw [<-hr]<;>first | rfl | (simp [zl];done) | (simp_all [zl];done)) (by simp [ends])
 refine za (fun h16=>?_) fun h16=>?_
 ·have op:e.op=16:=by simpa using h16
  rw [op] at hk
  have hM:zW row e l=wI (l.getD 0 default) (l.getD 1 default):=by simp [zW,zy,hc,op]
  rw [hM] at hr
  have hl:2<=l.length:=len2 (by simpa [yk] using hk)
  repeat (refine And.intro (by first | omega | (refine ⟨?_,?_⟩<;>omega)) ?_)
  refine ze [[0,0,0],[0,0,0]] [] (c_rless (l.getD 0 default) (l.getD 1 default)) ?_
  simp -implicitDefEqProofs only [tabN,aV,↓zb,push_cast,simprocAttr,tte]
  refine ⟨zf (by kernel_rfl),?_⟩
  exact zt (by first | trivial | (simp;done) | (simp;omega)) (by rw [<-hr]<;>first | rfl | (simp [zl];done) | (simp_all [zl];done)) (by simp [ends])
 refine za (fun h17=>?_) fun h17=>?_
 ·have op:e.op=17:=by simpa using h17
  rw [op] at hk
  have hM:zW row e l=notM (wI (l.getD 1 default) (l.getD 0 default)):=by simp [zW,zy,hc,op]
  rw [hM] at hr
  have hl:2<=l.length:=len2 (by simpa [yk] using hk)
  repeat (refine And.intro (by first | omega | (refine ⟨?_,?_⟩<;>omega)) ?_)
  refine ze [[0,0,0],[0,0,0]] [] (c_rless (l.getD 1 default) (l.getD 0 default)) ?_
  simp -implicitDefEqProofs only [tabN,aV,↓zb,push_cast,simprocAttr,tte]
  refine ze [[0,0,0]] [] (c_rnot (wI (l.getD 1 default) (l.getD 0 default))) ?_
  simp -implicitDefEqProofs only [tabN,aV,↓zb,push_cast,simprocAttr,tte]
  refine ⟨zf (by kernel_rfl),?_⟩
  exact zt (by first | trivial | (simp;done) | (simp;omega)) (by rw [<-hr]<;>first | rfl | (simp [zl];done) | (simp_all [zl];done)) (by simp [ends])
 refine za (fun h18=>?_) fun h18=>?_
 ·have op:e.op=18:=by simpa using h18
  rw [op] at hk
  have hM:zW row e l=wI (l.getD 1 default) (l.getD 0 default):=by simp [zW,zy,hc,op]
  rw [hM] at hr
  have hl:2<=l.length:=len2 (by simpa [yk] using hk)
  repeat (refine And.intro (by first | omega | (refine ⟨?_,?_⟩<;>omega)) ?_)
  refine ze [[0,0,0],[0,0,0]] [] (c_rless (l.getD 1 default) (l.getD 0 default)) ?_
  simp -implicitDefEqProofs only [tabN,aV,↓zb,push_cast,simprocAttr,tte]
  refine ⟨zf (by kernel_rfl),?_⟩
  exact zt (by first | trivial | (simp;done) | (simp;omega)) (by rw [<-hr]<;>first | rfl | (simp [zl];done) | (simp_all [zl];done)) (by simp [ends])
 refine za (fun h19=>?_) fun h19=>?_
 ·have op:e.op=19:=by simpa using h19
  rw [op] at hk
  have hM:zW row e l=notM (wI (l.getD 0 default) (l.getD 1 default)):=by simp [zW,zy,hc,op]
  rw [hM] at hr
  have hl:2<=l.length:=len2 (by simpa [yk] using hk)
  repeat (refine And.intro (by first | omega | (refine ⟨?_,?_⟩<;>omega)) ?_)
  refine ze [[0,0,0],[0,0,0]] [] (c_rless (l.getD 0 default) (l.getD 1 default)) ?_
  simp -implicitDefEqProofs only [tabN,aV,↓zb,push_cast,simprocAttr,tte]
  refine ze [[0,0,0]] [] (c_rnot (wI (l.getD 0 default) (l.getD 1 default))) ?_
  simp -implicitDefEqProofs only [tabN,aV,↓zb,push_cast,simprocAttr,tte]
  refine ⟨zf (by kernel_rfl),?_⟩
  exact zt (by first | trivial | (simp;done) | (simp;omega)) (by rw [<-hr]<;>first | rfl | (simp [zl];done) | (simp_all [zl];done)) (by simp [ends])
 refine za (fun h20=>?_) fun h20=>?_
 ·have op:e.op=20:=by simpa using h20
  rw [op] at hk
  have hM:zW row e l=ofV (wW (l.getD 0 default) (l.getD 1 default)):=by simp [zW,zy,hc,op]
  rw [hM] at hr
  have hl:2<=l.length:=len2 (by simpa [yk] using hk)
  repeat (refine And.intro (by first | omega | (refine ⟨?_,?_⟩<;>omega)) ?_)
  refine ze [[0,0,0],[0,0,0]] [] (c_rsame (l.getD 0 default) (l.getD 1 default)) ?_
  simp -implicitDefEqProofs only [tabN,aV,↓zb,push_cast,simprocAttr,tte]
  refine ze [[0]] [] (c_of (wW (l.getD 0 default) (l.getD 1 default))) ?_
  simp -implicitDefEqProofs only [tabN,aV,↓zb,push_cast,simprocAttr,tte]
  refine ⟨zf (by kernel_rfl),?_⟩
  exact zt (by first | trivial | (simp;done) | (simp;omega)) (by rw [<-hr]<;>first | rfl | (simp [zl];done) | (simp_all [zl];done)) (by simp [ends])
 refine za (fun h21=>?_) fun h21=>?_
 ·have op:e.op=21:=by simpa using h21
  rw [op] at hk
  have hM:zW row e l=ofV ((l.getD 0 default).kind==0):=by simp [zW,zy,hc,op]
  rw [hM] at hr
  have hl:1<=l.length:=len1 (by simpa [yk] using hk)
  repeat (refine And.intro (by first | omega | (refine ⟨?_,?_⟩<;>omega)) ?_)
  refine ze [[0]] [] (c_of ((l.getD 0 default).kind==0)) ?_
  simp -implicitDefEqProofs only [tabN,aV,↓zb,push_cast,simprocAttr,tte]
  exact zt (by first | trivial | (simp;done) | (simp;omega)) (by rw [<-hr]<;>first | rfl | (simp [zl];done) | (simp_all [zl];done)) (by simp [ends])
 refine za (fun h22=>?_) fun h22=>?_
 ·have op:e.op=22:=by simpa using h22
  rw [op] at hk
  have hM:zW row e l=andM (l.getD 0 default) (l.getD 1 default):=by simp [zW,zy,hc,op]
  rw [hM] at hr
  have hl:2<=l.length:=len2 (by simpa [yk] using hk)
  repeat (refine And.intro (by first | omega | (refine ⟨?_,?_⟩<;>omega)) ?_)
  refine ze [[0,0,0],[0,0,0]] [] (c_rand (l.getD 0 default) (l.getD 1 default)) ?_
  simp -implicitDefEqProofs only [tabN,aV,↓zb,push_cast,simprocAttr,tte]
  refine ⟨zf (by kernel_rfl),?_⟩
  exact zt (by first | trivial | (simp;done) | (simp;omega)) (by rw [<-hr]<;>first | rfl | (simp [zl];done) | (simp_all [zl];done)) (by simp [ends])
 refine za (fun h23=>?_) fun h23=>?_
 ·have op:e.op=23:=by simpa using h23
  rw [op] at hk
  have hM:zW row e l=orM (l.getD 0 default) (l.getD 1 default):=by simp [zW,zy,hc,op]
  rw [hM] at hr
  have hl:2<=l.length:=len2 (by simpa [yk] using hk)
  repeat (refine And.intro (by first | omega | (refine ⟨?_,?_⟩<;>omega)) ?_)
  refine ze [[0,0,0],[0,0,0]] [] (c_ror (l.getD 0 default) (l.getD 1 default)) ?_
  simp -implicitDefEqProofs only [tabN,aV,↓zb,push_cast,simprocAttr,tte]
  refine ⟨zf (by kernel_rfl),?_⟩
  exact zt (by first | trivial | (simp;done) | (simp;omega)) (by rw [<-hr]<;>first | rfl | (simp [zl];done) | (simp_all [zl];done)) (by simp [ends])
 refine za (fun h24=>?_) fun h24=>?_
 ·have op:e.op=24:=by simpa using h24
  rw [op] at hk
  have hM:zW row e l=notM (l.getD 0 default):=by simp [zW,zy,hc,op]
  rw [hM] at hr
  have hl:1<=l.length:=len1 (by simpa [yk] using hk)
  repeat (refine And.intro (by first | omega | (refine ⟨?_,?_⟩<;>omega)) ?_)
  refine ze [[0,0,0]] [] (c_rnot (l.getD 0 default)) ?_
  simp -implicitDefEqProofs only [tabN,aV,↓zb,push_cast,simprocAttr,tte]
  exact zt (by first | trivial | (simp;done) | (simp;omega)) (by rw [<-hr]<;>first | rfl | (simp [zl];done) | (simp_all [zl];done)) (by simp [ends])
 refine za (fun h25=>?_) fun h25=>?_
 ·have op:e.op=25:=by simpa using h25
  rw [op] at hk
  have hM:zW row e l=ofV (zQ (l.getD 0 default)==1):=by simp [zW,zy,hc,op]
  rw [hM] at hr
  have hl:1<=l.length:=len1 (by simpa [yk] using hk)
  repeat (refine And.intro (by first | omega | (refine ⟨?_,?_⟩<;>omega)) ?_)
  refine ze [[0,0,0]] [] (vP (l.getD 0 default)) ?_
  simp -implicitDefEqProofs only [tabN,aV,↓zb,push_cast,simprocAttr,tte]
  refine ze [[0]] [] (c_of (zQ (l.getD 0 default)==1)) ?_
  simp -implicitDefEqProofs only [tabN,aV,↓zb,push_cast,simprocAttr,tte]
  exact zt (by first | trivial | (simp;done) | (simp;omega)) (by rw [<-hr]<;>first | rfl | (simp [zl];done) | (simp_all [zl];done)) (by simp [ends])
 refine za (fun h26=>?_) fun h26=>?_
 ·have op:e.op=26:=by simpa using h26
  rw [op] at hk
  have hl:3≤l.length:=by have:(l.length:Int)=3:=by simpa [yk] using hk
                         omega
  repeat (refine And.intro (by first | omega | (refine ⟨?_,?_⟩<;>omega)) ?_)
  refine ze [[0,0,0]] [] (vP (l.getD 0 default)) ?_
  simp -implicitDefEqProofs only [tabN,aV,↓zb,push_cast,simprocAttr,tte]
  refine za (fun g=>?_) fun g=>?_
  ·have g1:zQ (l.getD 0 default)=1:=by simpa using g
   rw [List.getD_eq_getElem?_getD] at g1
   have hM:zW row e l=(l.getD 1 default):=by simp [zW,zy,hc,op,g1]
   rw [hM] at hr
   refine ⟨(by first | omega | trivial | (refine ⟨?_,?_⟩<;>first | omega | trivial | (refine ⟨?_,?_⟩<;>first | omega | trivial | (refine ⟨?_,?_⟩<;>first | omega | trivial | rfl)))),by omega,by omega,?_⟩
   exact zt (by first | trivial | (simp;done) | (simp;omega)) (by rw [<-hr]<;>first | rfl | (simp [zl];done) | (simp_all [zl];done)) (by simp [ends])
  ·have g1: ¬zQ (l.getD 0 default)=1:=by simpa using g
   rw [List.getD_eq_getElem?_getD] at g1
   have hM:zW row e l=(l.getD 2 default):=by simp [zW,zy,hc,op,g1]
   rw [hM] at hr
   refine ⟨(by first | omega | trivial | (refine ⟨?_,?_⟩<;>first | omega | trivial | (refine ⟨?_,?_⟩<;>first | omega | trivial | (refine ⟨?_,?_⟩<;>first | omega | trivial | rfl)))),by omega,by omega,?_⟩
   exact zt (by first | trivial | (simp;done) | (simp;omega)) (by rw [<-hr]<;>first | rfl | (simp [zl];done) | (simp_all [zl];done)) (by simp [ends])
 refine za (fun h27=>?_) fun h27=>?_
 ·have op:e.op=27:=by simpa using h27
  rw [op] at hk
  have hl:2<=l.length:=len2 (by simpa [yk] using hk)
  repeat (refine And.intro (by first | omega | (refine ⟨?_,?_⟩<;>omega)) ?_)
  refine za (fun g=>?_) fun g=>?_
  ·have g1: ¬(l.getD 0 default).kind=0:=by simpa using g
   rw [List.getD_eq_getElem?_getD] at g1
   have hM:zW row e l=(l.getD 0 default):=by simp [zW,zy,hc,op,g1]
   rw [hM] at hr
   refine ⟨(by first | omega | trivial | (refine ⟨?_,?_⟩<;>first | omega | trivial | (refine ⟨?_,?_⟩<;>first | omega | trivial | (refine ⟨?_,?_⟩<;>first | omega | trivial | rfl)))),by omega,by omega,?_⟩
   exact zt (by first | trivial | (simp;done) | (simp;omega)) (by rw [<-hr]<;>first | rfl | (simp [zl];done) | (simp_all [zl];done)) (by simp [ends])
  ·have g1:(l.getD 0 default).kind=0:=by simpa using g
   rw [List.getD_eq_getElem?_getD] at g1
   have hM:zW row e l=(l.getD 1 default):=by simp [zW,zy,hc,op,g1]
   rw [hM] at hr
   refine ⟨(by first | omega | trivial | (refine ⟨?_,?_⟩<;>first | omega | trivial | (refine ⟨?_,?_⟩<;>first | omega | trivial | (refine ⟨?_,?_⟩<;>first | omega | trivial | rfl)))),by omega,by omega,?_⟩
   exact zt (by first | trivial | (simp;done) | (simp;omega)) (by rw [<-hr]<;>first | rfl | (simp [zl];done) | (simp_all [zl];done)) (by simp [ends])
 refine za (fun h28=>?_) fun h28=>?_
 ·have op:e.op=28:=by simpa using h28
  rw [op] at hk
  have hl0:2≤l.length:=by have:(l.length:Int)≥2:=by simpa [yk] using hk
                          omega
  have hM:zW row e l=inM (l.getD 0 default) (yE (l.getD 0 default) (l.getD 1 default)) (l.drop 2):=by
   simp only [zW,hc,op]
   show inM (l.getD 0 default) (ofV false) (l.drop 1)=_
   rw [z8 _ 1 (by omega),inM,orM_false]
  rw [hM] at hr
  generalize hv0:l.getD 0 default=v0 at hr ⊢
  have hacc: ∃acc:Nat->Val,acc 2=yE v0 (l.getD 1 default)/\(∀n,n<l.length->2<=n->acc (n+1)=orM (acc n) (yE v0 (l.getD n default)))/\acc l.length=inM v0 (yE v0 (l.getD 1 default)) (l.drop 2):=by
   refine ⟨fun n=>inM v0 (yE v0 (l.getD 1 default)) ((l.drop 2).take (n-2)),by simp [inM],fun n h1 h2=>?_,?_⟩
   ·have e1:n+1-2=(n-2)+1:=by omega
    have e2:(l.drop 2).getD (n-2) default=l.getD n default:=by
     simp only [List.getD_eq_getElem?_getD,List.getElem?_drop]
     rw [show 2+(n-2)=n by omega]
    simp only []
    rw [e1,z7 _ _ (by simp;omega),inM_snoc,e2]
   ·simp only []
    rw [List.take_of_length_le (by simp)]
  obtain ⟨acc,ha2,has,haN⟩:=hacc
  rw [<-haN] at hr
  repeat (refine And.intro (by first | omega | (refine ⟨?_,?_⟩<;>omega)) ?_)
  refine ze [[0,0,0],[0,0,0]] [] (gy v0 (l.getD 1 default)) ?_
  simp -implicitDefEqProofs only [tabN,aV,↓zb,push_cast,simprocAttr,tte]
  refine ⟨zf (by kernel_rfl),?_⟩
  rw [<-ha2]
  refine zI mixed ttok (fun n:Nat=>(⟨[(8,.d (.lit (.int .i64 n))),(5,.vec 500 l.length),(4,.ptr 4 0),(7,.ptr 7 0)],[(500,.vec 71 3 (zd rV l) 0),(7,.var [.d (.lit (.int .i64 (acc n).kind)),.d (.lit (.int .i64 (acc n).num)),.d (.lit (.string (acc n).text))]),(4,.var [.d (.lit (.int .i64 0)),.d (.lit (.int .i64 0)),.d (.lit (.string ByteArray.empty))])]⟩:SL)) (fun n=>l.length-n) (fun n=>2<=n/\n<=l.length) 2 ⟨by omega,by omega⟩ ?_ ?_
  ·exact Weak.keepL (by simp [hl2,ends]) (by simp [ends]) (by simp [ends])
  intro I hI n ⟨hn1,hn⟩
  simp -implicitDefEqProofs only [↓zb,push_cast,simprocAttr,tte]
  refine za (fun h=>?_) fun h=>?_
  ·simp only [decide_eq_true_eq] at h
   have h':n<l.length:=by omega
   have hw:=zj h' (by omega)
   repeat (refine And.intro (by first | omega | (refine ⟨?_,?_⟩<;>omega)) ?_)
   simp only [hv0]
   refine ze [[0,0,0],[0,0,0]] [] (gy v0 (l.getD n default)) ?_
   simp -implicitDefEqProofs only [tabN,aV,↓zb,push_cast,simprocAttr,tte]
   refine ze [[0,0,0],[0,0,0]] [] (c_ror (acc n) (yE v0 (l.getD n default))) ?_
   simp -implicitDefEqProofs only [tabN,aV,↓zb,push_cast,simprocAttr,tte]
   refine ⟨zf (by kernel_rfl),?_⟩
   rw [<-has n h' hn1]
   exact zm hI (n+1) ⟨by omega,by omega⟩ (by show l.length-(n+1)<l.length-n;omega) (Weak.keepL (by simp [hw,ends]) (by simp [ends]) (by simp [ends]))
  ·simp only [decide_eq_false_iff_not] at h
   obtain rfl:n=l.length:=by omega
   exact zt (by first | trivial | (simp;done) | (simp;omega)) (by rw [<-hr]<;>first | rfl | (simp [zl];done) | (simp_all [zl];done)) (by simp [ends])
 have hcase:e.op=6\/e.op=7\/e.op=8\/e.op=9\/e.op=10\/e.op=12:=by
  simp only [beq_eq_false_iff_ne,ne_eq] at h1 h2 h3 h4 h5 h11 h13 h14 h15 h16 h17 h18 h19 h20 h21 h22 h23 h24 h25 h26 h27 h28
  omega
 have hl0:2<=l.length:=by
  rcases hcase with h | h | h | h | h | h<;>rw [h] at hk<;>exact len2 (by simpa [yk] using hk)
 have hM:zW row e l=ua e.op (l.getD 0 default) (l.getD 1 default):=by
  rcases hcase with h | h | h | h | h | h<;>simp [zW,zy,hc,h]
 rw [hM] at hr
 repeat (refine And.intro (by first | omega | (refine ⟨?_,?_⟩<;>omega)) ?_)
 refine ze [[0],[0,0,0],[0,0,0]] [] (c_rarith e.op (l.getD 0 default) (l.getD 1 default)) ?_
 simp -implicitDefEqProofs only [tabN,aV,↓zb,push_cast,simprocAttr,tte]
 refine ⟨zf (by kernel_rfl),?_⟩
 exact zt (by first | trivial | (simp;done) | (simp;omega)) (by rw [<-hr]<;>first | rfl | (simp [zl];done) | (simp_all [zl];done)) (by simp [ends])
end
section
open Go.Am
attribute [local simp, local push_cast] num boo str ints aV aTab zv aS aT aC aRow rRow
def cmpR:List Val->List Val->Int
 | [],[]=>0
 | [],_::_=> -1
 | _::_,[]=>1
 | x::a,y::b=>if cmpM x y≠0 then cmpM x y else cmpR a b
theorem go {a b:List Val} {n:Nat} (ha:n<=a.length) (hb:n<=b.length) (h:n=a.length\/n=b.length):
 cmpR (a.drop n) (b.drop n)=if a.length<b.length then -1 else if a.length>b.length then 1 else 0:=by
 rcases h with rfl | rfl
 ·rw [List.drop_length]
  by_cases h2:a.length<b.length
  ·rw [z8 _ _ h2,if_pos h2];rfl
  ·have:b.drop a.length=[]:=List.drop_eq_nil_of_le (by omega)
   rw [this,if_neg h2,if_neg (by omega)];rfl
 ·rw [List.drop_length]
  by_cases h2:b.length<a.length
  ·rw [z8 _ _ h2,if_neg (by omega),if_pos h2];rfl
  ·have:a.drop b.length=[]:=List.drop_eq_nil_of_le (by omega)
   rw [this,if_neg (by omega),if_neg (by omega)];rfl
theorem ju (a b:List Val) (ha:a.length≤1000000):ACall Tryz.prog 40 [aRow a,aRow b] [] (num (cmpR a b)) []:=by
 refine zn mixed ttok Tryz.func40 Tryz.ntmps40 Tryz.results40 ?_
 generalize hr:num (cmpR a b)=R
 simp -implicitDefEqProofs only [argT,↓zb,push_cast,simprocAttr,tte]
 refine zI mixed ttok (fun n:Nat=>(⟨[(5,.d (.lit (.int .i64 n))),(0,aRow a),(1,aRow b)],[]⟩:SL)) (fun n=>a.length-n) (fun n=>n<=a.length/\n<=b.length/\cmpR (a.drop n) (b.drop n)=cmpR a b) 0 ⟨Nat.zero_le _,Nat.zero_le _,rfl⟩ ?_ ?_
 ·exact Weak.keepL (by simp [ends]) (by simp [ends]) (by simp [ends])
 intro I hI n ⟨hn,hn2,hi⟩
 simp -implicitDefEqProofs only [↓zb,push_cast,simprocAttr,tte]
 refine za (fun h1=>?_) fun h1=>?_
 ·simp only [decide_eq_true_eq] at h1
  have h1':n<a.length:=by omega
  refine za (fun h2=>?_) fun h2=>?_
  ·simp only [decide_eq_true_eq] at h2
   have h2':n<b.length:=by omega
   have hw:=zj h1' (by omega)
   rw [z8 _ _ h1',z8 _ _ h2',cmpR] at hi
   refine ⟨⟨by omega,h1⟩,⟨by omega,h2⟩,?_⟩
   refine ze [[0,0,0],[0,0,0]] [] (qD (a.getD n default) (b.getD n default)) ?_
   simp -implicitDefEqProofs only [↓zb,push_cast,simprocAttr,tte]
   refine ⟨zf (by kernel_rfl),?_⟩
   refine za (fun g=>?_) fun g=>?_
   ·rw [if_pos (by simpa using g)] at hi
    exact zi trivial (by rw [<-hr,<-hi];rfl) (by simp [ends])
   ·rw [if_neg (by simpa using g)] at hi
    exact zm hI (n+1) ⟨h1',h2',hi⟩ (by show a.length-(n+1)<a.length-n;omega) (Weak.keepL (by simp [hw,ends]) (by simp [ends]) (by simp [ends]))
  ·simp only [decide_eq_false_iff_not] at h2
   rw [go hn hn2 (.inr (by omega))] at hi
   refine za (fun k1=>?_) fun k1=>?_
   ·simp only [decide_eq_true_eq] at k1
    exact zi trivial (by rw [<-hr,<-hi,if_pos (by omega)];rfl) (by simp [ends])
   refine za (fun k2=>?_) fun k2=>?_
   ·simp only [decide_eq_false_iff_not,gt_iff_lt,decide_eq_true_eq] at k1 k2
    exact zi trivial (by rw [<-hr,<-hi,if_neg (by omega),if_pos (by omega)];rfl) (by simp [ends])
   ·simp only [decide_eq_false_iff_not,gt_iff_lt] at k1 k2
    exact zi trivial (by rw [<-hr,<-hi,if_neg (by omega),if_neg (by omega)];rfl) (by simp [ends])
 ·simp only [decide_eq_false_iff_not] at h1
  rw [go hn hn2 (.inl (by omega))] at hi
  refine za (fun k1=>?_) fun k1=>?_
  ·simp only [decide_eq_true_eq] at k1
   exact zi trivial (by rw [<-hr,<-hi,if_pos (by omega)];rfl) (by simp [ends])
  refine za (fun k2=>?_) fun k2=>?_
  ·simp only [decide_eq_false_iff_not,gt_iff_lt,decide_eq_true_eq] at k1 k2
   exact zi trivial (by rw [<-hr,<-hi,if_neg (by omega),if_pos (by omega)];rfl) (by simp [ends])
  ·simp only [decide_eq_false_iff_not,gt_iff_lt] at k1 k2
   exact zi trivial (by rw [<-hr,<-hi,if_neg (by omega),if_neg (by omega)];rfl) (by simp [ends])
end
section
open Go.Am
attribute [local simp, local push_cast] num boo str ints aV aTab zv aS aT aC aRow rRow
theorem yI: ∀a:Row,cmpR a a=0
 | []=>rfl
 | x::a=>by rw [cmpR,(wv x x).2 rfl,if_neg (by decide)];exact yI a
theorem ul: ∀(a b:Row),cmpR a b=0 ↔ a=b
 | [],[]=>by simp [cmpR]
 | [],_::_=>by simp [cmpR]
 | _::_,[]=>by simp [cmpR]
 | x::a,y::b=>by
   have ih:=ul a b
   have h1:=wv x y
   simp only [cmpR,List.cons.injEq]
   by_cases h:cmpM x y=0
   ·rw [if_neg (by simpa using h),ih,<-h1];simp [h]
   ·rw [if_pos h]
    exact ⟨fun e=>absurd e h,fun e=>absurd (h1.2 e.1) h⟩
theorem cmpR_le: ∀a b:Row,cmpR a b<=0 ↔ ¬cmpR b a<0
 | [],[]=>by simp [cmpR]
 | [],_::_=>by simp [cmpR]
 | _::_,[]=>by simp [cmpR]
 | x::a,y::b=>by
   have ih:=cmpR_le a b
   have h1:=gp x y
   simp only [cmpR]
   by_cases h:cmpM x y=0
   ·have hxy:=(wv x y).1 h
    subst hxy
    simp only [h,ne_eq,not_true_eq_false,if_false]
    exact ih
   ·have h':cmpM y x≠0:=fun e=>h ((wv x y).2 ((wv y x).1 e).symm)
    rw [if_pos h,if_pos h']
    exact h1
theorem qB: ∀a b c:Row,cmpR a b<0→cmpR b c<0→cmpR a c<0
 | [],[],_,h,_=>by simp [cmpR] at h
 | [],_::_,[],_,h=>by simp [cmpR] at h
 | [],_::_,_::_,_,_=>by simp [cmpR]
 | _::_,[],_,h,_=>by simp [cmpR] at h
 | _::_,_::_,[],_,h=>by simp [cmpR] at h
 | x::a,y::b,z::c,h1,h2=>by
   have ih:=qB a b c
   simp only [cmpR] at h1 h2 ⊢
   by_cases hxy:cmpM x y=0
   ·have e:=(wv x y).1 hxy
    subst e
    rw [if_neg (by simpa using hxy)] at h1
    by_cases hyz:cmpM x z=0
    ·rw [if_neg (by simpa using hyz)] at h2 ⊢
     exact ih h1 h2
    ·rw [if_pos hyz] at h2 ⊢
     exact h2
   ·rw [if_pos hxy] at h1
    by_cases hyz:cmpM y z=0
    ·have e:=(wv y z).1 hyz
     subst e
     rw [if_pos hxy]
     exact h1
    ·rw [if_pos hyz] at h2
     have h3:=qC h1 h2
     rw [if_pos (by omega)]
     exact h3
def leR (x y:Row):Bool:=decide (cmpR x y<=0)
theorem uj (a b:Row):leR a b=true ↔ cmpR a b<=0:=by simp [leR]
theorem leR_false (a b:Row):leR a b=false ↔ cmpR b a<0:=by
 have:=cmpR_le a b
 simp only [leR,decide_eq_false_iff_not]
 omega
theorem ordR:Ord leR where
 trans a b c h1 h2:=by
  rw [uj] at *
  by_cases e1:cmpR a b=0
  ·rw [(ul a b).1 e1];exact h2
  by_cases e2:cmpR b c=0
  ·rw [<-(ul b c).1 e2];exact h1
  have:=qB a b c (by omega) (by omega)
  omega
 total a b:=by
  cases h:leR a b with
  | true=>rfl
  | false=>
    have:=(leR_false a b).1 h
    simp only [Bool.false_or,uj]
    omega
theorem leR_anti {a b:Row} (h1:leR a b=true) (h2:leR b a=true):a=b:=by
 rw [uj] at *
 have:=cmpR_le b a
 exact (ul a b).1 (by omega)
abbrev srt (l:List Row):List Row:=yg leR l
theorem asc_uniq {a b:List Row} (ha:Asc leR a) (hb:Asc leR b) (h:a.Perm b):a=b:=
 h.eq_of_pairwise (fun x y _ _ h1 h2=>leR_anti h1 h2) ha hb
theorem qJ {a b:List Row} (h:a.Perm b):srt a=srt b:=asc_uniq (yR ordR a) (yR ordR b) ((zA a).trans (h.trans (zA b).symm))
def canF:Nat->List Row->List Row
 | 0,rows=>rows
 | n+1,rows=>if rows.length<2 then rows else List.merge (canF n (rows.take (rows.length / 2))) (canF n (rows.drop (rows.length / 2))) leR
theorem srt_short {l:List Row} (h:l.length<2):srt l=l:=by
 match l,h with
 | [],_=>rfl
 | [x],_=>exact ssort_one x
theorem gv: ∀(n:Nat) (l:List Row),l.length<=n+1->canF n l=srt l
 | 0,l,h=>by rw [canF,srt_short (by omega)]
 | n+1,l,h=>by
   rw [canF]
   split
   ·exact (srt_short (by assumption)).symm
   ·rw [gv n _ (by simp;omega),gv n _ (by simp;omega),wT ordR,List.take_append_drop]
structure Grp where
 row:Row
 m:Nat
 n:Nat
instance:Inhabited Grp:=⟨⟨[],0,0⟩⟩
def rG (g:Grp):List D:=[.sl 3 (zd rV g.row),.lit (.int .i64 g.m),.lit (.int .i64 g.n)]
def cntR (r:Row) (l:List Row):Nat:=(l.takeWhile fun x=>cmpR x r==0).length
theorem wN (r x:Row) (l:List Row):cntR r (x::l)=if cmpR x r=0 then cntR r l+1 else 0:=by
 unfold cntR
 rw [List.takeWhile_cons]
 by_cases h:cmpR x r=0<;>simp [h]
theorem xq (r:Row) (l:List Row):cntR r l<=l.length:=(List.takeWhile_prefix _).length_le
theorem cntR_in (r:Row): ∀(l:List Row) (j:Nat),j<cntR r l->cmpR (l.getD j default) r=0
 | [],j,h=>by simp [cntR] at h
 | x::l,j,h=>by
   rw [wN] at h
   split at h
   ·rename_i hx
    cases j with
    | zero=>simpa using hx
    | succ j=>simpa using cntR_in r l j (by omega)
   ·omega
theorem cntR_out (r:Row): ∀(l:List Row),cntR r l<l.length->cmpR (l.getD (cntR r l) default) r≠0
 | [],h=>by simp at h
 | x::l,h=>by
   rw [wN] at h ⊢
   split at h
   ·rename_i hx
    rw [if_pos hx]
    simpa using cntR_out r l (by simpa using h)
   ·rename_i hx
    rw [if_neg hx]
    simpa using hx
def yb:List Row->List Row->Row
 | [],[]=>[]
 | [],y::_=>y
 | x::_,[]=>x
 | x::_,y::_=>if leR x y=true then x else y
def grpF:Nat->List Row->List Row->List Grp
 | 0,_,_=>[]
 | n+1,X,Y=>if X.length=0/\Y.length=0 then [] else ⟨yb X Y,cntR (yb X Y) X,cntR (yb X Y) Y⟩::grpF n (X.drop (cntR (yb X Y) X)) (Y.drop (cntR (yb X Y) Y))
theorem wG (X Y:List Row) (h: ¬(X.length=0/\Y.length=0)):0<cntR (yb X Y) X+cntR (yb X Y) Y:=by
 match X,Y,h with
 | [],[],h=>exact absurd ⟨rfl,rfl⟩ h
 | [],y::Y,_=>rw [yb,wN,if_pos (yI y)];omega
 | x::X,[],_=>rw [yb,wN,if_pos (yI x)];omega
 | x::X,y::Y,_=>
   rw [yb]
   split
   ·rw [wN,if_pos (yI x)];omega
   ·rw [wN (x:=y),if_pos (yI y)];omega
theorem grpF_fuel: ∀(n m:Nat) (X Y:List Row),X.length+Y.length<=n->X.length+Y.length<=m->grpF n X Y=grpF m X Y
 | 0,0,_,_,_,_=>rfl
 | 0,m+1,X,Y,h1,_=>by rw [grpF,grpF,if_pos (by omega)]
 | n+1,0,X,Y,_,h2=>by rw [grpF,grpF,if_pos (by omega)]
 | n+1,m+1,X,Y,h1,h2=>by
   rw [grpF,grpF]
   split
   ·rfl
   ·rename_i h
    have h3:=wG X Y h
    have h4:=xq (yb X Y) X
    have h5:=xq (yb X Y) Y
    rw [grpF_fuel n m _ _ (by simp;omega) (by simp;omega)]
def grpM (X Y:List Row):List Grp:=grpF (X.length+Y.length) X Y
theorem ge:grpM [] []=[]:=rfl
theorem vq {X Y:List Row} (h: ¬(X.length=0/\Y.length=0)):
 grpM X Y=⟨yb X Y,cntR (yb X Y) X,cntR (yb X Y) Y⟩::grpM (X.drop (cntR (yb X Y) X)) (Y.drop (cntR (yb X Y) Y)):=by
 have h3:=wG X Y h
 have h4:=xq (yb X Y) X
 have h5:=xq (yb X Y) Y
 have e:X.length+Y.length=(X.length+Y.length-1)+1:=by omega
 unfold grpM
 rw [e,grpF,if_neg h]
 simp only [List.length_drop]
 rw [grpF_fuel (X.length+Y.length-1) (X.length-cntR (yb X Y) X+(Y.length-cntR (yb X Y) Y)) _ _ (by simp only [List.length_drop];omega) (by simp only [List.length_drop];omega)]
theorem kp: ∀(n:Nat) (X Y:List Row),X.length+Y.length<=n->(grpM X Y).length<=X.length+Y.length
 | 0,X,Y,h=>by
   have h1:X=[]:=List.eq_nil_of_length_eq_zero (by omega)
   have h2:Y=[]:=List.eq_nil_of_length_eq_zero (by omega)
   subst h1 h2
   exact Nat.le_refl _
 | n+1,X,Y,h=>by
   by_cases h0:X.length=0/\Y.length=0
   ·have h1:X=[]:=List.eq_nil_of_length_eq_zero h0.1
    have h2:Y=[]:=List.eq_nil_of_length_eq_zero h0.2
    subst h1 h2
    exact Nat.le_refl _
   ·have h3:=wG X Y h0
    have h4:=xq (yb X Y) X
    have h5:=xq (yb X Y) Y
    have ih:=kp n (X.drop (cntR (yb X Y) X)) (Y.drop (cntR (yb X Y) Y)) (by simp;omega)
    rw [vq h0]
    simp only [List.length_cons,List.length_drop] at ih ⊢
    omega
theorem pick2_mem (X Y:List Row) (h: ¬(X.length=0/\Y.length=0)):yb X Y∈X++Y:=by
 match X,Y,h with
 | [],[],h=>exact absurd ⟨rfl,rfl⟩ h
 | [],y::Y,_=>simp [yb]
 | x::X,[],_=>simp [yb]
 | x::X,y::Y,_=>rw [yb];split<;>simp
theorem gf: ∀(n:Nat) (X Y:List Row),X.length+Y.length≤n→ ∀g∈grpM X Y,g.row∈X++Y∧g.m≤X.length∧g.n≤Y.length
 | 0,X,Y,h,g,hg=>by
   have h1:X=[]:=List.eq_nil_of_length_eq_zero (by omega)
   have h2:Y=[]:=List.eq_nil_of_length_eq_zero (by omega)
   subst h1 h2
   cases hg
 | n+1,X,Y,h,g,hg=>by
   by_cases h0:X.length=0/\Y.length=0
   ·have h1:X=[]:=List.eq_nil_of_length_eq_zero h0.1
    have h2:Y=[]:=List.eq_nil_of_length_eq_zero h0.2
    subst h1 h2
    cases hg
   ·have h3:=wG X Y h0
    have h4:=xq (yb X Y) X
    have h5:=xq (yb X Y) Y
    rw [vq h0] at hg
    rcases List.mem_cons.1 hg with rfl | hg
    ·exact ⟨pick2_mem X Y h0,h4,h5⟩
    ·obtain ⟨g1,g2,g3⟩:=gf n _ _ (by simp;omega) g hg
     simp only [List.length_drop] at g2 g3
     refine ⟨?_,by omega,by omega⟩
     rcases List.mem_append.1 g1 with q | q
     ·exact List.mem_append_left _ (List.mem_of_mem_drop q)
     ·exact List.mem_append_right _ (List.mem_of_mem_drop q)
def vN (t:Grp->Nat) (a b:List Row):List Row:=(grpM (srt a) (srt b)).flatMap fun g=>List.replicate (t g) g.row
def xz (all:Bool) (g:Grp):Nat:=if all then g.m+g.n else 1
def exceptT (all:Bool) (g:Grp):Nat:=if all then g.m-g.n else if 0<g.m/\g.n=0 then 1 else 0
def interT (all:Bool) (g:Grp):Nat:=if all then min g.m g.n else if 0<g.m/\0<g.n then 1 else 0
def distM (rows:List Row):List Row:=vN (xz false) rows []
theorem combM_perm (t:Grp->Nat) {a a' b b':List Row} (ha:a.Perm a') (hb:b.Perm b'):vN t a b=vN t a' b':=by
 unfold vN
 rw [qJ ha,qJ hb]
theorem distM_eq (l:List Row):distM l=(grpM (srt l) []).map (·.row):=by
 unfold distM vN xz
 rw [show srt []=[] from rfl]
 generalize grpM (srt l) []=G
 simp only [Bool.false_eq_true,if_false,List.replicate_one]
 induction G with
 | nil=>rfl
 | cons g G ih=>rw [List.flatMap_cons,ih];rfl
end
section
open Go.Am
attribute [local simp, local push_cast] num boo str ints aV aTab zv aS aT aC aRow rRow
theorem c_copied (r:List Val) (hl:r.length<=1000000):ACall Tryz.prog 80 [aRow r] [] (aRow r) []:=by
 suffices hS: ∀R,aRow r=R->ACall Tryz.prog 80 [aRow r] [] R [] from hS _ rfl
 intro R hr
 refine zn mixed ttok Tryz.func80 Tryz.ntmps80 Tryz.results80 ?_
 simp -implicitDefEqProofs only [argT,↓zb,push_cast,simprocAttr,tte]
 refine ⟨⟨by omega,Int.le_refl _,by omega⟩,by simp,?_⟩
 subst hr
 refine zu [3] rfl (by simp) (by simp [zc]<;>omega) ?_ (by first | rfl | simp [ends] | (subst_vars;simp [ends])) (by simp [ends]) (by simp [ends])
 rfl
end
section
open Go.Am
attribute [local simp, local push_cast] num boo str ints aV aTab zv aS aT aC aRow rRow
theorem kZ: ∀(n:Nat) (rows:List Row),(canF n rows).Perm rows
 | 0,rows=>List.Perm.refl _
 | n+1,rows=>by
   rw [canF]
   split
   ·exact List.Perm.refl _
   ·refine (List.merge_perm_append leR).trans ?_
    refine ((kZ n _).append (kZ n _)).trans ?_
    rw [List.take_append_drop]
theorem canF_short (n:Nat) {rows:List Row} (h:rows.length<2):canF n rows=rows:=by
 cases n with
 | zero=>rfl
 | succ n=>rw [canF,if_pos h]
theorem merge_l {α:Type} {x y:α} {a b:List α} {le:α->α->Bool} (h:le x y=true):List.merge (x::a) (y::b) le=x::List.merge a (y::b) le:=by
 rw [List.cons_merge_cons,if_pos h]
theorem merge_r {α:Type} {x y:α} {a b:List α} {le:α->α->Bool} (h:le x y=false):List.merge (x::a) (y::b) le=y::List.merge (x::a) b le:=by
 rw [List.cons_merge_cons,if_neg (by rw [h];decide)]
theorem c_canon1 (rows:List Row) (h2:rows.length<2) (hr1: ∀r∈rows,r.length<=1000):ACall Tryz.prog 39 [aTab rows] [] (aTab rows) []:=by
 suffices hS: ∀R,aTab rows=R->ACall Tryz.prog 39 [aTab rows] [] R [] from hS _ rfl
 intro R hr
 refine zn mixed ttok Tryz.func39 Tryz.ntmps39 Tryz.results39 ?_
 simp -implicitDefEqProofs only [argT,↓zb,push_cast,simprocAttr,tte]
 refine za (fun _=>?_) fun h=>absurd h (by simp;omega)
 refine zI mixed ttok (fun n:Nat=>(⟨[(4,.d (.lit (.int .i64 n))),(3,.vec 500 n),(0,aTab rows)],[(500,.vec 53 1 (zd rRow (rows.take n)) 0)]⟩:SL)) (fun n=>rows.length-n) (fun n=>n<=rows.length) 0 (Nat.zero_le _) ?_ ?_
 ·exact (Weak.nilL 3 500 53 1 rfl rfl).trans (Weak.keepL (by simp [ends]) (by simp [ends]) (by simp [ends]))
 intro I hI n hn
 have hl2:(rows.take n).length=n:=by simp;omega
 simp -implicitDefEqProofs only [↓zb,push_cast,simprocAttr,tte]
 refine za (fun h=>?_) fun h=>?_
 ·simp only [decide_eq_true_eq] at h
  have h':n<rows.length:=by omega
  have hw:=zj h' (by omega)
  refine ⟨⟨by omega,h⟩,?_⟩
  refine ze [[3]] [] (c_copied (rows.getD n default) (Nat.le_trans (hr1 _ (zk h')) (by decide))) ?_
  simp -implicitDefEqProofs only [↓zb,push_cast,simprocAttr,tte]
  have hrows:zd rRow (rows.take (n+1))=zd rRow (rows.take n)++[[.sl 3 (zd rV (rows.getD n default))]]:=by rw [z7 _ _ h',<-zh];rfl
  refine ⟨⟨hl2.symm,by omega⟩,?_⟩
  exact zm hI (n+1) h' (by show rows.length-(n+1)<rows.length-n;omega) (Weak.keepL (by simp [hw,hl2,ends]) (by simp [hrows,ends]) (by simp [ends]))
 ·simp only [decide_eq_false_iff_not] at h
  obtain rfl:n=rows.length:=by omega
  subst hr
  rw [List.take_length]
  refine zu [1] rfl (by simp) (by simp [zc]<;>omega) ?_ (by first | rfl | simp [ends] | (subst_vars;simp [ends])) (by simp [ends]) (by simp [ends])
  rfl
theorem c_canon2 (n:Nat) (rows:List Row) (h2: ¬rows.length<2) (hl:rows.length≤100000) (hr1: ∀r∈rows,r.length≤1000)
 (ih1:ACall Tryz.prog 39 [aTab (rows.take (rows.length / 2))] [] (aTab (canF n (rows.take (rows.length / 2)))) [])
 (ih2:ACall Tryz.prog 39 [aTab (rows.drop (rows.length / 2))] [] (aTab (canF n (rows.drop (rows.length / 2)))) []):
 ACall Tryz.prog 39 [aTab rows] [] (aTab (canF (n+1) rows)) []:=by
 rw [canF,if_neg h2]
 have p1:=kZ n (rows.take (rows.length / 2))
 have p2:=kZ n (rows.drop (rows.length / 2))
 have l1:=p1.length_eq
 have l2:=p2.length_eq
 have m1: ∀r∈canF n (rows.take (rows.length / 2)),r.length<=1000:=fun r h=>hr1 r (List.mem_of_mem_take (p1.mem_iff.1 h))
 generalize canF n (rows.take (rows.length / 2))=a at ih1 l1 m1 ⊢
 generalize canF n (rows.drop (rows.length / 2))=b at ih2 l2 ⊢
 simp only [List.length_take,List.length_drop] at l1 l2
 refine zn mixed ttok Tryz.func39 Tryz.ntmps39 Tryz.results39 ?_
 generalize hr:aTab (List.merge a b leR)=R
 have hq:IntKind.i64.wrap ((rows.length:Int).tdiv 2)=((rows.length / 2:Nat):Int):=by
  rw [Int.tdiv_eq_ediv_of_nonneg (by omega),zw (by omega) (by omega)];omega
 generalize hm:rows.length / 2=m at ih1 ih2 l1 l2 m1 hq
 simp -implicitDefEqProofs only [argT,hq,↓zb,push_cast,simprocAttr,tte]
 refine za (fun h=>absurd h (by simp;omega)) fun _=>?_
 have hma:((m:Int)).toNat=m:=by omega
 refine ⟨⟨by omega,by omega⟩,?_⟩
 refine ze [[1]] [] (ih1) ?_
 simp -implicitDefEqProofs only [hq,↓zb,push_cast,simprocAttr,tte]
 rw [List.take_length]
 refine ⟨⟨by omega,by omega,by omega⟩,?_⟩
 refine ze [[1]] [] (ih2) ?_
 simp -implicitDefEqProofs only [↓zb,push_cast,simprocAttr,tte]
 refine ⟨zf (by kernel_rfl),?_⟩
 have ha:a.length<=100000:=by omega
 have hb:b.length<=100000:=by omega
 clear ih1 ih2 p1 p2
 refine zI mixed ttok (fun x:Nat×Nat×List Row=>(⟨[(8,.d (.lit (.int .i64 x.1))),(9,.d (.lit (.int .i64 x.2.1))),(7,.vec 500 x.2.2.length),(5,aTab a),(6,aTab b)],[(500,.vec 53 1 (zd rRow x.2.2) 0)]⟩:SL)) (fun x=>a.length+b.length-(x.1+x.2.1))
  (fun x=>x.1<=a.length/\x.2.1<=b.length/\x.2.2.length=x.1+x.2.1/\x.2.2++List.merge (a.drop x.1) (b.drop x.2.1) leR=List.merge a b leR) (0,0,[]) ⟨Nat.zero_le _,Nat.zero_le _,rfl,rfl⟩ ?_ ?_
 ·exact (Weak.nilL 7 500 53 1 rfl rfl).trans (Weak.keepL (by simp [ends]) (by simp [ends]) (by simp [ends]))
 intro I hI ⟨i,k,out⟩ ⟨hi,hk,hol,hinv⟩
 simp only at hi hk hol hinv
 simp -implicitDefEqProofs only [↓zb,push_cast,simprocAttr,tte]
 have hrows: ∀r:Row,zd rRow out++[[D.sl 3 (zd rV r)]]=zd rRow (out++[r]):=fun r=>zh rRow out [r]
 have hlen: ∀r:Row,(out++[r]).length=out.length+1:=fun r=>by simp
 refine za (fun h1=>?_) fun h1=>?_
 ·simp only [decide_eq_true_eq] at h1
  have h1':i<a.length:=by omega
  have hwi:=zj h1' (by omega)
  rw [z8 _ _ h1'] at hinv
  refine za (fun g1=>?_) fun g1=>?_
  ·have hkb:k=b.length:=by simp at g1;omega
   have hinv2:(out++[a.getD i default])++List.merge (a.drop (i+1)) (b.drop k) leR=List.merge a b leR:=by
    have hbn:b.drop k=[]:=List.drop_eq_nil_of_le (by omega)
    rw [hbn,List.merge_right] at hinv ⊢
    rw [<-hinv,List.append_assoc];rfl
   refine ⟨zf (by kernel_rfl),⟨by omega,h1⟩,by omega,?_⟩
   exact zm hI (i+1,k,out++[a.getD i default]) ⟨h1',hk,by show (out++[a.getD i default]).length=i+1+k;rw [hlen];omega,hinv2⟩ (by show a.length+b.length-(i+1+k)<a.length+b.length-(i+k);omega)
    (Weak.keepL (by simp [hwi,ends]) (by simp [hrows,ends]) (by simp [ends]))
  ·have hkb:k<b.length:=by simp at g1;omega
   have hwk:=zj hkb (by omega)
   rw [z8 _ _ hkb] at hinv
   refine za (fun _=>?_) (fun h=>absurd h (by simp;omega))
   refine ⟨⟨by omega,h1⟩,⟨by omega,by omega⟩,?_⟩
   refine ze [[3],[3]] [] (ju (a.getD i default) (b.getD k default) (Nat.le_trans (m1 _ (zk h1')) (by decide))) ?_
   simp -implicitDefEqProofs only [↓zb,push_cast,simprocAttr,tte]
   refine ⟨zf (by kernel_rfl),?_⟩
   have hle:decide (cmpR (a.getD i default) (b.getD k default)<=0)=leR (a.getD i default) (b.getD k default):=rfl
   rw [hle]
   refine za (fun g2=>?_) fun g2=>?_
   ·rw [merge_l g2] at hinv
    refine ⟨⟨by omega,h1⟩,by omega,?_⟩
    exact zm hI (i+1,k,out++[a.getD i default]) ⟨h1',hk,by show (out++[a.getD i default]).length=i+1+k;rw [hlen];omega,by show (out++[a.getD i default])++List.merge (a.drop (i+1)) (b.drop k) leR=List.merge a b leR;rw [z8 b k hkb,<-hinv,List.append_assoc];rfl⟩ (by show a.length+b.length-(i+1+k)<a.length+b.length-(i+k);omega)
     (Weak.keepL (by simp [hwi,ends]) (by simp [hrows,ends]) (by simp [ends]))
   ·rw [merge_r g2] at hinv
    refine ⟨⟨by omega,by omega⟩,by omega,?_⟩
    exact zm hI (i,k+1,out++[b.getD k default]) ⟨hi,hkb,by show (out++[b.getD k default]).length=i+(k+1);rw [hlen];omega,by show (out++[b.getD k default])++List.merge (a.drop i) (b.drop (k+1)) leR=List.merge a b leR;rw [z8 a i h1',<-hinv,List.append_assoc];rfl⟩ (by show a.length+b.length-(i+(k+1))<a.length+b.length-(i+k);omega)
     (Weak.keepL (by simp [hwk,ends]) (by simp [hrows,ends]) (by simp [ends]))
 ·simp only [decide_eq_false_iff_not] at h1
  have hia:i=a.length:=by omega
  have han:a.drop i=[]:=List.drop_eq_nil_of_le (by omega)
  rw [han,List.nil_merge] at hinv
  refine za (fun g1=>?_) fun g1=>?_
  ·simp only [decide_eq_true_eq] at g1
   have hkb:k<b.length:=by omega
   have hwk:=zj hkb (by omega)
   rw [z8 _ _ hkb] at hinv
   refine za (fun h=>absurd h (by simp;omega)) (fun _=>?_)
   refine za (fun h=>absurd h (by simp;omega)) (fun _=>?_)
   refine ⟨zf (by kernel_rfl),⟨by omega,by omega⟩,by omega,?_⟩
   exact zm hI (i,k+1,out++[b.getD k default]) ⟨hi,hkb,by show (out++[b.getD k default]).length=i+(k+1);rw [hlen];omega,by show (out++[b.getD k default])++List.merge (a.drop i) (b.drop (k+1)) leR=List.merge a b leR;rw [han,List.nil_merge,<-hinv,List.append_assoc];rfl⟩ (by show a.length+b.length-(i+(k+1))<a.length+b.length-(i+k);omega)
    (Weak.keepL (by simp [hwk,ends]) (by simp [hrows,ends]) (by simp [ends]))
  ·simp only [decide_eq_false_iff_not] at g1
   have hkb:k=b.length:=by omega
   have hbn:b.drop k=[]:=List.drop_eq_nil_of_le (by omega)
   rw [hbn,List.append_nil] at hinv
   subst hr
   refine zu [1] rfl (by simp) (by simp [zc]<;>omega) ?_ (by first | rfl | simp [ends] | (subst_vars;simp [ends])) (by simp [ends]) (by simp [ends])
   rw [<-hinv]
   rfl
theorem gA: ∀(n:Nat) (rows:List Row),rows.length<=n+1->rows.length<=100000->(∀r∈rows,r.length<=1000)->ACall Tryz.prog 39 [aTab rows] [] (aTab (canF n rows)) []
 | 0,rows,hn,hl,hr1=>by
   rw [canF_short 0 (by omega)];exact c_canon1 rows (by omega) hr1
 | n+1,rows,hn,hl,hr1=>by
   by_cases h2:rows.length<2
   ·rw [canF_short _ h2];exact c_canon1 rows h2 hr1
   exact c_canon2 n rows h2 hl hr1 (gA n (rows.take (rows.length / 2)) (by simp;omega) (by simp;omega) (fun r h=>hr1 r (List.mem_of_mem_take h)))
    (gA n (rows.drop (rows.length / 2)) (by simp;omega) (by simp;omega) (fun r h=>hr1 r (List.mem_of_mem_drop h)))
end
section
open Go.Am
attribute [local simp, local push_cast] num boo str ints aV aTab zv aS aT aC aRow rRow rG
theorem drop_getD (X:List Row) (i j:Nat):(X.drop i).getD j default=X.getD (i+j) default:=by simp [List.getD_eq_getElem?_getD]
theorem pick2_l {X Y:List Row} {i k:Nat} (hi:i<X.length) (hk:k=Y.length):yb (X.drop i) (Y.drop k)=X.getD i default:=by
 have:Y.drop k=[]:=List.drop_eq_nil_of_le (by omega)
 rw [this,z8 X i hi,yb]
theorem pick2_r {X Y:List Row} {i k:Nat} (hi:i=X.length) (hk:k<Y.length):yb (X.drop i) (Y.drop k)=Y.getD k default:=by
 have:X.drop i=[]:=List.drop_eq_nil_of_le (by omega)
 rw [this,z8 Y k hk,yb]
theorem pick2_lt {X Y:List Row} {i k:Nat} (hi:i<X.length) (hk:k<Y.length) (h:leR (X.getD i default) (Y.getD k default)=true):yb (X.drop i) (Y.drop k)=X.getD i default:=by
 rw [z8 X i hi,z8 Y k hk,yb,if_pos h]
theorem pick2_gt {X Y:List Row} {i k:Nat} (hi:i<X.length) (hk:k<Y.length) (h:leR (X.getD i default) (Y.getD k default)=false):yb (X.drop i) (Y.drop k)=Y.getD k default:=by
 rw [z8 X i hi,z8 Y k hk,yb,if_neg (by rw [h];decide)]
theorem cnt_lt {X:List Row} {i j:Nat} {r:Row} (h1:i+j<X.length) (h2:j<=cntR r (X.drop i)) (h:cmpR (X.getD (i+j) default) r=0):j<cntR r (X.drop i):=by
 rcases Nat.lt_or_ge j (cntR r (X.drop i)) with q | q
 ·exact q
 ·have e:cntR r (X.drop i)=j:=by omega
  have:=cntR_out r (X.drop i) (by rw [e,List.length_drop];omega)
  rw [e,drop_getD] at this
  exact absurd h this
theorem cnt_eq {X:List Row} {i j:Nat} {r:Row} (h2:j<=cntR r (X.drop i)) (h:X.length<=i+j\/cmpR (X.getD (i+j) default) r≠0):j=cntR r (X.drop i):=by
 rcases Nat.lt_or_ge j (cntR r (X.drop i)) with q | q
 ·rcases h with h | h
  ·have:=xq r (X.drop i)
   rw [List.length_drop] at this
   omega
  ·have:=cntR_in r (X.drop i) j q
   rw [drop_getD] at this
   exact absurd this h
 ·omega
theorem c_groups (a b:List Row) (hl:a.length≤100000) (hm:b.length≤100000) (ha: ∀r∈a,r.length≤1000) (hb: ∀r∈b,r.length≤1000):
 ACall Tryz.prog 51 [aTab a,aTab b] [] (.d (.sl 3 (zd rG (grpM (srt a) (srt b))))) []:=by
 refine zn mixed ttok Tryz.func51 Tryz.ntmps51 Tryz.results51 ?_
 have iha:=gA a.length a (by omega) hl ha
 have ihb:=gA b.length b (by omega) hm hb
 rw [gv _ _ (by omega)] at iha ihb
 have lx:(srt a).length=a.length:=yj a
 have ly:(srt b).length=b.length:=yj b
 have mx: ∀r∈srt a,r.length<=1000:=fun r h=>ha r ((zA a).mem_iff.1 h)
 have my: ∀r∈srt b,r.length<=1000:=fun r h=>hb r ((zA b).mem_iff.1 h)
 generalize srt a=X at iha lx mx ⊢
 generalize srt b=Y at ihb ly my ⊢
 generalize hr:A.d (D.sl 3 (zd rG (grpM X Y)))=R
 simp -implicitDefEqProofs only [argT,↓zb,push_cast,simprocAttr,tte]
 refine ze [[1]] [] (iha) ?_
 simp -implicitDefEqProofs only [↓zb,push_cast,simprocAttr,tte]
 refine ze [[1]] [] (ihb) ?_
 simp -implicitDefEqProofs only [↓zb,push_cast,simprocAttr,tte]
 clear iha ihb
 have hX:X.length<=100000:=by omega
 have hY:Y.length<=100000:=by omega
 refine zI mixed ttok (fun x:Nat×Nat×List Grp=>(⟨[(8,num x.1),(9,num x.2.1),(7,.vec 500 x.2.2.length),(5,aTab X),(6,aTab Y)],[(500,.vec 106 3 (zd rG x.2.2) 0)]⟩:SL)) (fun x=>X.length+Y.length-(x.1+x.2.1))
  (fun x=>x.1<=X.length/\x.2.1<=Y.length/\x.2.2.length<=x.1+x.2.1/\x.2.2++grpM (X.drop x.1) (Y.drop x.2.1)=grpM X Y) (0,0,[]) ⟨Nat.zero_le _,Nat.zero_le _,Nat.le_refl _,rfl⟩ ?_ ?_
 ·exact (Weak.nilL 7 500 106 3 rfl rfl).trans (Weak.keepL (by simp [ends]) (by simp [ends]) (by simp [ends]))
 intro I hI ⟨i,k,out⟩ ⟨hi,hk,hol,hinv⟩
 simp only at hi hk hol hinv
 simp -implicitDefEqProofs only [↓zb,push_cast,simprocAttr,tte]
 generalize hrr:yb (X.drop i) (Y.drop k)=r at *
 refine' meetQ ⟨[(8,num (i+0:Nat)),(9,num k),(7,.vec 500 out.length),(5,aTab X),(6,aTab Y),(10,aRow r),(11,.ptr 11 0)],[(11,.var [.d (.sl 3 (zd rV r)),num (0:Nat),num (0:Nat)]),(500,.vec 106 3 (zd rG out) 0)]⟩ (i<X.length\/k<Y.length) ?lead ?body
 case lead=>
  intro hM
  refine za (fun h1=>?_) fun h1=>?_
  ·have h1':i<X.length:=by have:=of_decide_eq_true h1;omega
   refine za (fun g1=>?_) fun g1=>?_
   ·have g1':k=Y.length:=by have:(k:Int)=Y.length:=by simpa using g1
                            omega
    have hp:=pick2_l h1' g1'
    rw [hrr] at hp
    refine ⟨zf (by kernel_rfl),⟨by omega,of_decide_eq_true h1⟩,?_⟩
    exact hM _ (.inl h1') (Weak.keepL (by simp [hp,ends]) (by simp [hp,ends]) (by simp [ends]))
   ·have g1':k<Y.length:=by have: ¬(k:Int)=Y.length:=by simpa using g1
                            omega
    refine za (fun _=>?_) (fun h=>absurd (h1.symm.trans h) (by decide))
    refine ⟨by omega,by omega,?_⟩
    refine ze [[3],[3]] [] (ju (X.getD i default) (Y.getD k default) (Nat.le_trans (mx _ (zk h1')) (by decide))) ?_
    simp -implicitDefEqProofs only [↓zb,push_cast,simprocAttr,tte]
    refine ⟨zf (by kernel_rfl),?_⟩
    have hle:decide (cmpR (X.getD i default) (Y.getD k default)<=0)=leR (X.getD i default) (Y.getD k default):=rfl
    rw [hle]
    refine za (fun g2=>?_) fun g2=>?_
    ·have hp:=pick2_lt h1' g1' g2
     rw [hrr] at hp
     refine ⟨by omega,?_⟩
     exact hM _ (.inl h1') (Weak.keepL (by simp [hp,ends]) (by simp [hp,ends]) (by simp [ends]))
    ·have hp:=pick2_gt h1' g1' g2
     rw [hrr] at hp
     refine ⟨by omega,?_⟩
     exact hM _ (.inl h1') (Weak.keepL (by simp [hp,ends]) (by simp [hp,ends]) (by simp [ends]))
  ·have h1':i=X.length:=by have:=of_decide_eq_false h1;omega
   refine za (fun g1=>?_) fun g1=>?_
   ·have g1':k<Y.length:=by have:=of_decide_eq_true g1;omega
    refine za (fun h=>absurd h (by simp;omega)) (fun _=>?_)
    refine za (fun h=>absurd (h1.symm.trans h) (by decide)) (fun _=>?_)
    have hp:=pick2_r h1' g1'
    rw [hrr] at hp
    refine ⟨zf (by kernel_rfl),by omega,?_⟩
    exact hM _ (.inr g1') (Weak.keepL (by simp [hp,ends]) (by simp [hp,ends]) (by simp [ends]))
   ·have g1':k=Y.length:=by have:=of_decide_eq_false g1;omega
    have e1:X.drop i=[]:=List.drop_eq_nil_of_le (by omega)
    have e2:Y.drop k=[]:=List.drop_eq_nil_of_le (by omega)
    rw [e1,e2,ge,List.append_nil] at hinv
    refine zu [3] rfl (by simp) (by simp [zc]<;>omega) ?_ (by first | rfl | simp [ends] | (subst_vars;simp [ends])) (by simp [ends]) (by simp [ends])
    rw [<-hr,<-hinv]
 case body=>
  intro σ hQ hw
  have hxe:grpM (X.drop i) (Y.drop k)=⟨r,cntR r (X.drop i),cntR r (Y.drop k)⟩::grpM (X.drop (i+cntR r (X.drop i))) (Y.drop (k+cntR r (Y.drop k))):=by
   rw [vq (by simp only [List.length_drop];omega),hrr,List.drop_drop,List.drop_drop]
  have hpos:=wG (X.drop i) (Y.drop k) (by simp only [List.length_drop];omega)
  have hrm:=pick2_mem (X.drop i) (Y.drop k) (by simp only [List.length_drop];omega)
  rw [hrr] at hpos hrm
  have hrl:r.length<=1000:=by
   rcases List.mem_append.1 hrm with q | q
   ·exact mx _ (List.mem_of_mem_drop q)
   ·exact my _ (List.mem_of_mem_drop q)
  rw [hxe] at hinv
  have hc1:=xq r (X.drop i)
  have hc2:=xq r (Y.drop k)
  rw [List.length_drop] at hc1 hc2
  have hlt1: ∀j,i+j<X.length->j<=cntR r (X.drop i)->cmpR (X.getD (i+j) default) r=0->j<cntR r (X.drop i):=fun j=>cnt_lt
  have heq1: ∀j,j<=cntR r (X.drop i)->X.length<=i+j\/cmpR (X.getD (i+j) default) r≠0->j=cntR r (X.drop i):=fun j=>cnt_eq
  have hlt2: ∀j,k+j<Y.length->j<=cntR r (Y.drop k)->cmpR (Y.getD (k+j) default) r=0->j<cntR r (Y.drop k):=fun j=>cnt_lt
  have heq2: ∀j,j<=cntR r (Y.drop k)->Y.length<=k+j\/cmpR (Y.getD (k+j) default) r≠0->j=cntR r (Y.drop k):=fun j=>cnt_eq
  generalize cntR r (X.drop i)=c1 at *
  generalize cntR r (Y.drop k)=c2 at *
  refine zI mixed ttok (fun j:Nat=>(⟨[(8,num (i+j:Nat)),(9,num k),(7,.vec 500 out.length),(5,aTab X),(6,aTab Y),(10,aRow r),(11,.ptr 11 0)],[(11,.var [.d (.sl 3 (zd rV r)),num j,num (0:Nat)]),(500,.vec 106 3 (zd rG out) 0)]⟩:SL)) (fun j=>c1-j) (fun j=>j<=c1) 0 (Nat.zero_le _) hw ?_
  intro J hJ j hj
  obtain ⟨i1,hi1⟩: ∃i1,i1=i+j:=⟨_,rfl⟩
  rw [<-hi1]
  have hl1:=hlt1 j
  have he1:=heq1 j
  rw [<-hi1] at hl1 he1
  have wi:=zj (N:=1000001) (n:=i1) (by omega) (by omega)
  have wj:=zj (N:=1000001) (n:=j) (by omega) (by omega)
  simp -implicitDefEqProofs only [↓zb,push_cast,simprocAttr,tte]
  refine' meetQ ⟨[(8,num i1),(9,num (k+0:Nat)),(7,.vec 500 out.length),(5,aTab X),(6,aTab Y),(10,aRow r),(11,.ptr 11 0)],[(11,.var [.d (.sl 3 (zd rV r)),num c1,num (0:Nat)]),(500,.vec 106 3 (zd rG out) 0)]⟩ (j=c1) ?lead2 ?body2
  case lead2=>
   intro hM
   refine za (fun h1=>?_) fun h1=>?_
   ·have h1':i1<X.length:=by have:=of_decide_eq_true h1;omega
    refine ⟨by omega,?_⟩
    refine ze [[3],[3]] [] (ju (X.getD i1 default) r (Nat.le_trans (mx _ (zk h1')) (by decide))) ?_
    simp -implicitDefEqProofs only [↓zb,push_cast,simprocAttr,tte]
    refine za (fun g2=>?_) fun g2=>?_
    ·have hjc:=hl1 h1' hj (by simpa using g2)
     have hi2:i1+1=i+(j+1):=by omega
     exact zm hJ (j+1) hjc (by show c1-(j+1)<c1-j;omega) (Weak.keepL (by simp [wi,hi2,ends]) (by simp [wj,ends]) (by simp [ends]))
    ·have hjc:=he1 hj (.inr (by simpa using g2))
     exact hM _ hjc (Weak.keepL (by simp [ends]) (by simp [hjc,ends]) (by simp [ends]))
   ·have h1':X.length≤i1:=by have:=of_decide_eq_false h1;omega
    have hjc:=he1 hj (.inl h1')
    exact hM _ hjc (Weak.keepL (by simp [ends]) (by simp [hjc,ends]) (by simp [ends]))
  case body2=>
   intro σ2 hjc hw2
   refine zI mixed ttok (fun q:Nat=>(⟨[(8,num i1),(9,num (k+q:Nat)),(7,.vec 500 out.length),(5,aTab X),(6,aTab Y),(10,aRow r),(11,.ptr 11 0)],[(11,.var [.d (.sl 3 (zd rV r)),num c1,num q]),(500,.vec 106 3 (zd rG out) 0)]⟩:SL)) (fun q=>c2-q) (fun q=>q<=c2) 0 (Nat.zero_le _) hw2 ?_
   intro L hL q hq
   obtain ⟨k1,hk1⟩: ∃k1,k1=k+q:=⟨_,rfl⟩
   rw [<-hk1]
   have hl2:=hlt2 q
   have he2:=heq2 q
   rw [<-hk1] at hl2 he2
   have wk:=zj (N:=1000001) (n:=k1) (by omega) (by omega)
   have wq:=zj (N:=1000001) (n:=q) (by omega) (by omega)
   have hrows:zd rG out++[[D.sl 3 (zd rV r),D.lit (.int .i64 (c1:Int)),D.lit (.int .i64 (c2:Int))]]=zd rG (out++[⟨r,c1,c2⟩]):=zh rG out [⟨r,c1,c2⟩]
   have hfin: ∀q:Nat,q=c2->k1=k+c2->(out++[(⟨r,c1,c2⟩:Grp)])++grpM (X.drop i1) (Y.drop k1)=grpM X Y:=fun q e1 e2=>by
    rw [e2,hi1,hjc,<-hinv,List.append_assoc];rfl
   simp -implicitDefEqProofs only [↓zb,push_cast,simprocAttr,tte]
   refine za (fun h1=>?_) fun h1=>?_
   ·have h1':k1<Y.length:=by have:=of_decide_eq_true h1;omega
    refine ⟨by omega,?_⟩
    refine ze [[3],[3]] [] (ju (Y.getD k1 default) r (Nat.le_trans (my _ (zk h1')) (by decide))) ?_
    simp -implicitDefEqProofs only [↓zb,push_cast,simprocAttr,tte]
    refine za (fun g2=>?_) fun g2=>?_
    ·have hqc:=hl2 h1' hq (by simpa using g2)
     have hk2:k1+1=k+(q+1):=by omega
     exact zm hL (q+1) hqc (by show c2-(q+1)<c2-q;omega) (Weak.keepL (by simp [wk,hk2,ends]) (by simp [wq,ends]) (by simp [ends]))
    ·have hqc:=he2 hq (.inr (by simpa using g2))
     subst hqc
     rw [hrows]
     refine ⟨by omega,?_⟩
     exact zm hI (i1,k1,out++[⟨r,c1,q⟩]) ⟨by show i1<=X.length;omega,by show k1<=Y.length;omega,by show (out++[(⟨r,c1,q⟩:Grp)]).length<=i1+k1;rw [List.length_append];show out.length+1<=_;omega,hfin q rfl hk1⟩ (by show X.length+Y.length-(i1+k1)<X.length+Y.length-(i+k);omega) (Weak.keepL (by simp [ends]) (by simp [ends]) (by simp [ends]))
   ·have h1':Y.length≤k1:=by have:=of_decide_eq_false h1;omega
    have hqc:=he2 hq (.inl h1')
    subst hqc
    rw [hrows]
    refine ⟨by omega,?_⟩
    exact zm hI (i1,k1,out++[⟨r,c1,q⟩]) ⟨by show i1<=X.length;omega,by show k1<=Y.length;omega,by show (out++[(⟨r,c1,q⟩:Grp)]).length<=i1+k1;rw [List.length_append];show out.length+1<=_;omega,hfin q rfl hk1⟩ (by show X.length+Y.length-(i1+k1)<X.length+Y.length-(i+k);omega) (Weak.keepL (by simp [ends]) (by simp [ends]) (by simp [ends]))
end
section
open Go.Am
attribute [local simp, local push_cast] num boo str ints aV aTab zv aS aT aC aRow rRow rG
def vecT (l:List Row):Ob:= .vec 53 1 (zd rRow l) 0
attribute [local simp, local push_cast] vecT
theorem ret_raw {p:Prop} {a:A} {t:List (Nat×A)} {o os':List (Nat×Ob)} (hp:p) (hc:a.closed (inO os')=true) (ho:keepO (lookO o) (inO os') os') (hin:keepIn (inO os') o):retx (some (p,a)) ⟨t,o⟩ a os':=
 ⟨hp,Weak.keep (σ:=⟨[(0,a)],os'⟩) ⟨⟨rfl,hc⟩,trivial⟩ ho hin⟩
theorem c_times (l:List Row) (r:Row) (n:Int) (hl:l.length<=1000000) (hn:n<=1000000) (hr1:r.length<=1000):
 ACall Tryz.prog 52 [.vec 1000 l.length,aRow r,num n] [(1000,vecT l)] (.vec 1000 (l.length+n.toNat)) [(1000,vecT (l++List.replicate n.toNat r))]:=by
 refine zn mixed ttok Tryz.func52 Tryz.ntmps52 Tryz.results52 ?_
 obtain ⟨N,hN⟩: ∃N,N=n.toNat:=⟨_,rfl⟩
 rw [<-hN]
 simp -implicitDefEqProofs only [argT,↓zb,push_cast,simprocAttr,tte]
 refine zI mixed ttok (fun k:Nat=>(⟨[(7,num k),(0,.vec 1000 (l++List.replicate k r).length),(1,aRow r),(2,num n)],[(1000,vecT (l++List.replicate k r))]⟩:SL)) (fun k=>N-k) (fun k=>k<=N) 0 (Nat.zero_le _) ?_ ?_
 ·exact Weak.keepL (by simp [ends]) (by simp [ends]) (by simp [ends])
 intro I hI k hk
 have hlk:(l++List.replicate k r).length=l.length+k:=by rw [List.length_append,List.length_replicate]
 have hsn:l++List.replicate (k+1) r=(l++List.replicate k r)++[r]:=by rw [List.replicate_succ',List.append_assoc]
 have hln:(l++List.replicate (k+1) r).length=(l++List.replicate k r).length+1:=by rw [hsn,List.length_append];rfl
 obtain ⟨L,hL⟩: ∃L,L=l++List.replicate k r:=⟨_,rfl⟩
 rw [<-hL] at hlk hsn hln ⊢
 have hrows:zd rRow L++[[D.sl 3 (zd rV r)]]=zd rRow (L++[r]):=zh rRow L [r]
 simp -implicitDefEqProofs only [↓zb,push_cast,simprocAttr,tte]
 refine za (fun h=>?_) fun h=>?_
 ·have h':k<N:=by have:=of_decide_eq_true h;omega
  have hw:=zj (N:=1000001) (n:=k) (by omega) (by omega)
  refine ze [[3]] [] (c_copied r (by omega)) ?_
  simp -implicitDefEqProofs only [↓zb,push_cast,simprocAttr,tte]
  rw [hrows,<-hsn]
  refine ⟨by omega,?_⟩
  exact zm hI (k+1) h' (by show N-(k+1)<N-k;omega) (Weak.keepL (by simp [hw,hln,ends]) (by simp [ends]) (by simp [ends]))
 ·have h':k=N:=by have:=of_decide_eq_false h;omega
  subst h'
  rw [hlk]
  exact ret_raw trivial (by simp [hL,ends]) (by simp [hL,ends]) (by simp [ends])
theorem comb_snoc (t:Grp->Nat) (G:List Grp) (n:Nat) (h:n<G.length):((G.take (n+1)).flatMap fun g=>List.replicate (t g) g.row)=((G.take n).flatMap fun g=>List.replicate (t g) g.row)++List.replicate (t (G.getD n default)) (G.getD n default).row:=by
 rw [z7 _ _ h,List.flatMap_append];simp
theorem grp_sum: ∀(n:Nat) (X Y:List Row),X.length+Y.length<=n->((grpM X Y).map fun g=>g.m+g.n).sum=X.length+Y.length
 | 0,X,Y,h=>by
   have h1:X=[]:=List.eq_nil_of_length_eq_zero (by omega)
   have h2:Y=[]:=List.eq_nil_of_length_eq_zero (by omega)
   subst h1 h2
   rfl
 | n+1,X,Y,h=>by
   by_cases h0:X.length=0/\Y.length=0
   ·have h1:X=[]:=List.eq_nil_of_length_eq_zero h0.1
    have h2:Y=[]:=List.eq_nil_of_length_eq_zero h0.2
    subst h1 h2
    rfl
   ·have h3:=wG X Y h0
    have h4:=xq (yb X Y) X
    have h5:=xq (yb X Y) Y
    have ih:=grp_sum n (X.drop (cntR (yb X Y) X)) (Y.drop (cntR (yb X Y) Y)) (by simp;omega)
    rw [vq h0,List.map_cons,List.sum_cons,ih]
    simp only [List.length_drop]
    omega
theorem comb_le (t:Grp->Nat): ∀(G:List Grp),(∀g∈G,t g<=g.m+g.n)->(G.flatMap fun g=>List.replicate (t g) g.row).length<=(G.map fun g=>g.m+g.n).sum
 | [],_=>by simp
 | g::G,h=>by
   have h1:=h g (by simp)
   have h2:=comb_le t G fun x hx=>h x (by simp [hx])
   rw [List.flatMap_cons,List.length_append,List.length_replicate,List.map_cons,List.sum_cons]
   omega
theorem grp_one: ∀(n:Nat) (X Y:List Row),X.length+Y.length<=n-> ∀g∈grpM X Y,1<=g.m+g.n
 | 0,X,Y,h,g,hg=>by
   have h1:X=[]:=List.eq_nil_of_length_eq_zero (by omega)
   have h2:Y=[]:=List.eq_nil_of_length_eq_zero (by omega)
   subst h1 h2
   cases hg
 | n+1,X,Y,h,g,hg=>by
   by_cases h0:X.length=0/\Y.length=0
   ·have h1:X=[]:=List.eq_nil_of_length_eq_zero h0.1
    have h2:Y=[]:=List.eq_nil_of_length_eq_zero h0.2
    subst h1 h2
    cases hg
   ·have h3:=wG X Y h0
    have h4:=xq (yb X Y) X
    have h5:=xq (yb X Y) Y
    rw [vq h0] at hg
    rcases List.mem_cons.1 hg with rfl | hg
    ·exact h3
    ·exact grp_one n _ _ (by simp;omega) g hg
theorem unionT_le (all:Bool) (a b:List Row): ∀g∈grpM a b,xz all g<=g.m+g.n:=fun g hg=>by
 have:=grp_one _ _ _ (Nat.le_refl _) g hg
 unfold xz
 split<;>omega
theorem combM_len {t:Grp->Nat} {a b:List Row} (h: ∀g∈grpM (srt a) (srt b),t g<=g.m+g.n):(vN t a b).length<=a.length+b.length:=by
 have:=comb_le t (grpM (srt a) (srt b)) h
 rw [grp_sum _ _ _ (Nat.le_refl _),yj,yj] at this
 exact this
theorem combM_mem {t:Grp->Nat} {a b:List Row} {r:Row} (h:r∈vN t a b):r∈a\/r∈b:=by
 unfold vN at h
 rw [List.mem_flatMap] at h
 obtain ⟨g,hg,hr⟩:=h
 rw [List.eq_of_mem_replicate hr]
 have:=(gf _ _ _ (Nat.le_refl _) g hg).1
 rcases List.mem_append.1 this with q | q
 ·exact .inl ((zA a).mem_iff.1 q)
 ·exact .inr ((zA b).mem_iff.1 q)
theorem flat_take {t:Grp->Nat} {G:List Grp} {n:Nat}:((G.take n).flatMap fun g=>List.replicate (t g) g.row).length<=(G.flatMap fun g=>List.replicate (t g) g.row).length:=by
 have:G.flatMap (fun g=>List.replicate (t g) g.row)=(G.take n).flatMap (fun g=>List.replicate (t g) g.row)++(G.drop n).flatMap (fun g=>List.replicate (t g) g.row):=by rw [<-List.flatMap_append,List.take_append_drop]
 rw [this,List.length_append]
 omega
theorem grpM_ok {a b:List Row} (hl:a.length<=100000) (hm:b.length<=100000) (ha: ∀r∈a,r.length<=1000) (hb: ∀r∈b,r.length<=1000): ∀g∈grpM (srt a) (srt b),g.row.length<=1000/\g.m<=100000/\g.n<=100000:=fun g hg=>by
 obtain ⟨q1,q2,q3⟩:=gf _ _ _ (Nat.le_refl _) g hg
 rw [yj] at q2 q3
 refine ⟨?_,by omega,by omega⟩
 rcases List.mem_append.1 q1 with q | q
 ·exact ha _ ((zA a).mem_iff.1 q)
 ·exact hb _ ((zA b).mem_iff.1 q)
theorem c_union (a b:List Row) (all:Bool) (hl:a.length<=100000) (hm:b.length<=100000) (ha: ∀r∈a,r.length<=1000) (hb: ∀r∈b,r.length<=1000):
 ACall Tryz.prog 23 [aTab a,aTab b,boo all] [] (aTab (vN (xz all) a b)) []:=by
 refine zn mixed ttok Tryz.func23 Tryz.ntmps23 Tryz.results23 ?_
 have hG:=c_groups a b hl hm ha hb
 have hcl:=combM_len (unionT_le all (srt a) (srt b))
 have hgl:=kp _ (srt a) (srt b) (Nat.le_refl _)
 have hgm:=grpM_ok hl hm ha hb
 rw [yj,yj] at hgl
 unfold vN at hcl ⊢
 generalize grpM (srt a) (srt b)=G at hG hcl hgl hgm ⊢
 generalize hr:aTab (G.flatMap fun g=>List.replicate (xz all g) g.row)=R
 simp -implicitDefEqProofs only [argT,↓zb,push_cast,simprocAttr,tte]
 refine ze [[1],[1]] [] (hG) ?_
 simp -implicitDefEqProofs only [↓zb,push_cast,simprocAttr,tte]
 refine zI mixed ttok (fun n:Nat=>(⟨[(9,num n),(8,.vec 500 ((G.take n).flatMap fun g=>List.replicate (xz all g) g.row).length),(2,boo all),(7,.d (.sl 3 (zd rG G)))],[(500,vecT ((G.take n).flatMap fun g=>List.replicate (xz all g) g.row))]⟩:SL)) (fun n=>G.length-n) (fun n=>n<=G.length) 0 (Nat.zero_le _) ?_ ?_
 ·exact (Weak.nilL 8 500 53 1 rfl rfl).trans (Weak.keepL (by simp [ends]) (by simp [ends]) (by simp [ends]))
 intro I hI n hn
 have hlt:=flat_take (t:=xz all) (G:=G) (n:=n)
 have hsn:=comb_snoc (xz all) G n
 simp -implicitDefEqProofs only [↓zb,push_cast,simprocAttr,tte]
 refine za (fun h=>?_) fun h=>?_
 ·have h':n<G.length:=by have:=of_decide_eq_true h;omega
  have hw:=zj h' (by omega)
  have hsn:=hsn h'
  obtain ⟨q1,q2,q3⟩:=hgm _ (zk h')
  have hln:((G.take (n+1)).flatMap fun g=>List.replicate (xz all g) g.row).length=((G.take n).flatMap fun g=>List.replicate (xz all g) g.row).length+xz all (G.getD n default):=by rw [hsn,List.length_append,List.length_replicate]
  obtain ⟨L,hL⟩: ∃L,L=((G.take n).flatMap fun g=>List.replicate (xz all g) g.row):=⟨_,rfl⟩
  rw [<-hL] at hlt hsn hln ⊢
  obtain ⟨g,hg⟩: ∃g,g=G.getD n default:=⟨_,rfl⟩
  rw [<-hg] at q1 q2 q3 hsn hln ⊢
  cases all with
  | true=>
    refine za (fun _=>?_) (fun q=>absurd q (by decide))
    have wm:IntKind.i64.wrap ((g.m:Int)+(g.n:Int))=(g.m:Int)+(g.n:Int):=zw (by omega) (by omega)
    refine ⟨by omega,by omega,zf (by kernel_rfl),by omega,?_⟩
    rw [wm]
    refine callx_ofV [(1000,500)] (view_raw _ _) (c_times L g.row ((g.m:Int)+(g.n:Int)) (by omega) (by omega) q1) (by simp [hw,ends,bs]) (by simp [ends,bs]) (by simp [hw,ends]) (by simp [idsOk,lookO,updO,ren1]) ?_
    simp -implicitDefEqProofs only [↓zb,push_cast,simprocAttr,tte]
    have hm2:(((g.m:Int)+(g.n:Int))).toNat=xz true g:=by show ((g.m:Int)+(g.n:Int)).toNat=g.m+g.n;omega
    rw [hm2,<-hsn,<-hln]
    exact zm hI (n+1) h' (by show G.length-(n+1)<G.length-n;omega) (Weak.keepL (by simp [hw,ends]) (by simp [ends]) (by simp [ends]))
  | false=>
    refine za (fun q=>absurd q (by decide)) (fun _=>?_)
    refine ⟨by omega,?_⟩
    refine callx_ofV [(1000,500)] (view_raw _ _) (c_times L g.row (1:Int) (by omega) (by omega) q1) (by simp [hw,ends,bs]) (by simp [ends,bs]) (by simp [hw,ends]) (by simp [idsOk,lookO,updO,ren1]) ?_
    simp -implicitDefEqProofs only [↓zb,push_cast,simprocAttr,tte]
    have hs1:L++[g.row]=((G.take (n+1)).flatMap fun g=>List.replicate (xz false g) g.row):=by rw [hsn];rfl
    have hl1:L.length+1=((G.take (n+1)).flatMap fun g=>List.replicate (xz false g) g.row).length:=by rw [hln];rfl
    rw [hs1,hl1]
    exact zm hI (n+1) h' (by show G.length-(n+1)<G.length-n;omega) (Weak.keepL (by simp [hw,ends]) (by simp [ends]) (by simp [ends]))
 ·obtain rfl:n=G.length:=by have:=of_decide_eq_false h;omega
  rw [List.take_length]
  refine zu [1] rfl (by simp) (by simp [zc]<;>omega) ?_ (by first | rfl | simp [ends] | (subst_vars;simp [ends])) (by simp [ends]) (by simp [ends])
  exact hr
end
end Go.Proofs.YtnmibokjpedkiaaGreatDoor
