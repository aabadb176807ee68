/- Conditions over finite domains (part Wm) -/
import Derived.Test.YtiagabnddihchaaGreatDoorWl
set_option maxRecDepth 100000
set_option maxHeartbeats 4000000
set_option linter.all false
namespace Go.Proofs.YtiagabnddihchaaGreatDoor
section
open Go.Am
attribute [local simp, local push_cast] num boo str ints aV aTab aRow rRow vE
def V1s (d:List Row) (n:Nat):SL:=⟨[(14,.d (.lit (.int .i64 n))),(13,.d (.lit (.int .i64 d.length))),(12,aTab d)],[]⟩
def V2s (d:List Row) (n:Nat) (l:Row) (i:Nat):SL:=⟨[(23,.d (.lit (.int .i64 i))),(22,.d (.lit (.int .i64 l.length))),(21,aRow l),(4,aRow l),(14,.d (.lit (.int .i64 n))),(13,.d (.lit (.int .i64 d.length))),(12,aTab d)],[]⟩
def V3s (d:List Row) (n:Nat) (l:Row) (i j:Nat):SL:=
 ⟨[(35,.d (.lit (.int .i64 j))),(34,.d (.lit (.int .i64 i))),(33,aRow (l.take i)),(6,.ptr 6 0),(5,.d (.lit (.int .i64 i))),(23,.d (.lit (.int .i64 i))),(22,.d (.lit (.int .i64 l.length))),(21,aRow l),(4,aRow l),(14,.d (.lit (.int .i64 n))),(13,.d (.lit (.int .i64 d.length))),(12,aTab d)],
  [(6,.var [.d (.lit (.int .i64 (l.getD i default).kind)),.d (.lit (.int .i64 (l.getD i default).num)),.d (.lit (.string (l.getD i default).text))])]⟩
theorem c_valid23 (d:List Row) (hd:yE d):ACall Tryz.prog 50 [aTab d] [] (boo (domR d)) []:=by
 refine zm mixed ttok Tryz.func50 Tryz.ntmps50 Tryz.results50 ?_
 generalize hr:boo (domR d)=R
 unfold domR at hr
 have hd1:=hd.1
 simp -implicitDefEqProofs only [argT,aTab,↓zb,push_cast,simprocAttr,tte]
 refine za (fun h0=>?_) fun h0=>?_
 ·rw [decide_eq_false (by simp only [decide_eq_true_eq] at h0;omega),Bool.false_and] at hr
  exact zk trivial hr (by simp [ends])
 have hl:d.length<=12:=by simp only [decide_eq_false_iff_not] at h0;omega
 rw [decide_eq_true hl,Bool.true_and] at hr
 refine z8 mixed ttok (fun n:Nat=>V1s d n) (fun n=>d.length-n) (fun n=>n<=d.length/\d.all okR=(d.drop n).all okR) 0 ⟨Nat.zero_le _,rfl⟩ ?_ ?_
 ·exact Weak.keepL (by simp [V1s,ends]) (by simp [V1s,ends]) (by simp [V1s,ends])
 rintro I hI n ⟨hn,hg⟩
 simp -implicitDefEqProofs only [V1s,rRow,↓zb,push_cast,simprocAttr,tte]
 refine za (fun h=>?_) fun h=>?_
 ·have h':n<d.length:=by simpa using h
  have hw:=zw h' (by omega)
  rw [yc d n h',List.all_cons] at hg
  have hlb:=hd.2 _ (zx h')
  generalize d.getD n default=l at hg hlb ⊢
  refine ⟨⟨by omega,by omega⟩,?_⟩
  have hok:okR l=((l.length !=0)&&okGo [] l):=rfl
  refine za (fun h1=>?_) fun h1=>?_
  ·have e0:l.length=0:=by simp only [beq_iff_eq] at h1;omega
   rw [hok,e0] at hg
   rw [hg] at hr
   exact zk trivial (by rw [<-hr];rfl) (by simp [ends])
  have e0:l.length≠0:=by simp only [beq_eq_false_iff_ne,ne_eq] at h1;omega
  have e1:(l.length !=0)=true:=by simpa using e0
  rw [e1,Bool.true_and] at hok
  refine z8 mixed ttok (fun i:Nat=>V2s d n l i) (fun i=>l.length-i) (fun i=>i<=l.length/\okR l=okGo (l.take i) (l.drop i)) 0 ⟨Nat.zero_le _,hok⟩ ?_ ?_
  ·exact Weak.keepL (by simp [V2s,ends]) (by simp [V2s,ends]) (by simp [V2s,ends])
  rintro J hJ i ⟨hi,hgi⟩
  simp -implicitDefEqProofs only [V2s,↓zb,push_cast,simprocAttr,tte]
  refine za (fun h2=>?_) fun h2=>?_
  ·have hi':i<l.length:=by simpa using h2
   have hwi:=zw hi' (by omega)
   rw [yc l i hi',okGo,<-yr l i hi'] at hgi
   refine ⟨⟨by omega,by omega⟩,?_⟩
   refine zd [[0,0,0]] [] (jm (l.getD i default)) ?_
   simp -implicitDefEqProofs only [↓zb,push_cast,simprocAttr,tte]
   refine za (fun h3=>?_) fun h3=>?_
   ·have e3:zC (l.getD i default)=false:=by simpa using h3
    rw [e3,Bool.false_and,Bool.false_and] at hgi
    rw [hgi,Bool.false_and] at hg
    rw [hg] at hr
    exact zk trivial hr (by simp [ends])
   have e3:zC (l.getD i default)=true:=by simpa using h3
   rw [e3,Bool.true_and] at hgi
   have htl:(l.take i).length=i:=by rw [List.length_take];omega
   have hmin:((min i l.length:Nat):Int)=(i:Int):=by omega
   refine ⟨⟨by omega,by omega⟩,?_⟩
   refine z8 mixed ttok (fun j:Nat=>V3s d n l i j) (fun j=>i-j) (fun j=>j<=i/\((l.take i).all fun w=> !vd (l.getD i default) w)=(((l.take i).drop j).all fun w=> !vd (l.getD i default) w)) 0 ⟨Nat.zero_le _,rfl⟩ ?_ ?_
   ·exact Weak.keepL (by simp [V3s,hmin,ends]) (by simp [V3s,ends]) (by simp [V3s,ends])
   rintro L hL j ⟨hj,hgj⟩
   simp -implicitDefEqProofs only [V3s,↓zb,push_cast,simprocAttr,tte]
   refine za (fun h4=>?_) fun h4=>?_
   ·have hj':j<i:=by simpa using h4
    have hwj:=zw hj' (by omega)
    rw [yc (l.take i) j (by omega),List.all_cons] at hgj
    refine ⟨⟨by omega,by omega⟩,?_⟩
    generalize (l.take i).getD j default=w at hgj ⊢
    have hc0:vd (l.getD i default) w=(yw (l.getD i default) w || (((l.getD i default).kind !=w.kind&&(l.getD i default).kind !=0)&&w.kind !=0)):=rfl
    refine zd [[0,0,0],[0,0,0]] [] (c_rsame (l.getD i default) w) ?_
    simp -implicitDefEqProofs only [↓zb,push_cast,simprocAttr,tte]
    refine za (fun s1=>?_) fun s1=>?_
    ·have hcl:vd (l.getD i default) w=true:=by rw [hc0,s1,Bool.true_or]
     rw [hcl,Bool.not_true,Bool.false_and] at hgj
     rw [hgj,Bool.false_and] at hgi
     rw [hgi,Bool.false_and] at hg
     rw [hg] at hr
     exact zk trivial hr (by simp [ends])
    rw [s1,Bool.false_or] at hc0
    refine za (fun s2=>?_) fun s2=>?_
    ·rw [s2,Bool.true_and] at hc0
     refine za (fun s3=>?_) fun s3=>?_
     ·rw [s3,Bool.true_and] at hc0
      refine za (fun s4=>?_) fun s4=>?_
      ·have hcl:vd (l.getD i default) w=true:=by rw [hc0,s4]
       rw [hcl,Bool.not_true,Bool.false_and] at hgj
       rw [hgj,Bool.false_and] at hgi
       rw [hgi,Bool.false_and] at hg
       rw [hg] at hr
       exact zk trivial hr (by simp [ends])
      ·have hcl:vd (l.getD i default) w=false:=by rw [hc0,s4]
       rw [hcl,Bool.not_false,Bool.true_and] at hgj
       exact zp hL (j+1) ⟨hj',hgj⟩ (by show i-(j+1)<i-j;omega) (Weak.keepL (by simp [V3s,hwj,ends]) (by simp [V3s,ends]) (by simp [V3s,ends]))
     ·have hcl:vd (l.getD i default) w=false:=by rw [hc0,s3,Bool.false_and]
      rw [hcl,Bool.not_false,Bool.true_and] at hgj
      exact zp hL (j+1) ⟨hj',hgj⟩ (by show i-(j+1)<i-j;omega) (Weak.keepL (by simp [V3s,hwj,ends]) (by simp [V3s,ends]) (by simp [V3s,ends]))
    ·have hcl:vd (l.getD i default) w=false:=by rw [hc0,s2,Bool.false_and,Bool.false_and]
     rw [hcl,Bool.not_false,Bool.true_and] at hgj
     exact zp hL (j+1) ⟨hj',hgj⟩ (by show i-(j+1)<i-j;omega) (Weak.keepL (by simp [V3s,hwj,ends]) (by simp [V3s,ends]) (by simp [V3s,ends]))
   have hji:j=i:=by have:=of_decide_eq_false h4;omega
   subst hji
   rw [List.drop_of_length_le (by omega),List.all_nil] at hgj
   rw [hgj,Bool.true_and] at hgi
   exact zp hJ (j+1) ⟨hi',hgi⟩ (by show l.length-(j+1)<l.length-j;omega) (Weak.keepL (by simp [V2s,hwi,ends]) (by simp [V2s,ends]) (by simp [V2s,ends]))
  have hii:i=l.length:=by have:=of_decide_eq_false h2;omega
  subst hii
  rw [List.drop_length,okGo] at hgi
  rw [hgi,Bool.true_and] at hg
  exact zp hI (n+1) ⟨h',hg⟩ (by show d.length-(n+1)<d.length-n;omega) (Weak.keepL (by simp [V1s,hw,ends]) (by simp [V1s,ends]) (by simp [V1s,ends]))
 have hnn:n=d.length:=by have:=of_decide_eq_false h;omega
 subst hnn
 rw [List.drop_length,List.all_nil] at hg
 rw [hg] at hr
 exact zk trivial hr (by simp [ends])
end
section
open Go.Am
attribute [local simp, local push_cast] num boo str ints aV aTab aRow rRow vE
def typF (t:Int) (v:Val):Int:=if v.kind=0 then t else v.kind
def W1s (d:List Row) (n:Nat):SL:=⟨[(14,.d (.lit (.int .i64 n))),(13,.d (.lit (.int .i64 d.length))),(12,aTab d),(3,.vec 500 n)],[(500,.vec 3 1 (zg rI ((d.take n).map typR)) 0)]⟩
def W2s (d:List Row) (n:Nat) (l:Row) (i:Nat):SL:=
 ⟨[(20,.d (.lit (.int .i64 i))),(19,.d (.lit (.int .i64 l.length))),(18,aRow l),(6,num ((l.take i).foldl typF 1)),(14,.d (.lit (.int .i64 n))),(13,.d (.lit (.int .i64 d.length))),(12,aTab d),(3,.vec 500 n)],[(500,.vec 3 1 (zg rI ((d.take n).map typR)) 0)]⟩
theorem typesM_eq (d:List Row):zZ d=if domR d=true then d.map typR else []:=by
 rw [domR_eq,zZ]
 split
 ·rename_i h
  unfold wO at h
  simp only [Bool.and_eq_true] at h
  exact List.map_congr_left fun l hl=>(kw (List.all_eq_true.1 h.2 l hl)).symm
 ·rfl
theorem c_types23 (d:List Row) (hd:yE d):ACall Tryz.prog 11 [aTab d] [] (ints (zZ d)) []:=by
 refine zm mixed ttok Tryz.func11 Tryz.ntmps11 Tryz.results11 ?_
 generalize hr:ints (zZ d)=R
 rw [typesM_eq] at hr
 have hd1:=hd.1
 simp -implicitDefEqProofs only [argT,aTab,↓zb,push_cast,simprocAttr,tte]
 refine zd [[1]] [] (c_valid23 d hd) ?_
 simp -implicitDefEqProofs only [↓zb,push_cast,simprocAttr,tte]
 refine za (fun h0=>?_) fun h0=>?_
 ·rw [if_neg (by simp only [Bool.not_eq_true'] at h0;rw [h0];decide)] at hr
  refine zf [1] rfl (by simp) (by simp [zc]<;>omega) ?_ (by first | rfl | simp [ends] | (subst_vars;simp [ends])) (by simp [ends]) (by simp [ends])
  rw [<-hr];rfl
 rw [if_pos (by simpa using h0)] at hr
 refine z8 mixed ttok (fun n:Nat=>W1s d n) (fun n=>d.length-n) (fun n=>n<=d.length) 0 (Nat.zero_le _) ?_ ?_
 ·exact (Weak.nilL 3 500 3 1 rfl rfl).trans (Weak.keepL (by simp [W1s,ends]) (by simp [W1s,zg,ends]) (by simp [W1s,ends]))
 intro I hI n hn
 have hmn:min n d.length=n:=by omega
 have htl:((d.take n).map typR).length=n:=by rw [List.length_map,List.length_take];omega
 simp -implicitDefEqProofs only [W1s,rRow,↓zb,push_cast,simprocAttr,tte]
 refine za (fun h=>?_) fun h=>?_
 ·have h':n<d.length:=by simpa using h
  have hw:=zw h' (by omega)
  have hts:(d.take (n+1)).map typR=(d.take n).map typR++[typR (d.getD n default)]:=by rw [yr _ _ h',List.map_append];rfl
  have hlb:=hd.2 _ (zx h')
  generalize d.getD n default=l at hts hlb ⊢
  refine ⟨⟨by omega,by omega⟩,?_⟩
  refine z8 mixed ttok (fun i:Nat=>W2s d n l i) (fun i=>l.length-i) (fun i=>i<=l.length) 0 (Nat.zero_le _) ?_ ?_
  ·exact Weak.keepL (by simp [W2s,ends]) (by simp [W2s,ends]) (by simp [W2s,ends])
  intro J hJ i hi
  simp -implicitDefEqProofs only [W2s,↓zb,push_cast,simprocAttr,tte]
  refine za (fun h2=>?_) fun h2=>?_
  ·have hi':i<l.length:=by simpa using h2
   have hwi:=zw hi' (by omega)
   have hfs:(l.take (i+1)).foldl typF 1=typF ((l.take i).foldl typF 1) (l.getD i default):=by rw [yr _ _ hi',List.foldl_append];rfl
   refine ⟨⟨by omega,by omega⟩,?_⟩
   refine za (fun h3=>?_) fun h3=>?_
   ·have e3: ¬(l.getD i default).kind=0:=by simpa using h3
    rw [typF,if_neg e3] at hfs
    exact zp hJ (i+1) hi' (by show l.length-(i+1)<l.length-i;omega) (Weak.keepL (by simp only [W2s,hwi,hfs,ends,ite_true,ite_false,reduceIte,Nat.reduceEqDiff,Nat.reduceLeDiff,Nat.reduceLT,Nat.reduceAdd,reduceCtorEq,num,boo,str,ints,aV,aTab,aRow,rRow,vE]<;>simp [hwi,ends]) (by simp [W2s,ends]) (by simp [W2s,ends]))
   ·have e3:(l.getD i default).kind=0:=by simpa using h3
    rw [typF,if_pos e3] at hfs
    exact zp hJ (i+1) hi' (by show l.length-(i+1)<l.length-i;omega) (Weak.keepL (by simp only [W2s,hwi,hfs,ends,ite_true,ite_false,reduceIte,Nat.reduceEqDiff,Nat.reduceLeDiff,Nat.reduceLT,Nat.reduceAdd,reduceCtorEq,num,boo,str,ints,aV,aTab,aRow,rRow,vE]<;>simp [hwi,ends]) (by simp [W2s,ends]) (by simp [W2s,ends]))
  have hii:i=l.length:=by have:=of_decide_eq_false h2;omega
  subst hii
  rw [List.take_length]
  have hty:l.foldl typF 1=typR l:=rfl
  rw [hty]
  refine ⟨⟨htl.symm,by omega⟩,?_⟩
  exact zp hI (n+1) h' (by show d.length-(n+1)<d.length-n;omega) (Weak.keepL (by simp [W1s,hw,htl,hmn,ends]) (by simp only [W1s,hts,htl,ends,ite_true,ite_false,reduceIte,Nat.reduceEqDiff,Nat.reduceLeDiff,Nat.reduceLT,Nat.reduceAdd,reduceCtorEq,num,boo,str,ints,aV,aTab,aRow,rRow,vE]<;>simp [hmn,ends]) (by simp [W1s,ends]))
 have hnn:n=d.length:=by have:=of_decide_eq_false h;omega
 subst hnn
 rw [List.take_length] at htl ⊢
 refine zf [1] rfl (by simp) (by simp [zc]<;>omega) ?_ (by first | rfl | simp [ends] | (subst_vars;simp [ends])) (by simp [ends]) (by simp [ends])
 rw [<-hr];rfl
def ptF (n:Nat) (l:Row):Nat:=min (n * l.length) 1048576
def pts23 (d:List Row):Nat:=d.foldl ptF 1
theorem pts_le: ∀(d:List Row) (n:Nat),n<=1048576->d.foldl ptF n<=1048576
 | [],n,h=>h
 | l::d,n,h=>by rw [List.foldl_cons];exact pts_le d _ (Nat.min_le_right _ _)
theorem pts_full: ∀(d:List Row) (n:Nat),Full d->n<=1048576->d.foldl ptF n=min (n * zn d) 1048576
 | [],n,_,h=>by rw [List.foldl_nil,zn,Nat.mul_one];omega
 | l::d,n,hf,h=>by
   rw [List.foldl_cons,show ptF n l=min (n * l.length) 1048576 from rfl,pts_full d _ hf.tail (Nat.min_le_right _ _),zn,<-Nat.mul_assoc]
   have hp:=yX hf.tail
   rcases Nat.le_total (n * l.length) 1048576 with q | q
   ·rw [Nat.min_eq_left q]
   ·rw [Nat.min_eq_right q]
    have:1048576 * 1<=1048576 * zn d:=Nat.mul_le_mul_left _ hp
    have h2:n * l.length * 1<=n * l.length * zn d:=Nat.mul_le_mul_left _ hp
    omega
theorem uV {d:List Row} (G:GoodD d):pts23 d=zn d:=by
 unfold pts23
 rw [pts_full d 1 G.full (by decide),Nat.one_mul]
 have:=G.pr
 omega
def Q1s (d:List Row) (n:Nat):SL:=⟨[(8,.d (.lit (.int .i64 n))),(7,.d (.lit (.int .i64 d.length))),(6,aTab d),(3,.d (.lit (.int .i64 ((d.take n).foldl ptF 1:Nat))))],[]⟩
theorem ww (d:List Row) (hd:yE d):ACall Tryz.prog 14 [aTab d] [] (num (pts23 d:Nat)) []:=by
 refine zm mixed ttok Tryz.func14 Tryz.ntmps14 Tryz.results14 ?_
 generalize hr:num (pts23 d:Nat)=R
 have hd1:=hd.1
 simp -implicitDefEqProofs only [argT,aTab,↓zb,push_cast,simprocAttr,tte]
 refine z8 mixed ttok (fun n:Nat=>Q1s d n) (fun n=>d.length-n) (fun n=>n<=d.length) 0 (Nat.zero_le _) ?_ ?_
 ·exact Weak.keepL (by simp [Q1s,ends]) (by simp [Q1s,ends]) (by simp [Q1s,ends])
 intro I hI n hn
 simp -implicitDefEqProofs only [Q1s,rRow,↓zb,push_cast,simprocAttr,tte]
 refine za (fun h=>?_) fun h=>?_
 ·have h':n<d.length:=by simpa using h
  have hw:=zw h' (by omega)
  have hfs:(d.take (n+1)).foldl ptF 1=ptF ((d.take n).foldl ptF 1) (d.getD n default):=by rw [yr _ _ h',List.foldl_append];rfl
  have hlb:=hd.2 _ (zx h')
  have hpl:=pts_le (d.take n) 1 (by decide)
  generalize (d.take n).foldl ptF 1=p at hfs hpl ⊢
  rw [show ptF p (d.getD n default)=min (p * (d.getD n default).length) 1048576 from rfl] at hfs
  generalize (d.getD n default).length=m at hfs hlb ⊢
  obtain ⟨q,hq⟩: ∃q,p * m=q:=⟨_,rfl⟩
  have hqb:q<=1048576 * 1000000:=by rw [<-hq];exact Nat.mul_le_mul hpl hlb
  have hwp:IntKind.i64.wrap ((p:Int) * (m:Int))=(q:Int):=by
   have:(p:Int) * (m:Int)=(q:Int):=by rw [<-hq];exact (Int.natCast_mul p m).symm
   rw [this,z7 (by omega) (by omega)]
  rw [hq] at hfs
  simp only [hwp]
  have hmi:(if 1048576<(q:Int) then 1048576 else (q:Int))=((min q 1048576:Nat):Int):=by split<;>omega
  simp only [hmi]
  rw [<-hfs]
  refine ⟨⟨by omega,by omega⟩,?_⟩
  exact zp hI (n+1) h' (by show d.length-(n+1)<d.length-n;omega) (Weak.keepL (by simp [Q1s,hw,ends]) (by simp [Q1s,ends]) (by simp [Q1s,ends]))
 have hnn:n=d.length:=by have:=of_decide_eq_false h;omega
 subst hnn
 rw [List.take_length]
 exact zk trivial hr (by simp [ends])
theorem wu (d:List Row) (hd:yE d) (e:Ex) (ho:Ok12 e):ACall Tryz.prog 38 [aTab d,aE e] [] (num (zI d e)) []:=by
 refine zm mixed ttok Tryz.func38 Tryz.ntmps38 Tryz.results38 ?_
 generalize hr:num (zI d e)=R
 unfold zI at hr
 simp -implicitDefEqProofs only [argT,aTab,↓zb,push_cast,simprocAttr,tte]
 refine zd [[1]] [] (c_valid23 d hd) ?_
 rw [domR_eq]
 simp -implicitDefEqProofs only [↓zb,push_cast,simprocAttr,tte]
 refine za (fun h0=>?_) fun h0=>?_
 ·rw [if_pos (by simpa using h0)] at hr
  exact zk trivial hr (by simp [ends])
 have hdo:wO d=true:=by simpa using h0
 rw [if_neg (by rw [hdo];decide)] at hr
 obtain ⟨hf,hl12⟩:=uH hdo
 have hpts:pts23 d=min (zn d) 1048576:=by
  unfold pts23
  rw [pts_full d 1 hf (by decide),Nat.one_mul]
 refine zd [[1]] [] (ww d hd) ?_
 simp -implicitDefEqProofs only [↓zb,push_cast,simprocAttr,tte]
 refine za (fun h1=>?_) fun h1=>?_
 ·rw [if_pos (by simp only [decide_eq_true_eq] at h1;omega)] at hr
  exact zk trivial hr (by simp [ends])
 rw [if_neg (by simp only [decide_eq_false_iff_not] at h1;omega)] at hr
 have htl:(zZ d).length=d.length:=by rw [zZ,if_pos hdo,List.length_map]
 refine zd [[1]] [] (c_types23 d hd) ?_
 simp -implicitDefEqProofs only [↓zb,push_cast,simprocAttr,tte]
 refine zd [[1],[0,0,0,0,0,6]] [] (c_rtype (zZ d) (by rw [htl];omega) e ho) ?_
 simp -implicitDefEqProofs only [yY,↓zb,push_cast,simprocAttr,tte]
 refine ⟨zh (by kernel_rfl),?_⟩
 refine za (fun h2=>?_) fun h2=>?_
 ·rw [if_neg (by simpa using h2)] at hr
  exact zk trivial hr (by simp [ends])
 rw [if_pos (by simpa using h2)] at hr
 refine za (fun h3=>?_) fun h3=>?_
 ·rw [if_neg (by simpa using h3)] at hr
  exact zk trivial hr (by simp [ends])
 rw [if_pos (by simpa using h3)] at hr
 exact zk trivial hr (by simp [ends])
theorem jB (e:Ex) (x:List Val) (ho:Ok12 e):ACall Tryz.prog 44 [aE e,aRow x] [] (boo (zA (zN x e)==1)) []:=by
 refine zm mixed ttok Tryz.func44 Tryz.ntmps44 Tryz.results44 ?_
 simp -implicitDefEqProofs only [argT,↓zb,push_cast,simprocAttr,tte]
 refine zd [[0,0,0,0,0,6],[3]] [] (w8 x e ho) ?_
 simp -implicitDefEqProofs only [↓zb,push_cast,simprocAttr,tte]
 refine zd [[0,0,0]] [] (wb (zN x e)) ?_
 simp -implicitDefEqProofs only [↓zb,push_cast,simprocAttr,tte]
 exact zk trivial rfl (by simp [ends])
def pK (d:List Row) (n k:Nat):Row:=(List.range d.length).map fun j=>if j<k then default else (d.getD j default).getD (dig d j n) default
theorem pK_length (d:List Row) (n k:Nat):(pK d n k).length=d.length:=by simp [pK]
theorem pK_zero (d:List Row) (n:Nat):pK d n 0=ptM d n:=by
 unfold pK ptM
 exact List.map_congr_left fun j hj=>by rw [if_neg (by omega)]
theorem pK_full (d:List Row) (n:Nat):zg rV (pK d n d.length)=List.replicate d.length [.lit (.int .i64 0),.lit (.int .i64 0),.lit (.string ByteArray.empty)]:=by
 have e:pK d n d.length=x0 d 0:=by
  unfold pK x0
  exact List.map_congr_left fun j hj=>by rw [if_pos (List.mem_range.1 hj),if_neg (by omega)]
 rw [e,u0]
theorem pK_set {d:List Row} {n k:Nat} (hk:k<d.length):(pK d n (k+1)).set k ((d.getD k default).getD (dig d k n) default)=pK d n k:=by
 refine yQ _ _ _ _ _ hk ?_ fun j hj hne=>?_
 ·rw [if_neg (by omega)]
 ·by_cases h:j<k
  ·rw [if_pos (by omega),if_pos h]
  ·rw [if_neg (by omega),if_neg h]
def quoP (d:List Row) (n k:Nat):Nat:=n / zn (d.drop k)
def N1s (d:List Row) (n k:Nat):SL:=⟨[(6,.d (.lit (.int .i64 ((k:Int)-1)))),(5,.vec 9 d.length),(0,aTab d),(1,.d (.lit (.int .i64 (quoP d n k:Nat))))],[(9,xOb (pK d n k) 0)]⟩
theorem c_point (d:List Row) (G:GoodD d) (n:Nat) (hn:n<=5000):ACall Tryz.prog 15 [aTab d,num n] [] (.vec 1000 d.length) [(1000,xOb (ptM d n) 0)]:=by
 refine zm mixed ttok Tryz.func15 Tryz.ntmps15 Tryz.results15 ?_
 have hf:=G.full
 have hl12:=G.l12
 have wl:IntKind.i64.wrap ((d.length:Int)-1)=(d.length:Int)-1:=z7 (by omega) (by omega)
 simp -implicitDefEqProofs only [argT,aTab,xOb,↓zb,push_cast,simprocAttr,tte]
 refine ⟨⟨by omega,by omega,by omega⟩,?_⟩
 refine z8 mixed ttok (fun k:Nat=>N1s d n k) (fun k=>k) (fun k=>k<=d.length) d.length (Nat.le_refl _) ?_ ?_
 ·exact Weak.keepL (by simp [N1s,wl,quoP,zn,ends]) (by simp [N1s,xOb,pK_full,ends]) (by simp [N1s,ends])
 intro I hI k hk
 have hpl:=pK_length d n k
 simp -implicitDefEqProofs only [N1s,xOb,rRow,↓zb,push_cast,simprocAttr,tte]
 refine za (fun g=>?_) fun g=>?_
 ·have hk0:0<k:=by simp only [decide_eq_true_eq] at g;omega
  obtain ⟨i,rfl⟩: ∃i,k=i+1:=⟨k-1,by omega⟩
  have hi:i<d.length:=by omega
  have ei:(((i+1:Nat):Int)-1)=(i:Int):=by omega
  have hfl:=hf.at hi
  have hlb:=G.ll _ (zx hi)
  have hdl:=ue hf hi n
  have hnS:quoP d n (i+1)<=n:=Nat.div_le_self _ _
  have hq:quoP d n i=quoP d n (i+1) / (d.getD i default).length:=by
   unfold quoP
   rw [x8 hi,Nat.div_div_eq_div_mul,Nat.mul_comm];rfl
  have hz0:quoP d n (i+1) % (d.getD i default).length=dig d i n:=rfl
  generalize quoP d n (i+1)=z at hnS hq hz0 ⊢
  have hzm:(z:Int).tmod (((d.getD i default).length:Nat):Int)=((dig d i n:Nat):Int):=by rw [<-Int.ofNat_tmod,hz0]
  have hzL:z / (d.getD i default).length<=z:=Nat.div_le_self _ _
  have hzd:IntKind.i64.wrap ((z:Int).tdiv (((d.getD i default).length:Nat):Int))=((quoP d n i:Nat):Int):=by
   rw [<-Int.ofNat_tdiv,<-hq]
   rw [<-hq] at hzL
   rw [z7 (by omega) (by omega)]
  have wi:IntKind.i64.wrap ((i:Int)-1)=(i:Int)-1:=z7 (by omega) (by omega)
  have hvs:=yL (l:=pK d n (i+1)) (n:=i) (v:=(d.getD i default).getD (dig d i n) default) (by omega)
  rw [pK_set hi] at hvs
  simp only [ei,hzm,hzd,wi,Int.toNat_natCast]
  refine ⟨⟨by omega,by omega⟩,⟨by omega,by omega⟩,by omega,⟨by omega,by omega⟩,⟨⟨by omega,by omega⟩,hpl.symm⟩,⟨hpl.symm,by omega,by omega⟩,zh (by kernel_rfl),⟨by omega,by omega⟩,by omega,?_⟩
  exact zp hI i (by omega) (by show i<i+1;omega) (Weak.keepL (by simp [N1s,ends]) (by simp only [N1s,xOb,hvs,ends,ite_true,ite_false,reduceIte,Nat.reduceEqDiff,Nat.reduceLeDiff,Nat.reduceLT,Nat.reduceAdd,reduceCtorEq,num,boo,str,ints,aV,aTab,aRow,rRow,vE]<;>simp [ends]) (by simp [N1s,ends]))
 have hk0:k=0:=by simp only [decide_eq_false_iff_not] at g;omega
 subst hk0
 rw [pK_zero]
 refine u9 9 1000 trivial (by decide) (by decide) rfl (by simp [A.ren,renL,zJ]) (by simp [A.closed,closedL,inO,lookO]) ?_ ?_
 ·simp [renO,Ob.ren,A.ren,renL,zJ,ends]
 ·simp [renO,zJ,ends]
end
section
open Go.Am
attribute [local simp, local push_cast] num boo str ints aV aTab aRow rRow vE
def S1s (d:List Row) (e:Ex) (n:Nat):SL:=⟨[(7,.d (.lit (.int .i64 n))),(0,aTab d),(3,.ptr 3 0)],[(3,.var (vE e))]⟩
theorem c_solve23 (d:List Row) (hd:yE d) (e:Ex) (ho:Ok12 e):ACall Tryz.prog 39 [aTab d,aE e] [] (.tup [aRow (xq d e).1,num (xq d e).2]) []:=by
 have hV:=wu d hd e ho
 generalize hm:xq d e=r
 unfold xq at hm
 rw [zl] at hV ⊢
 refine zm mixed ttok Tryz.func39 Tryz.ntmps39 Tryz.results39 ?_
 simp -implicitDefEqProofs only [argT,aTab,↓zb,push_cast,simprocAttr,tte]
 refine zd [[1],[0,0,0,0,0,6]] [] (hV) ?_
 simp -implicitDefEqProofs only [↓zb,push_cast,simprocAttr,tte]
 refine za (fun h1=>?_) fun h1=>?_
 ·have hv:zI d e≠0:=by simpa using h1
  rw [if_pos hv] at hm
  subst hm
  refine zO [[3],[]] rfl (by simp) (by simp) ?_ rfl trivial (by simp [ends])
  rfl
 have hv:zI d e=0:=by simpa using h1
 rw [if_neg (by omega)] at hm
 have G:=w7 hv
 have hpp:=yX G.full
 have hpr:=G.pr
 have hpts:=uV G
 refine z8 mixed ttok (fun n:Nat=>S1s d e n) (fun n=>zn d-n) (fun n=>n<=zn d/\ ∀j,j<n->yp d e j=false) 0 ⟨Nat.zero_le _,fun j h=>by omega⟩ ?_ ?_
 ·exact Weak.keepL (by simp [S1s,ends]) (by simp [S1s,vE,ends]) (by simp [S1s,ends])
 rintro I hI n ⟨hn,hno⟩
 simp -implicitDefEqProofs only [S1s,vE,↓zb,push_cast,simprocAttr,tte]
 refine zd [[1]] [] (ww d hd) ?_
 rw [hpts]
 simp -implicitDefEqProofs only [↓zb,push_cast,simprocAttr,tte]
 refine za (fun h2=>?_) fun h2=>?_
 ·have h2':n<zn d:=by simpa using h2
  have hw:=zw h2' (by omega)
  refine zd [[1],[]] [(1000,600)] (c_point d G n (by omega)) ?_
  have hxl:=yk d n
  simp -implicitDefEqProofs only [xOb,↓zb,push_cast,simprocAttr,tte]
  have hH:=jB e (ptM d n) ho
  rw [zl] at hH
  refine zd [[0,0,0,0,0,6],[3]] [] (hH) ?_
  simp -implicitDefEqProofs only [↓zb,push_cast,simprocAttr,tte]
  refine za (fun h3=>?_) fun h3=>?_
  ·rw [first_of h2' h3 hno] at hm
   subst hm
   refine zO [[3],[]] rfl (by simp) (by simp [zc,hxl]) ?_ rfl trivial (by simp [ends])
   rfl
  ·exact zp hI (n+1) ⟨h2',fun j hj=>by
    rcases Nat.lt_or_eq_of_le (Nat.lt_succ_iff.1 hj) with q | q
    ·exact hno j q
    ·rw [q];exact h3⟩ (by show zn d-(n+1)<zn d-n;omega) (Weak.keepL (by simp [S1s,hw,ends]) (by simp [S1s,vE,ends]) (by simp [S1s,ends]))
 have hnn:n=zn d:=by have:=of_decide_eq_false h2;omega
 subst hnn
 rw [first_no hno] at hm
 subst hm
 refine zO [[3],[]] rfl (by simp) (by simp) ?_ rfl trivial (by simp [ends])
 rfl
def C1s (d:List Row) (e:Ex) (n:Nat):SL:=⟨[(10,.d (.lit (.int .i64 n))),(9,.ptr 9 0),(0,aTab d),(3,.ptr 3 0)],[(3,.var (vE e)),(9,.var [num (cntT (zV d e) 0 n),num (cntT (zV d e) 1 n),num (cntT (zV d e) 2 n)])]⟩
theorem c_count23 (d:List Row) (hd:yE d) (e:Ex) (ho:Ok12 e):ACall Tryz.prog 90 [aTab d,aE e] [] (.tup ((uf d e).map num)) []:=by
 have hV:=wu d hd e ho
 have hm:uf d e=if zI d e≠0 then [0,0,0,zI d e] else [cntT (zV d e) 1 (zn d),cntT (zV d e) 0 (zn d),cntT (zV d e) 2 (zn d),0]:=rfl
 generalize uf d e=r at hm ⊢
 rw [zl] at hV ⊢
 refine zm mixed ttok Tryz.func90 Tryz.ntmps90 Tryz.results90 ?_
 simp -implicitDefEqProofs only [argT,aTab,↓zb,push_cast,simprocAttr,tte]
 refine zd [[1],[0,0,0,0,0,6]] [] (hV) ?_
 simp -implicitDefEqProofs only [↓zb,push_cast,simprocAttr,tte]
 refine za (fun h1=>?_) fun h1=>?_
 ·have hv:zI d e≠0:=by simpa using h1
  rw [if_pos hv] at hm
  subst hm
  exact zO [[],[],[],[]] rfl (by simp) (by simp) rfl rfl trivial (by simp [ends])
 have hv:zI d e=0:=by simpa using h1
 rw [if_neg (by omega)] at hm
 have G:=w7 hv
 have hpp:=yX G.full
 have hpr:=G.pr
 have hpts:=uV G
 refine z8 mixed ttok (fun n:Nat=>C1s d e n) (fun n=>zn d-n) (fun n=>n<=zn d) 0 (Nat.zero_le _) ?_ ?_
 ·exact Weak.keepL (by simp [C1s,ends]) (by simp [C1s,vE,cntT_zero,ends]) (by simp [C1s,ends])
 intro I hI n hn
 simp -implicitDefEqProofs only [C1s,vE,↓zb,push_cast,simprocAttr,tte]
 refine zd [[1]] [] (ww d hd) ?_
 rw [hpts]
 simp -implicitDefEqProofs only [↓zb,push_cast,simprocAttr,tte]
 refine za (fun h2=>?_) fun h2=>?_
 ·have h2':n<zn d:=by simpa using h2
  have hw:=zw h2' (by omega)
  refine zd [[1],[]] [(1000,600)] (c_point d G n (by omega)) ?_
  have hxl:=yk d n
  simp -implicitDefEqProofs only [xOb,↓zb,push_cast,simprocAttr,tte]
  have hH:=w8 (ptM d n) e ho
  rw [zl] at hH
  refine zd [[0,0,0,0,0,6],[3]] [] (hH) ?_
  simp -implicitDefEqProofs only [↓zb,push_cast,simprocAttr,tte]
  refine zd [[0,0,0]] [] (wb (zN (ptM d n) e)) ?_
  rw [show zA (zN (ptM d n) e)=zV d e n from rfl]
  have b0:=jA (zV d e) 0 n
  have b1:=jA (zV d e) 1 n
  have b2:=jA (zV d e) 2 n
  have s0:=vn (zV d e) 0 n
  have s1:=vn (zV d e) 1 n
  have s2:=vn (zV d e) 2 n
  have ht:zV d e n=0\/zV d e n=1\/zV d e n=2:=truth_cases _
  have w0:IntKind.i64.wrap (cntT (zV d e) 0 n+1)=cntT (zV d e) 0 n+1:=z7 (by omega) (by omega)
  have w1:IntKind.i64.wrap (cntT (zV d e) 1 n+1)=cntT (zV d e) 1 n+1:=z7 (by omega) (by omega)
  have w2:IntKind.i64.wrap (cntT (zV d e) 2 n+1)=cntT (zV d e) 2 n+1:=z7 (by omega) (by omega)
  generalize zV d e n=t at ht s0 s1 s2 ⊢
  rcases ht with rfl | rfl | rfl
  all_goals
   simp -implicitDefEqProofs only [w0,w1,w2,↓zb,push_cast,simprocAttr,tte]
   refine ⟨zh (by kernel_rfl),?_⟩
   exact zp hI (n+1) h2' (by show zn d-(n+1)<zn d-n;omega) (Weak.keepL (by simp [C1s,hw,ends]) (by simp [C1s,vE,s0,s1,s2,ends]) (by simp [C1s,ends]))
 have hnn:n=zn d:=by have:=of_decide_eq_false h2;omega
 subst hnn
 subst hm
 refine ⟨zh (by kernel_rfl),?_⟩
 exact zO [[],[],[],[]] rfl (by simp) (by simp) rfl rfl trivial (by simp [ends])
def M1s (d:List Row) (a b:Ex) (n:Nat):SL:=⟨[(11,.d (.lit (.int .i64 n))),(0,aTab d),(4,.ptr 4 0),(5,.ptr 5 0)],[(4,.var (vE a)),(5,.var (vE b))]⟩
theorem c_implies23 (d:List Row) (hd:yE d) (a b:Ex) (ha:Ok12 a) (hb:Ok12 b):ACall Tryz.prog 41 [aTab d,aE a,aE b] [] (.tup [aRow (impM d a b).1,boo (impM d a b).2.1,num (impM d a b).2.2]) []:=by
 have hVa:=wu d hd a ha
 have hVb:=wu d hd b hb
 generalize hm:impM d a b=r
 unfold impM at hm
 rw [zl a] at hVa
 rw [zl b] at hVb
 rw [zl a,zl b]
 refine zm mixed ttok Tryz.func41 Tryz.ntmps41 Tryz.results41 ?_
 simp -implicitDefEqProofs only [argT,aTab,↓zb,push_cast,simprocAttr,tte]
 refine zd [[1],[0,0,0,0,0,6]] [] (hVa) ?_
 simp -implicitDefEqProofs only [↓zb,push_cast,simprocAttr,tte]
 refine za (fun h1=>?_) fun h1=>?_
 ·have hv:zI d a≠0:=by simpa using h1
  rw [if_pos hv] at hm
  subst hm
  refine zO [[3],[],[]] rfl (by simp) (by simp) ?_ rfl trivial (by simp [ends])
  rfl
 have hv:zI d a=0:=by simpa using h1
 rw [if_neg (by omega)] at hm
 refine zd [[1],[0,0,0,0,0,6]] [] (hVb) ?_
 simp -implicitDefEqProofs only [↓zb,push_cast,simprocAttr,tte]
 refine za (fun h1b=>?_) fun h1b=>?_
 ·have hvb:zI d b≠0:=by simpa using h1b
  rw [if_pos hvb] at hm
  subst hm
  refine zO [[3],[],[]] rfl (by simp) (by simp) ?_ rfl trivial (by simp [ends])
  rfl
 have hvb:zI d b=0:=by simpa using h1b
 rw [if_neg (by omega)] at hm
 have G:=w7 hv
 have hpp:=yX G.full
 have hpr:=G.pr
 have hpts:=uV G
 refine z8 mixed ttok (fun n:Nat=>M1s d a b n) (fun n=>zn d-n) (fun n=>n<=zn d/\ ∀j,j<n->jb d a b j=false) 0 ⟨Nat.zero_le _,fun j h=>by omega⟩ ?_ ?_
 ·exact Weak.keepL (by simp [M1s,ends]) (by simp [M1s,vE,ends]) (by simp [M1s,ends])
 rintro I hI n ⟨hn,hno⟩
 simp -implicitDefEqProofs only [M1s,vE,↓zb,push_cast,simprocAttr,tte]
 refine zd [[1]] [] (ww d hd) ?_
 rw [hpts]
 simp -implicitDefEqProofs only [↓zb,push_cast,simprocAttr,tte]
 refine za (fun h2=>?_) fun h2=>?_
 ·have h2':n<zn d:=by simpa using h2
  have hw:=zw h2' (by omega)
  have hia:jb d a b n=(yp d a n&& !yp d b n):=rfl
  have nxt:jb d a b n=false-> ∀j,j<n+1->jb d a b j=false:=fun h3 j hj=>by
   rcases Nat.lt_or_eq_of_le (Nat.lt_succ_iff.1 hj) with q | q
   ·exact hno j q
   ·rw [q];exact h3
  refine zd [[1],[]] [(1000,600)] (c_point d G n (by omega)) ?_
  have hxl:=yk d n
  simp -implicitDefEqProofs only [xOb,↓zb,push_cast,simprocAttr,tte]
  have hH:=jB a (ptM d n) ha
  have hH2:=jB b (ptM d n) hb
  rw [zl] at hH hH2
  refine zd [[0,0,0,0,0,6],[3]] [] (hH) ?_
  simp -implicitDefEqProofs only [↓zb,push_cast,simprocAttr,tte]
  refine za (fun h3=>?_) fun h3=>?_
  ·have e3:yp d a n=true:=h3
   refine zd [[0,0,0,0,0,6],[3]] [] (hH2) ?_
   simp -implicitDefEqProofs only [↓zb,push_cast,simprocAttr,tte]
   refine za (fun h4=>?_) fun h4=>?_
   ·have e4:yp d b n=false:=by simpa [yp] using h4
    rw [e3,e4] at hia
    rw [first_of h2' hia hno] at hm
    subst hm
    refine zO [[3],[],[]] rfl (by simp) (by simp [zc,hxl]) ?_ rfl trivial (by simp [ends])
    rfl
   ·have e4:yp d b n=true:=by simpa [yp] using h4
    rw [e4,Bool.not_true,Bool.and_false] at hia
    exact zp hI (n+1) ⟨h2',nxt hia⟩ (by show zn d-(n+1)<zn d-n;omega) (Weak.keepL (by simp [M1s,hw,ends]) (by simp [M1s,vE,ends]) (by simp [M1s,ends]))
  ·have e3:yp d a n=false:=h3
   rw [e3,Bool.false_and] at hia
   exact zp hI (n+1) ⟨h2',nxt hia⟩ (by show zn d-(n+1)<zn d-n;omega) (Weak.keepL (by simp [M1s,hw,ends]) (by simp [M1s,vE,ends]) (by simp [M1s,ends]))
 have hnn:n=zn d:=by have:=of_decide_eq_false h2;omega
 subst hnn
 rw [first_no hno] at hm
 subst hm
 refine zO [[3],[],[]] rfl (by simp) (by simp) ?_ rfl trivial (by simp [ends])
 rfl
end
section
open Go.Am
attribute [local simp, local push_cast] num boo str ints aV aTab aRow rRow vE
def othAt (d:List Row) (e:Ex) (i n j:Nat):Bool:= !yw (yU d e n) (zN ((ptM d n).set i ((d.getD i default).getD j default)) e)
def othTo (d:List Row) (e:Ex) (i n m:Nat):Bool:=(List.range m).any (othAt d e i n)
def ub (d:List Row) (e:Ex) (i n:Nat):Bool:=(List.range n).any fun k=>othTo d e i k (d.getD i default).length
theorem uR (a b:Val):yw a b=true ↔ a=b:=by
 have h:=vo a b
 rw [<-h,beq_iff_eq,vP]
theorem matt_dep {d:List Row} (G:GoodD d) (e:Ex) {i:Nat} (hi:i<d.length):ub d e i (zn d)=jl d e i (zn d):=by
 have hf:=G.full
 have hfl:=hf.at hi
 rw [Bool.eq_iff_iff]
 unfold ub jl othTo
 simp only [List.any_eq_true,List.mem_range]
 constructor
 ·rintro ⟨n,hn,j,hj,h⟩
  have hdl:=ue hf hi n
  unfold othAt at h
  rw [<-pt_put hf hi hj] at h
  have h': ¬yU d e n=yU d e (n-dig d i n * strd d i+j * strd d i):=fun he=>by
   have:=(uR _ _).2 he
   rw [show zN (ptM d (n-dig d i n * strd d i+j * strd d i)) e=yU d e (n-dig d i n * strd d i+j * strd d i) from rfl,this] at h
   cases h
  by_cases h1:depAt d e i n=true
  ·exact ⟨n,hn,h1⟩
  ·refine ⟨n-dig d i n * strd d i+j * strd d i,put_lt hf hi hj hn,?_⟩
   have e1:yU d e n=yU d e (n-dig d i n * strd d i):=by
    unfold depAt at h1
    exact (uR _ _).1 (by simpa using h1)
   have hdg:dig d i (n-dig d i n * strd d i+j * strd d i)=j:=by rw [dig_put hf hi hi hj,if_pos rfl]
   unfold depAt
   rw [hdg,Nat.add_sub_cancel]
   cases hs:yw (yU d e (n-dig d i n * strd d i+j * strd d i)) (yU d e (n-dig d i n * strd d i)) with
   | false=>rfl
   | true=>exact absurd (e1.trans ((uR _ _).1 hs).symm) h'
 ·rintro ⟨n,hn,h⟩
  refine ⟨n,hn,0,hfl,?_⟩
  unfold othAt
  rw [<-pt_put hf hi hfl,Nat.zero_mul,Nat.add_zero]
  exact h
def xJ (d:List Row) (i n j:Nat):Row:=if j=0 then ptM d n else (ptM d n).set i ((d.getD i default).getD (j-1) default)
theorem xJ_length (d:List Row) (i n j:Nat):(xJ d i n j).length=d.length:=by
 unfold xJ;split
 ·exact yk d n
 ·rw [List.length_set];exact yk d n
theorem xJ_set (d:List Row) (i n j:Nat):(xJ d i n j).set i ((d.getD i default).getD j default)=xJ d i n (j+1):=by
 unfold xJ
 rw [if_neg (by omega: ¬j+1=0),Nat.add_sub_cancel]
 split
 ·rfl
 ·rw [List.set_set]
def Y1s (d:List Row) (e:Ex) (i n:Nat):SL:=⟨[(7,.d (.lit (.int .i64 n))),(0,aTab d),(2,.d (.lit (.int .i64 i))),(4,.ptr 4 0)],[(4,.var (vE e))]⟩
def Y2s (d:List Row) (e:Ex) (i n j:Nat):SL:=
 ⟨[(29,.d (.lit (.int .i64 j))),(28,.d (.lit (.int .i64 (d.getD i default).length))),(27,aRow (d.getD i default)),(9,.ptr 9 0),(8,.vec 600 d.length),(7,.d (.lit (.int .i64 n))),(0,aTab d),(2,.d (.lit (.int .i64 i))),(4,.ptr 4 0)],
  [(4,.var (vE e)),(9,.var [.d (.lit (.int .i64 (yU d e n).kind)),.d (.lit (.int .i64 (yU d e n).num)),.d (.lit (.string (yU d e n).text))]),(600,xOb (xJ d i n j) 0)]⟩
theorem c_matters (d:List Row) (hd:yE d) (G:GoodD d) (e:Ex) (ho:Ok12 e) (i:Nat) (hi:i<d.length):ACall Tryz.prog 89 [aTab d,aE e,num i] [] (boo (ub d e i (zn d))) []:=by
 generalize hr:boo (ub d e i (zn d))=R
 rw [zl]
 refine zm mixed ttok Tryz.func89 Tryz.ntmps89 Tryz.results89 ?_
 have hpp:=yX G.full
 have hpr:=G.pr
 have hl12:=G.l12
 have hpts:=uV G
 have hlb:=G.ll _ (zx hi)
 simp -implicitDefEqProofs only [argT,aTab,↓zb,push_cast,simprocAttr,tte]
 refine z8 mixed ttok (fun n:Nat=>Y1s d e i n) (fun n=>zn d-n) (fun n=>n<=zn d/\ub d e i n=false) 0 ⟨Nat.zero_le _,rfl⟩ ?_ ?_
 ·exact Weak.keepL (by simp [Y1s,ends]) (by simp [Y1s,vE,ends]) (by simp [Y1s,ends])
 rintro I hI n ⟨hn,hno⟩
 simp -implicitDefEqProofs only [Y1s,vE,↓zb,push_cast,simprocAttr,tte]
 refine zd [[1]] [] (ww d hd) ?_
 rw [hpts]
 simp -implicitDefEqProofs only [↓zb,push_cast,simprocAttr,tte]
 refine za (fun h2=>?_) fun h2=>?_
 ·have h2':n<zn d:=by simpa using h2
  have hw:=zw h2' (by omega)
  have hms: ∀m,ub d e i (m+1)=(ub d e i m || othTo d e i m (d.getD i default).length):=fun m=>by
   unfold ub
   rw [List.range_succ,List.any_append,List.any_cons,List.any_nil,Bool.or_false]
  refine zd [[1],[]] [(1000,600)] (c_point d G n (by omega)) ?_
  have hxl:=yk d n
  simp -implicitDefEqProofs only [xOb,↓zb,push_cast,simprocAttr,tte]
  refine vQ (xs:=[aE e,aRow (ptM d n)]) (rs:=valL (yU d e n)) [600] (w8 (ptM d n) e ho) (fun h2 hr=>xW e (hr 600 (by simp)) hxl.symm) ?_
  simp -implicitDefEqProofs only [lits,valL,↓zb,push_cast,simprocAttr,tte]
  refine ⟨⟨by omega,by omega⟩,?_⟩
  refine z8 mixed ttok (fun j:Nat=>Y2s d e i n j) (fun j=>(d.getD i default).length-j) (fun j=>j<=(d.getD i default).length/\othTo d e i n j=false) 0 ⟨Nat.zero_le _,rfl⟩ ?_ ?_
  ·exact Weak.keepL (by simp [Y2s,ends]) (by simp [Y2s,vE,xOb,xJ,ends]) (by simp [Y2s,ends])
  rintro J hJ j ⟨hj,hjo⟩
  have hxjl:=xJ_length d i n j
  simp -implicitDefEqProofs only [Y2s,vE,xOb,↓zb,push_cast,simprocAttr,tte]
  refine za (fun h3=>?_) fun h3=>?_
  ·have h3':j<(d.getD i default).length:=by simpa using h3
   have hwj:=zw h3' (by omega)
   have hos:othTo d e i n (j+1)=(othTo d e i n j || othAt d e i n j):=by
    unfold othTo
    rw [List.range_succ,List.any_append,List.any_cons,List.any_nil,Bool.or_false]
   have hvs:=yL (l:=xJ d i n j) (n:=i) (v:=(d.getD i default).getD j default) (by omega)
   rw [xJ_set] at hvs
   have hx2:=xJ_length d i n (j+1)
   simp only [hvs]
   refine ⟨⟨by omega,by omega⟩,⟨⟨by omega,by omega⟩,hxjl.symm⟩,⟨hxjl.symm,by omega,by omega⟩,?_⟩
   refine vQ (xs:=[aE e,aRow (xJ d i n (j+1))]) (rs:=valL (zN (xJ d i n (j+1)) e)) [600] (w8 (xJ d i n (j+1)) e ho) (fun h2 hr=>xW e (hr 600 (by simp)) hx2.symm) ?_
   simp -implicitDefEqProofs only [lits,valL,↓zb,push_cast,simprocAttr,tte]
   refine zd [[0,0,0],[0,0,0]] [] (c_rsame (yU d e n) (zN (xJ d i n (j+1)) e)) ?_
   simp -implicitDefEqProofs only [↓zb,push_cast,simprocAttr,tte]
   refine ⟨zh (by kernel_rfl),?_⟩
   have hoa:othAt d e i n j= !yw (yU d e n) (zN (xJ d i n (j+1)) e):=by
    unfold othAt xJ
    rw [if_neg (by omega: ¬j+1=0),Nat.add_sub_cancel]
   rw [<-hoa]
   refine za (fun h4=>?_) fun h4=>?_
   ·have hany:ub d e i (zn d)=true:=by
     unfold ub
     refine List.any_eq_true.2 ⟨n,List.mem_range.2 h2',?_⟩
     unfold othTo
     exact List.any_eq_true.2 ⟨j,List.mem_range.2 h3',h4⟩
    rw [hany] at hr
    exact zk trivial hr (by simp [ends])
   ·rw [hjo,h4,Bool.or_self] at hos
    exact zp hJ (j+1) ⟨h3',hos⟩ (by show (d.getD i default).length-(j+1)<(d.getD i default).length-j;omega) (Weak.keepL (by simp [Y2s,hwj,ends]) (by simp [Y2s,vE,xOb,ends]) (by simp [Y2s,ends]))
  have hjj:j=(d.getD i default).length:=by have:=of_decide_eq_false h3;omega
  subst hjj
  have hm2:=hms n
  rw [hno,hjo,Bool.or_self] at hm2
  exact zp hI (n+1) ⟨h2',hm2⟩ (by show zn d-(n+1)<zn d-n;omega) (Weak.keepL (by simp [Y1s,hw,ends]) (by simp [Y1s,vE,ends]) (by simp [Y1s,ends]))
 have hnn:n=zn d:=by have:=of_decide_eq_false h2;omega
 subst hnn
 rw [hno] at hr
 exact zk trivial hr (by simp [ends])
def Z1s (d:List Row) (e:Ex) (i:Nat):SL:=⟨[(17,.d (.lit (.int .i64 i))),(16,.d (.lit (.int .i64 d.length))),(7,.vec 501 (xb d e i).length),(0,aTab d),(3,.ptr 3 0)],[(3,.var (vE e)),(501,.vec 3 1 (zg rI (xb d e i)) 0)]⟩
theorem c_relevant23 (d:List Row) (hd:yE d) (e:Ex) (ho:Ok12 e):ACall Tryz.prog 40 [aTab d,aE e] [] (.tup [ints (relM d e).1,num (relM d e).2]) []:=by
 have hV:=wu d hd e ho
 generalize hm:relM d e=r
 unfold relM at hm
 rw [zl] at hV ⊢
 refine zm mixed ttok Tryz.func40 Tryz.ntmps40 Tryz.results40 ?_
 simp -implicitDefEqProofs only [argT,aTab,↓zb,push_cast,simprocAttr,tte]
 refine zd [[1],[0,0,0,0,0,6]] [] (hV) ?_
 simp -implicitDefEqProofs only [↓zb,push_cast,simprocAttr,tte]
 refine za (fun h1=>?_) fun h1=>?_
 ·have hv:zI d e≠0:=by simpa using h1
  rw [if_pos hv] at hm
  subst hm
  refine zO [[1],[]] rfl (by simp) (by simp) ?_ rfl trivial (by simp [ends])
  rfl
 have hv:zI d e=0:=by simpa using h1
 rw [if_neg (by omega)] at hm
 subst hm
 have G:=w7 hv
 have hl12:=G.l12
 refine z8 mixed ttok (fun i:Nat=>Z1s d e i) (fun i=>d.length-i) (fun i=>i<=d.length) 0 (Nat.zero_le _) ?_ ?_
 ·exact (Weak.nilL 7 501 3 1 rfl rfl).trans (Weak.keepL (by simp [Z1s,xb,ends]) (by simp [Z1s,vE,xb,zg,ends]) (by simp [Z1s,ends]))
 intro I hI i hi
 simp -implicitDefEqProofs only [Z1s,vE,↓zb,push_cast,simprocAttr,tte]
 refine za (fun h=>?_) fun h=>?_
 ·have h':i<d.length:=by simpa using h
  have hw:=zw h' (by omega)
  have hrs:xb d e (i+1)=if jl d e i (zn d)=true then xb d e i++[(i:Int)] else xb d e i:=by
   unfold xb
   rw [List.range_succ,List.filter_append,List.map_append]
   split<;>rename_i hq
   ·rw [List.filter_cons_of_pos (by simpa using hq)];simp
   ·rw [List.filter_cons_of_neg (by simpa using hq)];simp
  have hrl:(xb d e i).length<=i:=by
   unfold xb
   rw [List.length_map]
   exact Nat.le_trans (List.length_filter_le _ _) (by rw [List.length_range];exact Nat.le_refl _)
  have hM:=c_matters d hd G e ho i h'
  rw [matt_dep G e h',zl] at hM
  refine zd [[1],[0,0,0,0,0,6],[]] [] (hM) ?_
  simp -implicitDefEqProofs only [↓zb,push_cast,simprocAttr,tte]
  refine za (fun h3=>?_) fun h3=>?_
  ·rw [h3,if_pos rfl] at hrs
   refine ⟨by omega,?_⟩
   refine zp hI (i+1) h' (by show d.length-(i+1)<d.length-i;omega) (Weak.keepL (by simp [Z1s,hw,hrs,ends]) (by simp [Z1s,vE,hrs,zy,rI,ends]) (by simp [Z1s,ends]))
  ·rw [h3,if_neg (by decide)] at hrs
   refine zp hI (i+1) h' (by show d.length-(i+1)<d.length-i;omega) (Weak.keepL (by simp [Z1s,hw,hrs,ends]) (by simp [Z1s,vE,hrs,ends]) (by simp [Z1s,ends]))
 have hnn:i=d.length:=by have:=of_decide_eq_false h;omega
 subst hnn
 refine zO [[1],[]] rfl (by simp) (by simp [zc]) ?_ rfl trivial (by simp [ends])
 rfl
end
end Go.Proofs.YtiagabnddihchaaGreatDoor
