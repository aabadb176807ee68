/- Queries over made schemas answer as specified (part Wo) -/
import Derived.Test.YtnmibokjpedkiaaGreatDoorWn
import Derived.Test.YtnmibokjpedkiaaGreatDoorWp
import Derived.Test.YtnmibokjpedkiaaGreatDoorRows
import Derived.MakeChecks
import Derived.LaidLaws
import Derived.LaidMore
import Derived.Shelf.Vars
set_option maxRecDepth 100000
set_option maxHeartbeats 4000000
set_option linter.all false
namespace Go.Proofs.YtnmibokjpedkiaaGreatDoor
open Go.Am
section
attribute [local simp, local push_cast] Wq aRow rRow vecT rG
theorem c_equalT (l:List Row) (hl:l.length<=1000000) (hr1: ∀r∈l,r.length<=1000):ACall Tryz.prog 14 [aTab l,aTab l] [] (boo true) []:=by
 refine zn mixed ttok Tryz.func14 Tryz.ntmps14 Tryz.results14 ?_;generalize hr:boo true=R;refine Zn ?_;refine zz mixed ttok (fun i:Nat=>(⟨[(5,num i),(0,aTab l),(1,aTab l)],[]⟩:SL)) (fun i=>l.length-i) (fun i=>i<=l.length) 0 (Yq _) ?_ ?_
 ·exact Ya Zb Zb Zb
 intro I hI i hi;refine Zg ?_;refine za (fun h=>?_) fun h=>?_
 ·have h':i<l.length:=Zp h;have hw:=zh h' Za;have hr2:=hr1 _ (zm h');refine ⟨Za,Za,?_⟩;refine zf [[3],[3]] [] (jo (l.getD i default) (l.getD i default) Za) ?_;rw [yf];refine Zg ?_;refine ⟨ze Zf,?_⟩;exact zi hI (i+1) h' Zj (Ya (Ze hw) Zb Zb)
 exact zk trivial hr Zb
end
section
theorem ui64:Tryz.prog.underlying 3=some (.int .i64):=Zf
theorem uint64:Tryz.prog.underlying 2=some (.int .i64):=Zf
theorem ustr:Tryz.prog.underlying 9=some .string:=Zf
theorem uboo:Tryz.prog.underlying 4=some .bool:=Zf
theorem uInts:Tryz.prog.underlying 22=some (.slice 3):=Zf
theorem uVals:Tryz.prog.underlying 53=some (.slice 71):=Zf
theorem uRows:Tryz.prog.underlying 38=some (.slice 53):=Zf
theorem uTabs:Tryz.prog.underlying 30=some (.slice 38):=Zf
theorem uExs:Tryz.prog.underlying 34=some (.slice 36):=Zf
theorem c1i:Tryz.prog.cellsOf 3=1:=Zf
theorem c3v:Tryz.prog.cellsOf 71=3:=Zf
theorem c1vs:Tryz.prog.cellsOf 53=1:=Zf
theorem c1rs:Tryz.prog.cellsOf 38=1:=Zf
theorem c6e:Tryz.prog.cellsOf 36=6:=Zf
theorem sVal:vW Tryz.prog 71 [3,2,9]=true:=Zf
theorem sIns:vW Tryz.prog 32 [30]=true:=Zf
section
variable {H:Type} {enc:TypeId×Value->H} {w:World} {base:Nat} {spare:Nat->Bool} {held:Bool} {fuel:Nat} {cs:List Value} {x:DataW H×List MemPlace}
theorem rd_ints (h:DataW.trod enc Tryz.prog w base spare held fuel 22 cs=some x): ∃l:List Int,crep (E0 w).R [.sl 1 (zd rI l)] cs:=
 rd_slice rI uInts c1i Zi h fun n cs' y _ hy=>by obtain ⟨k,_,hk⟩:=uI ui64 hy;exact ⟨k,hk⟩
theorem rd_val (h:DataW.trod enc Tryz.prog w base spare held fuel 71 cs=some x): ∃v:Val,crep (E0 w).R (rV v) cs:=by
 obtain ⟨n,_,hl,hf⟩:=gH _ sVal h;obtain ⟨c0,y0,e0,h0⟩:=hf 0 _ rfl;obtain ⟨c1,y1,e1,h1⟩:=hf 1 _ rfl;obtain ⟨c2,y2,e2,h2⟩:=hf 2 _ rfl;obtain ⟨a,_,r0⟩:=uI (R:=(E0 w).R) ui64 h0;obtain ⟨b,_,r1⟩:=uI (R:=(E0 w).R) uint64 h1;obtain ⟨s,r2⟩:=rd_str (R:=(E0 w).R) ustr h2;exact ⟨⟨a,b,s⟩,crep_3 hl e0 e1 e2 r0 r1 r2⟩
theorem rd_row (h:DataW.trod enc Tryz.prog w base spare held fuel 53 cs=some x): ∃l:Row,crep (E0 w).R (rRow l) cs:=
 rd_slice rV uVals c3v Zi h fun n cs' y _ hy=>rd_val hy
theorem rd_tab (h:DataW.trod enc Tryz.prog w base spare held fuel 38 cs=some x): ∃l:Tab2,crep (E0 w).R (rTab l) cs:=
 rd_slice rRow uRows c1vs Zi h fun n cs' y _ hy=>rd_row hy
theorem rd_tabs (h:DataW.trod enc Tryz.prog w base spare held fuel 30 cs=some x): ∃l:List Tab2,crep (E0 w).R [.sl 1 (zd rTab l)] cs:=
 rd_slice rTab uTabs c1rs Zi h fun n cs' y _ hy=>rd_tab hy
theorem rd_ins (h:DataW.trod enc Tryz.prog w base spare held fuel 32 cs=some x): ∃s:List Tab2,crep (E0 w).R [.sl 1 (zd rTab s)] cs:=by
 obtain ⟨n,_,hl,hf⟩:=gH _ sIns h;obtain ⟨c0,y0,e0,h0⟩:=hf 0 _ rfl;obtain ⟨a0,r0⟩:=rd_tabs h0;exact ⟨a0,crep_1 hl e0 r0⟩
end
end
section
theorem i64_of {x:Int} (h:(Lit.int .i64 x).wf=true):i64 x:=by
 have: -9223372036854775808<=x/\x<=9223372036854775807:=by simpa [Lit.wf,IntKind.min,IntKind.max,IntKind.signed,IntKind.bits] using h
 unfold i64;omega
theorem c7a:Tryz.prog.cellsOf 68=7:=Zf
section
variable {H:Type} {enc:TypeId×Value->H} {w:World} {base:Nat} {spare:Nat->Bool} {held:Bool} {fuel:Nat} {cs:List Value} {x:DataW H×List MemPlace}
theorem rd_strX {R:Rd} {P:Program} {t:TypeId} (ht:P.underlying t=some .string) (h:DataW.trod enc P w base spare held fuel t cs=some x): ∃s:ByteArray,s.size<=9223372036854775807/\crep R [.lit (.string s)] cs:=by
 obtain ⟨s,rfl,_,hs⟩:=DataW.trod_string ht h;exact ⟨s,hs,by simp [crep,D.rep,Go.Am.one]⟩
theorem rd_valX (h:DataW.trod enc Tryz.prog w base spare held fuel 71 cs=some x): ∃v:{v:Val // okV v},crep (E0 w).R (rV v.1) cs:=by
 obtain ⟨n,_,hl,hf⟩:=gH _ sVal h;obtain ⟨c0,y0,e0,h0⟩:=hf 0 _ rfl;obtain ⟨c1,y1,e1,h1⟩:=hf 1 _ rfl;obtain ⟨c2,y2,e2,h2⟩:=hf 2 _ rfl;obtain ⟨a,_,r0⟩:=uI (R:=(E0 w).R) ui64 h0;obtain ⟨b,wb,r1⟩:=uI (R:=(E0 w).R) uint64 h1;obtain ⟨s,ws,r2⟩:=rd_strX (R:=(E0 w).R) ustr h2;exact ⟨⟨⟨a,b,s⟩,i64_of wb,ws⟩,crep_3 hl e0 e1 e2 r0 r1 r2⟩
end
end
section
attribute [local simp, local push_cast] Wq aRow rRow rTab yF xZ xD z6 zL aAgg vQ
theorem c_few02t (e:Ex):ACall Tryz.prog 81 [aE e] [] (boo (fewE e)) []:=by
 refine zn mixed ttok Tryz.func81 Tryz.ntmps81 Tryz.results81 ?_;generalize hr:boo (fewE e)=R;refine Zn ?_;refine zf [[0,0,0,0,0,6],[0]] [] (c_few02 e 0 Za Za) ?_;refine Zg ?_;refine za (fun h=>?_) fun h=>?_
 ·refine zf [[0,0,0,0,0,6]] [] (qN e (few_ok e 0 h)) ?_;refine Zg ?_;exact zk trivial (by rw [<-hr,fewE,h,Yj];rfl) Zb
 ·exact zk trivial (by rw [<-hr,fewE,h,Yk];rfl) Zb
def fewQ0 (q:Qr) (d:Int):Bool:=decide (d<=40)&&decide (q.kids.length<=4)&&decide (q.exprs.length<=40)&&decide (q.aggs.length<=40)&&decide (q.types.length<=40)&&decide (q.rows.length<=40)&&fewE q.cond
def fewQ1 (q:Qr):Bool:=q.exprs.all fewE&&(q.aggs.all (fun a=>fewE a.arg)&&q.rows.all fun r=>decide (r.length<=40))
mutual
def uZ:Qr->Int->Bool
 | .mk a b c d e f g h i ks,n=>(fewQ0 (.mk a b c d e f g h i ks) n&&fewQ1 (.mk a b c d e f g h i ks))&&few04s ks (n+1)
def few04s:List Qr->Int->Bool
 | [],_=>true
 | q::l,n=>uZ q n&&few04s l n
end
theorem few04s_eq (n:Int): ∀l:List Qr,few04s l n=l.all fun q=>uZ q n
 | []=>rfl
 | q::l=>by rw [few04s,few04s_eq n l];rfl
theorem few04_eq (q:Qr) (n:Int):uZ q n=((fewQ0 q n&&fewQ1 q)&&q.kids.all fun k=>uZ k (n+1)):=by cases q;rw [uZ,few04s_eq];rfl
theorem fewE_ok {e:Ex} (h:fewE e=true):Ok12 e:=by
 unfold fewE at h;exact few_ok e 0 (Bool.and_eq_true_iff.1 h).1
theorem few04_ok: ∀(q:Qr) (n:Int),uZ q n=true->OkQ q:=
 uS (p:=fun q=> ∀n:Int,uZ q n=true->OkQ q) fun q ih n h=>by
  rw [few04_eq] at h;simp only [fewQ0,fewQ1,Ys,Yf,YT] at h;obtain ⟨⟨⟨⟨⟨⟨⟨⟨h1,h2⟩,h3⟩,h4⟩,h5⟩,h6⟩,h7⟩,h8,h9,h10⟩,h11⟩:=h;exact .mk q ⟨fewE_ok h7,Za,fun e he=>fewE_ok (h8 e he),Za,fun a ha=>fewE_ok (h9 a ha),Za,Za,fun r hr=>by have:=h10 r hr;omega,Za⟩ fun k hk=>ih k hk _ (h11 k hk)
theorem c_few04: ∀(q:Qr) (d:Int),0≤d→d≤41→ACall Tryz.prog 42 [aQ q,num d] [] (boo (uZ q d)) []:=
 uS (p:=fun q=> ∀d:Int,0<=d->d<=41->ACall Tryz.prog 42 [aQ q,num d] [] (boo (uZ q d)) []) fun q ih d hd hd2=>by
 have hM:=few04_eq q d;have fail: ¬(d<=40/\q.kids.length<=4/\q.exprs.length<=40/\q.aggs.length<=40/\q.types.length<=40/\q.rows.length<=40/\fewE q.cond=true)->uZ q d=false:=fun h=>by
  rw [hM];have:fewQ0 q d=false:=by
   cases hf:fewQ0 q d with
   | false=>rfl
   | true=>
     simp only [fewQ0,Ys,Yf,and_assoc] at hf;exact absurd hf h
  rw [this];rfl
 have key:d<=40->q.kids.length<=4->q.exprs.length<=40->q.aggs.length<=40->q.types.length<=40->q.rows.length<=40->fewE q.cond=true->uZ q d=(fewQ1 q&&q.kids.all fun k=>uZ k (d+1)):=fun h1 h2 h3 h4 h5 h6 h7=>by
  rw [hM];have:fewQ0 q d=true:=by simp only [fewQ0,Ys,Yf,and_assoc];exact ⟨h1,h2,h3,h4,h5,h6,h7⟩
  rw [this,Yj]
 clear hM;unfold fewQ1 at key;rw [ye];have hce:=fun e=>c_few02t e;simp only [yE] at hce;refine zn mixed ttok Tryz.func42 Tryz.ntmps42 Tryz.results42 ?_;generalize hr:boo (uZ q d)=R;refine Zn ?_;refine za (fun h1=>?_) fun h1=>?_
 ·exact zk trivial (by rw [<-hr,fail (by simp at h1;omega)];rfl) Zb
 refine za (fun h2=>?_) fun h2=>?_
 ·exact zk trivial (by rw [<-hr,fail (by simp at h2;omega)];rfl) Zb
 refine za (fun h3=>?_) fun h3=>?_
 ·exact zk trivial (by rw [<-hr,fail (by simp at h3;omega)];rfl) Zb
 refine za (fun h4=>?_) fun h4=>?_
 ·exact zk trivial (by rw [<-hr,fail (by simp at h4;omega)];rfl) Zb
 refine za (fun h5=>?_) fun h5=>?_
 ·exact zk trivial (by rw [<-hr,fail (by simp at h5;omega)];rfl) Zb
 refine za (fun h6=>?_) fun h6=>?_
 ·exact zk trivial (by rw [<-hr,fail (by simp at h6;omega)];rfl) Zb
 simp only [Ye] at h1 h2 h3 h4 h5 h6;refine zf [[0,0,0,0,0,6]] [] (hce q.cond) ?_;refine Zg ?_;refine za (fun h7=>?_) fun h7=>?_
 ·exact zk trivial (by rw [<-hr,fail (by simp at h7;simp [h7])];rfl) Zb
 have key:=key Za Za Za Za Za Za (Zc h7);refine zp mixed ttok 5 [1,2] [2] Zv Zw q.exprs.length (fun n=>((q.exprs.drop n).all fewE)=q.exprs.all fewE) (fun _=>[]) (fun _=>[]) rfl ?_ ?_
 ·exact Ya Zh Zh Zh
 intro I hI n hn hi;refine Zy ?_;refine za (fun h=>?_) fun h=>?_
 ·have h':n<q.exprs.length:=Zp h;have hw:=zh h' Za;rw [zx _ n h',Us] at hi;refine ⟨Zt,?_⟩;refine zf [[0,0,0,0,0,6]] [] (hce (q.exprs.getD n default)) ?_;refine Zg ?_;refine za (fun g=>?_) fun g=>?_
  ·simp only [Up] at g;exact zk trivial (by rw [<-hr,key,<-hi,g,Yk];rfl) Zb
  ·simp only [Uj] at g;exact zo hI n rfl h' (by rw [<-hi,g,Yj]) (Ze hw) (Ze hw) (Ze hw) (Ze hw)
 obtain rfl:n=q.exprs.length:=Zo h;rw [Ua] at hi;rw [<-hi,List.all_nil,Yj] at key;refine zp mixed ttok 6 [1,2] [2] Zv Zw q.aggs.length (fun n=>((q.aggs.drop n).all fun a=>fewE a.arg)=q.aggs.all fun a=>fewE a.arg) (fun _=>[]) (fun _=>[]) rfl ?_ ?_
 ·exact Ya Zh Zh Zh
 intro I2 hI2 n hn hi;refine Zy ?_;refine za (fun h=>?_) fun h=>?_
 ·have h':n<q.aggs.length:=Zp h;have hw:=zh h' Za;rw [zx _ n h',Us] at hi;refine ⟨Zt,?_⟩;refine zf [[0,0,0,0,0,6]] [] (hce (q.aggs.getD n default).arg) ?_;refine Zg ?_;refine za (fun g=>?_) fun g=>?_
  ·simp only [Up] at g;exact zk trivial (by rw [<-hr,key,<-hi,g,Yk];rfl) Zb
  ·simp only [Uj] at g;exact zo hI2 n rfl h' (by rw [<-hi,g,Yj]) (Ze hw) (Ze hw) (Ze hw) (Ze hw)
 obtain rfl:n=q.aggs.length:=Zo h;rw [Ua] at hi;rw [<-hi,List.all_nil,Yj] at key;refine zp mixed ttok 7 [1,2] [2] Zv Zw q.rows.length (fun n=>((q.rows.drop n).all fun r=>decide (r.length<=40))=q.rows.all fun r=>decide (r.length<=40)) (fun _=>[]) (fun _=>[]) rfl ?_ ?_
 ·exact Ya Zh Zh Zh
 intro I3 hI3 n hn hi;refine Zy ?_;refine za (fun h=>?_) fun h=>?_
 ·have h':n<q.rows.length:=Zp h;have hw:=zh h' Za;rw [zx _ n h',Us] at hi;refine ⟨Zt,?_⟩;refine za (fun g=>?_) fun g=>?_
  ·have g': ¬(q.rows.getD n default).length≤40:=Zp g;exact zk trivial (by rw [<-hr,key,<-hi,YO g',Yk,Yk];rfl) Zb
  ·have g':(q.rows.getD n default).length≤40:=Zo g;exact zo hI3 n rfl h' (by rw [<-hi,YN g',Yj]) (Ze hw) (Ze hw) (Ze hw) (Ze hw)
 obtain rfl:n=q.rows.length:=Zo h;rw [Ua] at hi;rw [<-hi,List.all_nil,Yj] at key;refine zp mixed ttok 8 [1,2] [2] Zv Zw q.kids.length (fun n=>((q.kids.drop n).all fun k=>uZ k (d+1))=q.kids.all fun k=>uZ k (d+1)) (fun _=>[]) (fun _=>[]) rfl ?_ ?_
 ·exact Ya Zh Zh Zh
 intro I4 hI4 n hn hi;have hwd:IntKind.i64.wrap (d+1)=d+1:=zr Za Za;refine Zy ?_;refine za (fun h=>?_) fun h=>?_
 ·have h':n<q.kids.length:=Zp h;have hw:=zh h' Za;rw [zx _ n h',Us] at hi;refine ⟨Zt,?_⟩;rw [hwd];have hc:=ih _ (zm h') (d+1) Za Za;rw [ye] at hc;refine zf [[0,0,0,0,0,0,0,0,0,6,6,7,1,1,15],[0]] [] (hc) ?_;refine Zg ?_;refine za (fun g=>?_) fun g=>?_
  ·simp only [Up] at g;exact zk trivial (by rw [<-hr,key,<-hi,g,Yk];rfl) Zb
  ·simp only [Uj] at g;exact zo hI4 n rfl h' (by rw [<-hi,g,Yj]) (Ze hw) (Ze hw) (Ze hw) (Ze hw)
 obtain rfl:n=q.kids.length:=Zo h;rw [Ua] at hi;exact zk trivial (by rw [<-hr,key,<-hi];rfl) Zb
def fewQ (q:Qr):Bool:=uZ q 0&&decide (wL q<=1000)
theorem c_fewQ (q:Qr):ACall Tryz.prog 16 [aQ q] [] (boo (fewQ q)) []:=by
 have hc:=c_few04 q 0 Za Za;have hs:=c_rqsize q;rw [ye] at hc hs ⊢;refine zn mixed ttok Tryz.func16 Tryz.ntmps16 Tryz.results16 ?_;generalize hr:boo (fewQ q)=R;refine Zn ?_;refine zf [[0,0,0,0,0,0,0,0,0,6,6,7,1,1,15],[0]] [] (hc) ?_;refine Zg ?_;refine za (fun h=>?_) fun h=>?_
 ·refine zf [[0,0,0,0,0,0,0,0,0,6,6,7,1,1,15]] [] (hs (few04_ok q 0 h)) ?_;refine Zg ?_;exact zk trivial (by rw [<-hr,fewQ,h,Yj];rfl) Zb
 ·exact zk trivial (by rw [<-hr,fewQ,h,Yk];rfl) Zb
end
section
attribute [local simp, local push_cast] num boo str
open Go.ChangeShapes Go.WideShapes Go.ChangeAt Go.RowKit
mutual
def tszE:Ex->Nat
 | .mk _ _ _ _ _ ks=>1+tszEs ks
def tszEs:List Ex->Nat
 | []=>0
 | e::l=>tszE e+tszEs l
end
theorem tszEs_eq: ∀l:List Ex,tszEs l=(l.map tszE).sum
 | []=>rfl
 | e::l=>by rw [tszEs,tszEs_eq l];rfl
theorem tszE_eq (e:Ex):tszE e=1+(e.kids.map tszE).sum:=by cases e;rw [tszE,tszEs_eq];rfl
def allT (q:Qr):Nat:=tszE q.cond+(q.exprs.map tszE).sum+(q.aggs.map fun a=>tszE a.arg).sum+(q.rows.map List.length).sum
mutual
def tszQ:Qr->Nat
 | .mk a b c d e f g h i ks=>1+allT (.mk a b c d e f g h i ks)+tszQs ks
def tszQs:List Qr->Nat
 | []=>0
 | q::l=>tszQ q+tszQs l
end
theorem tszQs_eq: ∀l:List Qr,tszQs l=(l.map tszQ).sum
 | []=>rfl
 | q::l=>by rw [tszQs,tszQs_eq l];rfl
theorem tszQ_eq (q:Qr):tszQ q=1+allT q+(q.kids.map tszQ).sum:=by cases q;rw [tszQ,tszQs_eq];rfl
theorem kT {α:Type} (f:α->Nat): ∀(l:List α) (a:α),a∈l->f a<=(l.map f).sum
 | x::l,a,h=>by
   rw [Yw,Uv];rcases YJ.1 h with rfl | h
   ·omega
   ·have:=kT f l a h;omega
theorem gD: ∀(l:List Ex) (n:Nat),(∀e∈l,w8 e=tszE e)->n+(l.map tszE).sum<=1000000000000->sizeL n l=((n+(l.map tszE).sum:Nat):Int)
 | [],n,_,_=>by simp [sizeL]
 | e::l,n,h,hb=>by
   rw [Yw,Uv] at hb ⊢;rw [sizeL,h e Zd,show ((n:Int)+(tszE e:Int))=((n+tszE e:Nat):Int) from Za,zr Za Za,gD l (n+tszE e) (fun x hx=>h x (Zu hx)) Za];rw [YG]
theorem sizeW_true: ∀e:Ex,tszE e<=1000000000000->w8 e=tszE e:=
 ut (p:=fun e=>tszE e<=1000000000000->w8 e=tszE e) fun e ih h=>by
  rw [tszE_eq] at h ⊢;rw [sizeW_eq];exact gD e.kids 1 (fun k hk=>ih k hk (by have:=kT tszE _ _ hk;omega)) h
theorem rowsW_true: ∀(l:List (List Val)) (n:Nat),n+(l.map List.length).sum<=1000000000000->uR n l=((n+(l.map List.length).sum:Nat):Int)
 | [],n,_=>by simp [uR]
 | r::l,n,hb=>by
   rw [Yw,Uv] at hb ⊢;rw [uR,show ((n:Int)+(r.length:Int))=((n+r.length:Nat):Int) from Za,zr Za Za,rowsW_true l (n+r.length) Za,YG]
theorem sizeQs_true: ∀(l:List Qr) (n:Nat) (T:Qr->Nat),(∀q∈l,wL q=T q)->n+(l.map T).sum<=1000000000000->sizeQs n l=((n+(l.map T).sum:Nat):Int)
 | [],n,_,_,_=>by simp [sizeQs]
 | q::l,n,T,h,hb=>by
   rw [Yw,Uv] at hb ⊢;rw [sizeQs,h q Zd,show ((n:Int)+(T q:Int))=((n+T q:Nat):Int) from Za,zr Za Za,sizeQs_true l (n+T q) T (fun x hx=>h x (Zu hx)) Za];rw [YG]
theorem filt_sum: ∀(l:List Agg),((xx l).map tszE).sum<=(l.map fun a=>tszE a.arg).sum
 | []=>Yt _
 | a::l=>by
   have:=filt_sum l;unfold xx at this ⊢;rw [Yw,Uv];rw [List.filter_cons]
   split
   ·rw [Yw,Yw,Uv];omega
   ·omega
theorem exprs_sum (q:Qr):((yU q).map tszE).sum<=tszE q.cond+(q.exprs.map tszE).sum+(q.aggs.map fun a=>tszE a.arg).sum:=by
 have:=filt_sum q.aggs;unfold yU;rw [YC,List.sum_append]
 split
 ·split
  ·rw [Yw,Uv];simp only [Uz,List.sum_nil];omega
  ·rw [Yw,Uv];simp only [Uz,List.sum_nil];omega
 ·split
  ·split
   ·omega
   ·simp only [Uz,List.sum_nil];omega
  ·split
   ·simp only [Uz,List.sum_nil];omega
   ·simp only [Uz,List.sum_nil];omega
def cntQ (q:Qr):Nat:=(wL q).toNat
theorem sizeQ_true: ∀q:Qr,tszQ q≤1000000000000→ ∃n:Nat,wL q=n∧n≤tszQ q∧ ∀k∈q.kids,∃m:Nat,wL k=m∧m≤n:=
 uS (p:=fun q=>tszQ q≤1000000000000→ ∃n:Nat,wL q=n∧n≤tszQ q∧ ∀k∈q.kids,∃m:Nat,wL k=m∧m≤n) fun q ih h=>by
  rw [tszQ_eq] at h ⊢;have hx:=exprs_sum q;unfold allT at h ⊢;have hT: ∀k∈q.kids,wL k=(cntQ k:Nat)/\cntQ k<=tszQ k:=fun k hk=>by
   obtain ⟨n,h1,h2,_⟩:=ih k hk (by have:=kT tszQ _ _ hk;omega);have:cntQ k=n:=by unfold cntQ;rw [h1];rfl
   exact ⟨by rw [this,h1],Za⟩
  have hs: ∀l:List Qr,(∀k∈l,cntQ k<=tszQ k)->(l.map cntQ).sum<=(l.map tszQ).sum:=fun l=>by
   induction l with
   | nil=>intro _;exact Yt _
   | cons k l ihl=>
     intro hk;have:=ihl fun x hx=>hk x (Zu hx);have h0:=hk k Zd;rw [Yw,Uv,Yw,Uv];omega
  have hk:=hs q.kids fun k hk=>(hT k hk).2;have e1:=gD (yU q) 1 (fun e he=>sizeW_true e (by have:=kT tszE _ _ he;omega)) Za;have e2:=rowsW_true q.rows (1+((yU q).map tszE).sum) Za;have e3:=sizeQs_true q.kids (1+((yU q).map tszE).sum+(q.rows.map List.length).sum) cntQ (fun k hk=>(hT k hk).1) Za;have e1':sizeL 1 (yU q)=((1+((yU q).map tszE).sum:Nat):Int):=e1;refine ⟨_,by rw [sizeQ_eq,e1',e2,e3],Za,fun k hkm=>⟨_,(hT k hkm).1,?_⟩⟩;have:=kT cntQ _ _ hkm;omega
theorem depthQs_ge: ∀(l:List Qr) (n:Int),n<=depthQs n l/\ ∀k∈l,yP k<=depthQs n l
 | [],n=>⟨by rw [depthQs];omega,fun k h=>by cases h⟩
 | q::l,n=>by
   rw [depthQs];obtain ⟨X,hX⟩: ∃X,X=(if n<yP q then yP q else n):=⟨_,rfl⟩
   have hX2:n<=X/\yP q<=X:=by rw [hX];split<;>omega
   rw [<-hX];obtain ⟨h1,h2⟩:=depthQs_ge l X;refine ⟨Za,fun k hk=>?_⟩;rcases YJ.1 hk with rfl | hk
   ·omega
   ·exact h2 k hk
theorem depthQs_le: ∀(l:List Qr) (n B:Int),n<=B->(∀k∈l,yP k<=B)->depthQs n l<=B
 | [],n,B,h,_=>by rw [depthQs];exact h
 | q::l,n,B,h,hk=>by
   rw [depthQs];exact depthQs_le l _ B (by have:=hk q Zd;split<;>omega) fun k h=>hk k (Zu h)
theorem depthQ_true: ∀q:Qr,tszQ q<=1000000000000->yP q<=tszQ q/\1<=yP q/\ ∀k∈q.kids,yP k<yP q:=
 uS (p:=fun q=>tszQ q≤1000000000000→yP q≤tszQ q∧1≤yP q∧ ∀k∈q.kids,yP k<yP q) fun q ih h=>by
  have h0:=h;rw [tszQ_eq] at h ⊢;have hle:depthQs 0 q.kids<=((q.kids.map tszQ).sum:Nat):=depthQs_le _ _ _ Za fun k hk=>by
   have:=kT tszQ _ _ hk;have:=(ih k hk Za).1;omega
  obtain ⟨g1,g2⟩:=depthQs_ge q.kids 0;rw [depthQ_eq,zr Za Za];exact ⟨Za,Za,fun k hk=>by have:=g2 k hk;omega⟩
theorem R8_of (s:Sch) (hc:CG): ∀q:Qr,tszQ q<=1000000000000->wL q<=200->yP q<=24->R8 s q:=
 uS (p:=fun q=>tszQ q≤1000000000000→wL q≤200→yP q≤24→R8 s q) fun q ih h h1 h2=>by
  obtain ⟨n,e1,_,e2⟩:=sizeQ_true q h;obtain ⟨_,_,e3⟩:=depthQ_true q h;rw [tszQ_eq] at h;have hk: ∀k∈q.kids,tszQ k<=1000000000000/\wL k<=200/\yP k<=24:=fun k hk=>by
   obtain ⟨m,m1,m2⟩:=e2 k hk;have:=e3 k hk;have:=kT tszQ _ _ hk;exact ⟨Za,Za,Za⟩
  refine .mk q (fun _=>hc) (fun _ k hkm=>?_) fun k hkm=>ih k hkm (hk k hkm).1 (hk k hkm).2.1 (hk k hkm).2.2;obtain ⟨_,g1,g2⟩:=hk k hkm;unfold wK;rw [if_neg Za,if_neg Za]
theorem R8_typed {s:Sch} {q:Qr} (h:tszQ q<=1000000000000) (ht:(wK s q).2=0):R8 s q:=by
 unfold wK at ht
 split at ht
 ·exact absurd ht Zi
 split at ht
 ·exact absurd ht Zi
 exact R8_of s c_grouped q h Za Za
end
section
attribute [local simp, local push_cast] Wq aRow rRow rTab yF xZ xD z6 zL aAgg vQ mEval yG
theorem c_schema0w {xs:List Int} (hx:km xs):
 ACall Tryz.prog 9 [.ptr 1000 0] [(1000,.var [.d (.sl 1 (zd rI xs)),.d (.lit (.int .i64 0))])] (aS (vd xs 0).1) [(1000,yG xs (vd xs 0).2)]:=
 c_mschema (p:=0) hx Za
theorem smallI_of {i:Inst} (h:qC i=true):SmallI i:=by
 simp only [qC,qn,Ys,Yf,YT] at h;exact ⟨Za,fun l hl=>by have:=(h.2 l hl).1;omega,fun l hl r hr=>by have:=(h.2 l hl).2 r hr;omega⟩
theorem evalQ_rows {s:Sch} (hs:SmallS s) {i:Inst} {q:Qr} (ho:OkQ q) (hx:OkXQ q):(kL grP s i q).1.length<=1000000/\ ∀r∈(kL grP s i q).1,r.length<=1000:=by
 unfold kL
 split
 ·exact ⟨Yq _,fun r h=>by cases h⟩
 rename_i hf
 split
 ·exact ⟨Yq _,fun r h=>by cases h⟩
 rename_i ht;have ht':(wK s q).2=0:=Zc ht;rw [typeQ_ok ht'] at ht';have hev:=evQ_ok grP_ok (fits_ok (by simpa using hf:vr s i=0)) q hx ht';have hw:=js hs q ho;cases hv:evQ grP s i q with
 | none=>exact ⟨Yq _,fun r h=>by cases h⟩
 | some rows=>
   have hR:=hev rows hv;show (srt rows).length<=1000000/\ ∀r∈srt rows,r.length<=1000;have hp:(srt rows).Perm rows:=zQ rows;have hl:=hR.len;exact ⟨Z4 (hp.length_eq),fun r hr=>by rw [hR.wid r (hp.mem_iff.1 hr)];exact hw⟩
theorem c_lawW (l:List Int) (hx:km l) (i:Inst) (q:Qr) (hq:OkXQ q) (hT:tszQ q<=1000000000000):ACall Tryz.prog 4 [ints l,z7 i,aQ q] [] (boo true) []:=by
 have hf:=c_fewQ q;rw [ye] at hf ⊢;refine zn mixed ttok Tryz.func4 Tryz.ntmps4 Tryz.results4 ?_;generalize hr:boo true=R;refine Zn ?_;refine zf [[1]] [] (c_few08 i) ?_;refine Zg ?_;refine za (fun h1=>?_) fun h1=>?_
 ·exact zk trivial hr Zb
 have h1':qC i=true:=Zc h1;refine zf [[0,0,0,0,0,0,0,0,0,6,6,7,1,1,15]] [] (hf) ?_;refine Zg ?_;refine za (fun h2=>?_) fun h2=>?_
 ·exact zk trivial hr Zb
 have h2':fewQ q=true:=by simpa using h2
 have hI:=smallI_of h1'
 have hO:OkQ q:=few04_ok q 0 (by unfold fewQ at h2';exact (Bool.and_eq_true_iff.1 h2').1)
 refine zf [[]] [(1000,22)] (c_schema0w hx) ?_
 obtain ⟨hS,_⟩:=schemaM_ok l 0
 generalize (vd l 0).1=s at hS ⊢
 generalize (vd l 0).2=p
 simp -implicitDefEqProofs only [↓zb,push_cast,simprocAttr,tt]
 have hc1:=c_meval s hS i hI q hO hq
 have hc2:=c_reval8 s hS i hI q (fun h=>R8_typed hT h) hO hq
 rw [<-evalQ_PR] at hc2
 rw [ye] at hc1 hc2
 simp only [z7] at hc1 hc2
 obtain ⟨hE1,hE2⟩:=evalQ_rows hS (i:=i) hO hq
 generalize kL grP s i q=E at hc1 hc2 hE1 hE2
 obtain ⟨rows,e⟩:=E
 simp only at hE1 hE2
 refine zf [[6],[1],[0,0,0,0,0,0,0,0,0,6,6,7,1,1,15]] [] (hc1) ?_
 simp -implicitDefEqProofs only [↓zb,push_cast,simprocAttr,tt]
 refine zf [[6],[1],[0,0,0,0,0,0,0,0,0,6,6,7,1,1,15]] [] (hc2) ?_
 simp -implicitDefEqProofs only [↓zb,push_cast,simprocAttr,tt]
 refine zf [[1],[1]] [] (c_equalT rows hE1 hE2) ?_
 have hc3:=c_fits s i hS hI
 have hc4:=c_rfits s i hS hI
 simp only [z7] at hc3 hc4
 simp -implicitDefEqProofs only [beq_self_eq_true,↓zb,push_cast,simprocAttr,tt]
 refine zf [[6],[1]] [] (hc3) ?_
 simp -implicitDefEqProofs only [↓zb,push_cast,simprocAttr,tt]
 refine zf [[6],[1]] [] (hc4) ?_
 simp -implicitDefEqProofs only [beq_self_eq_true,↓zb,push_cast,simprocAttr,tt]
 refine ⟨ze (by kernel_rfl),?_⟩
 exact zk trivial hr (by simp [ends])
end
section
theorem uOps:Tryz.prog.underlying 218=some (.array 29 147):=Zf
theorem sOp:vW Tryz.prog 147 [9,3,3,3]=true:=Zf
theorem c4o:Tryz.prog.cellsOf 147=4:=Zf
theorem gOps : Tryz.prog.globalNamed "querylab/expression.operations" = some 1 := Zf
theorem tOps:(Tryz.prog.globals[1]?).map (·.type)=some 218:=Zf
def dOp {H:Type} (o:OpD):DataW H:= .agg [.lit (.string o.word.data.toList),.lit (.int .i64 o.kids),.lit (.int .i64 o.types),.lit (.int .i64 o.own)]
theorem laid_eq:(Rows.laid_querylab_expression_operations:DataW Unit)= .agg (opTab.map dOp):=by rfl
theorem crep_ops {R:Rd}: ∀(l:List OpD) (cs:List Value),cs.length=l.length * 4->(∀i (hi:i<l.length),crep R (rOp l[i]) ((cs.drop (i * 4)).take 4))->crep R (l.map rOp).flatten cs
 | [],cs,hl,_=>by
   have:cs=[]:=Yi (Zc hl);rw [this];trivial
 | o::l,cs,hl,h=>by
   have h0:=h 0 Zd
   match cs,hl with
   | a::b::c::d::cs,hl=>
     simp at h0;refine ⟨h0.1,h0.2.1,h0.2.2.1,h0.2.2.2.1,crep_ops l cs (by simp at hl;omega) fun i hi=>?_⟩;have:=h (i+1) (Zc hi);rw [show (i+1) * 4=i * 4+1+1+1+1 from Za] at this;simpa only [List.drop_succ_cons,List.getElem_cons_succ] using this
   | [],hl=>simp at hl
   | [_],hl=>simp at hl;omega
   | [_,_],hl=>simp at hl;omega
   | [_,_,_],hl=>simp at hl;omega
theorem gG {H:Type} {enc:TypeId×Value->H} {P:Program} {w:World} {base:Nat} {spare:Nat->Bool} {held:Bool} {t:TypeId} {fuel:Nat} {cs:List Value} {x:DataW H×List MemPlace} (tys:List TypeId)
 (hs:vW P t tys=true) (h:DataW.trod enc P w base spare held fuel t cs=some x): ∃(n:Nat) (xs:List (DataW H×List MemPlace)),x.1= .agg (xs.map (·.1))/\xs.length=tys.length/\cs.length=tys.length/\ ∀(i:Nat) (u:TypeId),tys[i]? =some u-> ∃c,cs[i]? =some c/\DataW.trod enc P w base spare held n u [c]=xs[i]? :=by
 unfold vW at hs
 split at hs
 ·rename_i fs hu;simp only [Ys,beq_iff_eq] at hs;obtain ⟨⟨h1,h2⟩,h3⟩:=hs;obtain ⟨xs,n,hn,hx,hl,hxl,hf⟩:=DataW.trod_struct hu h;rw [h2] at hl;refine ⟨n,xs,ZB hx,by rw [hxl,<-h1];simp,by rw [hl,<-h1];simp,fun i u hi=>?_⟩;rw [<-h1,List.getElem?_map,YI] at hi;obtain ⟨f,hf1,rfl⟩:=hi;have hf2:fs[i]? =some f:=Zc hf1;have hlt:i<fs.size:=(Array.getElem?_eq_some_iff.1 hf2).1;have g1:=YT.1 h3 i (Zc hlt);rw [hf2] at g1;simp only [Ys,beq_iff_eq] at g1;have g2:=hf i f hf2;rw [g1.1,g1.2,Ut Za,List.take_succ_cons,List.take_zero] at g2;exact ⟨cs[i],List.getElem?_eq_getElem Za,g2⟩
 ·cases hs
theorem crep_4 {R:Rd} {a b c d:D} {c0 c1 c2 c3:Value} {cs:List Value} (hl:cs.length=4) (e0:cs[0]? =some c0) (e1:cs[1]? =some c1) (e2:cs[2]? =some c2) (e3:cs[3]? =some c3) (r0:crep R [a] [c0]) (r1:crep R [b] [c1]) (r2:crep R [c] [c2]) (r3:crep R [d] [c3]):crep R [a,b,c,d] cs:=by
 match cs,hl with
 | [x,y,z,u],_=>simp at e0 e1 e2 e3;subst e0;subst e1;subst e2;subst e3;exact ⟨r0.1,r1.1,r2.1,r3.1,trivial⟩
theorem Xq {p:Prop} (h:p:=by simp [D.rep,Go.Am.one]):p:=h
theorem op_of {R:Rd} {w:World} {base:Nat} {spare:Nat->Bool} {held:Bool} {fuel:Nat} {cs:List Value} {p:List MemPlace} {o:OpD} (h:DataW.trod (fun _=>()) Tryz.prog w base spare held fuel 147 cs=some (dOp o,p)):crep R (rOp o) cs:=by
 obtain ⟨n,xs,hx,hxl,hl,hf⟩:=gG _ sOp h;obtain ⟨c0,e0,h0⟩:=hf 0 _ rfl;obtain ⟨c1,e1,h1⟩:=hf 1 _ rfl;obtain ⟨c2,e2,h2⟩:=hf 2 _ rfl;obtain ⟨c3,e3,h3⟩:=hf 3 _ rfl
 match xs,hxl with
 | [y0,y1,y2,y3],_=>
   simp only [dOp,Yw,Uz,DataW.agg.injEq,List.cons.injEq,and_true] at hx;obtain ⟨q0,q1,q2,q3⟩:=hx;obtain ⟨s,g0,k0,_⟩:=DataW.trod_string ustr (show _=some y0 from h0);obtain ⟨m1,g1,k1,_⟩:=DataW.trod_int ui64 (show _=some y1 from h1);obtain ⟨m2,g2,k2,_⟩:=DataW.trod_int ui64 (show _=some y2 from h2);obtain ⟨m3,g3,k3,_⟩:=DataW.trod_int ui64 (show _=some y3 from h3);subst k0;subst k1;subst k2;subst k3;simp only [DataW.lit.injEq,Lit.string.injEq,Lit.int.injEq,true_and] at q0 q1 q2 q3;have hs:s=o.word:=by
    apply ByteArray.ext;exact Array.toList_inj.1 q0.symm
   simp only [List.cons.injEq,and_true] at g0 g1 g2 g3;subst g0;subst g1;subst g2;subst g3;subst hs;rw [rOp,q1,q2,q3];exact crep_4 hl e0 e1 e2 e3 ⟨⟨Xq,rfl⟩,trivial⟩ ⟨⟨Xq,rfl⟩,trivial⟩ ⟨⟨Xq,rfl⟩,trivial⟩ ⟨⟨Xq,rfl⟩,trivial⟩
theorem gNull : Tryz.prog.globalNamed "querylab/value.null" = some 2 := Zf
theorem tNull:(Tryz.prog.globals[2]?).map (·.type)=some 71:=Zf
def nullRow:List D:=[.lit (.int .i64 0),.lit (.int .i64 0),.lit (.string ⟨#[]⟩)]
theorem null_of {R:Rd} {w:World} {base:Nat} {spare:Nat->Bool} {held:Bool} {fuel:Nat} {cs:List Value} {p:List MemPlace} (h:DataW.trod (fun _=>()) Tryz.prog w base spare held fuel 71 cs=some (Rows.laid_querylab_value_null,p)):crep R nullRow cs:=by
 obtain ⟨n,xs,hx,hxl,hl,hf⟩:=gG _ sVal h;obtain ⟨c0,e0,h0⟩:=hf 0 _ rfl;obtain ⟨c1,e1,h1⟩:=hf 1 _ rfl;obtain ⟨c2,e2,h2⟩:=hf 2 _ rfl
 match xs,hxl with
 | [y0,y1,y2],_=>
   simp only [Rows.laid_querylab_value_null,Yw,Uz,DataW.agg.injEq,List.cons.injEq,and_true] at hx;obtain ⟨q0,q1,q2⟩:=hx;obtain ⟨m0,g0,k0,_⟩:=DataW.trod_int ui64 (show _=some y0 from h0);obtain ⟨m1,g1,k1,_⟩:=DataW.trod_int uint64 (show _=some y1 from h1);obtain ⟨s,g2,k2,_⟩:=DataW.trod_string ustr (show _=some y2 from h2);subst k0;subst k1;subst k2;simp only [DataW.lit.injEq,Lit.string.injEq,Lit.int.injEq,true_and] at q0 q1 q2;have hs:s=⟨#[]⟩:=by
    apply ByteArray.ext;exact Array.toList_inj.1 q2.symm
   simp only [List.cons.injEq,and_true] at g0 g1 g2;subst g0;subst g1;subst g2;subst hs;subst q0;subst q1;exact crep_3 hl e0 e1 e2 ⟨⟨Xq,rfl⟩,trivial⟩ ⟨⟨Xq,rfl⟩,trivial⟩ ⟨⟨Xq,rfl⟩,trivial⟩
theorem crep_len {R:Rd}: ∀{row:List D} {cs:List Value},crep R row cs->row.length=cs.length
 | [],[],_=>rfl
 | _::_,_::_,h=>by simp only [Y6];rw [crep_len h.2]
theorem ops_of {W:World} {cs:Array Value} {base:Nat} {spare:Nat->Bool} {held:Bool} {fuel:Nat} {p:List MemPlace} (hd0:DataW.trod (fun _=>()) Tryz.prog W base spare held fuel 218 cs.toList=some (Rows.laid_querylab_expression_operations,p)) {R:Rd}:
 crep R opRow cs.toList/\cs.toList.length=116:=by
 rw [laid_eq] at hd0;obtain ⟨xs,m,hm,hx,hl,hn,hel⟩:=DataW.trod_array uOps hd0;rw [c4o] at hel;have hxs:xs.map (·.1)=opTab.map dOp:=by
  simp only [Prod.mk.injEq,DataW.agg.injEq] at hx;exact hx.1.symm
 have hcl:cs.toList.length=opTab.length * 4:=by rw [hl];kernel_rfl
 refine ⟨crep_ops opTab cs.toList hcl fun i hi=>?_,hcl⟩;have hi2:i<29:=hi;have h1:=hel i hi2;rw [List.getElem?_eq_getElem Za] at h1;have h2:(xs[i]' Za).1=dOp opTab[i]:=by
  have:=congrArg (fun l=>l[i]?) hxs;simp only [List.getElem?_map,List.getElem?_eq_getElem (show i<xs.length from Za),List.getElem?_eq_getElem hi,Ub,Option.some.injEq] at this;exact this
 obtain ⟨pp,hpp⟩: ∃pp,xs[i]' Za=(dOp opTab[i],pp):=⟨(xs[i]' Za).2,by rw [<-h2]⟩
 rw [hpp] at h1;exact op_of h1
theorem uFms:Tryz.prog.underlying 191=some (.array 11 133):=Zf
theorem sFm:vW Tryz.prog 133 [9,3,9]=true:=Zf
theorem c3f:Tryz.prog.cellsOf 133=3:=Zf
theorem gFms : Tryz.prog.globalNamed "querylab/algebra.forms" = some 0 := Zf
theorem tFms:(Tryz.prog.globals[0]?).map (·.type)=some 191:=Zf
def dFm {H:Type} (o:FmD):DataW H:= .agg [.lit (.string o.word.data.toList),.lit (.int .i64 o.kids),.lit (.string o.uses.data.toList)]
theorem laid_fm:(Rows.laid_querylab_algebra_forms:DataW Unit)= .agg (fmTab.map dFm):=by rfl
theorem crep_fms {R:Rd}: ∀(l:List FmD) (cs:List Value),cs.length=l.length * 3->(∀i (hi:i<l.length),crep R (rFm l[i]) ((cs.drop (i * 3)).take 3))->crep R (l.map rFm).flatten cs
 | [],cs,hl,_=>by
   have:cs=[]:=Yi (Zc hl);rw [this];trivial
 | o::l,cs,hl,h=>by
   have h0:=h 0 Zd
   match cs,hl with
   | a::b::c::cs,hl=>
     simp at h0;refine ⟨h0.1,h0.2.1,h0.2.2.1,crep_fms l cs (by simp at hl;omega) fun i hi=>?_⟩;have:=h (i+1) (Zc hi);rw [show (i+1) * 3=i * 3+1+1+1 from Za] at this;simpa only [List.drop_succ_cons,List.getElem_cons_succ] using this
   | [],hl=>simp at hl
   | [_],hl=>simp at hl;omega
   | [_,_],hl=>simp at hl;omega
theorem fm_of {R:Rd} {w:World} {base:Nat} {spare:Nat->Bool} {held:Bool} {fuel:Nat} {cs:List Value} {p:List MemPlace} {o:FmD} (h:DataW.trod (fun _=>()) Tryz.prog w base spare held fuel 133 cs=some (dFm o,p)):crep R (rFm o) cs:=by
 obtain ⟨n,xs,hx,hxl,hl,hf⟩:=gG _ sFm h;obtain ⟨c0,e0,h0⟩:=hf 0 _ rfl;obtain ⟨c1,e1,h1⟩:=hf 1 _ rfl;obtain ⟨c2,e2,h2⟩:=hf 2 _ rfl
 match xs,hxl with
 | [y0,y1,y2],_=>
   simp only [dFm,Yw,Uz,DataW.agg.injEq,List.cons.injEq,and_true] at hx;obtain ⟨q0,q1,q2⟩:=hx;obtain ⟨s0,g0,k0,_⟩:=DataW.trod_string ustr (show _=some y0 from h0);obtain ⟨m1,g1,k1,_⟩:=DataW.trod_int ui64 (show _=some y1 from h1);obtain ⟨s2,g2,k2,_⟩:=DataW.trod_string ustr (show _=some y2 from h2);subst k0;subst k1;subst k2;simp only [DataW.lit.injEq,Lit.string.injEq,Lit.int.injEq,true_and] at q0 q1 q2;have hs0:s0=o.word:=by
    apply ByteArray.ext;exact Array.toList_inj.1 q0.symm
   have hs2:s2=o.uses:=by
    apply ByteArray.ext;exact Array.toList_inj.1 q2.symm
   simp only [List.cons.injEq,and_true] at g0 g1 g2;subst g0;subst g1;subst g2;subst hs0;subst hs2;rw [rFm,q1];exact crep_3 hl e0 e1 e2 ⟨⟨Xq,rfl⟩,trivial⟩ ⟨⟨Xq,rfl⟩,trivial⟩ ⟨⟨Xq,rfl⟩,trivial⟩
theorem fms_of {W:World} {cs:Array Value} {base:Nat} {spare:Nat->Bool} {held:Bool} {fuel:Nat} {p:List MemPlace} (hd0:DataW.trod (fun _=>()) Tryz.prog W base spare held fuel 191 cs.toList=some (Rows.laid_querylab_algebra_forms,p)) {R:Rd}:
 crep R fmRow cs.toList/\cs.toList.length=33:=by
 rw [laid_fm] at hd0;obtain ⟨xs,m,hm,hx,hl,hn,hel⟩:=DataW.trod_array uFms hd0;rw [c3f] at hel;have hxs:xs.map (·.1)=fmTab.map dFm:=by
  simp only [Prod.mk.injEq,DataW.agg.injEq] at hx;exact hx.1.symm
 have hcl:cs.toList.length=fmTab.length * 3:=by rw [hl];kernel_rfl
 refine ⟨crep_fms fmTab cs.toList hcl fun i hi=>?_,hcl⟩;have hi2:i<11:=hi;have h1:=hel i hi2;rw [List.getElem?_eq_getElem Za] at h1;have h2:(xs[i]' Za).1=dFm fmTab[i]:=by
  have:=congrArg (fun l=>l[i]?) hxs;simp only [List.getElem?_map,List.getElem?_eq_getElem (show i<xs.length from Za),List.getElem?_eq_getElem hi,Ub,Option.some.injEq] at this;exact this
 obtain ⟨pp,hpp⟩: ∃pp,xs[i]' Za=(dFm fmTab[i],pp):=⟨(xs[i]' Za).2,by rw [<-h2]⟩
 rw [hpp] at h1;exact fm_of h1
theorem sized_of {W:World} {n:String} {g:Nat} {cs:Array Value} (hg:Tryz.prog.globalNamed n=some g) (h:W.var? Tryz.prog n=some cs):Sized W g cs.size:=by
 simp only [World.var?,hg,Option.bind_some] at h
 split at h
 ·rename_i cs' el fl hc;cases h;exact ⟨_,_,_,hc,rfl⟩
 ·cases h
def laidL : List (String × DataW Unit) := [("querylab/value.null", Rows.laid_querylab_value_null), ("querylab/expression.operations", Rows.laid_querylab_expression_operations), ("querylab/algebra.forms", Rows.laid_querylab_algebra_forms)]
theorem tabs_of {W:World} (h:laidMetH Tryz.prog laidL W): ∀g row,Tab.tab g=some row->Go.Am.rowAt (E0 W).R ((E0 W).R g) 0 row/\Sized W g row.length:=by
 rw [MakeChecks.laidMetH_plain _ _ _ Zf] at h;obtain ⟨ps,⟨g0,t0,cs0,f0,p0,q0,hg0,ht0,hv0,hd0,⟨g1,t1,cs1,f1,p1,q1,hg1,ht1,hv1,hd1,⟨g2,t2,cs2,f2,p2,q2,hg2,ht2,hv2,hd2,_⟩,_⟩,_⟩,_⟩:=h;obtain rfl:=Option.some.inj (gNull.symm.trans hg0);obtain rfl:=Option.some.inj (tNull.symm.trans ht0);obtain rfl:=Option.some.inj (gOps.symm.trans hg1);obtain rfl:=Option.some.inj (tOps.symm.trans ht1);obtain rfl:=Option.some.inj (gFms.symm.trans hg2);obtain rfl:=Option.some.inj (tFms.symm.trans ht2);have key: ∀{g:Nat} {n:String} {cs:Array Value} {row:List D},Tryz.prog.globalNamed n=some g->W.var? Tryz.prog n=some cs->crep (E0 W).R row cs.toList->cs.toList.length=row.length->Go.Am.rowAt (E0 W).R ((E0 W).R g) 0 row/\Sized W g row.length:=by
  intro g n cs row hg hv hc hl;refine ⟨gY 0 hc fun j u hj=>E0_cell ?_,?_⟩
  ·rw [YZ,World.var?_cell hg hv j];simpa using hj
  ·have:=sized_of hg hv;rwa [show cs.size=row.length from Zc hl] at this
 intro g row hrow
 match g,hrow with
 | 1,h=>cases h;exact key hg1 hv1 (ops_of hd1).1 ((ops_of (R:=(E0 W).R) hd1).2.trans Zf)
 | 2,h=>cases h;exact key hg0 hv0 (null_of hd0) (crep_len (null_of (R:=(E0 W).R) hd0)).symm
 | 0,h=>cases h;exact key hg2 hv2 (fms_of hd2).1 ((fms_of (R:=(E0 W).R) hd2).2.trans Zf)
end
end Go.Proofs.YtnmibokjpedkiaaGreatDoor
