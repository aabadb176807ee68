/- Made queries answer as specified (part Ld) -/
import Derived.Test.YtnmibokjpedkiaaGreatDoorLc
import Derived.WalkKit
import Derived.ProofKit
import Derived.OpenShut
import Derived.JoinedCond
import Derived.Carry
set_option linter.all false
namespace Go.Am
section
variable [T:Tab]
open Go.ChangeShapes Go.WideShapes Go.ChangeAt Go.RowKit
def E0 (w:World):Env:=zj (fun _ _=>False) (fun _=>none) (lookO []) w
theorem E0_cell {w:World} {b i:Nat} {v:Value} (h:w.cell? ⟨b,i,none⟩=some v):(E0 w).R b i v:=by
 refine ⟨fun h=>h,?_,h⟩;rintro ⟨o,ob,_,h2,_⟩;cases h2
theorem repL_mk0 {E:Env}:repL E [] []:=Xy
theorem repL_mk {E:Env} {a:A} {v:Value} {as:List A} {vs:List Value} (h:a.rep E v) (hs:repL E as vs):repL E (a::as) (v::vs):=by
 simp only [repL];exact ⟨v,vs,rfl,h,hs⟩
theorem E0_rel (w:World) (ht: ∀g row,T.tab g=some row->rowAt (E0 w).R ((E0 w).R g) 0 row) (hg: ∀g∈T.ints,∃m,(E0 w).R g 0 (.int .i64 m)) (hz: ∀g row,T.tab g=some row->Sized w g row.length):Rel ⟨w,fun _ _=>False,Xh (fun _=>none) (lookO []),fun _=>none,lookO []⟩ (fun _=>none) (lookO []) w where
 dom:=fun o=>rfl
 obj:=fun o ob bo h=>XB
 inj:=fun o o' b h=>by cases h
 out:=fun o b i h=>by cases h
 bnd:=fun b i h=>h.elim
 ev:=Ev.refl _ _
 own:=fun b i h=>by obtain ⟨o,ob,_,h2,_⟩:=h;cases h2
 ent:=fun o ob h=>XB
 big:=fun o h=>XB
 tab:=ht
 gi:=hg
 tsz:=hz
theorem ACall.run {P:Program} {f:FuncId} {as:List A} {u:Value} {w:World} {vs:List Value} (ac:ACall P f as [] (.d (.lit u)) []) (ht: ∀g row,T.tab g=some row->rowAt (E0 w).R ((E0 w).R g) 0 row) (hg: ∀g∈T.ints,∃m,(E0 w).R g 0 (.int .i64 m)) (hz: ∀g row,T.tab g=some row->Sized w g row.length) (hr:repL (E0 w) as vs):
 Calls P f vs.toArray w fun e w'=>e= .returned u/\Below w.heap.size w w':=by
 refine (ac.calls (fun _ _=>False) (fun _=>none) w vs (E0_rel w ht hg hz) hr).mono fun e w' ⟨v,β',he,rel,hv⟩=>?_;have hv':v=u:=by
  simp only [A.rep,D.rep] at hv;exact hv.1
 subst hv';exact ⟨he,rel.ev.below fun b i h=>by obtain ⟨o,ob,_,h2,_⟩:=h;cases h2⟩
theorem ACall.of_still {P : Program} {f : FuncId} {fn : Func} {as : List A} {os : List (Nat × Ob)} {x : D} (hf : P.funcs[f]? = some fn) (hn : (fn.name == "runtime.NumGoroutine") = false) (hb : fn.body.isSome = true)
 (h: ∀(w:World) (vs:List Value) (E:Env),repL E as vs->(∀g∈T.ints,∃m,w.cell? ⟨g,0,none⟩=some (.int .i64 m))->Calls P f vs.toArray w fun e w'=> ∃v,e= .returned v/\x.rep E.R v/\w'=w):
 ACall P f as os (.d x) os where
 fn:=⟨fn,hf,hn,hb⟩
 calls:=fun Xo β w vs rel hr=>(h w vs _ hr fun g hg=>(rel.gi g hg).imp fun _ q=>q.2.2).mono fun e w' ⟨v,he,hv,hw⟩=>by
  subst hw;exact ⟨v,β,he,rel,by simpa only [A.rep] using hv⟩
section
variable {H:Type} {enc:TypeId×Value->H} {P:Program} {w:World} {base b0:Nat} {spare:Nat->Bool} {held:Bool} {t e:TypeId} {v:Value} {d:DataW H} {ps:List MemPlace}
theorem open_sl {k:IntKind} {r:Reach} (ht:P.underlying t=some (.slice e)) (he:P.underlying e=some (.int k)) (hc:P.cellsOf e=1) (hval:Value.okWide P w r b0 t v) (h:DataW.Trod enc P w base spare held t v d ps):
 ∃xs:List Int,(∀x∈xs,(Lit.int k x).wf=true)/\(A.d (.sl 1 (zd (fun n=>[D.lit (.int k n)]) xs))).rep (E0 w) v/\(d= .nil/\xs=[]\/ ∃rest,d= .slice (lits k xs) rest):=by
 obtain ⟨a0,len,cap,rfl⟩:=okWide_slice ht hval;obtain ⟨fuel,hf⟩:=h;rcases open_ints ht he hc hf with ⟨hcs,hx⟩ | ⟨a,len',cap',zs,hcs,_,hl,hm,hz,hx,hcell,hwz⟩
 ·simp [Value.cells] at hcs;obtain ⟨rfl,rfl,rfl⟩:=hcs;refine ⟨[],Zd,?_,.inl ⟨(Prod.mk.injEq .. ▸ hx).1,rfl⟩⟩;simp only [A.rep,D.rep];exact ⟨none,0,rfl,Ys _,fun _=>⟨rfl,rfl⟩,fun a' h=>by cases h⟩
 ·simp [Value.cells] at hcs;obtain ⟨rfl,rfl,rfl⟩:=hcs;have hlen:len<=zs.length:=by rw [hz];split<;>omega
  have hlt:(zs.take len).length=len:=Zt;refine ⟨zs.take len,fun x hx=>hwz x (YH hx),?_,.inr ⟨_,by rw [Prod.mk.injEq] at hx;exact hx.1⟩⟩;have hspot:a.spot=none:=by
   have hv:Cell.ok P w r b0 t (.slice (some a) len cap):=by
    simpa [Value.okWide,ht,Cell.okWide] using hval
   simp only [Cell.ok,ht] at hv;exact hv.2.2.2.1
  simp only [A.rep,D.rep];refine ⟨some a,cap,by rw [zc,hlt],by rw [zc,hlt];exact hl,(fun h=>by cases h),fun a' ha'=>?_⟩;cases ha';refine ⟨fun _=>hspot,?_⟩;have key: ∀(ys:List Int) (k0:Nat),(∀j,j<ys.length->w.cell? ⟨a.block,k0+j,none⟩=some (.int k (ys.getD j 0)))->rowsAt (E0 w).R ((E0 w).R a.block) 1 k0 (zd (fun n=>[D.lit (.int k n)]) ys):=by
   intro ys
   induction ys with
   | nil=>intro k0 _;simp [zd,rowsAt]
   | cons y ys ih=>
     intro k0 hj;rw [z6];simp only [rowsAt];refine ⟨rfl,?_,ih (k0+1) fun j h=>?_⟩
     ·simp only [rowAt];exact ⟨⟨.int k y,E0_cell (by simpa using hj 0 (by simp)),by simp [D.rep,one]⟩,trivial⟩
     ·have:=hj (j+1) (Zc h);rw [show k0+1+j=k0+(j+1) from Za,this];simp
  refine key _ _ fun j hj=>?_;have:=hcell j Za;rw [add_mk hspot] at this;rw [this]
  congr 2
  simp only [Yf];rw [List.getElem?_take_of_lt Za]
theorem trodAll_below (hl:laidOutB P=true) {W W':World} (hb:Below W.heap.size W W'): ∀{ts:List TypeId} {vs:List Value} {ds:List (DataW H)} {ps:List MemPlace},(ts.all fun t=>P.readableRec t&&decide (t<P.types.size))=true->
 DataW.TrodAll enc P W 0 (fun _=>true) true ts vs ds ps->(∀x∈ps,x.block<W.heap.size)->DataW.TrodAll enc P W' 0 (fun b=>decide (b<W.heap.size)) true ts vs ds ps
 | [],[],[],_,_,h,_=>h
 | _::_,_::_,_::_,_,hT,⟨p,q,h1,h2,e⟩,hs=>by
   simp only [List.all_cons,Yy,Yg] at hT;exact ⟨p,q,Below.trod hl hT.1.1 hT.1.2 h1 hb (fun x hx=>hs x (by rw [e];exact List.mem_append_left _ hx)),
    trodAll_below hl hb hT.2 h2 (fun x hx=>hs x (by rw [e];exact List.mem_append_right _ hx)),e⟩
theorem post_true {f:Func} {s:ChangeSpec} {W W':World} {args:Array Value} {ds gs:List (DataW H)} {before:List MemPlace} {tB:TypeId} (hW:DataW.Whole enc P f.params.toList s.vars false W args.toList ds gs before)
 (hsv:s.vars=[]) (hl:laidOutB P=true) (hr:(f.params.toList.all fun t=>P.readableRec t&&decide (t<P.types.size))=true) (hT:f.resultTypes= #[tB]) (hB:P.underlying tB=some .bool)
 (hs:s.fn H ds={results:=[.lit (.bool true)],args:=ds}) (hb:Below W.heap.size W W'):s.post enc P f false true false false W args (.bool true) W':=by
 have hW':=hW;obtain ⟨p,q,hA,hV,rfl,_,_⟩:=hW;rw [hsv] at hV;obtain ⟨rfl,rfl⟩:=trodVars_none hV;have hlt: ∀x∈p,x.block<W.heap.size:=fun x hx=>hW'.lt x (Zu hx);refine ⟨ds,[],p++[],[],p,[],hW',?_,?_,?_,hb.frame _,fun h=>by cases h⟩
 ·rw [Yw,hs,hT];exact trodAll_mk1 (shut_bool hB _)
 ·rw [Yw,hs];exact trodAll_below hl hb hr hA hlt
 ·rw [Yw,hs,hsv];rfl
end
end
section
variable [T:Tab]
def zb:=And.intro @ev_skip<| And.intro @ev_label<| And.intro @ev_ret<| And.intro @ev_exit<| And.intro @ev_seq<| And.intro @ev_cond<| And.intro @ev_block<| And.intro @ev_scope<| And.intro @ev_reg<| And.intro @ev_loop<| And.intro @ev_range<| And.intro @seqK_normal<| And.intro @seqK_ret<| And.intro @seqK_exit<| And.intro @blkK_normal<| And.intro @blkK_ret<| And.intro @blkK_exit<| And.intro @scoK_normal<| And.intro @scoK_ret<| And.intro @scoK_exit<| And.intro @loopK_ret<| And.intro @loopK_exit<| And.intro @bodyK_ret<| And.intro @bodyK_normal<| And.intro @rgn_end_f<| And.intro @rgn_end_t<| And.intro @rgn_step<| And.intro @skg_some<| And.intro @skg_none<| And.intro @gk_none<| And.intro @gk_some<| And.intro @gkS_some<| And.intro @gkV_bool<| And.intro @gkV_tup<| And.intro @gsel_never<| And.intro @gslot_eq<| And.intro @bind_dst<| And.intro @gsel_free<| And.intro @gsel_tt<| And.intro @gsel_ff<| And.intro @gsel_tf<| And.intro @gsel_ft<| And.intro @gsel_t<| And.intro @gsel_f<| And.intro @setB_eq<| And.intro @yC<| And.intro @kG<| And.intro @condx_bool<| And.intro @condx_bx<| And.intro @g_move<| And.intro @g_assign<| And.intro @g_pick<| And.intro @g_alloc<| And.intro @g_box<| And.intro @g_build<| And.intro @g_buildSlice<| And.intro @g_load<| And.intro @g_store<| And.intro @g_nilCheck<| And.intro @g_binOp<| And.intro @g_unOp<| And.intro @g_convert<| And.intro @g_makeFunc<| And.intro @g_makeSlice<| And.intro @g_slice<| And.intro @g_slice3<| And.intro @g_fieldAddr<| And.intro @g_field<| And.intro @g_indexAddr<| And.intro @g_index<| And.intro @g_extract<| And.intro @g_builtin<| And.intro @g_call<| And.intro @g_makeMap<| And.intro @g_mapUpdate<| And.intro @g_insert<| And.intro @g_entry<| And.intro @nextx_text<| And.intro @g_lookup<| And.intro @g_range<| And.intro @g_next<| And.intro @evL_global<| And.intro @oc_map<| And.intro @o1_map<| And.intro @idx_vs<| And.intro @evL_tmp<| And.intro @evL_const<| And.intro @evL_func<| And.intro @oc_int<| And.intro @oc_bool<| And.intro @oc_string<| And.intro @oc_nil<| And.intro @oc_ptr<| And.intro @o1_int<| And.intro @o1_bool<| And.intro @o1_string<| And.intro @o1_nil<| And.intro @o1_ptr<| And.intro @lookO_eq<| And.intro @evP_nil<| And.intro @evP_cons<| And.intro @evLs_nil<| And.intro @evLs_cons<| And.intro @evM_none<| And.intro @evM_some<| And.intro @eidx_int<| And.intro @extr_0<| And.intro @extr_1<| And.intro @extr_2<| And.intro @epick_t<| And.intro @epick_f<| And.intro @epick_b<| And.intro @x_idx<| And.intro @x_idxc<| And.intro @x_loadV<| And.intro @load_ptr<| And.intro @load_d<| And.intro @load_v<| And.intro @idx_K<| And.intro @idx_sl<| And.intro @idx_csl<| And.intro @idx_vec<| And.intro @idx_sub<| And.intro @x_pure<| And.intro @x_ok1<| And.intro @x_ok1n<| And.intro @x_ps<| And.intro @x_pn<| And.intro @x_us<| And.intro @x_un<| And.intro @upd_nil<| And.intro @upd_1<| And.intro @upd_cons<| And.intro @resA_arr<| And.intro @resA_0<| And.intro @resA_c<| And.intro @resA_1<| And.intro @resA_two<| And.intro @resA_three<| And.intro @res1_tmp<| @res1_cell
attribute [push_cast] stPut_none stDel_none lookT lookO ja gt kh uh loadP loadVo loadR loadD
attribute [push_cast] loadV_cons uX gq gu effUn uZ effConv kB vO xX kf idxK
attribute [push_cast] idxA idx_V idx_U kg qF sliceSub resC res2 res3 pickAt strsA intsA
attribute [push_cast] yt rI rV rC rF rT rIs y7 ex_eta rowsI_snoc rowsIs_snoc rowsV_snoc
attribute [push_cast] rowsC_snoc rowsF_snoc rowsT_snoc rowsE_snoc zc rowsOf_take rowsOf_drop ke vl ui xF km
attribute [push_cast] effAppG qj bag_bind uH uj uY jz effLenM qk kY kX hasN mgot xO
attribute [push_cast] vm effLen uI effEq intBin strBin nilA nilLit eqEff eqA eqFs gZ
attribute [push_cast] wY TI.isAgg A.cells A.storable A.isOne Go.Am.splice frzL frz fillR fillA placeS zrow
attribute [push_cast] zcell srcA apSrc jm bnd vM ok1 upds put epick extr pickA
attribute [push_cast] xt oc_agg one List.getElem?_cons_zero List.getElem?_cons_succ List.getElem?_nil List.map_cons List.map_nil List.length_cons List.length_nil List.take_succ_cons List.take_zero
attribute [push_cast] List.take_nil List.drop_succ_cons List.drop_zero List.drop_nil List.cons_append List.nil_append List.append_nil List.set_cons_zero List.set_cons_succ List.headD_cons List.tail_cons List.all_cons
attribute [push_cast] List.all_nil List.getD_cons_zero List.getD_cons_succ bne_self_eq_false beq_self_eq_true Option.isSome_some Option.isSome_none A.ren Ob.ren renL ren1 Option.map_some
attribute [push_cast] Option.map_none Option.getD_some Bool.and_true Bool.true_and Bool.and_false Bool.false_and Bool.or_true Bool.true_or Bool.not_true Bool.not_false decide_true decide_false
attribute [push_cast] ite_true ite_false Nat.add_zero Nat.zero_add true_and and_true eq_self ne_eq not_false_eq_true not_true_eq_false Bool.false_eq_true List.replicate_zero
attribute [push_cast] List.replicate_succ Int.toNat_natCast
def ends:=And.intro @Ob.ren.eq_7<| And.intro @Ob.closed.eq_7<| And.intro @A.ren.eq_17<| And.intro @A.closed.eq_17<| And.intro @Ob.ren.eq_5<| And.intro @Ob.closed.eq_5<| And.intro @A.ren.eq_16<| And.intro @A.closed.eq_16<| And.intro @Ob.ren.eq_4<| And.intro @Ob.closed.eq_4<| And.intro @A.ren.eq_15<| And.intro @A.closed.eq_15<| And.intro @A.ren.eq_14<| And.intro @A.closed.eq_14<| And.intro @Ob.ren.eq_3<| And.intro @Ob.closed.eq_3<| And.intro @A.ren.eq_13<| And.intro @A.ren.eq_12<| And.intro @A.ren.eq_11<| And.intro @A.closed.eq_13<| And.intro @A.closed.eq_12<| And.intro @A.closed.eq_11<| And.intro @keepT.eq_1<| And.intro @keepT.eq_2<| And.intro @lookT.eq_1<| And.intro @lookT.eq_2<| And.intro @keepO.eq_1<| And.intro @keepO.eq_2<| And.intro @keepIn.eq_1<| And.intro @keepIn.eq_2<| And.intro @lookO.eq_1<| And.intro @lookO.eq_2<| And.intro @updO.eq_1<| And.intro @updO.eq_2<| And.intro @inO.eq_1<| And.intro @A.closed.eq_1<| And.intro @A.closed.eq_2<| And.intro @A.closed.eq_3<| And.intro @A.closed.eq_4<| And.intro @A.closed.eq_5<| And.intro @A.closed.eq_6<| And.intro @A.closed.eq_7<| And.intro @A.closed.eq_8<| And.intro @A.closed.eq_9<| And.intro @A.closed.eq_10<| And.intro @closedL.eq_1<| And.intro @closedL.eq_2<| And.intro @Ob.closed.eq_1<| And.intro @Ob.closed.eq_2<| And.intro @upds.eq_1<| And.intro @upds.eq_2<| And.intro @put.eq_1<| And.intro @argT.eq_1<| And.intro @argT.eq_2<| And.intro @hosL.eq_1<| And.intro @hosL.eq_2<| And.intro @ren1.eq_1<| And.intro @ren1.eq_2<| And.intro @renL.eq_1<| And.intro @renL.eq_2<| And.intro @A.ren.eq_1<| And.intro @A.ren.eq_2<| And.intro @A.ren.eq_3<| And.intro @A.ren.eq_4<| And.intro @A.ren.eq_5<| And.intro @A.ren.eq_6<| And.intro @A.ren.eq_7<| And.intro @A.ren.eq_8<| And.intro @A.ren.eq_9<| And.intro @A.ren.eq_10<| And.intro @Ob.ren.eq_1<| And.intro @Ob.ren.eq_2<| And.intro @Option.some.injEq.{0}<| And.intro @true_and<| And.intro @and_true<| And.intro @Bool.true_and<| And.intro @Bool.and_true<| And.intro @Go.Am.splice.eq_1<| And.intro @List.take_succ_cons.{0}<| And.intro @List.take_zero.{0}<| And.intro @List.take_nil.{0}<| And.intro @List.drop_succ_cons.{0}<| And.intro @List.drop_zero.{0}<| And.intro @List.drop_nil.{0}<| And.intro @List.cons_append.{0}<| And.intro @List.nil_append.{0}<| And.intro @List.append_nil.{0}<| And.intro @List.length_cons.{0}<| And.intro @List.length_nil.{0}<| And.intro @Ob.var.injEq<| And.intro @List.cons.injEq.{0}<| And.intro @A.d.injEq<| And.intro @D.lit.injEq<| And.intro @Go.Value.int.injEq<| And.intro @not_true_eq_false<| And.intro @or_true<| And.intro @true_or<| And.intro @Nat.add_zero<| And.intro @Nat.zero_add<| And.intro @Option.isSome_some.{0}<| And.intro @Option.isSome_none.{0}<| And.intro @closed_aD<| And.intro @ren_aD<| And.intro @closed_agg_d<| And.intro @ren_agg_d<| And.intro @closed_aE<| And.intro @ren_aE<| And.intro @ex_eta<| And.intro @List.headD_cons.{0}<| And.intro @List.tail_cons.{0}<| And.intro @z6<| And.intro @zC<| And.intro @rI.eq_1<| And.intro @idsOk.eq_1<| And.intro @List.all_cons.{0}<| And.intro @List.all_nil.{0}<| And.intro @List.map_cons.{0,0}<| And.intro @List.map_nil.{0,0}<| And.intro @List.nodup_cons.{0}<| And.intro @List.nodup_nil.{0}<| And.intro @List.not_mem_nil.{0}<| @List.mem_cons.{0}
def bs:=And.intro @num.eq_1<| And.intro @boo.eq_1<| And.intro @str.eq_1<| And.intro @aV.eq_1<| @yt
end
section
variable [T:Tab]
theorem Zj {p:Prop} (h:p:=by simp [zc]<;>omega):p:=h
theorem ZU {p P0:Prop} (zf_:P0) (h:P0->p:=by intro zf_;simp [ends,zf_]):p:=h zf_
theorem ZV {p:Prop} (h:p:=by simp [idsOk,lookO,updO,ren1]):p:=h
section
variable {P:Program} {tt:Types} {ops:Array Oper} {dr:Bool} {rest:List Oper} {log:List Foot} {K:SL->Prop}
theorem zg {f:FuncId} {caps as:List A} {d:Option Nat} {t:UL} {o:UM} (cws:List (List Nat)) (rn:List (Nat×Nat)) {g:FrzSL} {cas:List A} {os os':UM} {cres:A} (ac:ACall P f cas os cres os')
 (h:effx P tt ops dr (some ⟨True,cres.ren (ren1 rn),g.upd++os'.map (fun p=>(ren1 rn p.1,p.2.ren (ren1 rn))),g.rd++os'.map (fun p=>ren1 rn p.1)⟩) d rest log K ⟨t,o⟩)
 (hz:qc (lookO o) cws (as++caps)=some g:=by exact rfl) (hgs:g.side:=by simp [zc]<;>omega) (hargs:renL (ren1 rn) cas=g.xs:=by simp [ends,bs])
 (hcl:closedL (inO os) cas=true:=by first | rfl | simp [ends,bs]) (hos:hosL (lookO (updO o g.upd)) (ren1 rn) (inO os) os:=by simp [ends])
 (hid:idsOk (ren1 rn) (lookO (updO o g.upd)) (os.map (·.1)) (os'.map (·.1)):=by simp [idsOk,lookO,updO,ren1]):qO P tt ops dr (.clo f caps) as d rest log K ⟨t,o⟩:=
 callx_of cws rn hz ac hgs hargs hcl hos hid h
end
theorem zn {P:Program} {tt:Types} (hm:P.follows .mixedOrders=true) (T:tt.ok P) {f:FuncId} {fn:Func} {c:Code} {as:List A} {os os':UM} {res:A} {N:Nat} {ra:Array ResultVar} (hf:P.funcs[f]? =some fn)
 (hNn : fn.ntmps = N) (hrs : fn.results = ra) (h : ev P tt c (bodyK tt ra.toList res os') ⟨argT 0 as, os⟩) (hname : (fn.name == "runtime.NumGoroutine") = false := by exact rfl) (hb : fn.body = some c := by exact rfl)
 (hN:as.length<=N:=by exact Nat.le_of_ble_eq_true rfl) (hc:cOk N c=true:=by kernel_rfl) (hmk:noMk os'=true:=by first | rfl | (simp [noMk];done)):ACall P f as os res os':=
 ACall.enter hm T hf hname hb N hNn hN hc ra.toList (congrArg Array.toList hrs) h hmk
end
section
structure OpD where
 word:ByteArray
 kids:Int
 types:Int
 own:Int
instance:Inhabited OpD:=⟨⟨ByteArray.empty,0,0,0⟩⟩
def rOp (o:OpD):List D:=[.lit (.string o.word),.lit (.int .i64 o.kids),.lit (.int .i64 o.types),.lit (.int .i64 o.own)]
def opTab:List OpD:=
 [⟨⟨#[]⟩,0,0,0⟩,
  ⟨⟨#[110,117,108,108]⟩,0,0,0⟩,
  ⟨⟨#[105,110,116]⟩,0,0,1⟩,
  ⟨⟨#[98,111,111,108]⟩,0,0,2⟩,
  ⟨⟨#[116,101,120,116]⟩,0,0,3⟩,
  ⟨⟨#[99,111,108,117,109,110]⟩,0,0,0⟩,
  ⟨⟨#[97,100,100]⟩,2,1,1⟩,
  ⟨⟨#[115,117,98]⟩,2,1,1⟩,
  ⟨⟨#[109,117,108]⟩,2,1,1⟩,
  ⟨⟨#[100,105,118]⟩,2,1,1⟩,
  ⟨⟨#[109,111,100]⟩,2,1,1⟩,
  ⟨⟨#[110,101,103]⟩,1,1,1⟩,
  ⟨⟨#[99,111,110,99,97,116]⟩,2,2,3⟩,
  ⟨⟨#[108,101,110,103,116,104]⟩,1,2,1⟩,
  ⟨⟨#[101,113]⟩,2,4,2⟩,
  ⟨⟨#[110,101]⟩,2,4,2⟩,
  ⟨⟨#[108,116]⟩,2,4,2⟩,
  ⟨⟨#[108,101]⟩,2,4,2⟩,
  ⟨⟨#[103,116]⟩,2,4,2⟩,
  ⟨⟨#[103,101]⟩,2,4,2⟩,
  ⟨⟨#[115,97,109,101]⟩,2,4,2⟩,
  ⟨⟨#[105,115,110,117,108,108]⟩,1,5,2⟩,
  ⟨⟨#[97,110,100]⟩,2,3,2⟩,
  ⟨⟨#[111,114]⟩,2,3,2⟩,
  ⟨⟨#[110,111,116]⟩,1,3,2⟩,
  ⟨⟨#[105,115,116,114,117,101]⟩,1,3,2⟩,
  ⟨⟨#[99,97,115,101]⟩,3,6,0⟩,
  ⟨⟨#[99,111,97,108,101,115,99,101]⟩,2,4,0⟩,
  ⟨⟨#[105,110]⟩,2,4,2⟩]
def opRow:List D:=(opTab.map rOp).flatten
theorem opTab_length:opTab.length=29:=rfl
end
theorem Zl {p:Prop} (h:p:=by dsimp only;omega):p:=h
section
variable [T:Tab]
def zF (t:UL):List Nat->List (Nat×A)
 | []=>[]
 | k::ks=>(k,lookT t k)::zF t ks
def consO (k:Nat) (ob:Option Ob) (l:UM):List (Nat×Ob):=match ob with
 | some ob=>(k,ob)::l
 | none=>l
theorem zr (k:Nat) (ob:Ob) (l:UM):consO k (some ob) l=(k,ob)::l:=rfl
def zH (o:UM):List Nat->List (Nat×Ob)
 | []=>[]
 | k::ks=>consO k (lookO o k) (zH o ks)
def cst (ctr:Nat) (kt:UL) (ko:UM) (ts:Nat->List (Nat×A)) (os:Nat->List (Nat×Ob)) (n:Nat):SL:=⟨(ctr,.d (.lit (.int .i64 n)))::(ts n++kt),os n++ko⟩
theorem zq {P:Program} {tt:Types} (hm:P.follows .mixedOrders=true) (T':tt.ok P) {c:Code} {K:Exit->SL->Prop} {t:UL} {o:UM} {kt:UL} {ko:UM}
 (ctr:Nat) (keep keepo:List Nat) (hk:zF t keep=kt) (hko:zH o keepo=ko) (N:Nat) (Inv:Nat->Prop) (ts:Nat->List (Nat×A)) (os:Nat->List (Nat×Ob)) (h0:Inv 0)
 (hw:Weak (SL.mk t o).st (cst ctr kt ko ts os 0).st)
 (step: ∀(I:{n:Nat // n<=N/\Inv n}->SL),(∀x,I x=cst ctr kt ko ts os x.1)-> ∀(n:Nat) (hn:n<=N) (hi:Inv n),ev P tt c (jr I (fun x=>N-x.1) ⟨n,hn,hi⟩ K) (cst ctr kt ko ts os n)):
 wK P c K ⟨t,o⟩:=
 jU hm T' (fun x:{n:Nat // n<=N/\Inv n}=>cst ctr kt ko ts os x.1) (fun x=>N-x.1) ⟨0,Yj _,h0⟩ hw fun ⟨n,hn,hi⟩=>step _ (fun _=>rfl) n hn hi
theorem zp {N:Nat} {Inv:Nat->Prop} {I:{n:Nat // n<=N/\Inv n}->SL} {ctr:Nat} {kt:UL} {ko:UM} {ts:Nat->List (Nat×A)} {os:Nat->List (Nat×Ob)} (hI: ∀x,I x=cst ctr kt ko ts os x.1)
 (n:Nat) {x:{n:Nat // n<=N/\Inv n}} (hx:x.1=n) {K:Exit->SL->Prop} {t:UL} {o:UM} (h1:n<N) (h2:Inv (n+1))
 (hct:lookT t ctr= .d (.lit (.int .i64 (n+1:Nat))))
 (ht:keepT (lookT t) (inO (os (n+1)++ko)) (ts (n+1)++kt)) (ho:keepO (lookO o) (inO (os (n+1)++ko)) (os (n+1)++ko)) (hin:keepIn (inO (os (n+1)++ko)) o):
 jr I (fun x=>N-x.1) x K .normal ⟨t,o⟩:=by
 refine ⟨⟨n+1,h1,h2⟩,Zl,?_⟩;rw [hI];exact Ya ⟨⟨hct,rfl⟩,ht⟩ ho hin
theorem zA {α:Type} [Inhabited α] (l:List α) (n:Nat) (h:n<l.length):l.drop n=l.getD n default::l.drop (n+1):=by
 rw [U0 h,Yf,List.getElem?_eq_getElem h];rfl
def ferr {α:Type} (f:α->Int):List α->Int
 | []=>0
 | x::l=>if f x=0 then ferr f l else f x
def fidx {α:Type} (p:α->Bool):List α->Int
 | []=> -1
 | x::l=>if p x then 0 else if fidx p l<0 then -1 else fidx p l+1
theorem fidx_ge {α:Type} (p:α->Bool): ∀l:List α, -1<=fidx p l
 | []=>by simp [fidx]
 | x::l=>by have:=fidx_ge p l;simp only [fidx];split<;>(try split)<;>omega
theorem xU {α:Type} (p:α->Bool): ∀l:List α,fidx p l<l.length
 | []=>by simp [fidx]
 | x::l=>by have:=xU p l;simp only [fidx,Y5];split<;>(try split)<;>omega
theorem vC {α:Type} [Inhabited α] (p:α->Bool): ∀(l:List α) (n:Nat),n<l.length->(∀i,i<n->p (l.getD i default)=false)->p (l.getD n default)=true->fidx p l=n
 | [],n,h,_,_=>by simp at h
 | x::l,0,_,_,hp=>by simp at hp;simp [fidx,hp]
 | x::l,n+1,h,hb,hp=>by
   have h0:=hb 0 Za;simp at h0;have:=vC p l n (Zc h) (fun i hi=>by simpa using hb (i+1) (by omega)) (Zc hp);simp only [fidx,h0,this];rw [if_neg Zd,if_neg Za];omega
theorem xE {α:Type} [Inhabited α] (p:α->Bool): ∀(l:List α),(∀i,i<l.length->p (l.getD i default)=false)->fidx p l= -1
 | [],_=>rfl
 | x::l,hb=>by
   have h0:=hb 0 Zd;simp at h0;have:=xE p l (fun i hi=>by simpa using hb (i+1) (by simpa using hi));simp [fidx,h0,this]
theorem qe {α:Type} (p:α->Bool): ∀l:List α,fidx p l<0 ↔ l.any p=false
 | []=>by simp [fidx]
 | x::l=>by
   have:=qe p l;have:=fidx_ge p l;simp only [fidx,List.any_cons,Bool.or_eq_false_iff]
   split
   ·rename_i h;simp [h]
   ·rename_i h;simp only [Bool.not_eq_true] at h;split
    ·rename_i h2;simp [h,(qe p l).1 h2]
    ·rename_i h2;exact ⟨fun h3=>Za,fun h3=>absurd ((qe p l).2 h3.2) h2⟩
theorem zy {α:Type} [Inhabited α] (l:List α) (n:Nat) (h:n<l.length):l.take (n+1)=l.take n++[l.getD n default]:=by
 rw [U6 h,Yf,List.getElem?_eq_getElem h];rfl
theorem zk {α:Type} [Inhabited α] {l:List α} {n:Nat} (h:n<l.length):l.getD n default∈l:=by
 rw [Yf,List.getElem?_eq_getElem h];exact List.getElem_mem h
theorem zh {n N:Nat} (h:n<N) (hN:N<=1000000000):IntKind.i64.wrap ((n:Int)+1)=((n+1:Nat):Int):=by rw [zt (by omega) (by omega)];rfl
theorem zm {p:Prop} {x:D} {t:UL} {o:UM} {R:A} (hp:p) (hr:A.d x=R) (ho:keepIn (inO []) o):retx (some (p,A.d x)) ⟨t,o⟩ R []:=by
 subst hr;exact zv [] rfl hp trivial rfl rfl trivial ho
theorem zP {p:Prop} {x y:D} {t:UL} {o:UM} {R:A} (hp:p) (hr:A.tup [.d x,.d y]=R) (ho:keepIn (inO []) o):retx (some (p,.tup [.d x,.d y])) ⟨t,o⟩ R []:=by
 subst hr;exact zo [[],[]] rfl hp Zd rfl rfl trivial ho
end
section
variable [T:Tab]
def zT (a b:Nat) (o:Nat):Nat:=if o=a then b else o
theorem WA {p:Prop} (h:p:=by simp only [zT];rw [if_neg (by omega)]):p:=h
theorem Nb{p:Prop}(h:p:=by
 intro l
 induction l with
 | nil=>intro _;trivial
 | cons x l ih=>intro hl;obtain ⟨k,v⟩:=x;simp only [keepIn] at hl ⊢;exact ⟨.inl (hl.1.resolve_right Zd),ih hl.2⟩):p:=h
theorem GJ{p:Prop}(h:p:=by
 have key: ∀(l:UM),keepIn (fun _=>false) l->keepIn (inO [(a,.vec e wd rows fz)]) l:=Nb;exact key o hin):p:=h
section
variable {cx:Cx} {β:UK} {h:UJ} {w:World} {a b:Nat}
def renβ (a b:Nat) (β:UK):Nat->Option (Option Nat):=fun o=>if o=b then β a else if o=a then none else β o
def renH (a b:Nat) (h:UJ):Nat->Option Ob:=fun o=>if o=b then (h a).map (·.ren (zT a b)) else if o=a then none else (h o).map (·.ren (zT a b))
theorem renβ_to (hab:a≠b) (hb:β b=none) (o:Nat) (x:Option Nat) (ho:β o=some x):renβ a b β (zT a b o)=β o:=by
 unfold renβ zT;by_cases h1:o=a
 ·simp [h1]
 ·rw [if_neg h1];by_cases h2:o=b
  ·subst h2;rw [hb] at ho;cases ho
  ·simp [h1,h2]
theorem renH_to (hab:a≠b) (hb:h b=none) (o:Nat) (ob:Ob) (ho:h o=some ob):renH a b h (zT a b o)=some (ob.ren (zT a b)):=by
 unfold renH;by_cases h1:o=a
 ·subst h1;simp [zT,ho]
 ·have:zT a b o=o:=by simp [zT,h1]
  rw [this];by_cases h2:o=b
  ·subst h2;rw [hb] at ho;cases ho
  ·simp [h1,h2,ho]
theorem renβ_of (hab:a≠b) (o:Nat) (x:Option Nat) (ho:renβ a b β o=some x): ∃o',zT a b o'=o/\β o'=some x:=by
 unfold renβ at ho;by_cases h2:o=b
 ·subst h2;simp at ho;exact ⟨a,by simp [zT],ho⟩
 ·rw [if_neg h2] at ho;by_cases h1:o=a
  ·simp [h1] at ho
  ·rw [if_neg h1] at ho;exact ⟨o,by simp [zT,h1],ho⟩
theorem renH_of (hab:a≠b) (o:Nat) (ob:Ob) (ho:renH a b h o=some ob): ∃o' ob',zT a b o'=o/\h o'=some ob'/\ob=ob'.ren (zT a b):=by
 unfold renH at ho;by_cases h2:o=b
 ·subst h2;simp only [if_true,YR] at ho;obtain ⟨ob',h3,h4⟩:=ho;exact ⟨a,ob',by simp [zT],h3,h4.symm⟩
 ·rw [if_neg h2] at ho;by_cases h1:o=a
  ·simp [h1] at ho
  ·rw [if_neg h1,YR] at ho;obtain ⟨ob',h3,h4⟩:=ho;exact ⟨o,ob',by simp [zT,h1],h3,h4.symm⟩
theorem Rel.ren (r:Rel cx β h w) (hab:a≠b) (ha:a<1000) (hb:h b=none):
 Rel cx (renβ a b β) (renH a b h) w/\Env.Ren (zT a b) (zj cx.Xo β h w) (zj cx.Xo (renβ a b β) (renH a b h) w):=by
 have hβb:β b=none:=by
  have:=r.dom b;rw [hb] at this;simpa using this
 have hX: ∀k i,Xh (renβ a b β) (renH a b h) k i->Xh β h k i:=by
  rintro k i ⟨o,ob,h1,h2,h3⟩;obtain ⟨o',ob',g1,g2,rfl⟩:=renH_of hab o ob h1;obtain ⟨x,hx⟩: ∃x,β o'=some x:=by
   have:=r.dom o';rw [g2] at this;exact YD.1 this
  have:=renβ_to (β:=β) hab hβb o' x hx;rw [g1,h2] at this;exact ⟨o',ob',g2,this.symm,Ob.excl_ren.1 h3⟩
 have S:Env.Ren (zT a b) (zj cx.Xo β h w) (zj cx.Xo (renβ a b β) (renH a b h) w):=by
  refine ⟨fun k i v hr=>⟨hr.1,fun q=>hr.2.1 (hX k i q),hr.2.2⟩,fun o ob ho=>?_,fun _ _ q=>q⟩;obtain ⟨x,hx⟩: ∃x,β o=some x:=by
   have:=r.dom o;rw [show h o=some ob from ho] at this;exact YD.1 this
  exact ⟨renH_to hab hb o ob ho,renβ_to hab hβb o x hx⟩
 refine ⟨⟨fun o=>?_,fun o ob bo h1 h2=>?_,fun o o' k h1 h2=>?_,fun o k i h1=>?_,r.bnd,r.ev,fun k i q=>r.own k i (hX k i q),fun o ob h1=>?_,r.big,
  fun g row hg=>rowAt_mono S.R (S.R g) row 0 (r.tab g row hg),fun g hg=>(r.gi g hg).imp fun _=>S.R _ _ _,r.tsz⟩,S⟩
 ·unfold renβ renH;by_cases h2:o=b
  ·simp [h2,r.dom a]
  ·by_cases h1:o=a
   ·subst h1;simp [hab]
   ·simp [h1,h2,r.dom o]
 ·obtain ⟨o',ob',g1,g2,rfl⟩:=renH_of hab o ob h1;obtain ⟨x,hx⟩: ∃x,β o'=some x:=by
   have:=r.dom o';rw [g2] at this;exact YD.1 this
  have h3:=renβ_to (β:=β) hab hβb o' x hx;rw [g1,h2] at h3;have:=r.obj o' ob' bo g2 h3.symm;cases ob' with
  | var cs=>
    simp only [Ob.ren,Ob.rep] at this ⊢;obtain ⟨k,c,el,q1,q2,q3,q4⟩:=this;exact ⟨k,c,el,q1,q2,repL_ren S _ _ q3,q4⟩
  | vec e wd rows fz=>
    simp only [Ob.ren,Ob.rep] at this ⊢;obtain ⟨q1,q2,q3⟩:=this;refine ⟨q1,q2,?_⟩;rcases q3 with q3 | ⟨k,c,q3,q4,q5,q6⟩
    ·exact .inl q3
    ·exact .inr ⟨k,c,q3,q4,rowsAt_mono S.R (fun _ _ h=>h) _ _ _ q5,q6⟩
  | mp es st=>simpa only [Ob.ren,Ob.rep] using this
  | it s p=>simpa only [Ob.ren,Ob.rep] using this
  | bag S n=>simpa only [Ob.ren,Ob.rep] using this
  | x k as=>
    simp only [Ob.ren,Ob.rep] at this ⊢;obtain ⟨k',x,vs,q1,q2,q3,q4⟩:=this;exact ⟨k',x,vs,q1,q2,q3,repL_ren S _ _ q4⟩
  | gv e cs=>
    simp only [Ob.ren,Ob.rep] at this ⊢;rcases this with q3 | ⟨k,c,vs,tl,q1,q2,q3,q4,q5⟩
    ·exact .inl ⟨q3.1,Z4 (q3.2)⟩
    ·exact .inr ⟨k,c,vs,tl,q1,q2,q3,repL_ren S _ _ q4,q5⟩
 ·obtain ⟨p,p1,p2⟩:=renβ_of hab o _ h1;obtain ⟨q,q1,q2⟩:=renβ_of hab o' _ h2;have:=r.inj p q k p2 q2;rw [<-p1,<-q1,this]
 ·obtain ⟨p,p1,p2⟩:=renβ_of hab o _ h1;exact r.out p k i p2
 ·have hbig:=hdd_ge (r.big o (Z4 h1));obtain ⟨ob',g1,g2⟩:=r.ent o ob h1;have hr:zT a b o=o:=WA;refine ⟨ob'.ren (zT a b),by have:=renH_to (h:=h) hab hb o ob' g1;rwa [hr] at this,?_⟩;obtain ⟨x,hx⟩: ∃x,β o=some x:=by
   have:=r.dom o;rw [g1] at this;exact YD.1 this
  have:=renβ_to (β:=β) hab hβb o x hx;rw [hr] at this;rw [this];cases ob<;>cases ob'<;>simp_all [Ob.grow,Ob.ren,uf]
def renT (a b:Nat):List (Nat×A)->List (Nat×A)
 | []=>[]
 | (k,v)::l=>(k,v.ren (zT a b))::renT a b l
def renO (a b:Nat):List (Nat×Ob)->List (Nat×Ob)
 | []=>[]
 | (k,v)::l=>(zT a b k,v.ren (zT a b))::renO a b l
theorem lookT_renT: ∀(t:UL) (k:Nat),lookT (renT a b t) k=(lookT t k).ren (zT a b)
 | [],k=>rfl
 | (j,v)::l,k=>by
   simp only [renT,lookT]
   split
   ·rfl
   ·exact lookT_renT l k
theorem q8 (hab:a≠b): ∀(o:UM),lookO o b=none→lookO (renO a b o)=renH a b (lookO o)
 | [],_=>by funext k;simp [renO,lookO,renH]
 | (j,v)::l,hb=>by
   have hj:j≠b:=fun e=>by simp [lookO,e] at hb
   have hb':lookO l b=none:=by simpa [lookO,hj] using hb
   have ih:=q8 hab l hb'
   funext k
   simp only [renO,lookO,ih];unfold renH;by_cases h2:k=b
   ·subst h2;by_cases h1:j=a
    ·subst h1;simp [zT,lookO]
    ·simp [zT,h1,hj,lookO]
   ·by_cases h1:k=a
    ·subst h1;by_cases h3:j=k
     ·subst h3;simp [zT,h2,Ne.symm h2]
     ·simp [zT,h2,h3]
    ·by_cases h3:j=a
     ·subst h3;simp [zT,h2,h1,Ne.symm h1,Ne.symm h2,lookO]
     ·simp [zT,h2,h1,h3,lookO]
      split<;>simp
theorem Weak.ren {t:UL} {o:UM} (a b:Nat) (hab:a≠b) (ha:a<1000) (hb:lookO o b=none):Weak (SL.mk t o).st (SL.mk (renT a b t) (renO a b o)).st:=by
 intro cx N ac w ⟨β,r1,r2,r3,r4⟩;obtain ⟨q1,q2⟩:=Rel.ren (a:=a) (b:=b) r1 hab ha hb;refine ⟨renβ a b β,?_,fun k=>?_,r3,?_⟩
 ·show Rel cx _ (lookO (renO a b o)) w;rw [q8 hab o hb];exact q1
 ·show (lookT (renT a b t) k).rep (zj cx.Xo _ (lookO (renO a b o)) w) _;rw [lookT_renT,q8 hab o hb];exact A.rep_ren q2 _ _ (r2 k)
 ·show MarksOk _ _ (lookO (renO a b o)) _;rw [q8 hab o hb];refine MarksOk.mono r4 fun k as h1 h2=>?_;obtain ⟨g1,g2⟩:=q2.h k _ h2;have e:zT a b k=k:=WA;rw [e] at g1 g2;exact ⟨⟨_,g1⟩,g2⟩
theorem ret_vec {p:Prop} {t:UL} {o:UM} {n e wd fz:Nat} {rows:UN} (a:Nat) (hp:p) (ha:a<1000) (ho:lookO o a=some (.vec e wd rows fz)) (hb:lookO o 1000=none)
 (hin:keepIn (fun _=>false) o):retx (some (p,.vec a n)) ⟨t,o⟩ (.vec 1000 n) [(1000,.vec e wd rows fz)]:=by
 refine ⟨hp,?_⟩;have h1:Weak (SL.mk [(0,.vec a n)] o).st (SL.mk [(0,.vec a n)] [(a,.vec e wd rows fz)]).st:=by
  refine Ya ⟨⟨rfl,by simp [A.closed,inO,lookO]⟩,trivial⟩ ⟨⟨ho,rfl⟩,trivial⟩ ?_;exact GJ
 have h2:=Weak.ren (t:=[(0,.vec a n)]) (o:=[(a,.vec e wd rows fz)]) a 1000 Za ha (by simp only [lookO];rw [if_neg (by omega)]);simp only [renT,renO,A.ren,Ob.ren,zT,if_true] at h2;exact h1.trans h2
theorem ret_nil {p:Prop} {t:UL} {o:UM} (e wd:Nat) (hp:p) (hin:keepIn (fun _=>false) o):retx (some (p,.snil)) ⟨t,o⟩ (.vec 1000 0) [(1000,.vec e wd [] 0)]:=by
 refine ⟨hp,?_⟩;have h1:Weak (SL.mk [(0,.snil)] o).st (SL.mk [(0,.snil)] []).st:=by
  refine Ya ⟨⟨rfl,rfl⟩,trivial⟩ trivial ?_;have key: ∀(l:UM),keepIn (fun _=>false) l->keepIn (inO []) l:=by
   exact Nb
  exact key o hin
 have h2:Weak (SL.mk [(0,.vec 1000 0),(0,.snil)] [(1000,.vec e wd [] 0)]).st (SL.mk [(0,.vec 1000 0)] [(1000,.vec e wd [] 0)]).st:=
  Ya ⟨⟨rfl,by simp [A.closed,inO,lookO]⟩,trivial⟩ ⟨⟨rfl,rfl⟩,trivial⟩ ⟨.inr (by simp [inO,lookO]),trivial⟩
 exact (h1.trans (YU 0 1000 e wd rfl rfl)).trans h2
end
end
theorem XO {p:Prop} (h:p:=by have:=h (n+1) ks (by simpa using hn);rwa [show b+(n+1)=b+1+n by omega] at this):p:=h
theorem WH {p:Prop} (h:p:=by have:=hh (n+1) ks (by simpa using hn);rwa [show b+(n+1)=b+1+n by omega] at this):p:=h
theorem N3{p:Prop}(h:p:=by
 by_cases h:b+1<=k
 ·rw [if_neg Za,if_pos h,if_pos Za,show k-b=(k-(b+1))+1 from Za,List.getElem?_cons_succ]
 ·rw [if_neg h];by_cases h2:b<=k
  ·rw [if_pos Za,if_pos h2,show k-b=0 from Za];rfl
  ·rw [if_neg Za,if_neg h2]):p:=h
section
variable [T:Tab]
def encM (ks:List Int):List (Value×Value):=ks.map fun k=>(.int .i64 k,.bool true)
def addK (ks:List Int) (k:Int):List Int:=if ks.contains k then ks else ks++[k]
theorem encM_length (ks:List Int):(encM ks).length=ks.length:=by simp [encM]
theorem mfind_enc (k:Int): ∀(ks:List Int) (i:Nat),w8 (.int .i64 k) (encM ks) i=some (if ks.contains k then some (i+ks.idxOf k,.bool true) else none)
 | [],i=>rfl
 | x::ks,i=>by
   have ih:=mfind_enc k ks (i+1);simp only [encM] at ih;simp only [encM,Y0,w8,wW,if_true];by_cases hx:k=x
   ·subst hx;simp
   ·have h1:(k==x)=false:=Zu hx;have h2:(x==k)=false:=Zu (Ne.symm hx);rw [h1];simp only [ih,List.contains_cons,h1,Yx,List.idxOf_cons,h2]
    split<;>simp<;>omega
theorem mput_enc (k:Int) (ks:List Int):mput (.int .i64 k) (.bool true) (encM ks)=some (encM (addK ks k)):=by
 unfold mput;rw [mfind_enc];by_cases h:ks.contains k=true
 ·simp only [h,if_true,addK,YW]
  congr 1
  have hm:k∈ks:=Zc h;have hi:=List.idxOf_lt_length_of_mem hm;apply Uc;intro j;rw [List.getElem?_set];by_cases hj:ks.idxOf k=j
  ·subst hj;simp [encM_length,hi,encM,List.getElem_idxOf hi]
  ·simp [hj]
 ·simp only [h,addK];simp [encM]
theorem mdel_enc (k:Int) (ks:List Int):mdel (.int .i64 k) (encM ks)=some (encM (ks.erase k)):=by
 unfold mdel;rw [mfind_enc];by_cases h:ks.contains k=true
 ·simp only [h,if_true,YW];rw [List.erase_eq_eraseIdx_of_idxOf rfl,encM,encM,kW]
 ·simp only [h];have:ks.erase k=ks:=List.erase_of_not_mem (Zc h);simp [this]
def cellM (i:Nat):Option (List Int)->A
 | none=> .d (.lit (.map none))
 | some _=> .mp i
def x6 (b:Nat):List (Option (List Int))->List A
 | []=>[]
 | m::l=>cellM b m::x6 (b+1) l
def yO (b:Nat):List (Option (List Int))->List (Nat×Ob)
 | []=>[]
 | none::l=>yO (b+1) l
 | some ks::l=>(b,.mp (encM ks))::yO (b+1) l
theorem wA: ∀(b:Nat) (ms:List (Option (List Int))),(x6 b ms).length=ms.length
 | _,[]=>rfl
 | b,_::l=>by simp [x6,wA (b+1) l]
theorem j7: ∀(b:Nat) (ms:List (Option (List Int))) (n:Nat),(x6 b ms)[n]? =ms[n]?.map (cellM (b+n))
 | _,[],n=>by simp [x6]
 | b,m::l,0=>by simp [x6]
 | b,m::l,n+1=>by simp only [x6,List.getElem?_cons_succ,j7 (b+1) l n];rw [show b+1+n=b+(n+1) from Za]
theorem mapsA_none (b:Nat): ∀n:Nat,x6 b (List.replicate n none)=List.replicate n (.d (.lit (.map none)))
 | 0=>rfl
 | n+1=>by
   have: ∀(n b:Nat),x6 b (List.replicate n none)=List.replicate n (.d (.lit (.map none))):=by
    intro n
    induction n with
    | zero=>intro b;rfl
    | succ n ih=>intro b;simp [UF,x6,ih,cellM]
   exact this (n+1) b
theorem mapsA_set (b:Nat) (ms:List (Option (List Int))) (n:Nat) (m:Option (List Int)):(x6 b ms).set n (cellM (b+n) m)=x6 b (ms.set n m):=by
 apply Uc;intro j;rw [j7,List.getElem?_set,List.getElem?_set,wA,j7];by_cases hj:n=j
 ·subst hj;by_cases hn:n<ms.length<;>simp [hn]
 ·simp [hj]
theorem jV: ∀(ms:List (Option (List Int))) (b k:Nat),lookO (yO b ms) k=if b<=k then (match ms[k-b]? with | some (some ks)=>some (.mp (encM ks)) | _=>none) else none
 | [],b,k=>by simp [yO,lookO]
 | none::l,b,k=>by
   rw [yO,jV l (b+1) k];by_cases h:b+1<=k
   ·rw [if_pos h,if_pos Za,show k-b=(k-(b+1))+1 from Za,List.getElem?_cons_succ]
   ·rw [if_neg h];by_cases h2:b<=k
    ·rw [if_pos h2,show k-b=0 from Za];rfl
    ·rw [if_neg h2]
 | some ks::l,b,k=>by
   simp only [yO,lookO];rw [jV l (b+1) k];exact N3
theorem lookO_maps_lt (ms:List (Option (List Int))) {b k:Nat} (h:k<b):lookO (yO b ms) k=none:=by rw [jV,if_neg (by omega)]
theorem yz {ms:List (Option (List Int))} {n:Nat} {ks:List Int} (b:Nat) (h:ms[n]? =some (some ks)):lookO (yO b ms) (b+n)=some (.mp (encM ks)):=by
 rw [jV,if_pos Za,show b+n-b=n from Za,h]
theorem y4 {k j:Nat} {v:Ob} {l:UM} (h:k≠j):lookO ((k,v)::l) j=lookO l j:=by simp only [lookO];rw [if_neg h]
theorem inO_maps {ms:List (Option (List Int))} {n:Nat} {ks:List Int} (b:Nat) (h:ms[n]? =some (some ks)):inO (yO b ms) (b+n)=true:=by unfold inO;rw [yz b h];rfl
theorem vj {k:Nat} {v:Ob} {l:UM} {j:Nat} (h:inO l j=true):inO ((k,v)::l) j=true:=by
 unfold inO at h ⊢;simp only [lookO]
 split
 ·rfl
 ·exact h
theorem inO_cons_l {k:Nat} {v:Ob} {l:UM}:inO ((k,v)::l) k=true:=by unfold inO;simp [lookO]
theorem uE {f:UJ} {dom:Nat->Bool}: ∀{ms:List (Option (List Int))} {b:Nat},(∀n ks,ms[n]? =some (some ks)->f (b+n)=some (.mp (encM ks)))->keepO f dom (yO b ms)
 | [],b,_=>trivial
 | none::l,b,h=>by
   rw [yO];exact uE fun n ks hn=>XO
 | some ks::l,b,h=>by
   rw [yO];exact ⟨⟨h 0 ks rfl,rfl⟩,uE fun n ks hn=>XO⟩
theorem kz {dom:Nat->Bool}: ∀{ms:List (Option (List Int))} {b:Nat},(∀n ks,ms[n]? =some (some ks)->b+n<1000\/dom (b+n)=true)->keepIn dom (yO b ms)
 | [],b,_=>trivial
 | none::l,b,h=>by
   rw [yO];exact kz fun n ks hn=>XO
 | some ks::l,b,h=>by
   rw [yO];exact ⟨(h 0 ks rfl).imp kA id,kz fun n ks hn=>XO⟩
theorem um {dom:Nat->Bool}: ∀{ms:List (Option (List Int))} {b:Nat},(∀n ks,ms[n]? =some (some ks)->dom (b+n)=true)->closedL dom (x6 b ms)=true
 | [],b,_=>rfl
 | m::l,b,h=>by
   rw [x6,closedL,um (ms:=l) (b:=b+1) fun n ks hn=>XO,YT];cases m with
   | none=>rfl
   | some ks=>exact h 0 ks rfl
theorem renL_maps {r:Nat->Nat}: ∀{ms:List (Option (List Int))} {b b':Nat},(∀n,n<ms.length->r (b+n)=b'+n)->renL r (x6 b ms)=x6 b' ms
 | [],_,_,_=>rfl
 | m::l,b,b',h=>by
   rw [x6,x6,renL,renL_maps (ms:=l) (b:=b+1) (b':=b'+1) fun n hn=>by have:=h (n+1) (by simpa using hn);rw [show b+(n+1)=b+1+n by omega] at this;omega]
   congr 1
   cases m with
   | none=>rfl
   | some ks=>simp only [cellM,A.ren];rw [show r b=b' from h 0 Zd]
theorem hosL_maps {h:UJ} {r:Nat->Nat} {dom:Nat->Bool}: ∀{ms:List (Option (List Int))} {b:Nat},(∀n ks,ms[n]? =some (some ks)->h (r (b+n))=some (.mp (encM ks)))->hosL h r dom (yO b ms)
 | [],b,_=>trivial
 | none::l,b,hh=>by
   rw [yO];exact hosL_maps fun n ks hn=>WH
 | some ks::l,b,hh=>by
   rw [yO];exact ⟨⟨hh 0 ks rfl,rfl⟩,hosL_maps fun n ks hn=>WH⟩
theorem gg: ∀{ms:List (Option (List Int))} {b x:Nat},x∈(yO b ms).map (·.1)-> ∃n ks,x=b+n/\ms[n]? =some (some ks)
 | [],b,x,h=>by simp [yO] at h
 | none::l,b,x,h=>by
   rw [yO] at h;obtain ⟨n,ks,h1,h2⟩:=gg h;exact ⟨n+1,ks,Za,Zc h2⟩
 | some ks::l,b,x,h=>by
   rw [yO,Y0,YB] at h;rcases h with h | h
   ·exact ⟨0,ks,h,rfl⟩
   ·obtain ⟨n,ks,h1,h2⟩:=gg h;exact ⟨n+1,ks,Za,Zc h2⟩
theorem upds_self {h:UJ}: ∀l:List (Nat×Ob),(∀p∈l,h p.1=some p.2)->upds h l=h
 | [],_=>rfl
 | (o,ob)::l,hl=>by
   simp only [upds];have:put h o (some ob)=h:=by
    funext i
    by_cases hi:i=o
    ·subst hi;rw [yB];exact (hl (i,ob) Zd).symm
    ·rw [zK _ _ hi]
   rw [this];exact upds_self l fun p hp=>hl p (Zu hp)
theorem hosL_mem {h:UJ} {r:Nat->Nat} {dom:Nat->Bool}: ∀(l:UM),hosL h r dom l-> ∀p∈l,h (r p.1)=some (p.2.ren r)
 | [],_,p,hp=>by simp at hp
 | (o,ob)::l,hh,p,hp=>by
   simp only [hosL] at hh;rcases YB.1 hp with rfl | hp
   ·exact hh.1.1
   ·exact hosL_mem l hh.2 p hp
theorem FnCall.same {P:Program} {f:FuncId} {as:List A} {h:UJ} {e:Eff} (fc:FnCall P f as h e) (hu:upds h e.upd=h) (hk: ∀x∈e.upd.map (·.1),x∈e.rd):FnCall P f as h ⟨e.side,e.res,[],e.rd⟩ where
 fn:=fc.fn
 keyed:=by intro p hp;simp at hp
 calls:=fun h2 hr2 cx β w vs rel hvs=>by
  have hh:upds h2 e.upd=h2:=by
   funext i
   by_cases hi:i∈e.upd.map (·.1)
   ·rw [upds_mem (h2:=h) _ _ hi,hu];exact (hr2 i (hk i hi)).symm
   ·exact wn _ _ hi
  have:=fc.calls h2 hr2 cx β w vs rel hvs;rw [hh] at this;exact this
theorem callx_same {P:Program} {tt:Types} {ops:Array Oper} {dr:Bool} {rest:List Oper} {log:List Foot} {K:SL->Prop} {f:FuncId} {caps as:List A} {d:Option Nat} {t:UL} {o:UM}
 (cws:List (List Nat)) (r:Nat->Nat) {g:FrzSL} {cas:List A} {os:UM} {cres:A}
 (hz:qc (lookO o) cws (as++caps)=some g) (ac:ACall P f cas os cres os) (hgu:g.upd=[]) (hgs:g.side) (hargs:renL r cas=g.xs) (hcl:closedL (inO os) cas=true)
 (hos:hosL (lookO o) r (inO os) os) (hbig: ∀x∈os.map (·.1),hdd x=true) (hinj:((os.map (·.1)).map r).Nodup) (hnd:(os.map (·.1)).Nodup)
 (h:effx P tt ops dr (some ⟨True,cres.ren r,[],g.rd++os.map fun p=>r p.1⟩) d rest log K ⟨t,o⟩):
 qO P tt ops dr (.clo f caps) as d rest log K ⟨t,o⟩:=by
 have h:=h.2;have fc:=FnCall.of hz hgs ac r hargs hcl (fun x ob hx=>by rw [hgu];exact gX os hos x ob hx) (fun _ hx=>hx) (fun x y hx hy=>by rw [vA] at hx hy;exact uM _ hinj x hx y hy)
  (fun x hx hn=>by rw [hx] at hn;cases hn) (fun x hx=>by rw [vA] at hx;exact hbig x hx) hnd
 refine ⟨_,fc.same ?_ ?_,h⟩
 ·simp only [hgu,Ue];exact upds_self _ fun p hp=>by
   obtain ⟨q,hq,rfl⟩:=Yv.1 hp;exact hosL_mem os hos q hq
 ·intro x hx;simp only [hgu,Ue,Ux,Yv] at hx;obtain ⟨q,hq,rfl⟩:=hx;exact Yr.2 (.inr (Yv.2 ⟨q,hq,rfl⟩))
theorem uV {P:Program} {tt:Types} (hm:P.follows .mixedOrders=true) (T':tt.ok P) {c:Code} {K:Exit->SL->Prop} {t:UL} {o:UM} {kt:UL}
 (ctr:Nat) (keep:List Nat) (hk:zF t keep=kt) (ko:UM) (N:Nat) (Inv:Nat->Prop) (ts:Nat->List (Nat×A)) (os:Nat->List (Nat×Ob)) (h0:Inv 0)
 (hw:Weak (SL.mk t o).st (cst ctr kt ko ts os 0).st)
 (step: ∀(I:{n:Nat // n<=N/\Inv n}->SL),(∀x,I x=cst ctr kt ko ts os x.1)-> ∀(n:Nat) (hn:n<=N) (hi:Inv n),ev P tt c (jr I (fun x=>N-x.1) ⟨n,hn,hi⟩ K) (cst ctr kt ko ts os n)):
 wK P c K ⟨t,o⟩:=
 jU hm T' (fun x:{n:Nat // n<=N/\Inv n}=>cst ctr kt ko ts os x.1) (fun x=>N-x.1) ⟨0,Yj _,h0⟩ hw fun ⟨n,hn,hi⟩=>step _ (fun _=>rfl) n hn hi
theorem ub {N:Nat} {Inv:Nat->Prop} {I:{n:Nat // n<=N/\Inv n}->SL} {ctr:Nat} {kt:UL} {ko:UM} {ts:Nat->List (Nat×A)} {os:Nat->List (Nat×Ob)} (hI: ∀x,I x=cst ctr kt ko ts os x.1)
 (n:Nat) {x:{n:Nat // n<=N/\Inv n}} (hx:x.1=n) {K:Exit->SL->Prop} {t:UL} {o:UM} (h1:n<N) (h2:Inv (n+1))
 (hw:Weak (SL.mk t o).st (cst ctr kt ko ts os (n+1)).st):jr I (fun x=>N-x.1) x K .normal ⟨t,o⟩:=by
 refine ⟨⟨n+1,h1,h2⟩,Zl,?_⟩;rw [hI];exact hw
end
section
variable [T:Tab]
theorem zx {α:Type} {P:Program} {tt:Types} (hm:P.follows .mixedOrders=true) (T':tt.ok P) {c:Code} {K:Exit->SL->Prop} {t:UL} {o:UM}
 (st:α->SL) (m:α->Nat) (Inv:α->Prop) (x0:α) (h0:Inv x0) (hw:Weak (SL.mk t o).st (st x0).st)
 (step: ∀(I:{x:α // Inv x}->SL),(∀x h,I ⟨x,h⟩=st x)-> ∀(x:α) (hi:Inv x),ev P tt c (jr I (fun x=>m x.1) ⟨x,hi⟩ K) (st x)):
 wK P c K ⟨t,o⟩:=
 jU hm T' (fun x:{x:α // Inv x}=>st x.1) (fun x=>m x.1) ⟨x0,h0⟩ hw fun ⟨x,hi⟩=>step _ (fun _ _=>rfl) x hi
theorem zi {α:Type} {st:α->SL} {Inv:α->Prop} {I:{x:α // Inv x}->SL} (hI: ∀x h,I ⟨x,h⟩=st x) {mm:{x:α // Inv x}->Nat} {x:{x:α // Inv x}} {K:Exit->SL->Prop} {t:UL} {o:UM}
 (y:α) (h2:Inv y) (h1:mm ⟨y,h2⟩<mm x) (hw:Weak (SL.mk t o).st (st y).st):jr I mm x K .normal ⟨t,o⟩:=by
 refine ⟨⟨y,h2⟩,h1,?_⟩;rw [hI];exact hw
def View (h:UJ) (as xs:List A) (rd:List Nat):Prop:=
 ∀h2,(∀i∈rd,h2 i=h i)-> ∀(cx:Cx) (β:UK) (w:World) (vs:List Value),Rel cx β h2 w->repL (zj cx.Xo β h2 w) as vs->repL (zj cx.Xo β h2 w) xs vs
theorem vb (h:UJ) (as:List A):View h as as []:=fun _ _ _ _ _ _ _ hv=>hv
theorem vec_sub {cx:Cx} {β:UK} {h:UJ} {w:World} {o n e wd fz:Nat} {rows:UN} {v:Value} (rel:Rel cx β h w) (ho:h o=some (.vec e wd rows fz)) (hn:n=rows.length)
 (hv:(A.vec o n).rep (zj cx.Xo β h w) v):(A.sub o n 0 n).rep (zj cx.Xo β h w) v:=by
 have h1:one v=true:=by
  have hv':=hv;simp only [A.rep] at hv';obtain ⟨_,_,_,_,_,_,h1,_⟩:=hv';exact h1
 rcases uo ho hn hv with ⟨hb,rfl⟩ | ⟨b,cap,hb,rfl,hcap,_,_⟩
 ·have hd:=rel.obj _ _ _ ho hb;simp only [Ob.rep] at hd;obtain ⟨_,_,hd | ⟨_,_,hd,_⟩⟩:=hd
  ·have hn0:n=0:=by rw [hn,hd.2];rfl
   simp only [A.rep];exact ⟨e,wd,rows,fz,ho,Za,by first | exact h1 | trivial,fun _=> .inl ⟨hb,hn0,XW⟩⟩
  ·cases hd
 ·simp only [A.rep];exact ⟨e,wd,rows,fz,ho,Za,by first | exact h1 | trivial,fun _=> .inr ⟨b,cap,hb,by rw [Nat.zero_mul],hcap,Za⟩⟩
theorem view_sub {h:UJ} {o n e wd fz:Nat} {rows:UN} {as:List A} (ho:h o=some (.vec e wd rows fz)) (hn:n=rows.length):View h (.vec o n::as) (.sub o n 0 n::as) [o]:=by
 intro h2 hr cx β w vs rel hv;simp only [repL] at hv ⊢;obtain ⟨u,us,h1,h2',h3⟩:=hv;exact ⟨u,us,h1,vec_sub rel ((hr o Zd).trans ho) hn h2',h3⟩
section
variable {P:Program} {tt:Types} {ops:Array Oper} {dr:Bool} {rest:List Oper} {log:List Foot} {K:SL->Prop}
theorem xl {f:FuncId} {caps as:List A} {d:Option Nat} {t:UL} {o:UM} (rn:List (Nat×Nat)) {xs:List A} {rd:List Nat} {cas:List A} {os os':UM} {cres:A}
 (hz:View (lookO o) (as++caps) xs rd) (ac:ACall P f cas os cres os') (hargs:renL (ren1 rn) cas=xs) (hcl:closedL (inO os) cas=true)
 (hos:hosL (lookO o) (ren1 rn) (inO os) os) (hid:idsOk (ren1 rn) (lookO o) (os.map (·.1)) (os'.map (·.1)))
 (h:effx P tt ops dr (some ⟨True,cres.ren (ren1 rn),os'.map (fun p=>(ren1 rn p.1,p.2.ren (ren1 rn))),rd++os'.map (fun p=>ren1 rn p.1)⟩) d rest log K ⟨t,o⟩):
 qO P tt ops dr (.clo f caps) as d rest log K ⟨t,o⟩:=by
 obtain ⟨i1,⟨i2,i2'⟩,i3⟩:=hid;have i1': ∀o,o∈os.map (·.1)->o∈os'.map (·.1)/\hdd o=true:=fun o ho=>by
  have:=Ua.1 i1 o ho;simpa using this
 have h:=h.2;refine ⟨_,FnCall.ofV (g:=⟨xs,[],rd,True⟩) Z3 (fun h2 hr cx β w vs rel hv=>⟨rel,Env.Le.refl _,hz h2 hr cx β w vs rel hv⟩) ac (ren1 rn) hargs hcl (fun x ob hx=>gX os hos x ob hx) (fun x hx=>?_) (fun x y hx hy=>?_) (fun x hx hn=>?_) (fun x hx=>?_) ?_,h⟩
 ·rw [vA] at hx ⊢;exact (i1' x hx).1
 ·rw [vA] at hx hy;exact uM _ i2 x hx y hy
 ·rw [vA] at hx;exact Gj
 ·rw [vA] at hx;exact (i1' x hx).2
 ·exact i2'
theorem callx_fn {f:FuncId} {caps as:List A} {d:Option Nat} {t:UL} {o:UM} {e:Eff} (hf:FnCall P f (as++caps) (lookO o) e) (hs:e.side=True) (h:effx P tt ops dr (some e) d rest log K ⟨t,o⟩):
 qO P tt ops dr (.clo f caps) as d rest log K ⟨t,o⟩:=⟨e,hf,h.2⟩
end
end
end Go.Am
