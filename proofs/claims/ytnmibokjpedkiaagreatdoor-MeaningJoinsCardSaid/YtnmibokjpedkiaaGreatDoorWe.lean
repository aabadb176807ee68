/- Joins of two tables: a proof over an abstract machine of our own (part We) -/
import Derived.Shelf.SlSortCmp.NoneTotal
import Derived.Shelf.Spec.SlicesGrow
import Derived.Test.YtnmibokjpedkiaaGreatDoorWd
set_option maxRecDepth 100000
set_option maxHeartbeats 4000000
set_option linter.all false
namespace Go.Proofs.YtnmibokjpedkiaaGreatDoor
section
open Go.Proofs Go.Shelf
def Tryz.sortV_ren:Go.Shelf.Ren:=⟨fun | 6=>208 | 15=>226 | 14=>225 | 28=>247 | 29=>248 | 20=>239 | 21=>240 | 22=>241 | 23=>242 | 24=>243 | 25=>244 | 26=>245 | 27=>246 | 46=>253 | 47=>254 | 48=>255 | 49=>256 | 50=>257 | 57=>258 | n=>n,fun | 22=>53 | 24=>71 | 25=>108 | 3=>3 | 39=>232 | 0=>0 | 53=>248 | 55=>250 | 4=>4 | 46=>242 | 45=>241 | 50=>65 | 5=>5 | 9=>9 | 66=>254 | 70=>258 | 76=>260 | 77=>261 | n=>n,fun | n=>n⟩
theorem Tryz.sortV:Go.Proofs.SlLaysF0.n6 Tryz.prog Tryz.sortV_ren:={
 mixed:=by kernel_rfl
 f6:=⟨Tryz.f208.name,by decide,Tryz.func208.trans (congrArg some (by kernel_rfl))⟩
 f14:=⟨Tryz.f225.name,by decide,Tryz.func225.trans (congrArg some (by kernel_rfl))⟩
 f15:=Tryz.func226.trans (congrArg some (by kernel_rfl))
 f20:=⟨Tryz.f239.name,by decide,Tryz.func239.trans (congrArg some (by kernel_rfl))⟩
 f21:=⟨Tryz.f240.name,by decide,Tryz.func240.trans (congrArg some (by kernel_rfl))⟩
 f22:=⟨Tryz.f241.name,by decide,Tryz.func241.trans (congrArg some (by kernel_rfl))⟩
 f23:=⟨Tryz.f242.name,by decide,Tryz.func242.trans (congrArg some (by kernel_rfl))⟩
 f24:=⟨Tryz.f243.name,by decide,Tryz.func243.trans (congrArg some (by kernel_rfl))⟩
 f25:=⟨Tryz.f244.name,by decide,Tryz.func244.trans (congrArg some (by kernel_rfl))⟩
 f26:=⟨Tryz.f245.name,by decide,Tryz.func245.trans (congrArg some (by kernel_rfl))⟩
 f27:=⟨Tryz.f246.name,by decide,Tryz.func246.trans (congrArg some (by kernel_rfl))⟩
 f28:=Tryz.func247.trans (congrArg some (by kernel_rfl))
 f29:=Tryz.func248.trans (congrArg some (by kernel_rfl))
 f46:=⟨Tryz.f253.name,by decide,Tryz.func253.trans (congrArg some (by kernel_rfl))⟩
 f47:=Tryz.func254.trans (congrArg some (by kernel_rfl))
 f48:=Tryz.func255.trans (congrArg some (by kernel_rfl))
 f49:=⟨Tryz.f256.name,by decide,Tryz.func256.trans (congrArg some (by kernel_rfl))⟩
 f50:=⟨Tryz.f257.name,by decide,Tryz.func257.trans (congrArg some (by kernel_rfl))⟩
 f57:=⟨Tryz.f258.name,by decide,Tryz.func258.trans (congrArg some (by kernel_rfl))⟩
 t0:=Tryz.underlying0
 a0:=Tryz.isAgg0
 z0:=Tryz.sizeOf0
 v0:=Tryz.zeroValue0
 t3:=Tryz.underlying3
 a3:=Tryz.isAgg3
 z3:=Tryz.sizeOf3
 v3:=Tryz.zeroValue3
 t4:=Tryz.underlying4
 a4:=Tryz.isAgg4
 z4:=Tryz.sizeOf4
 v4:=Tryz.zeroValue4
 t5:=Tryz.underlying5
 a5:=Tryz.isAgg5
 z5:=Tryz.sizeOf5
 v5:=Tryz.zeroValue5
 t9:=Tryz.underlying9
 a9:=Tryz.isAgg9
 z9:=Tryz.sizeOf9
 v9:=Tryz.zeroValue9
 t22:=Tryz.underlying53
 a22:=Tryz.isAgg53
 z22:=Tryz.sizeOf53
 v22:=Tryz.zeroValue53
 t25:=Tryz.underlying108
 a25:=Tryz.isAgg108
 z25:=Tryz.sizeOf108
 v25:=Tryz.zeroValue108
 t39:=Tryz.underlying232
 a39:=Tryz.isAgg232
 z39:=Tryz.sizeOf232
 v39:=Tryz.zeroValue232
 t45:=Tryz.underlying241
 a45:=Tryz.isAgg241
 z45:=Tryz.sizeOf241
 v45:=Tryz.zeroValue241
 t46:=Tryz.underlying242
 a46:=Tryz.isAgg242
 z46:=Tryz.sizeOf242
 v46:=Tryz.zeroValue242
 t50:=Tryz.underlying65
 a50:=Tryz.isAgg65
 z50:=Tryz.sizeOf65
 v50:=Tryz.zeroValue65
 t53:=Tryz.underlying248
 a53:=Tryz.isAgg248
 z53:=Tryz.sizeOf248
 v53:=Tryz.zeroValue248
 t55:=Tryz.underlying250
 a55:=Tryz.isAgg250
 z55:=Tryz.sizeOf250
 v55:=Tryz.zeroValue250
 t66:=Tryz.underlying254
 a66:=Tryz.isAgg254
 z66:=Tryz.sizeOf254
 v66:=Tryz.zeroValue254
 t70:=Tryz.underlying258
 a70:=Tryz.isAgg258
 z70:=Tryz.sizeOf258
 v70:=Tryz.zeroValue258
 t76:=Tryz.underlying260
 a76:=Tryz.isAgg260
 z76:=Tryz.sizeOf260
 v76:=Tryz.zeroValue260
 t77:=Tryz.underlying261
 a77:=Tryz.isAgg261
 z77:=Tryz.sizeOf261
 v77:=Tryz.zeroValue261}
end
section
open Go.Proofs Go.Shelf
def Tryz.growI_ren:Go.Shelf.Ren:=⟨fun | 4=>198 | n=>n,fun | 22=>22 | 25=>3 | 3=>3 | 4=>4 | 9=>9 | 20=>20 | 0=>0 | n=>n,fun | n=>n⟩
theorem Tryz.growI:Go.Proofs.Lays8.n4 Tryz.prog Tryz.growI_ren:={
 mixed:=by kernel_rfl
 f4:=⟨Tryz.f198.name,by decide,Tryz.func198.trans (congrArg some (by kernel_rfl))⟩
 t0:=Tryz.underlying0
 a0:=Tryz.isAgg0
 z0:=Tryz.sizeOf0
 v0:=Tryz.zeroValue0
 t3:=Tryz.underlying3
 a3:=Tryz.isAgg3
 z3:=Tryz.sizeOf3
 v3:=Tryz.zeroValue3
 t4:=Tryz.underlying4
 a4:=Tryz.isAgg4
 z4:=Tryz.sizeOf4
 v4:=Tryz.zeroValue4
 t9:=Tryz.underlying9
 a9:=Tryz.isAgg9
 z9:=Tryz.sizeOf9
 v9:=Tryz.zeroValue9
 t20:=Tryz.underlying20
 a20:=Tryz.isAgg20
 z20:=Tryz.sizeOf20
 v20:=Tryz.zeroValue20
 t22:=Tryz.underlying22
 a22:=Tryz.isAgg22
 z22:=Tryz.sizeOf22
 v22:=Tryz.zeroValue22}
def Tryz.growV_ren:Go.Shelf.Ren:=⟨fun | 4=>174 | n=>n,fun | 22=>53 | 25=>71 | 3=>3 | 4=>4 | 9=>9 | 20=>20 | 0=>0 | n=>n,fun | n=>n⟩
theorem Tryz.growV:Go.Proofs.Lays8.n4 Tryz.prog Tryz.growV_ren:={
 mixed:=by kernel_rfl
 f4:=⟨Tryz.f174.name,by decide,Tryz.func174.trans (congrArg some (by kernel_rfl))⟩
 t0:=Tryz.underlying0
 a0:=Tryz.isAgg0
 z0:=Tryz.sizeOf0
 v0:=Tryz.zeroValue0
 t3:=Tryz.underlying3
 a3:=Tryz.isAgg3
 z3:=Tryz.sizeOf3
 v3:=Tryz.zeroValue3
 t4:=Tryz.underlying4
 a4:=Tryz.isAgg4
 z4:=Tryz.sizeOf4
 v4:=Tryz.zeroValue4
 t9:=Tryz.underlying9
 a9:=Tryz.isAgg9
 z9:=Tryz.sizeOf9
 v9:=Tryz.zeroValue9
 t20:=Tryz.underlying20
 a20:=Tryz.isAgg20
 z20:=Tryz.sizeOf20
 v20:=Tryz.zeroValue20
 t22:=Tryz.underlying53
 a22:=Tryz.isAgg53
 z22:=Tryz.sizeOf53
 v22:=Tryz.zeroValue53}
end
section
open Go.Am Go.Sort Go.Proofs Go.Shelf Go.RowKit
attribute [local simp, local push_cast] num boo str ints aV aTab zv aS aT aC aOp
def sortV (vs:List Val):List Val:=vs.mergeSort fun x y=> !(ltOf cmpM y x)
theorem sortV_length (vs:List Val):(sortV vs).length=vs.length:=by rw [sortV,List.length_mergeSort]
end
section
open Go.Am
attribute [local simp, local push_cast] num boo str ints aV aTab zv aS aT aC
def vecV (vs:List Val):Ob:= .vec 71 3 (zd rV vs) 0
attribute [local simp, local push_cast] vecV
def ngV (v:Val):Bool:=v.kind !=1
def goodL (vs:List Val):List Val:=vs.filter fun v=> !ngV v
end
section
open Go.Am
attribute [local simp, local push_cast] num boo str ints aV aTab zv aS aT aC vecV
def keep (vs:List Val) (j:Nat):Bool:=j==0 || !wW (vs.getD j default) (vs.getD (j-1) default)
def ddTo (vs:List Val) (n:Nat):List Val:=((List.range n).filter (keep vs)).map fun j=>vs.getD j default
theorem ddTo_len (vs:List Val) (n:Nat):(ddTo vs n).length<=n:=by
 rw [ddTo,List.length_map]
 exact Nat.le_trans (List.length_filter_le _ _) (by simp)
end
section
open Go.Am
attribute [local simp, local push_cast] num boo str ints aV aTab zv aS aT aC vecV
def okV (v:Val):Prop:=i64 v.num/\v.text.size<=9223372036854775807
def sumF (f:Val->Int):List Val->Int
 | []=>0
 | x::l=>f x+sumF f l
def totS (l:List Val):Int:=sumF (fun v=>v.num) l
def sumS (vs:List Val):Val:=if goodL vs=[] then zl else if -1000000000000<=totS (goodL vs)/\totS (goodL vs)<=1000000000000 then ⟨1,totS (goodL vs),ByteArray.empty⟩ else zl
end
section
open Go.Am
attribute [local simp, local push_cast] num boo str ints aV aTab zv aS aT aC aRow rRow
def sing (l:List Val):List Row:=l.map fun v=>[v]
@[simp] theorem sing_length (l:List Val):(sing l).length=l.length:=by simp [sing]
end
section
open Go.Am
attribute [local simp, local push_cast] num boo str ints aV aTab zv aS aT aC aRow rRow
def leM (x y:Val):Bool:=decide (cmpM x y<=0)
theorem leM_trans (a b c:Val) (h1:leM a b=true) (h2:leM b c=true):leM a c=true:=by
 simp only [leM,decide_eq_true_eq] at *
 rcases Int.lt_or_eq_of_le h1 with h3 | h3
 ·rcases Int.lt_or_eq_of_le h2 with h4 | h4
  ·exact Int.le_of_lt (qC h3 h4)
  ·rw [wv] at h4;subst h4;exact h1
 ·rw [wv] at h3;subst h3;exact h2
theorem leM_total (a b:Val):(leM a b || leM b a)=true:=by
 simp only [leM,Bool.or_eq_true,decide_eq_true_eq]
 by_cases h:cmpM b a<0
 ·exact .inr (Int.le_of_lt h)
 ·exact .inl ((gp a b).2 h)
theorem leM_anti (a b:Val) (h1:leM a b=true) (h2:leM b a=true):a=b:=by
 simp only [leM,decide_eq_true_eq] at *
 exact cmpM_tri a b ((gp b a).1 h2) ((gp a b).1 h1)
theorem sortV_eq (l:List Val):sortV l=l.mergeSort leM:=by
 unfold sortV
 congr 1
 funext x y
 simp only [Go.Proofs.ltOf,leM]
 rw [Bool.eq_iff_iff]
 simp only [Bool.not_eq_true',decide_eq_false_iff_not,decide_eq_true_eq]
 exact (gp x y).symm
theorem qn (l:List Val):(sortV l).Perm l:=by rw [sortV_eq];exact List.mergeSort_perm l leM
theorem qK (l:List Val):(sortV l).Pairwise fun a b=>leM a b=true:=by rw [sortV_eq];exact List.pairwise_mergeSort leM_trans leM_total l
end
end Go.Proofs.YtnmibokjpedkiaaGreatDoor
