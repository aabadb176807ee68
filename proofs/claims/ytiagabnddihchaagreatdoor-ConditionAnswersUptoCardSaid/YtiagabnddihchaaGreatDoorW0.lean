/- Conditions over finite domains (part W0) -/
import Derived.Test.YtiagabnddihchaaGreatDoorChecked
import Derived.Test.YtiagabnddihchaaGreatDoorLe
set_option maxRecDepth 100000
set_option maxHeartbeats 4000000
set_option linter.all false
namespace Go.Proofs.YtiagabnddihchaaGreatDoor
section
open Go.Am
instance tabs:Tab:=⟨(fun | 0=>some opRow | 1=>some [.lit (.int .i64 0),.lit (.int .i64 0),.lit (.string ⟨#[]⟩)] | _=>none),[]⟩
theorem tab0:Tab.tab 0=some opRow:=rfl
def tt:Types
 | 2=>some ⟨.int .i64,1,8,[.int .i64 0],[0],false⟩
 | 3=>some ⟨.int .i64,1,8,[.int .i64 0],[0],false⟩
 | 4=>some ⟨.bool,1,1,[.bool false],[0],false⟩
 | 5=>some ⟨.int .u8,1,1,[.int .u8 0],[0],false⟩
 | 9=>some ⟨.string,1,16,[.string ByteArray.empty],[0],false⟩
 | 12=>some ⟨.int .u64,1,8,[.int .u64 0],[0],false⟩
 | 13=>some ⟨.struct [(9,0),(12,1)],2,24,[.string ByteArray.empty,.int .u64 0],[0,0],false⟩
 | 21=>some ⟨.int .i32,1,4,[.int .i32 0],[0],false⟩
 | 22=>some ⟨.slice 3,1,24,[.slice none 0 0],[1],false⟩
 | 23=>some ⟨.pointer 73,1,8,[.pointer none],[0],false⟩
 | 25=>some ⟨.slice 32,1,24,[.slice none 0 0],[1],false⟩
 | 27=>some ⟨.slice 29,1,24,[.slice none 0 0],[6],false⟩
 | 28=>some ⟨.struct [(3,0),(3,1),(2,2),(9,3),(3,4),(27,5)],6,72,[.int .i64 0,.int .i64 0,.int .i64 0,.string ByteArray.empty,.int .i64 0,.slice none 0 0],[0,0,0,0,0,6],false⟩
 | 29=>some ⟨.struct [(3,0),(3,1),(2,2),(9,3),(3,4),(27,5)],6,72,[.int .i64 0,.int .i64 0,.int .i64 0,.string ByteArray.empty,.int .i64 0,.slice none 0 0],[0,0,0,0,0,6],false⟩
 | 32=>some ⟨.slice 53,1,24,[.slice none 0 0],[3],false⟩
 | 33=>some ⟨.int .i64,1,8,[.int .i64 0],[0],false⟩
 | 52=>some ⟨.struct [(3,0),(2,1),(9,2)],3,32,[.int .i64 0,.int .i64 0,.string ByteArray.empty],[0,0,0],true⟩
 | 53=>some ⟨.struct [(3,0),(2,1),(9,2)],3,32,[.int .i64 0,.int .i64 0,.string ByteArray.empty],[0,0,0],true⟩
 | 65=>some ⟨.slice 25,1,24,[.slice none 0 0],[1],false⟩
 | 67=>some ⟨.array 2 29,12,144,[.int .i64 0,.int .i64 0,.int .i64 0,.string ByteArray.empty,.int .i64 0,.slice none 0 0,.int .i64 0,.int .i64 0,.int .i64 0,.string ByteArray.empty,.int .i64 0,.slice none 0 0],[0,0,0,0,0,6,0,0,0,0,0,6],false⟩
 | 68=>some ⟨.slice 67,1,24,[.slice none 0 0],[12],false⟩
 | 72=>some ⟨.struct [(22,0),(3,1)],2,32,[.slice none 0 0,.int .i64 0],[1,0],false⟩
 | 73=>some ⟨.struct [(22,0),(3,1)],2,32,[.slice none 0 0,.int .i64 0],[1,0],false⟩
 | 83=>some ⟨.array 3 3,3,24,[.int .i64 0,.int .i64 0,.int .i64 0],[0,0,0],false⟩
 | 96=>some ⟨.slice 9,1,24,[.slice none 0 0],[1],false⟩
 | 106=>some ⟨.struct [(9,0),(3,1),(3,2),(3,3)],4,40,[.string ByteArray.empty,.int .i64 0,.int .i64 0,.int .i64 0],[0,0,0,0],true⟩
 | 107=>some ⟨.struct [(9,0),(3,1),(3,2),(3,3)],4,40,[.string ByteArray.empty,.int .i64 0,.int .i64 0,.int .i64 0],[0,0,0,0],true⟩
 | 128=>some ⟨.array 29 107,116,1160,[.string ByteArray.empty,.int .i64 0,.int .i64 0,.int .i64 0,.string ByteArray.empty,.int .i64 0,.int .i64 0,.int .i64 0,.string ByteArray.empty,.int .i64 0,.int .i64 0,.int .i64 0,.string ByteArray.empty,.int .i64 0,.int .i64 0,.int .i64 0,.string ByteArray.empty,.int .i64 0,.int .i64 0,.int .i64 0,.string ByteArray.empty,.int .i64 0,.int .i64 0,.int .i64 0,.string ByteArray.empty,.int .i64 0,.int .i64 0,.int .i64 0,.string ByteArray.empty,.int .i64 0,.int .i64 0,.int .i64 0,.string ByteArray.empty,.int .i64 0,.int .i64 0,.int .i64 0,.string ByteArray.empty,.int .i64 0,.int .i64 0,.int .i64 0,.string ByteArray.empty,.int .i64 0,.int .i64 0,.int .i64 0,.string ByteArray.empty,.int .i64 0,.int .i64 0,.int .i64 0,.string ByteArray.empty,.int .i64 0,.int .i64 0,.int .i64 0,.string ByteArray.empty,.int .i64 0,.int .i64 0,.int .i64 0,.string ByteArray.empty,.int .i64 0,.int .i64 0,.int .i64 0,.string ByteArray.empty,.int .i64 0,.int .i64 0,.int .i64 0,.string ByteArray.empty,.int .i64 0,.int .i64 0,.int .i64 0,.string ByteArray.empty,.int .i64 0,.int .i64 0,.int .i64 0,.string ByteArray.empty,.int .i64 0,.int .i64 0,.int .i64 0,.string ByteArray.empty,.int .i64 0,.int .i64 0,.int .i64 0,.string ByteArray.empty,.int .i64 0,.int .i64 0,.int .i64 0,.string ByteArray.empty,.int .i64 0,.int .i64 0,.int .i64 0,.string ByteArray.empty,.int .i64 0,.int .i64 0,.int .i64 0,.string ByteArray.empty,.int .i64 0,.int .i64 0,.int .i64 0,.string ByteArray.empty,.int .i64 0,.int .i64 0,.int .i64 0,.string ByteArray.empty,.int .i64 0,.int .i64 0,.int .i64 0,.string ByteArray.empty,.int .i64 0,.int .i64 0,.int .i64 0,.string ByteArray.empty,.int .i64 0,.int .i64 0,.int .i64 0,.string ByteArray.empty,.int .i64 0,.int .i64 0,.int .i64 0],[0,0,0,0,0,0,0,0,0,0,0,0,0,0,0,0,0,0,0,0,0,0,0,0,0,0,0,0,0,0,0,0,0,0,0,0,0,0,0,0,0,0,0,0,0,0,0,0,0,0,0,0,0,0,0,0,0,0,0,0,0,0,0,0,0,0,0,0,0,0,0,0,0,0,0,0,0,0,0,0,0,0,0,0,0,0,0,0,0,0,0,0,0,0,0,0,0,0,0,0,0,0,0,0,0,0,0,0,0,0,0,0,0,0,0,0],false⟩
 | 135=>some ⟨.int .u64,1,8,[.int .u64 0],[0],false⟩
 | 141=>some ⟨.int .i64,1,8,[.int .i64 0],[0],false⟩
 | 148=>some ⟨.int .u32,1,4,[.int .u32 0],[0],false⟩
 | 150=>some ⟨.int .u64,1,8,[.int .u64 0],[0],false⟩
 | 152=>some ⟨.int .u64,1,8,[.int .u64 0],[0],false⟩
 | 156=>some ⟨.pointer 3,1,8,[.pointer none],[0],false⟩
 | 158=>some ⟨.pointer 152,1,8,[.pointer none],[0],false⟩
 | 170=>some ⟨.pointer 5,1,8,[.pointer none],[0],false⟩
 | _=>none
theorem tinfo2:(Tryz.prog.info? 2).map (fun i=>(i.size,i.bytes,i.zero))=some (1,8,some (.int .i64 0)):=by kernel_rfl
theorem tok2:TOk Tryz.prog 2 ⟨.int .i64,1,8,[.int .i64 0],[0],false⟩:=⟨by obtain ⟨i,h1,h2⟩:=Option.map_eq_some_iff.1 tinfo2;simp only [Prod.mk.injEq] at h2;exact ⟨i,h1,h2.1,h2.2.1,_,h2.2.2,rfl⟩,rfl,by simp [one],Tryz.underlying2,(fun h=>by cases h),(fun _ z hz=>by cases hz;obtain ⟨i,h1,h2⟩:=Option.map_eq_some_iff.1 tinfo2;simp only [Prod.mk.injEq] at h2;exact ⟨i,h1,h2.2.2⟩)⟩
theorem tinfo3:(Tryz.prog.info? 3).map (fun i=>(i.size,i.bytes,i.zero))=some (1,8,some (.int .i64 0)):=by kernel_rfl
theorem tok3:TOk Tryz.prog 3 ⟨.int .i64,1,8,[.int .i64 0],[0],false⟩:=⟨by obtain ⟨i,h1,h2⟩:=Option.map_eq_some_iff.1 tinfo3;simp only [Prod.mk.injEq] at h2;exact ⟨i,h1,h2.1,h2.2.1,_,h2.2.2,rfl⟩,rfl,by simp [one],Tryz.underlying3,(fun h=>by cases h),(fun _ z hz=>by cases hz;obtain ⟨i,h1,h2⟩:=Option.map_eq_some_iff.1 tinfo3;simp only [Prod.mk.injEq] at h2;exact ⟨i,h1,h2.2.2⟩)⟩
theorem tinfo4:(Tryz.prog.info? 4).map (fun i=>(i.size,i.bytes,i.zero))=some (1,1,some (.bool false)):=by kernel_rfl
theorem tok4:TOk Tryz.prog 4 ⟨.bool,1,1,[.bool false],[0],false⟩:=⟨by obtain ⟨i,h1,h2⟩:=Option.map_eq_some_iff.1 tinfo4;simp only [Prod.mk.injEq] at h2;exact ⟨i,h1,h2.1,h2.2.1,_,h2.2.2,rfl⟩,rfl,by simp [one],Tryz.underlying4,(fun h=>by cases h),(fun _ z hz=>by cases hz;obtain ⟨i,h1,h2⟩:=Option.map_eq_some_iff.1 tinfo4;simp only [Prod.mk.injEq] at h2;exact ⟨i,h1,h2.2.2⟩)⟩
theorem tinfo5:(Tryz.prog.info? 5).map (fun i=>(i.size,i.bytes,i.zero))=some (1,1,some (.int .u8 0)):=by kernel_rfl
theorem tok5:TOk Tryz.prog 5 ⟨.int .u8,1,1,[.int .u8 0],[0],false⟩:=⟨by obtain ⟨i,h1,h2⟩:=Option.map_eq_some_iff.1 tinfo5;simp only [Prod.mk.injEq] at h2;exact ⟨i,h1,h2.1,h2.2.1,_,h2.2.2,rfl⟩,rfl,by simp [one],Tryz.underlying5,(fun h=>by cases h),(fun _ z hz=>by cases hz;obtain ⟨i,h1,h2⟩:=Option.map_eq_some_iff.1 tinfo5;simp only [Prod.mk.injEq] at h2;exact ⟨i,h1,h2.2.2⟩)⟩
theorem tinfo9:(Tryz.prog.info? 9).map (fun i=>(i.size,i.bytes,i.zero))=some (1,16,some (.string ByteArray.empty)):=by kernel_rfl
theorem tok9:TOk Tryz.prog 9 ⟨.string,1,16,[.string ByteArray.empty],[0],false⟩:=⟨by obtain ⟨i,h1,h2⟩:=Option.map_eq_some_iff.1 tinfo9;simp only [Prod.mk.injEq] at h2;exact ⟨i,h1,h2.1,h2.2.1,_,h2.2.2,rfl⟩,rfl,by simp [one],Tryz.underlying9,(fun h=>by cases h),(fun _ z hz=>by cases hz;obtain ⟨i,h1,h2⟩:=Option.map_eq_some_iff.1 tinfo9;simp only [Prod.mk.injEq] at h2;exact ⟨i,h1,h2.2.2⟩)⟩
theorem tinfo12:(Tryz.prog.info? 12).map (fun i=>(i.size,i.bytes,i.zero))=some (1,8,some (.int .u64 0)):=by kernel_rfl
theorem tok12:TOk Tryz.prog 12 ⟨.int .u64,1,8,[.int .u64 0],[0],false⟩:=⟨by obtain ⟨i,h1,h2⟩:=Option.map_eq_some_iff.1 tinfo12;simp only [Prod.mk.injEq] at h2;exact ⟨i,h1,h2.1,h2.2.1,_,h2.2.2,rfl⟩,rfl,by simp [one],Tryz.underlying12,(fun h=>by cases h),(fun _ z hz=>by cases hz;obtain ⟨i,h1,h2⟩:=Option.map_eq_some_iff.1 tinfo12;simp only [Prod.mk.injEq] at h2;exact ⟨i,h1,h2.2.2⟩)⟩
theorem tinfo13:(Tryz.prog.info? 13).map (fun i=>(i.size,i.bytes,i.zero))=some (2,24,some (.agg #[.string ByteArray.empty,.int .u64 0])):=by kernel_rfl
theorem tok13:TOk Tryz.prog 13 ⟨.struct [(9,0),(12,1)],2,24,[.string ByteArray.empty,.int .u64 0],[0,0],false⟩:=⟨by obtain ⟨i,h1,h2⟩:=Option.map_eq_some_iff.1 tinfo13;simp only [Prod.mk.injEq] at h2;exact ⟨i,h1,h2.1,h2.2.1,_,h2.2.2,rfl⟩,rfl,by simp [one],⟨_,Tryz.underlying13,rfl⟩,(fun h=>by cases h),(fun h=>by cases h)⟩
theorem tinfo21:(Tryz.prog.info? 21).map (fun i=>(i.size,i.bytes,i.zero))=some (1,4,some (.int .i32 0)):=by kernel_rfl
theorem tok21:TOk Tryz.prog 21 ⟨.int .i32,1,4,[.int .i32 0],[0],false⟩:=⟨by obtain ⟨i,h1,h2⟩:=Option.map_eq_some_iff.1 tinfo21;simp only [Prod.mk.injEq] at h2;exact ⟨i,h1,h2.1,h2.2.1,_,h2.2.2,rfl⟩,rfl,by simp [one],Tryz.underlying21,(fun h=>by cases h),(fun _ z hz=>by cases hz;obtain ⟨i,h1,h2⟩:=Option.map_eq_some_iff.1 tinfo21;simp only [Prod.mk.injEq] at h2;exact ⟨i,h1,h2.2.2⟩)⟩
theorem tinfo22:(Tryz.prog.info? 22).map (fun i=>(i.size,i.bytes,i.zero))=some (1,24,some (.slice none 0 0)):=by kernel_rfl
theorem tok22:TOk Tryz.prog 22 ⟨.slice 3,1,24,[.slice none 0 0],[1],false⟩:=⟨by obtain ⟨i,h1,h2⟩:=Option.map_eq_some_iff.1 tinfo22;simp only [Prod.mk.injEq] at h2;exact ⟨i,h1,h2.1,h2.2.1,_,h2.2.2,rfl⟩,rfl,by simp [one],Tryz.underlying22,(fun h=>by cases h),(fun _ z hz=>by cases hz;obtain ⟨i,h1,h2⟩:=Option.map_eq_some_iff.1 tinfo22;simp only [Prod.mk.injEq] at h2;exact ⟨i,h1,h2.2.2⟩)⟩
theorem tinfo23:(Tryz.prog.info? 23).map (fun i=>(i.size,i.bytes,i.zero))=some (1,8,some (.pointer none)):=by kernel_rfl
theorem tok23:TOk Tryz.prog 23 ⟨.pointer 73,1,8,[.pointer none],[0],false⟩:=⟨by obtain ⟨i,h1,h2⟩:=Option.map_eq_some_iff.1 tinfo23;simp only [Prod.mk.injEq] at h2;exact ⟨i,h1,h2.1,h2.2.1,_,h2.2.2,rfl⟩,rfl,by simp [one],Tryz.underlying23,(fun h=>by cases h),(fun _ z hz=>by cases hz;obtain ⟨i,h1,h2⟩:=Option.map_eq_some_iff.1 tinfo23;simp only [Prod.mk.injEq] at h2;exact ⟨i,h1,h2.2.2⟩)⟩
theorem tinfo25:(Tryz.prog.info? 25).map (fun i=>(i.size,i.bytes,i.zero))=some (1,24,some (.slice none 0 0)):=by kernel_rfl
theorem tok25:TOk Tryz.prog 25 ⟨.slice 32,1,24,[.slice none 0 0],[1],false⟩:=⟨by obtain ⟨i,h1,h2⟩:=Option.map_eq_some_iff.1 tinfo25;simp only [Prod.mk.injEq] at h2;exact ⟨i,h1,h2.1,h2.2.1,_,h2.2.2,rfl⟩,rfl,by simp [one],Tryz.underlying25,(fun h=>by cases h),(fun _ z hz=>by cases hz;obtain ⟨i,h1,h2⟩:=Option.map_eq_some_iff.1 tinfo25;simp only [Prod.mk.injEq] at h2;exact ⟨i,h1,h2.2.2⟩)⟩
theorem tinfo27:(Tryz.prog.info? 27).map (fun i=>(i.size,i.bytes,i.zero))=some (1,24,some (.slice none 0 0)):=by kernel_rfl
theorem tok27:TOk Tryz.prog 27 ⟨.slice 29,1,24,[.slice none 0 0],[6],false⟩:=⟨by obtain ⟨i,h1,h2⟩:=Option.map_eq_some_iff.1 tinfo27;simp only [Prod.mk.injEq] at h2;exact ⟨i,h1,h2.1,h2.2.1,_,h2.2.2,rfl⟩,rfl,by simp [one],Tryz.underlying27,(fun h=>by cases h),(fun _ z hz=>by cases hz;obtain ⟨i,h1,h2⟩:=Option.map_eq_some_iff.1 tinfo27;simp only [Prod.mk.injEq] at h2;exact ⟨i,h1,h2.2.2⟩)⟩
theorem tinfo28:(Tryz.prog.info? 28).map (fun i=>(i.size,i.bytes,i.zero))=some (6,72,some (.agg #[.int .i64 0,.int .i64 0,.int .i64 0,.string ByteArray.empty,.int .i64 0,.slice none 0 0])):=by kernel_rfl
theorem tok28:TOk Tryz.prog 28 ⟨.struct [(3,0),(3,1),(2,2),(9,3),(3,4),(27,5)],6,72,[.int .i64 0,.int .i64 0,.int .i64 0,.string ByteArray.empty,.int .i64 0,.slice none 0 0],[0,0,0,0,0,6],false⟩:=⟨by obtain ⟨i,h1,h2⟩:=Option.map_eq_some_iff.1 tinfo28;simp only [Prod.mk.injEq] at h2;exact ⟨i,h1,h2.1,h2.2.1,_,h2.2.2,rfl⟩,rfl,by simp [one],⟨_,Tryz.underlying28,rfl⟩,(fun h=>by cases h),(fun h=>by cases h)⟩
theorem tinfo29:(Tryz.prog.info? 29).map (fun i=>(i.size,i.bytes,i.zero))=some (6,72,some (.agg #[.int .i64 0,.int .i64 0,.int .i64 0,.string ByteArray.empty,.int .i64 0,.slice none 0 0])):=by kernel_rfl
theorem tok29:TOk Tryz.prog 29 ⟨.struct [(3,0),(3,1),(2,2),(9,3),(3,4),(27,5)],6,72,[.int .i64 0,.int .i64 0,.int .i64 0,.string ByteArray.empty,.int .i64 0,.slice none 0 0],[0,0,0,0,0,6],false⟩:=⟨by obtain ⟨i,h1,h2⟩:=Option.map_eq_some_iff.1 tinfo29;simp only [Prod.mk.injEq] at h2;exact ⟨i,h1,h2.1,h2.2.1,_,h2.2.2,rfl⟩,rfl,by simp [one],⟨_,Tryz.underlying29,rfl⟩,(fun h=>by cases h),(fun h=>by cases h)⟩
theorem tinfo32:(Tryz.prog.info? 32).map (fun i=>(i.size,i.bytes,i.zero))=some (1,24,some (.slice none 0 0)):=by kernel_rfl
theorem tok32:TOk Tryz.prog 32 ⟨.slice 53,1,24,[.slice none 0 0],[3],false⟩:=⟨by obtain ⟨i,h1,h2⟩:=Option.map_eq_some_iff.1 tinfo32;simp only [Prod.mk.injEq] at h2;exact ⟨i,h1,h2.1,h2.2.1,_,h2.2.2,rfl⟩,rfl,by simp [one],Tryz.underlying32,(fun h=>by cases h),(fun _ z hz=>by cases hz;obtain ⟨i,h1,h2⟩:=Option.map_eq_some_iff.1 tinfo32;simp only [Prod.mk.injEq] at h2;exact ⟨i,h1,h2.2.2⟩)⟩
theorem tinfo33:(Tryz.prog.info? 33).map (fun i=>(i.size,i.bytes,i.zero))=some (1,8,some (.int .i64 0)):=by kernel_rfl
theorem tok33:TOk Tryz.prog 33 ⟨.int .i64,1,8,[.int .i64 0],[0],false⟩:=⟨by obtain ⟨i,h1,h2⟩:=Option.map_eq_some_iff.1 tinfo33;simp only [Prod.mk.injEq] at h2;exact ⟨i,h1,h2.1,h2.2.1,_,h2.2.2,rfl⟩,rfl,by simp [one],Tryz.underlying33,(fun h=>by cases h),(fun _ z hz=>by cases hz;obtain ⟨i,h1,h2⟩:=Option.map_eq_some_iff.1 tinfo33;simp only [Prod.mk.injEq] at h2;exact ⟨i,h1,h2.2.2⟩)⟩
theorem tinfo52:(Tryz.prog.info? 52).map (fun i=>(i.size,i.bytes,i.zero))=some (3,32,some (.agg #[.int .i64 0,.int .i64 0,.string ByteArray.empty])):=by kernel_rfl
theorem tflat52:Tryz.prog.stoodInHeld 52=false/\Tryz.prog.eqGuardType Tryz.prog.depth 52=false:=⟨by kernel_rfl,by kernel_rfl⟩
theorem tok52:TOk Tryz.prog 52 ⟨.struct [(3,0),(2,1),(9,2)],3,32,[.int .i64 0,.int .i64 0,.string ByteArray.empty],[0,0,0],true⟩:=⟨by obtain ⟨i,h1,h2⟩:=Option.map_eq_some_iff.1 tinfo52;simp only [Prod.mk.injEq] at h2;exact ⟨i,h1,h2.1,h2.2.1,_,h2.2.2,rfl⟩,rfl,by simp [one],⟨_,Tryz.underlying52,rfl⟩,(fun _=>⟨tflat52.1,tflat52.2,fun fs hfs=>by rw [Tryz.underlying52] at hfs;cases hfs;simp⟩),(fun h=>by cases h)⟩
theorem tinfo53:(Tryz.prog.info? 53).map (fun i=>(i.size,i.bytes,i.zero))=some (3,32,some (.agg #[.int .i64 0,.int .i64 0,.string ByteArray.empty])):=by kernel_rfl
theorem tflat53:Tryz.prog.stoodInHeld 53=false/\Tryz.prog.eqGuardType Tryz.prog.depth 53=false:=⟨by kernel_rfl,by kernel_rfl⟩
theorem tok53:TOk Tryz.prog 53 ⟨.struct [(3,0),(2,1),(9,2)],3,32,[.int .i64 0,.int .i64 0,.string ByteArray.empty],[0,0,0],true⟩:=⟨by obtain ⟨i,h1,h2⟩:=Option.map_eq_some_iff.1 tinfo53;simp only [Prod.mk.injEq] at h2;exact ⟨i,h1,h2.1,h2.2.1,_,h2.2.2,rfl⟩,rfl,by simp [one],⟨_,Tryz.underlying53,rfl⟩,(fun _=>⟨tflat53.1,tflat53.2,fun fs hfs=>by rw [Tryz.underlying53] at hfs;cases hfs;simp⟩),(fun h=>by cases h)⟩
theorem tinfo65:(Tryz.prog.info? 65).map (fun i=>(i.size,i.bytes,i.zero))=some (1,24,some (.slice none 0 0)):=by kernel_rfl
theorem tok65:TOk Tryz.prog 65 ⟨.slice 25,1,24,[.slice none 0 0],[1],false⟩:=⟨by obtain ⟨i,h1,h2⟩:=Option.map_eq_some_iff.1 tinfo65;simp only [Prod.mk.injEq] at h2;exact ⟨i,h1,h2.1,h2.2.1,_,h2.2.2,rfl⟩,rfl,by simp [one],Tryz.underlying65,(fun h=>by cases h),(fun _ z hz=>by cases hz;obtain ⟨i,h1,h2⟩:=Option.map_eq_some_iff.1 tinfo65;simp only [Prod.mk.injEq] at h2;exact ⟨i,h1,h2.2.2⟩)⟩
theorem tinfo67:(Tryz.prog.info? 67).map (fun i=>(i.size,i.bytes,i.zero))=some (12,144,some (.agg #[.int .i64 0,.int .i64 0,.int .i64 0,.string ByteArray.empty,.int .i64 0,.slice none 0 0,.int .i64 0,.int .i64 0,.int .i64 0,.string ByteArray.empty,.int .i64 0,.slice none 0 0])):=by kernel_rfl
theorem tok67:TOk Tryz.prog 67 ⟨.array 2 29,12,144,[.int .i64 0,.int .i64 0,.int .i64 0,.string ByteArray.empty,.int .i64 0,.slice none 0 0,.int .i64 0,.int .i64 0,.int .i64 0,.string ByteArray.empty,.int .i64 0,.slice none 0 0],[0,0,0,0,0,6,0,0,0,0,0,6],false⟩:=⟨by obtain ⟨i,h1,h2⟩:=Option.map_eq_some_iff.1 tinfo67;simp only [Prod.mk.injEq] at h2;exact ⟨i,h1,h2.1,h2.2.1,_,h2.2.2,rfl⟩,rfl,by simp [one],Tryz.underlying67,(fun h=>by cases h),(fun h=>by cases h)⟩
theorem tinfo68:(Tryz.prog.info? 68).map (fun i=>(i.size,i.bytes,i.zero))=some (1,24,some (.slice none 0 0)):=by kernel_rfl
theorem tok68:TOk Tryz.prog 68 ⟨.slice 67,1,24,[.slice none 0 0],[12],false⟩:=⟨by obtain ⟨i,h1,h2⟩:=Option.map_eq_some_iff.1 tinfo68;simp only [Prod.mk.injEq] at h2;exact ⟨i,h1,h2.1,h2.2.1,_,h2.2.2,rfl⟩,rfl,by simp [one],Tryz.underlying68,(fun h=>by cases h),(fun _ z hz=>by cases hz;obtain ⟨i,h1,h2⟩:=Option.map_eq_some_iff.1 tinfo68;simp only [Prod.mk.injEq] at h2;exact ⟨i,h1,h2.2.2⟩)⟩
theorem tinfo72:(Tryz.prog.info? 72).map (fun i=>(i.size,i.bytes,i.zero))=some (2,32,some (.agg #[.slice none 0 0,.int .i64 0])):=by kernel_rfl
theorem tok72:TOk Tryz.prog 72 ⟨.struct [(22,0),(3,1)],2,32,[.slice none 0 0,.int .i64 0],[1,0],false⟩:=⟨by obtain ⟨i,h1,h2⟩:=Option.map_eq_some_iff.1 tinfo72;simp only [Prod.mk.injEq] at h2;exact ⟨i,h1,h2.1,h2.2.1,_,h2.2.2,rfl⟩,rfl,by simp [one],⟨_,Tryz.underlying72,rfl⟩,(fun h=>by cases h),(fun h=>by cases h)⟩
theorem tinfo73:(Tryz.prog.info? 73).map (fun i=>(i.size,i.bytes,i.zero))=some (2,32,some (.agg #[.slice none 0 0,.int .i64 0])):=by kernel_rfl
theorem tok73:TOk Tryz.prog 73 ⟨.struct [(22,0),(3,1)],2,32,[.slice none 0 0,.int .i64 0],[1,0],false⟩:=⟨by obtain ⟨i,h1,h2⟩:=Option.map_eq_some_iff.1 tinfo73;simp only [Prod.mk.injEq] at h2;exact ⟨i,h1,h2.1,h2.2.1,_,h2.2.2,rfl⟩,rfl,by simp [one],⟨_,Tryz.underlying73,rfl⟩,(fun h=>by cases h),(fun h=>by cases h)⟩
theorem tinfo83:(Tryz.prog.info? 83).map (fun i=>(i.size,i.bytes,i.zero))=some (3,24,some (.agg #[.int .i64 0,.int .i64 0,.int .i64 0])):=by kernel_rfl
theorem tok83:TOk Tryz.prog 83 ⟨.array 3 3,3,24,[.int .i64 0,.int .i64 0,.int .i64 0],[0,0,0],false⟩:=⟨by obtain ⟨i,h1,h2⟩:=Option.map_eq_some_iff.1 tinfo83;simp only [Prod.mk.injEq] at h2;exact ⟨i,h1,h2.1,h2.2.1,_,h2.2.2,rfl⟩,rfl,by simp [one],Tryz.underlying83,(fun h=>by cases h),(fun h=>by cases h)⟩
theorem tinfo96:(Tryz.prog.info? 96).map (fun i=>(i.size,i.bytes,i.zero))=some (1,24,some (.slice none 0 0)):=by kernel_rfl
theorem tok96:TOk Tryz.prog 96 ⟨.slice 9,1,24,[.slice none 0 0],[1],false⟩:=⟨by obtain ⟨i,h1,h2⟩:=Option.map_eq_some_iff.1 tinfo96;simp only [Prod.mk.injEq] at h2;exact ⟨i,h1,h2.1,h2.2.1,_,h2.2.2,rfl⟩,rfl,by simp [one],Tryz.underlying96,(fun h=>by cases h),(fun _ z hz=>by cases hz;obtain ⟨i,h1,h2⟩:=Option.map_eq_some_iff.1 tinfo96;simp only [Prod.mk.injEq] at h2;exact ⟨i,h1,h2.2.2⟩)⟩
theorem tinfo106:(Tryz.prog.info? 106).map (fun i=>(i.size,i.bytes,i.zero))=some (4,40,some (.agg #[.string ByteArray.empty,.int .i64 0,.int .i64 0,.int .i64 0])):=by kernel_rfl
theorem tflat106:Tryz.prog.stoodInHeld 106=false/\Tryz.prog.eqGuardType Tryz.prog.depth 106=false:=⟨by kernel_rfl,by kernel_rfl⟩
theorem tok106:TOk Tryz.prog 106 ⟨.struct [(9,0),(3,1),(3,2),(3,3)],4,40,[.string ByteArray.empty,.int .i64 0,.int .i64 0,.int .i64 0],[0,0,0,0],true⟩:=⟨by obtain ⟨i,h1,h2⟩:=Option.map_eq_some_iff.1 tinfo106;simp only [Prod.mk.injEq] at h2;exact ⟨i,h1,h2.1,h2.2.1,_,h2.2.2,rfl⟩,rfl,by simp [one],⟨_,Tryz.underlying106,rfl⟩,(fun _=>⟨tflat106.1,tflat106.2,fun fs hfs=>by rw [Tryz.underlying106] at hfs;cases hfs;simp⟩),(fun h=>by cases h)⟩
theorem tinfo107:(Tryz.prog.info? 107).map (fun i=>(i.size,i.bytes,i.zero))=some (4,40,some (.agg #[.string ByteArray.empty,.int .i64 0,.int .i64 0,.int .i64 0])):=by kernel_rfl
theorem tflat107:Tryz.prog.stoodInHeld 107=false/\Tryz.prog.eqGuardType Tryz.prog.depth 107=false:=⟨by kernel_rfl,by kernel_rfl⟩
theorem tok107:TOk Tryz.prog 107 ⟨.struct [(9,0),(3,1),(3,2),(3,3)],4,40,[.string ByteArray.empty,.int .i64 0,.int .i64 0,.int .i64 0],[0,0,0,0],true⟩:=⟨by obtain ⟨i,h1,h2⟩:=Option.map_eq_some_iff.1 tinfo107;simp only [Prod.mk.injEq] at h2;exact ⟨i,h1,h2.1,h2.2.1,_,h2.2.2,rfl⟩,rfl,by simp [one],⟨_,Tryz.underlying107,rfl⟩,(fun _=>⟨tflat107.1,tflat107.2,fun fs hfs=>by rw [Tryz.underlying107] at hfs;cases hfs;simp⟩),(fun h=>by cases h)⟩
theorem tinfo128:(Tryz.prog.info? 128).map (fun i=>(i.size,i.bytes,i.zero))=some (116,1160,some (.agg #[.string ByteArray.empty,.int .i64 0,.int .i64 0,.int .i64 0,.string ByteArray.empty,.int .i64 0,.int .i64 0,.int .i64 0,.string ByteArray.empty,.int .i64 0,.int .i64 0,.int .i64 0,.string ByteArray.empty,.int .i64 0,.int .i64 0,.int .i64 0,.string ByteArray.empty,.int .i64 0,.int .i64 0,.int .i64 0,.string ByteArray.empty,.int .i64 0,.int .i64 0,.int .i64 0,.string ByteArray.empty,.int .i64 0,.int .i64 0,.int .i64 0,.string ByteArray.empty,.int .i64 0,.int .i64 0,.int .i64 0,.string ByteArray.empty,.int .i64 0,.int .i64 0,.int .i64 0,.string ByteArray.empty,.int .i64 0,.int .i64 0,.int .i64 0,.string ByteArray.empty,.int .i64 0,.int .i64 0,.int .i64 0,.string ByteArray.empty,.int .i64 0,.int .i64 0,.int .i64 0,.string ByteArray.empty,.int .i64 0,.int .i64 0,.int .i64 0,.string ByteArray.empty,.int .i64 0,.int .i64 0,.int .i64 0,.string ByteArray.empty,.int .i64 0,.int .i64 0,.int .i64 0,.string ByteArray.empty,.int .i64 0,.int .i64 0,.int .i64 0,.string ByteArray.empty,.int .i64 0,.int .i64 0,.int .i64 0,.string ByteArray.empty,.int .i64 0,.int .i64 0,.int .i64 0,.string ByteArray.empty,.int .i64 0,.int .i64 0,.int .i64 0,.string ByteArray.empty,.int .i64 0,.int .i64 0,.int .i64 0,.string ByteArray.empty,.int .i64 0,.int .i64 0,.int .i64 0,.string ByteArray.empty,.int .i64 0,.int .i64 0,.int .i64 0,.string ByteArray.empty,.int .i64 0,.int .i64 0,.int .i64 0,.string ByteArray.empty,.int .i64 0,.int .i64 0,.int .i64 0,.string ByteArray.empty,.int .i64 0,.int .i64 0,.int .i64 0,.string ByteArray.empty,.int .i64 0,.int .i64 0,.int .i64 0,.string ByteArray.empty,.int .i64 0,.int .i64 0,.int .i64 0,.string ByteArray.empty,.int .i64 0,.int .i64 0,.int .i64 0,.string ByteArray.empty,.int .i64 0,.int .i64 0,.int .i64 0])):=by kernel_rfl
theorem tok128:TOk Tryz.prog 128 ⟨.array 29 107,116,1160,[.string ByteArray.empty,.int .i64 0,.int .i64 0,.int .i64 0,.string ByteArray.empty,.int .i64 0,.int .i64 0,.int .i64 0,.string ByteArray.empty,.int .i64 0,.int .i64 0,.int .i64 0,.string ByteArray.empty,.int .i64 0,.int .i64 0,.int .i64 0,.string ByteArray.empty,.int .i64 0,.int .i64 0,.int .i64 0,.string ByteArray.empty,.int .i64 0,.int .i64 0,.int .i64 0,.string ByteArray.empty,.int .i64 0,.int .i64 0,.int .i64 0,.string ByteArray.empty,.int .i64 0,.int .i64 0,.int .i64 0,.string ByteArray.empty,.int .i64 0,.int .i64 0,.int .i64 0,.string ByteArray.empty,.int .i64 0,.int .i64 0,.int .i64 0,.string ByteArray.empty,.int .i64 0,.int .i64 0,.int .i64 0,.string ByteArray.empty,.int .i64 0,.int .i64 0,.int .i64 0,.string ByteArray.empty,.int .i64 0,.int .i64 0,.int .i64 0,.string ByteArray.empty,.int .i64 0,.int .i64 0,.int .i64 0,.string ByteArray.empty,.int .i64 0,.int .i64 0,.int .i64 0,.string ByteArray.empty,.int .i64 0,.int .i64 0,.int .i64 0,.string ByteArray.empty,.int .i64 0,.int .i64 0,.int .i64 0,.string ByteArray.empty,.int .i64 0,.int .i64 0,.int .i64 0,.string ByteArray.empty,.int .i64 0,.int .i64 0,.int .i64 0,.string ByteArray.empty,.int .i64 0,.int .i64 0,.int .i64 0,.string ByteArray.empty,.int .i64 0,.int .i64 0,.int .i64 0,.string ByteArray.empty,.int .i64 0,.int .i64 0,.int .i64 0,.string ByteArray.empty,.int .i64 0,.int .i64 0,.int .i64 0,.string ByteArray.empty,.int .i64 0,.int .i64 0,.int .i64 0,.string ByteArray.empty,.int .i64 0,.int .i64 0,.int .i64 0,.string ByteArray.empty,.int .i64 0,.int .i64 0,.int .i64 0,.string ByteArray.empty,.int .i64 0,.int .i64 0,.int .i64 0,.string ByteArray.empty,.int .i64 0,.int .i64 0,.int .i64 0,.string ByteArray.empty,.int .i64 0,.int .i64 0,.int .i64 0],[0,0,0,0,0,0,0,0,0,0,0,0,0,0,0,0,0,0,0,0,0,0,0,0,0,0,0,0,0,0,0,0,0,0,0,0,0,0,0,0,0,0,0,0,0,0,0,0,0,0,0,0,0,0,0,0,0,0,0,0,0,0,0,0,0,0,0,0,0,0,0,0,0,0,0,0,0,0,0,0,0,0,0,0,0,0,0,0,0,0,0,0,0,0,0,0,0,0,0,0,0,0,0,0,0,0,0,0,0,0,0,0,0,0,0,0],false⟩:=⟨by obtain ⟨i,h1,h2⟩:=Option.map_eq_some_iff.1 tinfo128;simp only [Prod.mk.injEq] at h2;exact ⟨i,h1,h2.1,h2.2.1,_,h2.2.2,rfl⟩,rfl,by simp [one],Tryz.underlying128,(fun h=>by cases h),(fun h=>by cases h)⟩
theorem tinfo135:(Tryz.prog.info? 135).map (fun i=>(i.size,i.bytes,i.zero))=some (1,8,some (.int .u64 0)):=by kernel_rfl
theorem tok135:TOk Tryz.prog 135 ⟨.int .u64,1,8,[.int .u64 0],[0],false⟩:=⟨by obtain ⟨i,h1,h2⟩:=Option.map_eq_some_iff.1 tinfo135;simp only [Prod.mk.injEq] at h2;exact ⟨i,h1,h2.1,h2.2.1,_,h2.2.2,rfl⟩,rfl,by simp [one],Tryz.underlying135,(fun h=>by cases h),(fun _ z hz=>by cases hz;obtain ⟨i,h1,h2⟩:=Option.map_eq_some_iff.1 tinfo135;simp only [Prod.mk.injEq] at h2;exact ⟨i,h1,h2.2.2⟩)⟩
theorem tinfo141:(Tryz.prog.info? 141).map (fun i=>(i.size,i.bytes,i.zero))=some (1,8,some (.int .i64 0)):=by kernel_rfl
theorem tok141:TOk Tryz.prog 141 ⟨.int .i64,1,8,[.int .i64 0],[0],false⟩:=⟨by obtain ⟨i,h1,h2⟩:=Option.map_eq_some_iff.1 tinfo141;simp only [Prod.mk.injEq] at h2;exact ⟨i,h1,h2.1,h2.2.1,_,h2.2.2,rfl⟩,rfl,by simp [one],Tryz.underlying141,(fun h=>by cases h),(fun _ z hz=>by cases hz;obtain ⟨i,h1,h2⟩:=Option.map_eq_some_iff.1 tinfo141;simp only [Prod.mk.injEq] at h2;exact ⟨i,h1,h2.2.2⟩)⟩
theorem tinfo148:(Tryz.prog.info? 148).map (fun i=>(i.size,i.bytes,i.zero))=some (1,4,some (.int .u32 0)):=by kernel_rfl
theorem tok148:TOk Tryz.prog 148 ⟨.int .u32,1,4,[.int .u32 0],[0],false⟩:=⟨by obtain ⟨i,h1,h2⟩:=Option.map_eq_some_iff.1 tinfo148;simp only [Prod.mk.injEq] at h2;exact ⟨i,h1,h2.1,h2.2.1,_,h2.2.2,rfl⟩,rfl,by simp [one],Tryz.underlying148,(fun h=>by cases h),(fun _ z hz=>by cases hz;obtain ⟨i,h1,h2⟩:=Option.map_eq_some_iff.1 tinfo148;simp only [Prod.mk.injEq] at h2;exact ⟨i,h1,h2.2.2⟩)⟩
theorem tinfo150:(Tryz.prog.info? 150).map (fun i=>(i.size,i.bytes,i.zero))=some (1,8,some (.int .u64 0)):=by kernel_rfl
theorem tok150:TOk Tryz.prog 150 ⟨.int .u64,1,8,[.int .u64 0],[0],false⟩:=⟨by obtain ⟨i,h1,h2⟩:=Option.map_eq_some_iff.1 tinfo150;simp only [Prod.mk.injEq] at h2;exact ⟨i,h1,h2.1,h2.2.1,_,h2.2.2,rfl⟩,rfl,by simp [one],Tryz.underlying150,(fun h=>by cases h),(fun _ z hz=>by cases hz;obtain ⟨i,h1,h2⟩:=Option.map_eq_some_iff.1 tinfo150;simp only [Prod.mk.injEq] at h2;exact ⟨i,h1,h2.2.2⟩)⟩
theorem tinfo152:(Tryz.prog.info? 152).map (fun i=>(i.size,i.bytes,i.zero))=some (1,8,some (.int .u64 0)):=by kernel_rfl
theorem tok152:TOk Tryz.prog 152 ⟨.int .u64,1,8,[.int .u64 0],[0],false⟩:=⟨by obtain ⟨i,h1,h2⟩:=Option.map_eq_some_iff.1 tinfo152;simp only [Prod.mk.injEq] at h2;exact ⟨i,h1,h2.1,h2.2.1,_,h2.2.2,rfl⟩,rfl,by simp [one],Tryz.underlying152,(fun h=>by cases h),(fun _ z hz=>by cases hz;obtain ⟨i,h1,h2⟩:=Option.map_eq_some_iff.1 tinfo152;simp only [Prod.mk.injEq] at h2;exact ⟨i,h1,h2.2.2⟩)⟩
theorem tinfo156:(Tryz.prog.info? 156).map (fun i=>(i.size,i.bytes,i.zero))=some (1,8,some (.pointer none)):=by kernel_rfl
theorem tok156:TOk Tryz.prog 156 ⟨.pointer 3,1,8,[.pointer none],[0],false⟩:=⟨by obtain ⟨i,h1,h2⟩:=Option.map_eq_some_iff.1 tinfo156;simp only [Prod.mk.injEq] at h2;exact ⟨i,h1,h2.1,h2.2.1,_,h2.2.2,rfl⟩,rfl,by simp [one],Tryz.underlying156,(fun h=>by cases h),(fun _ z hz=>by cases hz;obtain ⟨i,h1,h2⟩:=Option.map_eq_some_iff.1 tinfo156;simp only [Prod.mk.injEq] at h2;exact ⟨i,h1,h2.2.2⟩)⟩
theorem tinfo158:(Tryz.prog.info? 158).map (fun i=>(i.size,i.bytes,i.zero))=some (1,8,some (.pointer none)):=by kernel_rfl
theorem tok158:TOk Tryz.prog 158 ⟨.pointer 152,1,8,[.pointer none],[0],false⟩:=⟨by obtain ⟨i,h1,h2⟩:=Option.map_eq_some_iff.1 tinfo158;simp only [Prod.mk.injEq] at h2;exact ⟨i,h1,h2.1,h2.2.1,_,h2.2.2,rfl⟩,rfl,by simp [one],Tryz.underlying158,(fun h=>by cases h),(fun _ z hz=>by cases hz;obtain ⟨i,h1,h2⟩:=Option.map_eq_some_iff.1 tinfo158;simp only [Prod.mk.injEq] at h2;exact ⟨i,h1,h2.2.2⟩)⟩
theorem tinfo170:(Tryz.prog.info? 170).map (fun i=>(i.size,i.bytes,i.zero))=some (1,8,some (.pointer none)):=by kernel_rfl
theorem tok170:TOk Tryz.prog 170 ⟨.pointer 5,1,8,[.pointer none],[0],false⟩:=⟨by obtain ⟨i,h1,h2⟩:=Option.map_eq_some_iff.1 tinfo170;simp only [Prod.mk.injEq] at h2;exact ⟨i,h1,h2.1,h2.2.1,_,h2.2.2,rfl⟩,rfl,by simp [one],Tryz.underlying170,(fun h=>by cases h),(fun _ z hz=>by cases hz;obtain ⟨i,h1,h2⟩:=Option.map_eq_some_iff.1 tinfo170;simp only [Prod.mk.injEq] at h2;exact ⟨i,h1,h2.2.2⟩)⟩
theorem tte:tt 2=some ⟨.int .i64,1,8,[.int .i64 0],[0],false⟩/\tt 3=some ⟨.int .i64,1,8,[.int .i64 0],[0],false⟩/\tt 4=some ⟨.bool,1,1,[.bool false],[0],false⟩/\tt 5=some ⟨.int .u8,1,1,[.int .u8 0],[0],false⟩/\tt 9=some ⟨.string,1,16,[.string ByteArray.empty],[0],false⟩/\tt 12=some ⟨.int .u64,1,8,[.int .u64 0],[0],false⟩/\tt 13=some ⟨.struct [(9,0),(12,1)],2,24,[.string ByteArray.empty,.int .u64 0],[0,0],false⟩/\tt 21=some ⟨.int .i32,1,4,[.int .i32 0],[0],false⟩/\tt 22=some ⟨.slice 3,1,24,[.slice none 0 0],[1],false⟩/\tt 23=some ⟨.pointer 73,1,8,[.pointer none],[0],false⟩/\tt 25=some ⟨.slice 32,1,24,[.slice none 0 0],[1],false⟩/\tt 27=some ⟨.slice 29,1,24,[.slice none 0 0],[6],false⟩/\tt 28=some ⟨.struct [(3,0),(3,1),(2,2),(9,3),(3,4),(27,5)],6,72,[.int .i64 0,.int .i64 0,.int .i64 0,.string ByteArray.empty,.int .i64 0,.slice none 0 0],[0,0,0,0,0,6],false⟩/\tt 29=some ⟨.struct [(3,0),(3,1),(2,2),(9,3),(3,4),(27,5)],6,72,[.int .i64 0,.int .i64 0,.int .i64 0,.string ByteArray.empty,.int .i64 0,.slice none 0 0],[0,0,0,0,0,6],false⟩/\tt 32=some ⟨.slice 53,1,24,[.slice none 0 0],[3],false⟩/\tt 33=some ⟨.int .i64,1,8,[.int .i64 0],[0],false⟩/\tt 52=some ⟨.struct [(3,0),(2,1),(9,2)],3,32,[.int .i64 0,.int .i64 0,.string ByteArray.empty],[0,0,0],true⟩/\tt 53=some ⟨.struct [(3,0),(2,1),(9,2)],3,32,[.int .i64 0,.int .i64 0,.string ByteArray.empty],[0,0,0],true⟩/\tt 65=some ⟨.slice 25,1,24,[.slice none 0 0],[1],false⟩/\tt 67=some ⟨.array 2 29,12,144,[.int .i64 0,.int .i64 0,.int .i64 0,.string ByteArray.empty,.int .i64 0,.slice none 0 0,.int .i64 0,.int .i64 0,.int .i64 0,.string ByteArray.empty,.int .i64 0,.slice none 0 0],[0,0,0,0,0,6,0,0,0,0,0,6],false⟩/\tt 68=some ⟨.slice 67,1,24,[.slice none 0 0],[12],false⟩/\tt 72=some ⟨.struct [(22,0),(3,1)],2,32,[.slice none 0 0,.int .i64 0],[1,0],false⟩/\tt 73=some ⟨.struct [(22,0),(3,1)],2,32,[.slice none 0 0,.int .i64 0],[1,0],false⟩/\tt 83=some ⟨.array 3 3,3,24,[.int .i64 0,.int .i64 0,.int .i64 0],[0,0,0],false⟩/\tt 96=some ⟨.slice 9,1,24,[.slice none 0 0],[1],false⟩/\tt 106=some ⟨.struct [(9,0),(3,1),(3,2),(3,3)],4,40,[.string ByteArray.empty,.int .i64 0,.int .i64 0,.int .i64 0],[0,0,0,0],true⟩/\tt 107=some ⟨.struct [(9,0),(3,1),(3,2),(3,3)],4,40,[.string ByteArray.empty,.int .i64 0,.int .i64 0,.int .i64 0],[0,0,0,0],true⟩/\tt 128=some ⟨.array 29 107,116,1160,[.string ByteArray.empty,.int .i64 0,.int .i64 0,.int .i64 0,.string ByteArray.empty,.int .i64 0,.int .i64 0,.int .i64 0,.string ByteArray.empty,.int .i64 0,.int .i64 0,.int .i64 0,.string ByteArray.empty,.int .i64 0,.int .i64 0,.int .i64 0,.string ByteArray.empty,.int .i64 0,.int .i64 0,.int .i64 0,.string ByteArray.empty,.int .i64 0,.int .i64 0,.int .i64 0,.string ByteArray.empty,.int .i64 0,.int .i64 0,.int .i64 0,.string ByteArray.empty,.int .i64 0,.int .i64 0,.int .i64 0,.string ByteArray.empty,.int .i64 0,.int .i64 0,.int .i64 0,.string ByteArray.empty,.int .i64 0,.int .i64 0,.int .i64 0,.string ByteArray.empty,.int .i64 0,.int .i64 0,.int .i64 0,.string ByteArray.empty,.int .i64 0,.int .i64 0,.int .i64 0,.string ByteArray.empty,.int .i64 0,.int .i64 0,.int .i64 0,.string ByteArray.empty,.int .i64 0,.int .i64 0,.int .i64 0,.string ByteArray.empty,.int .i64 0,.int .i64 0,.int .i64 0,.string ByteArray.empty,.int .i64 0,.int .i64 0,.int .i64 0,.string ByteArray.empty,.int .i64 0,.int .i64 0,.int .i64 0,.string ByteArray.empty,.int .i64 0,.int .i64 0,.int .i64 0,.string ByteArray.empty,.int .i64 0,.int .i64 0,.int .i64 0,.string ByteArray.empty,.int .i64 0,.int .i64 0,.int .i64 0,.string ByteArray.empty,.int .i64 0,.int .i64 0,.int .i64 0,.string ByteArray.empty,.int .i64 0,.int .i64 0,.int .i64 0,.string ByteArray.empty,.int .i64 0,.int .i64 0,.int .i64 0,.string ByteArray.empty,.int .i64 0,.int .i64 0,.int .i64 0,.string ByteArray.empty,.int .i64 0,.int .i64 0,.int .i64 0,.string ByteArray.empty,.int .i64 0,.int .i64 0,.int .i64 0,.string ByteArray.empty,.int .i64 0,.int .i64 0,.int .i64 0,.string ByteArray.empty,.int .i64 0,.int .i64 0,.int .i64 0,.string ByteArray.empty,.int .i64 0,.int .i64 0,.int .i64 0],[0,0,0,0,0,0,0,0,0,0,0,0,0,0,0,0,0,0,0,0,0,0,0,0,0,0,0,0,0,0,0,0,0,0,0,0,0,0,0,0,0,0,0,0,0,0,0,0,0,0,0,0,0,0,0,0,0,0,0,0,0,0,0,0,0,0,0,0,0,0,0,0,0,0,0,0,0,0,0,0,0,0,0,0,0,0,0,0,0,0,0,0,0,0,0,0,0,0,0,0,0,0,0,0,0,0,0,0,0,0,0,0,0,0,0,0],false⟩/\tt 135=some ⟨.int .u64,1,8,[.int .u64 0],[0],false⟩/\tt 141=some ⟨.int .i64,1,8,[.int .i64 0],[0],false⟩/\tt 148=some ⟨.int .u32,1,4,[.int .u32 0],[0],false⟩/\tt 150=some ⟨.int .u64,1,8,[.int .u64 0],[0],false⟩/\tt 152=some ⟨.int .u64,1,8,[.int .u64 0],[0],false⟩/\tt 156=some ⟨.pointer 3,1,8,[.pointer none],[0],false⟩/\tt 158=some ⟨.pointer 152,1,8,[.pointer none],[0],false⟩/\tt 170=some ⟨.pointer 5,1,8,[.pointer none],[0],false⟩:=by refine ⟨?_,?_,?_,?_,?_,?_,?_,?_,?_,?_,?_,?_,?_,?_,?_,?_,?_,?_,?_,?_,?_,?_,?_,?_,?_,?_,?_,?_,?_,?_,?_,?_,?_,?_,?_,?_⟩<;>rfl
theorem ttok:tt.ok Tryz.prog:=by
 intro t ti h
 unfold tt at h
 split at h
 ·cases h;exact tok2
 ·cases h;exact tok3
 ·cases h;exact tok4
 ·cases h;exact tok5
 ·cases h;exact tok9
 ·cases h;exact tok12
 ·cases h;exact tok13
 ·cases h;exact tok21
 ·cases h;exact tok22
 ·cases h;exact tok23
 ·cases h;exact tok25
 ·cases h;exact tok27
 ·cases h;exact tok28
 ·cases h;exact tok29
 ·cases h;exact tok32
 ·cases h;exact tok33
 ·cases h;exact tok52
 ·cases h;exact tok53
 ·cases h;exact tok65
 ·cases h;exact tok67
 ·cases h;exact tok68
 ·cases h;exact tok72
 ·cases h;exact tok73
 ·cases h;exact tok83
 ·cases h;exact tok96
 ·cases h;exact tok106
 ·cases h;exact tok107
 ·cases h;exact tok128
 ·cases h;exact tok135
 ·cases h;exact tok141
 ·cases h;exact tok148
 ·cases h;exact tok150
 ·cases h;exact tok152
 ·cases h;exact tok156
 ·cases h;exact tok158
 ·cases h;exact tok170
 ·cases h
theorem mixed:Tryz.prog.follows .mixedOrders=true:=Tryz.checked.mixed
end
section
open Go.Am
attribute [local simp, local push_cast] num boo str ints aV
abbrev Row:=List Val
abbrev Tab2:=List Row
def rRow (r:Row):List D:=[.sl 3 (zg rV r)]
def rTab (l:Tab2):List D:=[.sl 1 (zg rRow l)]
def aTab (l:Tab2):A:= .d (.sl 1 (zg rRow l))
end
section
open Go.Am
attribute [local simp, local push_cast] num boo str ints aV aTab
abbrev Inst:=List Tab2
def yC (i:Inst):A:= .agg [.d (.sl 1 (zg rTab i))]
attribute [local simp, local push_cast] yC
mutual
def we:Ex->Int
 | .mk _ _ _ _ _ ks=>sizeL 1 ks
def sizeL:Int->List Ex->Int
 | n,[]=>n
 | n,e::l=>sizeL (IntKind.i64.wrap (n+we e)) l
end
theorem sizeW_eq (e:Ex):we e=sizeL 1 e.kids:=by cases e;rw [we];rfl
theorem jP (e:Ex): ∀(l:List Ex) (n:Int),sizeL n (l++[e])=IntKind.i64.wrap (sizeL n l+we e)
 | [],n=>by simp [sizeL]
 | x::l,n=>by simp only [List.cons_append,sizeL];exact jP e l _
mutual
def xk:Ex->Int
 | .mk _ _ _ _ _ ks=>IntKind.i64.wrap (depthL 0 ks+1)
def depthL:Int->List Ex->Int
 | n,[]=>n
 | n,e::l=>depthL (if xk e>n then xk e else n) l
end
theorem depthW_eq (e:Ex):xk e=IntKind.i64.wrap (depthL 0 e.kids+1):=by cases e;rw [xk];rfl
theorem xj {p:Ex->Prop} (h: ∀e:Ex,(∀k∈e.kids,p k)->p e): ∀e,p e:=by
 intro e
 exact Ex.rec (motive_1:=p) (motive_2:=fun l=> ∀k∈l,p k) (fun a b c d f ks ih=>h _ ih) (by simp) (fun k l h1 h2=>by simpa using ⟨h1,h2⟩) e
inductive Ok12:Ex->Prop
 | mk (e:Ex) (h:e.kids.length<=1000) (hk: ∀k∈e.kids,Ok12 k):Ok12 e
theorem Ok12.kids {e:Ex} (h:Ok12 e):e.kids.length<=1000:=by cases h;assumption
theorem Ok12.kid {e k:Ex} (h:Ok12 e) (hk:k∈e.kids):Ok12 k:=by cases h with | mk _ _ h2=>exact h2 k hk
theorem c_size02: ∀e:Ex,Ok12 e->ACall Tryz.prog 32 [aE e] [] (num (we e)) []:=
 xj (p:=fun e=>Ok12 e->ACall Tryz.prog 32 [aE e] [] (num (we e)) []) fun e ih ho=>by
 refine zm mixed ttok Tryz.func32 Tryz.ntmps32 Tryz.results32 ?_
 generalize hr:num (we e)=R
 have hl:=ho.kids
 simp -implicitDefEqProofs only [argT,↓zb,push_cast,simprocAttr,tte]
 refine yl mixed ttok 4 [1] [1] (by simp only [wH,ends,push_cast,simprocAttr];rfl) (by simp only [wI,ym,ends,push_cast,simprocAttr];rfl) e.kids.length (fun n=>sizeL (sizeL 1 (e.kids.take n)) (e.kids.drop n)=we e) (fun n=>[(3,num (sizeL 1 (e.kids.take n)))]) (fun _=>[]) (by rw [sizeW_eq];rfl) ?_ ?_
 ·exact Weak.keepL (by simp [cst,sizeL,ends]) (by simp [cst,ends]) (by simp [cst,ends])
 intro I hI n hn hi
 have hw:n<e.kids.length->IntKind.i64.wrap ((n:Int)+1)=((n+1:Nat):Int):=fun h=>by rw [z7 (by omega) (by omega)];rfl
 simp -implicitDefEqProofs only [cst,↓zb,push_cast,simprocAttr,tte]
 refine za (fun h=>?_) fun h=>?_
 ·simp only [decide_eq_true_eq] at h
  have h':n<e.kids.length:=by omega
  have ht:sizeL 1 (e.kids.take (n+1))=IntKind.i64.wrap (sizeL 1 (e.kids.take n)+we (e.kids.getD n default)):=by
   rw [yr _ _ h',jP]
  refine ⟨(by first | omega | trivial | (refine ⟨?_,?_⟩<;>first | omega | trivial | (refine ⟨?_,?_⟩<;>first | omega | trivial | (refine ⟨?_,?_⟩<;>first | omega | trivial | rfl)))),?_⟩
  refine zd [[0,0,0,0,0,6]] [] (ih _ (zx h') (ho.kid (zx h'))) ?_
  simp -implicitDefEqProofs only [↓zb,push_cast,simprocAttr,tte]
  exact yt hI n rfl h' (by rw [yc _ n h',sizeL] at hi;rw [ht];exact hi) (by simp [hw h',ht,ends]) (by simp [hw h',ht,ends]) (by simp [hw h',ht,ends]) (by simp [hw h',ht,ends])
 ·simp only [decide_eq_false_iff_not] at h
  have hn':n=e.kids.length:=by omega
  subst hn'
  refine zf [0] rfl (by simp) (by simp [zc]<;>omega) ?_ (by first | rfl | simp [ends] | (subst_vars;simp [ends])) (by simp [ends]) (by simp [ends])
  rw [<-hr,<-hi];simp [sizeL,num]
end
section
open Go.Am
attribute [local simp, local push_cast] num boo str ints aV aTab yC aS
end
end Go.Proofs.YtiagabnddihchaaGreatDoor
