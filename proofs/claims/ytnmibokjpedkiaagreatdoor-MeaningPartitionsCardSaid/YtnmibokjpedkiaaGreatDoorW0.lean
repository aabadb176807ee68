/- Made queries answer as specified (part W0) -/
import Derived.Test.YtnmibokjpedkiaaGreatDoorChecked
import Derived.Test.YtnmibokjpedkiaaGreatDoorLe
set_option maxRecDepth 100000
set_option maxHeartbeats 4000000
set_option linter.all false
namespace Go.Proofs.YtnmibokjpedkiaaGreatDoor
open Go.Am
section
structure FmD where
 word:ByteArray
 kids:Int
 uses:ByteArray
instance:Inhabited FmD:=⟨⟨ByteArray.empty,0,ByteArray.empty⟩⟩
def fmTab:List FmD:=[⟨⟨#[]⟩,0,⟨#[]⟩⟩,⟨⟨#[115,99,97,110]⟩,0,⟨#[116,97,98,108,101]⟩⟩,⟨⟨#[118,97,108,117,101,115]⟩,0,⟨#[116,121,112,101,115,32,114,111,119,115]⟩⟩,⟨⟨#[115,101,108,101,99,116]⟩,1,⟨#[99,111,110,100]⟩⟩,⟨⟨#[112,114,111,106,101,99,116]⟩,1,⟨#[101,120,112,114,115]⟩⟩,⟨⟨#[106,111,105,110]⟩,2,⟨#[107,105,110,100,32,99,111,110,100]⟩⟩,⟨⟨#[117,110,105,111,110]⟩,2,⟨#[97,108,108]⟩⟩,⟨⟨#[101,120,99,101,112,116]⟩,2,⟨#[97,108,108]⟩⟩,⟨⟨#[105,110,116,101,114,115,101,99,116]⟩,2,⟨#[97,108,108]⟩⟩,⟨⟨#[100,105,115,116,105,110,99,116]⟩,1,⟨#[]⟩⟩,⟨⟨#[103,114,111,117,112]⟩,1,⟨#[101,120,112,114,115,32,97,103,103,115]⟩⟩]
def rFm (o:FmD):List D:=[.lit (.string o.word),.lit (.int .i64 o.kids),.lit (.string o.uses)]
def fmRow:List D:=(fmTab.map rFm).flatten
instance tabs:Tab:=⟨(fun | 0=>some fmRow | 1=>some opRow | 2=>some [.lit (.int .i64 0),.lit (.int .i64 0),.lit (.string ⟨#[]⟩)] | _=>none),[3]⟩
theorem tabFm:Tab.tab 0=some fmRow:=rfl
theorem tab0:Tab.tab 1=some opRow:=rfl
def tt:Types
 | 2=>some ⟨.int .i64,1,8,[.int .i64 0],[0],false⟩
 | 3=>some ⟨.int .i64,1,8,[.int .i64 0],[0],false⟩
 | 4=>some ⟨.bool,1,1,[.bool false],[0],false⟩
 | 5=>some ⟨.int .u8,1,1,[.int .u8 0],[0],false⟩
 | 9=>some ⟨.string,1,16,[.string ByteArray.empty],[0],false⟩
 | 12=>some ⟨.int .u64,1,8,[.int .u64 0],[0],false⟩
 | 13=>some ⟨.struct [(9,0),(12,1)],2,24,[.string ByteArray.empty,.int .u64 0],[0,0],false⟩
 | 21=>some ⟨.int .i32,1,4,[.int .i32 0],[0],false⟩
 | 22=>some ⟨.slice 3,1,24,[.slice none 0 0],[1],false⟩
 | 23=>some ⟨.pointer 25,1,8,[.pointer none],[0],false⟩
 | 24=>some ⟨.struct [(22,0),(3,1)],2,32,[.slice none 0 0,.int .i64 0],[1,0],false⟩
 | 25=>some ⟨.struct [(22,0),(3,1)],2,32,[.slice none 0 0,.int .i64 0],[1,0],false⟩
 | 26=>some ⟨.slice 59,1,24,[.slice none 0 0],[6],false⟩
 | 27=>some ⟨.struct [(26,0)],1,24,[.slice none 0 0],[6],false⟩
 | 28=>some ⟨.struct [(26,0)],1,24,[.slice none 0 0],[6],false⟩
 | 30=>some ⟨.slice 38,1,24,[.slice none 0 0],[1,16,34,82],false⟩
 | 31=>some ⟨.struct [(30,0)],1,24,[.slice none 0 0],[1],false⟩
 | 32=>some ⟨.struct [(30,0)],1,24,[.slice none 0 0],[1],false⟩
 | 34=>some ⟨.slice 36,1,24,[.slice none 0 0],[6],false⟩
 | 35=>some ⟨.struct [(3,0),(3,1),(2,2),(9,3),(3,4),(34,5)],6,72,[.int .i64 0,.int .i64 0,.int .i64 0,.string ByteArray.empty,.int .i64 0,.slice none 0 0],[0,0,0,0,0,6],false⟩
 | 36=>some ⟨.struct [(3,0),(3,1),(2,2),(9,3),(3,4),(34,5)],6,72,[.int .i64 0,.int .i64 0,.int .i64 0,.string ByteArray.empty,.int .i64 0,.slice none 0 0],[0,0,0,0,0,6],false⟩
 | 37=>some ⟨.slice 68,1,24,[.slice none 0 0],[7],false⟩
 | 38=>some ⟨.slice 53,1,24,[.slice none 0 0],[1],false⟩
 | 39=>some ⟨.slice 41,1,24,[.slice none 0 0],[15],false⟩
 | 40=>some ⟨.struct [(3,0),(9,1),(3,2),(4,3),(36,4),(34,10),(37,11),(22,12),(38,13),(39,14)],15,232,[.int .i64 0,.string ByteArray.empty,.int .i64 0,.bool false,.int .i64 0,.int .i64 0,.int .i64 0,.string ByteArray.empty,.int .i64 0,.slice none 0 0,.slice none 0 0,.slice none 0 0,.slice none 0 0,.slice none 0 0,.slice none 0 0],[0,0,0,0,0,0,0,0,0,6,6,7,1,1,15],false⟩
 | 41=>some ⟨.struct [(3,0),(9,1),(3,2),(4,3),(36,4),(34,10),(37,11),(22,12),(38,13),(39,14)],15,232,[.int .i64 0,.string ByteArray.empty,.int .i64 0,.bool false,.int .i64 0,.int .i64 0,.int .i64 0,.string ByteArray.empty,.int .i64 0,.slice none 0 0,.slice none 0 0,.slice none 0 0,.slice none 0 0,.slice none 0 0,.slice none 0 0],[0,0,0,0,0,0,0,0,0,6,6,7,1,1,15],false⟩
 | 44=>some ⟨.int .i64,1,8,[.int .i64 0],[0],false⟩
 | 53=>some ⟨.slice 71,1,24,[.slice none 0 0],[3],false⟩
 | 55=>some ⟨.slice 74,1,24,[.slice none 0 0],[3],false⟩
 | 56=>some ⟨.slice 22,1,24,[.slice none 0 0],[1],false⟩
 | 57=>some ⟨.slice 76,1,24,[.slice none 0 0],[2],false⟩
 | 58=>some ⟨.struct [(9,0),(55,1),(22,2),(56,3),(57,4),(34,5)],6,136,[.string ByteArray.empty,.slice none 0 0,.slice none 0 0,.slice none 0 0,.slice none 0 0,.slice none 0 0],[0,3,1,1,2,6],false⟩
 | 59=>some ⟨.struct [(9,0),(55,1),(22,2),(56,3),(57,4),(34,5)],6,136,[.string ByteArray.empty,.slice none 0 0,.slice none 0 0,.slice none 0 0,.slice none 0 0,.slice none 0 0],[0,3,1,1,2,6],false⟩
 | 62=>some ⟨.array 7 38,7,168,[.slice none 0 0,.slice none 0 0,.slice none 0 0,.slice none 0 0,.slice none 0 0,.slice none 0 0,.slice none 0 0],[1,1,1,1,1,1,1],false⟩
 | 67=>some ⟨.struct [(3,0),(36,1)],7,80,[.int .i64 0,.int .i64 0,.int .i64 0,.int .i64 0,.string ByteArray.empty,.int .i64 0,.slice none 0 0],[0,0,0,0,0,0,6],false⟩
 | 68=>some ⟨.struct [(3,0),(36,1)],7,80,[.int .i64 0,.int .i64 0,.int .i64 0,.int .i64 0,.string ByteArray.empty,.int .i64 0,.slice none 0 0],[0,0,0,0,0,0,6],false⟩
 | 70=>some ⟨.struct [(3,0),(2,1),(9,2)],3,32,[.int .i64 0,.int .i64 0,.string ByteArray.empty],[0,0,0],true⟩
 | 71=>some ⟨.struct [(3,0),(2,1),(9,2)],3,32,[.int .i64 0,.int .i64 0,.string ByteArray.empty],[0,0,0],true⟩
 | 73=>some ⟨.struct [(9,0),(3,1),(4,2)],3,32,[.string ByteArray.empty,.int .i64 0,.bool false],[0,0,0],true⟩
 | 74=>some ⟨.struct [(9,0),(3,1),(4,2)],3,32,[.string ByteArray.empty,.int .i64 0,.bool false],[0,0,0],true⟩
 | 75=>some ⟨.struct [(22,0),(9,1)],2,40,[.slice none 0 0,.string ByteArray.empty],[1,0],false⟩
 | 76=>some ⟨.struct [(22,0),(9,1)],2,40,[.slice none 0 0,.string ByteArray.empty],[1,0],false⟩
 | 84=>some ⟨.struct [(38,0),(3,1)],2,32,[.slice none 0 0,.int .i64 0],[1,0],false⟩
 | 85=>some ⟨.struct [(38,0),(3,1)],2,32,[.slice none 0 0,.int .i64 0],[1,0],false⟩
 | 87=>some ⟨.struct [(28,0),(32,1)],2,48,[.slice none 0 0,.slice none 0 0],[6,1],false⟩
 | 88=>some ⟨.struct [(28,0),(32,1)],2,48,[.slice none 0 0,.slice none 0 0],[6,1],false⟩
 | 103=>some ⟨.slice 106,1,24,[.slice none 0 0],[3],false⟩
 | 105=>some ⟨.struct [(53,0),(3,1),(3,2)],3,40,[.slice none 0 0,.int .i64 0,.int .i64 0],[3,0,0],false⟩
 | 106=>some ⟨.struct [(53,0),(3,1),(3,2)],3,40,[.slice none 0 0,.int .i64 0,.int .i64 0],[3,0,0],false⟩
 | 109=>some ⟨.slice 5,1,24,[.slice none 0 0],[1],false⟩
 | 111=>some ⟨.slice 85,1,24,[.slice none 0 0],[2],false⟩
 | 128=>some ⟨.slice 2,1,24,[.slice none 0 0],[1],false⟩
 | 130=>some ⟨.slice 9,1,24,[.slice none 0 0],[1],false⟩
 | 132=>some ⟨.struct [(9,0),(3,1),(9,2)],3,40,[.string ByteArray.empty,.int .i64 0,.string ByteArray.empty],[0,0,0],true⟩
 | 133=>some ⟨.struct [(9,0),(3,1),(9,2)],3,40,[.string ByteArray.empty,.int .i64 0,.string ByteArray.empty],[0,0,0],true⟩
 | 146=>some ⟨.struct [(9,0),(3,1),(3,2),(3,3)],4,40,[.string ByteArray.empty,.int .i64 0,.int .i64 0,.int .i64 0],[0,0,0,0],true⟩
 | 147=>some ⟨.struct [(9,0),(3,1),(3,2),(3,3)],4,40,[.string ByteArray.empty,.int .i64 0,.int .i64 0,.int .i64 0],[0,0,0,0],true⟩
 | 151=>some ⟨.slice 4,1,24,[.slice none 0 0],[1],false⟩
 | 154=>some ⟨.struct [(53,0),(3,1),(3,2)],3,40,[.slice none 0 0,.int .i64 0,.int .i64 0],[3,0,0],false⟩
 | 155=>some ⟨.struct [(53,0),(3,1),(3,2)],3,40,[.slice none 0 0,.int .i64 0,.int .i64 0],[3,0,0],false⟩
 | 158=>some ⟨.slice 160,1,24,[.slice none 0 0],[2],false⟩
 | 159=>some ⟨.struct [(53,0),(53,1)],2,48,[.slice none 0 0,.slice none 0 0],[3,3],false⟩
 | 160=>some ⟨.struct [(53,0),(53,1)],2,48,[.slice none 0 0,.slice none 0 0],[3,3],false⟩
 | 183=>some ⟨.slice 184,1,24,[.slice none 0 0],[1],false⟩
 | 184=>some ⟨.map 3 4,1,8,[.map none],[0],false⟩
 | 191=>some ⟨.array 11 133,33,440,[.string ByteArray.empty,.int .i64 0,.string ByteArray.empty,.string ByteArray.empty,.int .i64 0,.string ByteArray.empty,.string ByteArray.empty,.int .i64 0,.string ByteArray.empty,.string ByteArray.empty,.int .i64 0,.string ByteArray.empty,.string ByteArray.empty,.int .i64 0,.string ByteArray.empty,.string ByteArray.empty,.int .i64 0,.string ByteArray.empty,.string ByteArray.empty,.int .i64 0,.string ByteArray.empty,.string ByteArray.empty,.int .i64 0,.string ByteArray.empty,.string ByteArray.empty,.int .i64 0,.string ByteArray.empty,.string ByteArray.empty,.int .i64 0,.string ByteArray.empty,.string ByteArray.empty,.int .i64 0,.string ByteArray.empty],[0,0,0,0,0,0,0,0,0,0,0,0,0,0,0,0,0,0,0,0,0,0,0,0,0,0,0,0,0,0,0,0,0],false⟩
 | 193=>some ⟨.map 9 4,1,8,[.map none],[0],false⟩
 | 201=>some ⟨.slice 155,1,24,[.slice none 0 0],[3],false⟩
 | 218=>some ⟨.array 29 147,116,1160,[.string ByteArray.empty,.int .i64 0,.int .i64 0,.int .i64 0,.string ByteArray.empty,.int .i64 0,.int .i64 0,.int .i64 0,.string ByteArray.empty,.int .i64 0,.int .i64 0,.int .i64 0,.string ByteArray.empty,.int .i64 0,.int .i64 0,.int .i64 0,.string ByteArray.empty,.int .i64 0,.int .i64 0,.int .i64 0,.string ByteArray.empty,.int .i64 0,.int .i64 0,.int .i64 0,.string ByteArray.empty,.int .i64 0,.int .i64 0,.int .i64 0,.string ByteArray.empty,.int .i64 0,.int .i64 0,.int .i64 0,.string ByteArray.empty,.int .i64 0,.int .i64 0,.int .i64 0,.string ByteArray.empty,.int .i64 0,.int .i64 0,.int .i64 0,.string ByteArray.empty,.int .i64 0,.int .i64 0,.int .i64 0,.string ByteArray.empty,.int .i64 0,.int .i64 0,.int .i64 0,.string ByteArray.empty,.int .i64 0,.int .i64 0,.int .i64 0,.string ByteArray.empty,.int .i64 0,.int .i64 0,.int .i64 0,.string ByteArray.empty,.int .i64 0,.int .i64 0,.int .i64 0,.string ByteArray.empty,.int .i64 0,.int .i64 0,.int .i64 0,.string ByteArray.empty,.int .i64 0,.int .i64 0,.int .i64 0,.string ByteArray.empty,.int .i64 0,.int .i64 0,.int .i64 0,.string ByteArray.empty,.int .i64 0,.int .i64 0,.int .i64 0,.string ByteArray.empty,.int .i64 0,.int .i64 0,.int .i64 0,.string ByteArray.empty,.int .i64 0,.int .i64 0,.int .i64 0,.string ByteArray.empty,.int .i64 0,.int .i64 0,.int .i64 0,.string ByteArray.empty,.int .i64 0,.int .i64 0,.int .i64 0,.string ByteArray.empty,.int .i64 0,.int .i64 0,.int .i64 0,.string ByteArray.empty,.int .i64 0,.int .i64 0,.int .i64 0,.string ByteArray.empty,.int .i64 0,.int .i64 0,.int .i64 0,.string ByteArray.empty,.int .i64 0,.int .i64 0,.int .i64 0,.string ByteArray.empty,.int .i64 0,.int .i64 0,.int .i64 0,.string ByteArray.empty,.int .i64 0,.int .i64 0,.int .i64 0],[0,0,0,0,0,0,0,0,0,0,0,0,0,0,0,0,0,0,0,0,0,0,0,0,0,0,0,0,0,0,0,0,0,0,0,0,0,0,0,0,0,0,0,0,0,0,0,0,0,0,0,0,0,0,0,0,0,0,0,0,0,0,0,0,0,0,0,0,0,0,0,0,0,0,0,0,0,0,0,0,0,0,0,0,0,0,0,0,0,0,0,0,0,0,0,0,0,0,0,0,0,0,0,0,0,0,0,0,0,0,0,0,0,0,0,0],false⟩
 | 232=>some ⟨.int .u64,1,8,[.int .u64 0],[0],false⟩
 | 241=>some ⟨.int .i64,1,8,[.int .i64 0],[0],false⟩
 | 248=>some ⟨.int .u32,1,4,[.int .u32 0],[0],false⟩
 | 250=>some ⟨.int .u64,1,8,[.int .u64 0],[0],false⟩
 | 254=>some ⟨.int .u64,1,8,[.int .u64 0],[0],false⟩
 | 258=>some ⟨.pointer 3,1,8,[.pointer none],[0],false⟩
 | 260=>some ⟨.pointer 254,1,8,[.pointer none],[0],false⟩
 | 273=>some ⟨.pointer 5,1,8,[.pointer none],[0],false⟩
 | _=>none
theorem Zg {p:Prop} (h:p:=by kernel_rfl):p:=h
theorem tinfo70:(Tryz.prog.info? 70).map (fun i=>(i.size,i.bytes,i.zero))=some (3,32,some (.agg #[.int .i64 0,.int .i64 0,.string ByteArray.empty])):=Zg
theorem tflat70:Tryz.prog.stoodInHeld 70=false/\Tryz.prog.eqGuardType Tryz.prog.depth 70=false:=⟨Zg,Zg⟩
theorem Z6 {p:Prop} (h:p:=by simp [one]):p:=h
theorem tok70:TOk Tryz.prog 70 ⟨.struct [(3,0),(2,1),(9,2)],3,32,[.int .i64 0,.int .i64 0,.string ByteArray.empty],[0,0,0],true⟩:=⟨by obtain ⟨i,h1,h2⟩:=YR.1 tinfo70;simp only [Prod.mk.injEq] at h2;exact ⟨i,h1,h2.1,h2.2.1,_,h2.2.2,rfl⟩,rfl,Z6,⟨_,Tryz.underlying70,rfl⟩,(fun _=>⟨tflat70.1,tflat70.2,fun fs hfs=>by rw [Tryz.underlying70] at hfs;cases hfs;simp⟩),(fun h=>by cases h)⟩
theorem tinfo71:(Tryz.prog.info? 71).map (fun i=>(i.size,i.bytes,i.zero))=some (3,32,some (.agg #[.int .i64 0,.int .i64 0,.string ByteArray.empty])):=Zg
theorem tflat71:Tryz.prog.stoodInHeld 71=false/\Tryz.prog.eqGuardType Tryz.prog.depth 71=false:=⟨Zg,Zg⟩
theorem tok71:TOk Tryz.prog 71 ⟨.struct [(3,0),(2,1),(9,2)],3,32,[.int .i64 0,.int .i64 0,.string ByteArray.empty],[0,0,0],true⟩:=⟨by obtain ⟨i,h1,h2⟩:=YR.1 tinfo71;simp only [Prod.mk.injEq] at h2;exact ⟨i,h1,h2.1,h2.2.1,_,h2.2.2,rfl⟩,rfl,Z6,⟨_,Tryz.underlying71,rfl⟩,(fun _=>⟨tflat71.1,tflat71.2,fun fs hfs=>by rw [Tryz.underlying71] at hfs;cases hfs;simp⟩),(fun h=>by cases h)⟩
theorem tinfo73:(Tryz.prog.info? 73).map (fun i=>(i.size,i.bytes,i.zero))=some (3,32,some (.agg #[.string ByteArray.empty,.int .i64 0,.bool false])):=Zg
theorem tflat73:Tryz.prog.stoodInHeld 73=false/\Tryz.prog.eqGuardType Tryz.prog.depth 73=false:=⟨Zg,Zg⟩
theorem tok73:TOk Tryz.prog 73 ⟨.struct [(9,0),(3,1),(4,2)],3,32,[.string ByteArray.empty,.int .i64 0,.bool false],[0,0,0],true⟩:=⟨by obtain ⟨i,h1,h2⟩:=YR.1 tinfo73;simp only [Prod.mk.injEq] at h2;exact ⟨i,h1,h2.1,h2.2.1,_,h2.2.2,rfl⟩,rfl,Z6,⟨_,Tryz.underlying73,rfl⟩,(fun _=>⟨tflat73.1,tflat73.2,fun fs hfs=>by rw [Tryz.underlying73] at hfs;cases hfs;simp⟩),(fun h=>by cases h)⟩
theorem tinfo74:(Tryz.prog.info? 74).map (fun i=>(i.size,i.bytes,i.zero))=some (3,32,some (.agg #[.string ByteArray.empty,.int .i64 0,.bool false])):=Zg
theorem tflat74:Tryz.prog.stoodInHeld 74=false/\Tryz.prog.eqGuardType Tryz.prog.depth 74=false:=⟨Zg,Zg⟩
theorem tok74:TOk Tryz.prog 74 ⟨.struct [(9,0),(3,1),(4,2)],3,32,[.string ByteArray.empty,.int .i64 0,.bool false],[0,0,0],true⟩:=⟨by obtain ⟨i,h1,h2⟩:=YR.1 tinfo74;simp only [Prod.mk.injEq] at h2;exact ⟨i,h1,h2.1,h2.2.1,_,h2.2.2,rfl⟩,rfl,Z6,⟨_,Tryz.underlying74,rfl⟩,(fun _=>⟨tflat74.1,tflat74.2,fun fs hfs=>by rw [Tryz.underlying74] at hfs;cases hfs;simp⟩),(fun h=>by cases h)⟩
theorem tinfo132:(Tryz.prog.info? 132).map (fun i=>(i.size,i.bytes,i.zero))=some (3,40,some (.agg #[.string ByteArray.empty,.int .i64 0,.string ByteArray.empty])):=Zg
theorem tflat132:Tryz.prog.stoodInHeld 132=false/\Tryz.prog.eqGuardType Tryz.prog.depth 132=false:=⟨Zg,Zg⟩
theorem tok132:TOk Tryz.prog 132 ⟨.struct [(9,0),(3,1),(9,2)],3,40,[.string ByteArray.empty,.int .i64 0,.string ByteArray.empty],[0,0,0],true⟩:=⟨by obtain ⟨i,h1,h2⟩:=YR.1 tinfo132;simp only [Prod.mk.injEq] at h2;exact ⟨i,h1,h2.1,h2.2.1,_,h2.2.2,rfl⟩,rfl,Z6,⟨_,Tryz.underlying132,rfl⟩,(fun _=>⟨tflat132.1,tflat132.2,fun fs hfs=>by rw [Tryz.underlying132] at hfs;cases hfs;simp⟩),(fun h=>by cases h)⟩
theorem tinfo133:(Tryz.prog.info? 133).map (fun i=>(i.size,i.bytes,i.zero))=some (3,40,some (.agg #[.string ByteArray.empty,.int .i64 0,.string ByteArray.empty])):=Zg
theorem tflat133:Tryz.prog.stoodInHeld 133=false/\Tryz.prog.eqGuardType Tryz.prog.depth 133=false:=⟨Zg,Zg⟩
theorem tok133:TOk Tryz.prog 133 ⟨.struct [(9,0),(3,1),(9,2)],3,40,[.string ByteArray.empty,.int .i64 0,.string ByteArray.empty],[0,0,0],true⟩:=⟨by obtain ⟨i,h1,h2⟩:=YR.1 tinfo133;simp only [Prod.mk.injEq] at h2;exact ⟨i,h1,h2.1,h2.2.1,_,h2.2.2,rfl⟩,rfl,Z6,⟨_,Tryz.underlying133,rfl⟩,(fun _=>⟨tflat133.1,tflat133.2,fun fs hfs=>by rw [Tryz.underlying133] at hfs;cases hfs;simp⟩),(fun h=>by cases h)⟩
theorem tinfo146:(Tryz.prog.info? 146).map (fun i=>(i.size,i.bytes,i.zero))=some (4,40,some (.agg #[.string ByteArray.empty,.int .i64 0,.int .i64 0,.int .i64 0])):=Zg
theorem tflat146:Tryz.prog.stoodInHeld 146=false/\Tryz.prog.eqGuardType Tryz.prog.depth 146=false:=⟨Zg,Zg⟩
theorem tok146:TOk Tryz.prog 146 ⟨.struct [(9,0),(3,1),(3,2),(3,3)],4,40,[.string ByteArray.empty,.int .i64 0,.int .i64 0,.int .i64 0],[0,0,0,0],true⟩:=⟨by obtain ⟨i,h1,h2⟩:=YR.1 tinfo146;simp only [Prod.mk.injEq] at h2;exact ⟨i,h1,h2.1,h2.2.1,_,h2.2.2,rfl⟩,rfl,Z6,⟨_,Tryz.underlying146,rfl⟩,(fun _=>⟨tflat146.1,tflat146.2,fun fs hfs=>by rw [Tryz.underlying146] at hfs;cases hfs;simp⟩),(fun h=>by cases h)⟩
theorem tinfo147:(Tryz.prog.info? 147).map (fun i=>(i.size,i.bytes,i.zero))=some (4,40,some (.agg #[.string ByteArray.empty,.int .i64 0,.int .i64 0,.int .i64 0])):=Zg
theorem tflat147:Tryz.prog.stoodInHeld 147=false/\Tryz.prog.eqGuardType Tryz.prog.depth 147=false:=⟨Zg,Zg⟩
theorem tok147:TOk Tryz.prog 147 ⟨.struct [(9,0),(3,1),(3,2),(3,3)],4,40,[.string ByteArray.empty,.int .i64 0,.int .i64 0,.int .i64 0],[0,0,0,0],true⟩:=⟨by obtain ⟨i,h1,h2⟩:=YR.1 tinfo147;simp only [Prod.mk.injEq] at h2;exact ⟨i,h1,h2.1,h2.2.1,_,h2.2.2,rfl⟩,rfl,Z6,⟨_,Tryz.underlying147,rfl⟩,(fun _=>⟨tflat147.1,tflat147.2,fun fs hfs=>by rw [Tryz.underlying147] at hfs;cases hfs;simp⟩),(fun h=>by cases h)⟩
theorem tokS {t b:Nat} {k:TK} {v:Value} {cw:List Nat} (h:(Tryz.prog.info? t).map (fun i=>(i.size,i.bytes,i.zero))=some (1,b,some v)) (hc:v.cells= #[v]) (ho:one v=true) (hd:k.ok (Tryz.prog.underlying t)):TOk Tryz.prog t ⟨k,1,b,[v],cw,false⟩:=by
 obtain ⟨i,h1,h2⟩:=YR.1 h;simp only [Prod.mk.injEq] at h2;exact ⟨⟨i,h1,h2.1,h2.2.1,_,h2.2.2,hc⟩,rfl,fun w hw=>by rw [YK.1 hw];exact ho,hd,(fun h=>by cases h),fun _ z hz=>by cases hz;exact ⟨i,h1,h2.2.2⟩⟩
theorem tokA {t s b:Nat} {k:TK} {z:List Value} {cw:List Nat} (h:(Tryz.prog.info? t).map (fun i=>(i.size,i.bytes,i.zero))=some (s,b,some (.agg z.toArray))) (hl:z.length=s) (ho: ∀v∈z,one v=true) (hd:k.ok (Tryz.prog.underlying t)) (ha:(⟨k,s,b,z,cw,false⟩:TI).isAgg=true):TOk Tryz.prog t ⟨k,s,b,z,cw,false⟩:=by
 obtain ⟨i,h1,h2⟩:=YR.1 h;simp only [Prod.mk.injEq] at h2;exact ⟨⟨i,h1,h2.1,h2.2.1,_,h2.2.2,rfl⟩,hl,ho,hd,(fun h=>by cases h),fun h=>by rw [ha] at h;cases h⟩
theorem ttok:tt.ok Tryz.prog:=by
 intro t ti h;unfold tt at h
 split at h
 ·cases h;exact tokS Zg rfl rfl Tryz.underlying2
 ·cases h;exact tokS Zg rfl rfl Tryz.underlying3
 ·cases h;exact tokS Zg rfl rfl Tryz.underlying4
 ·cases h;exact tokS Zg rfl rfl Tryz.underlying5
 ·cases h;exact tokS Zg rfl rfl Tryz.underlying9
 ·cases h;exact tokS Zg rfl rfl Tryz.underlying12
 ·cases h;exact tokA Zg rfl Z6 ⟨_,Tryz.underlying13,rfl⟩ rfl
 ·cases h;exact tokS Zg rfl rfl Tryz.underlying21
 ·cases h;exact tokS Zg rfl rfl Tryz.underlying22
 ·cases h;exact tokS Zg rfl rfl Tryz.underlying23
 ·cases h;exact tokA Zg rfl Z6 ⟨_,Tryz.underlying24,rfl⟩ rfl
 ·cases h;exact tokA Zg rfl Z6 ⟨_,Tryz.underlying25,rfl⟩ rfl
 ·cases h;exact tokS Zg rfl rfl Tryz.underlying26
 ·cases h;exact tokA Zg rfl Z6 ⟨_,Tryz.underlying27,rfl⟩ rfl
 ·cases h;exact tokA Zg rfl Z6 ⟨_,Tryz.underlying28,rfl⟩ rfl
 ·cases h;exact tokS Zg rfl rfl Tryz.underlying30
 ·cases h;exact tokA Zg rfl Z6 ⟨_,Tryz.underlying31,rfl⟩ rfl
 ·cases h;exact tokA Zg rfl Z6 ⟨_,Tryz.underlying32,rfl⟩ rfl
 ·cases h;exact tokS Zg rfl rfl Tryz.underlying34
 ·cases h;exact tokA Zg rfl Z6 ⟨_,Tryz.underlying35,rfl⟩ rfl
 ·cases h;exact tokA Zg rfl Z6 ⟨_,Tryz.underlying36,rfl⟩ rfl
 ·cases h;exact tokS Zg rfl rfl Tryz.underlying37
 ·cases h;exact tokS Zg rfl rfl Tryz.underlying38
 ·cases h;exact tokS Zg rfl rfl Tryz.underlying39
 ·cases h;exact tokA Zg rfl Z6 ⟨_,Tryz.underlying40,rfl⟩ rfl
 ·cases h;exact tokA Zg rfl Z6 ⟨_,Tryz.underlying41,rfl⟩ rfl
 ·cases h;exact tokS Zg rfl rfl Tryz.underlying44
 ·cases h;exact tokS Zg rfl rfl Tryz.underlying53
 ·cases h;exact tokS Zg rfl rfl Tryz.underlying55
 ·cases h;exact tokS Zg rfl rfl Tryz.underlying56
 ·cases h;exact tokS Zg rfl rfl Tryz.underlying57
 ·cases h;exact tokA Zg rfl Z6 ⟨_,Tryz.underlying58,rfl⟩ rfl
 ·cases h;exact tokA Zg rfl Z6 ⟨_,Tryz.underlying59,rfl⟩ rfl
 ·cases h;exact tokA Zg rfl Z6 Tryz.underlying62 rfl
 ·cases h;exact tokA Zg rfl Z6 ⟨_,Tryz.underlying67,rfl⟩ rfl
 ·cases h;exact tokA Zg rfl Z6 ⟨_,Tryz.underlying68,rfl⟩ rfl
 ·cases h;exact tok70
 ·cases h;exact tok71
 ·cases h;exact tok73
 ·cases h;exact tok74
 ·cases h;exact tokA Zg rfl Z6 ⟨_,Tryz.underlying75,rfl⟩ rfl
 ·cases h;exact tokA Zg rfl Z6 ⟨_,Tryz.underlying76,rfl⟩ rfl
 ·cases h;exact tokA Zg rfl Z6 ⟨_,Tryz.underlying84,rfl⟩ rfl
 ·cases h;exact tokA Zg rfl Z6 ⟨_,Tryz.underlying85,rfl⟩ rfl
 ·cases h;exact tokA Zg rfl Z6 ⟨_,Tryz.underlying87,rfl⟩ rfl
 ·cases h;exact tokA Zg rfl Z6 ⟨_,Tryz.underlying88,rfl⟩ rfl
 ·cases h;exact tokS Zg rfl rfl Tryz.underlying103
 ·cases h;exact tokA Zg rfl Z6 ⟨_,Tryz.underlying105,rfl⟩ rfl
 ·cases h;exact tokA Zg rfl Z6 ⟨_,Tryz.underlying106,rfl⟩ rfl
 ·cases h;exact tokS Zg rfl rfl Tryz.underlying109
 ·cases h;exact tokS Zg rfl rfl Tryz.underlying111
 ·cases h;exact tokS Zg rfl rfl Tryz.underlying128
 ·cases h;exact tokS Zg rfl rfl Tryz.underlying130
 ·cases h;exact tok132
 ·cases h;exact tok133
 ·cases h;exact tok146
 ·cases h;exact tok147
 ·cases h;exact tokS Zg rfl rfl Tryz.underlying151
 ·cases h;exact tokA Zg rfl Z6 ⟨_,Tryz.underlying154,rfl⟩ rfl
 ·cases h;exact tokA Zg rfl Z6 ⟨_,Tryz.underlying155,rfl⟩ rfl
 ·cases h;exact tokS Zg rfl rfl Tryz.underlying158
 ·cases h;exact tokA Zg rfl Z6 ⟨_,Tryz.underlying159,rfl⟩ rfl
 ·cases h;exact tokA Zg rfl Z6 ⟨_,Tryz.underlying160,rfl⟩ rfl
 ·cases h;exact tokS Zg rfl rfl Tryz.underlying183
 ·cases h;exact tokS Zg rfl rfl Tryz.underlying184
 ·cases h;exact tokA Zg rfl Z6 Tryz.underlying191 rfl
 ·cases h;exact tokS Zg rfl rfl Tryz.underlying193
 ·cases h;exact tokS Zg rfl rfl Tryz.underlying201
 ·cases h;exact tokA Zg rfl Z6 Tryz.underlying218 rfl
 ·cases h;exact tokS Zg rfl rfl Tryz.underlying232
 ·cases h;exact tokS Zg rfl rfl Tryz.underlying241
 ·cases h;exact tokS Zg rfl rfl Tryz.underlying248
 ·cases h;exact tokS Zg rfl rfl Tryz.underlying250
 ·cases h;exact tokS Zg rfl rfl Tryz.underlying254
 ·cases h;exact tokS Zg rfl rfl Tryz.underlying258
 ·cases h;exact tokS Zg rfl rfl Tryz.underlying260
 ·cases h;exact tokS Zg rfl rfl Tryz.underlying273
 ·cases h
theorem mixed:Tryz.prog.follows .mixedOrders=true:=Tryz.checked.mixed
end
section
attribute [local simp, local push_cast] num boo str ints aV
abbrev Row:=List Val
abbrev Tab2:=List Row
def rRow (r:Row):List D:=[.sl 3 (zd rV r)]
def rTab (l:Tab2):List D:=[.sl 1 (zd rRow l)]
def aTab (l:Tab2):A:= .d (.sl 1 (zd rRow l))
end
section
attribute [local simp, local push_cast] num boo str ints aV aTab
abbrev Inst:=List Tab2
def z8 (i:Inst):A:= .agg [.d (.sl 1 (zd rTab i))]
attribute [local simp, local push_cast] z8
mutual
def ve:Ex->Int
 | .mk _ _ _ _ _ ks=>sizeL 1 ks
def sizeL:Int->List Ex->Int
 | n,[]=>n
 | n,e::l=>sizeL (IntKind.i64.wrap (n+ve e)) l
end
theorem sizeW_eq (e:Ex):ve e=sizeL 1 e.kids:=by cases e;rw [ve];rfl
theorem uC (e:Ex): ∀(l:List Ex) (n:Int),sizeL n (l++[e])=IntKind.i64.wrap (sizeL n l+ve e)
 | [],n=>by simp [sizeL]
 | x::l,n=>by simp only [YN,sizeL];exact uC e l _
mutual
def wD:Ex->Int
 | .mk _ _ _ _ _ ks=>IntKind.i64.wrap (depthL 0 ks+1)
def depthL:Int->List Ex->Int
 | n,[]=>n
 | n,e::l=>depthL (if wD e>n then wD e else n) l
end
theorem depthW_eq (e:Ex):wD e=IntKind.i64.wrap (depthL 0 e.kids+1):=by cases e;rw [wD];rfl
theorem jY {p:Ex->Prop} (h: ∀e:Ex,(∀k∈e.kids,p k)->p e): ∀e,p e:=by
 intro e;exact Ex.rec (motive_1:=p) (motive_2:=fun l=> ∀k∈l,p k) (fun a b c d f ks ih=>h _ ih) Zd (fun k l h1 h2=>by simpa using ⟨h1,h2⟩) e
inductive Ok12:Ex->Prop
 | mk (e:Ex) (h:e.kids.length<=12) (hk: ∀k∈e.kids,Ok12 k):Ok12 e
theorem Ok12.kids {e:Ex} (h:Ok12 e):e.kids.length<=12:=by cases h;assumption
theorem Ok12.kid {e k:Ex} (h:Ok12 e) (hk:k∈e.kids):Ok12 k:=by cases h with | mk _ _ h2=>exact h2 k hk
theorem Zb {p:Prop} (h:p:=by simp [ends]):p:=h
theorem Zf {p q:Prop} (h:q) (e:p=q:=by conv=>lhs;simp -implicitDefEqProofs only [↓zb,push_cast,simprocAttr,tt]):p:=(e).mpr h
theorem Zk {p:Prop} (h:p:=by first | rfl | simp [ends] | (subst_vars;simp [ends])):p:=h
theorem Zn {p q:Prop} (h:q) (e:p=q:=by conv=>lhs;simp -implicitDefEqProofs only [argT,↓zb,push_cast,simprocAttr,tt]):p:=(e).mpr h
theorem Zs {p:Prop} (h:p:=by first | omega | trivial | (refine ⟨?_,?_⟩<;>first | omega | trivial | (refine ⟨?_,?_⟩<;>first | omega | trivial | (refine ⟨?_,?_⟩<;>first | omega | trivial | rfl)))):p:=h
theorem Zv {p:Prop} (h:p:=by simp only [zF,ends,push_cast,simprocAttr];rfl):p:=h
theorem Zw {p:Prop} (h:p:=by simp only [zH,zr,ends,push_cast,simprocAttr];rfl):p:=h
theorem Zx {p q:Prop} (h:q) (e:p=q:=by conv=>lhs;simp -implicitDefEqProofs only [cst,↓zb,push_cast,simprocAttr,tt]):p:=(e).mpr h
theorem Z0 {p P0 P1:Prop} (zf_:P0) (zg_:P1) (h:P0->P1->p:=by intro zf_ zg_;simp [zf_,zg_,ends]):p:=h zf_ zg_
theorem c_size02: ∀e:Ex,Ok12 e->ACall Tryz.prog 82 [aE e] [] (num (ve e)) []:=
 jY (p:=fun e=>Ok12 e->ACall Tryz.prog 82 [aE e] [] (num (ve e)) []) fun e ih ho=>by
 refine zn mixed ttok Tryz.func82 Tryz.ntmps82 Tryz.results82 ?_;generalize hr:num (ve e)=R;have hl:=ho.kids;refine Zn ?_;refine zq mixed ttok 4 [1] [1] Zv Zw e.kids.length (fun n=>sizeL (sizeL 1 (e.kids.take n)) (e.kids.drop n)=ve e) (fun n=>[(3,num (sizeL 1 (e.kids.take n)))]) (fun _=>[]) (by rw [sizeW_eq];rfl) ?_ ?_
 ·exact Weak.keepL (by simp [cst,sizeL,ends]) (by simp [cst,ends]) (by simp [cst,ends])
 intro I hI n hn hi;have hw:n<e.kids.length->IntKind.i64.wrap ((n:Int)+1)=((n+1:Nat):Int):=fun h=>by rw [zt (by omega) (by omega)];rfl
 refine Zx ?_;refine za (fun h=>?_) fun h=>?_
 ·simp only [Yg] at h;have h':n<e.kids.length:=Za;have ht:sizeL 1 (e.kids.take (n+1))=IntKind.i64.wrap (sizeL 1 (e.kids.take n)+ve (e.kids.getD n default)):=by
   rw [zy _ _ h',uC]
  refine ⟨Zs,?_⟩;refine zg [[0,0,0,0,0,6]] [] (ih _ (zk h') (ho.kid (zk h'))) ?_;refine Zf ?_;exact zp hI n rfl h' (by rw [zA _ n h',sizeL] at hi;rw [ht];exact hi) (Z0 (hw h') ht) (Z0 (hw h') ht) (Z0 (hw h') ht) (Z0 (hw h') ht)
 ·simp only [Ye] at h;have hn':n=e.kids.length:=Za;subst hn';refine zv [0] rfl Zd Zj ?_ Zk Zb Zb;rw [<-hr,<-hi];simp [sizeL,num]
end
section
attribute [local simp, local push_cast] num boo str ints aV aTab z8 aS
end
end Go.Proofs.YtnmibokjpedkiaaGreatDoor
